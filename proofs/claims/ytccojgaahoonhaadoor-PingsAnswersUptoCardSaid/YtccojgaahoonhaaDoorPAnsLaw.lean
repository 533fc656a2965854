import Derived.Test.YtccojgaahoonhaaDoorPStep
import Derived.Test.YtccojgaahoonhaaDoorPStepN
import Derived.Test.YtccojgaahoonhaaDoorPOwOpen
/- PingsAnswers. -/
namespace Go.Proofs.YtccojgaahoonhaaDoor
open Go Go.RowKit Go.Shelf Go.Cu Go.Proofs.YtccojgaahoonhaaDoor.errs
namespace pingsAnswers
abbrev z5 : Array Value := #[.int .i64 0, .int .i64 0, .slice none 0 0, .slice none 0 0, .slice none 0 0]
set_option maxRecDepth 10000 in
set_option maxHeartbeats 4000000 in
theorem walk_small (w : World) (adr : Nat → Addr) (hS : Sent w adr) (most : Int) (hn : most < 1 ∨ 1024 < most) (sv : Value) (ns : Nat) (ops : List (Int × Int)) (hO : Reads w 2 sv ns (opC ops)) (hns : ns ≤ 8796093022208) :
    Calls Tryd.prog 4 #[.int .i64 most, sv] w fun e w' => e = .returned (.bool true) ∧ Below w.heap.size w w' := by
  have HS := hide hS
  have HO := hide hO
  obtain ⟨SA, sc, rfl⟩ := hO.shape
  have hOl : ops.length = ns := by have := hO.1; rw [opC_length] at this; omega
  have HOl := hide hOl
  clear hS hO hOl
  go_enter Tryd.func4, Tryd.ntmps4
  go_wp2_with fail
  refine (fixed_true w adr HS.out).mono ?_
  rintro e w1 ⟨rfl, hb1⟩
  have HB1 := hide hb1
  clear hb1
  go_wp2_with fail
  refine (new_bad w1 most hn _ ((HS.out.below HB1.out).cell 2 (by decide) (by decide))).mono ?_
  rintro e w2 ⟨rfl, hb2⟩
  have HB2 := hide (HB1.out.trans (hb2.mono HB1.out.size))
  clear hb2
  go_wp2_with fail
  refine (refnew_bad w2 most hn).mono ?_
  rintro e w3 ⟨rfl, hb3⟩
  have HB3 := hide (HB2.out.trans (hb3.mono HB2.out.size))
  clear hb3
  go_upto_region 5 with fail
  obtain ⟨b7, hb7⟩ : ∃ b7, w3.heap.size = b7 := ⟨_, rfl⟩
  obtain ⟨w4, hw4⟩ : ∃ w4, w3.alloc (.cells z5 40) = w4 := ⟨_, rfl⟩
  have h4 : w4.heap[b7]? = some (.cells z5 40 (0, 0)) := by rw [← hw4, ← hb7]; exact heap_alloc_new w3 _
  have HB4 : Hid (Below w.heap.size w w4) := by rw [← hw4]; exact HB3.out.alloc HB3.out.size _
  have HH4 := hide h4
  have HBl : Hid (w.heap.size ≤ b7) := hide (by have := HB3.out.size; omega)
  obtain ⟨⟨k0, k1, k2, k3, k4⟩, _⟩ := box5 h4
  have HSc := hide (HS.out.below HB4.out)
  rw [hb7, hw4]
  clear h4 hb7 hw4
  go_wp2_with fail
  refine (code_err _ adr HSc.out 2 (by decide) (by decide) (by decide)).mono ?_
  rintro e w5 ⟨rfl, rfl⟩
  go_wp2
  have h4 := HH4.out
  have HI : Hid (w5.heap[b7]? = some (.cells z5 40 (0, 0)) ∧ Below w.heap.size w w5) := hide ⟨h4, HB4.out⟩
  clear h4 k0 k1 k2 k3 k4
  go_loopw [38] (fun s wr => ∃ i : Nat, i ≤ ns ∧ s = .int .i64 i ∧ Hid (wr.heap[b7]? = some (.cells z5 40 (0, 0)) ∧ Below w.heap.size w wr)) (fun s _ => ns - (intOf s).toNat)
  case atStart => exact ⟨0, Nat.zero_le _, rfl, HI⟩
  case round =>
    obtain ⟨i, hi, rfl, HI2⟩ := hrel
    obtain ⟨hb7, hbel⟩ := HI2.out
    by_cases hlt : i < ns
    · obtain ⟨o, ho⟩ : ∃ o, ops[i]? = some o := ⟨_, List.getElem?_eq_getElem (by have := HOl.out; omega)⟩
      obtain ⟨sd, he, sk, st⟩ := opc_cells (HO.out.later hbel) ho
      subst he
      obtain ⟨kd, tk⟩ := o
      simp only at sk st
      have hal : Below wr.heap.size wr (wr.alloc (.cells #[.int .i64 kd, .int .u32 tk] 32)) := (Below.refl _ _).alloc (Nat.le_refl _) _
      obtain ⟨⟨k0, k1, k2, k3, k4⟩, _⟩ := box5 (below_at hal hb7)
      have HB7 := hide (below_at hal hb7)
      have HBa := hide (hbel.trans (hal.mono hbel.size))
      clear hal hb7 hbel ho
      go_wp2_with fail
      refine (stepn_any _ adr (HS.out.below HBa.out) kd tk).mono ?_
      rintro e w6 ⟨rfl, hb6⟩
      have HB6 := hide (HBa.out.trans (hb6.mono HBa.out.size))
      have h67 := below_at hb6 HB7.out
      have HC6 := hide h67
      clear hb6 k0 k1 k2 k3 k4
      go_upto_region 11 with fail
      obtain ⟨b11, hb11⟩ : ∃ b11, w6.heap.size = b11 := ⟨_, rfl⟩
      have hlt11 : b7 < b11 := by rw [← hb11]; exact (Array.getElem?_eq_some_iff.1 h67).1
      obtain ⟨w7, hw7⟩ : ∃ w7, w6.alloc (.cells z5 40) = w7 := ⟨_, rfl⟩
      have hal : Below w6.heap.size w6 w7 := by rw [← hw7]; exact (Below.refl _ _).alloc (Nat.le_refl _) _
      have h711 : w7.heap[b11]? = some (.cells z5 40 (0, 0)) := by rw [← hw7, ← hb11]; exact heap_alloc_new w6 _
      have h77 := below_at hal h67
      have HB7 := hide (HB6.out.trans (hal.mono HB6.out.size))
      obtain ⟨⟨k0, k1, k2, k3, k4⟩, _⟩ := box5 h711
      obtain ⟨_, f0, f1, f2, f3, f4⟩ := box5 h77
      have HC7 := hide h77
      clear h67 h711 h77 hal
      rw [hb11, hw7]
      clear hb11 hw7
      have hne : b7 ≠ b11 := by omega
      have hset := box5_set HC7.out (.int .i64 0) (.int .i64 0) (.slice none 0 0) (.slice none 0 0) (.slice none 0 0)
      have HSet := hide hset
      have HB8 := hide (below_set5 HB7.out HBl.out (.int .i64 0) (.int .i64 0) (.slice none 0 0) (.slice none 0 0) (.slice none 0 0))
      go_upto_region 12 with fail
      obtain ⟨w8, hw8⟩ : ∃ w8, (((((w7.setCell ⟨b7, 0, none⟩ (.int .i64 0)).setCell ⟨b7, 1, none⟩ (.int .i64 0)).setCell ⟨b7, 2, none⟩ (.slice none 0 0)).setCell ⟨b7, 3, none⟩ (.slice none 0 0)).setCell ⟨b7, 4, none⟩ (.slice none 0 0)) = w8 := ⟨_, rfl⟩
      rw [hw8] at HSet HB8 hset
      rw [hw8]
      clear hw8 k0 k1 k2 k3 k4 f0 f1 f2 f3 f4
      obtain ⟨⟨k0, k1, k2, k3, k4⟩, _⟩ := box5 hset
      clear hset
      have HBd := hide HB8.out.drew
      have HN1 : Hid (∀ w2 : World, Reads w2 1 (.slice none 0 0) 0 (us [])) := hide (fun w2 => (Row.nil w2 (fun _ => True) 30 1).reads)
      go_region_law (first
        | (go_simp; go_at_call 13; (with_reducible refine Calls.mono (waiting_nil _) ?_); rintro e w9 ⟨rfl, hb9⟩
           have hs9 := below_at hb9 (show w8.drew.heap[b7]? = some (.cells z5 40 (0, 0)) from HSet.out)
           have HS9 := hide hs9
           have HB9 := hide (HBd.out.trans (hb9.mono HBd.out.size))
           clear k0 k1 k2 k3 k4 hb9
           obtain ⟨⟨k0, k1, k2, k3, k4⟩, _⟩ := box5 hs9
           clear hs9)
        | (go_simp; go_at_call 12; (with_reducible refine Calls.mono (same_true _ _ _ _ _ rfl [] (HN1.out _) (HN1.out _)) ?_); rintro e w10 ⟨rfl, hd10⟩
           have hb10 := hd10.below
           have hs10 := below_at hb10 HS9.out
           have HS10 := hide hs10
           have HB10 := hide (HB9.out.trans (hb10.mono HB9.out.size))
           clear k0 k1 k2 k3 k4 hb10 hd10
           obtain ⟨⟨k0, k1, k2, k3, k4⟩, _⟩ := box5 hs10
           clear hs10)
        | (go_simp; go_at_call 17; (with_reducible refine Calls.mono (owed_nil _) ?_); rintro e w11 ⟨rfl, rfl⟩)
        | fail)
      all_goals
        go_wp2
        go_roundw
        case rel => exact ⟨i + 1, by omega, by go_num, hide ⟨HS10.out, HB10.out⟩⟩
        case measure => simp [intOf]; omega
    · obtain rfl : i = ns := by omega
      have HN1 : Hid (∀ w2 : World, Reads w2 1 (.slice none 0 0) 0 (us [])) := hide (fun w2 => (Row.nil w2 (fun _ => True) 30 1).reads)
      have HB8 := hide hbel
      have HSet := hide hb7
      obtain ⟨⟨k0, k1, k2, k3, k4⟩, _⟩ := box5 hb7
      clear hbel hb7
      go_upto_region 15 with fail
      have HBd := hide HB8.out.drew
      go_region_law (first
        | (go_simp; go_at_call 11; (with_reducible refine Calls.mono (answered_nil _) ?_); rintro e w9 ⟨rfl, rfl⟩)
        | (go_simp; go_at_call 12; (with_reducible refine Calls.mono (same_true _ _ _ _ _ rfl [] (HN1.out _) (HN1.out _)) ?_); rintro e w10 ⟨rfl, hd10⟩
           have hb10 := hd10.below
           have hs10 := below_at hb10 (show wr.drew.heap[b7]? = some (.cells z5 40 (0, 0)) from HSet.out)
           have HB10 := hide (HBd.out.trans (hb10.mono HBd.out.size))
           clear k0 k1 k2 k3 k4 hb10 hd10
           obtain ⟨⟨k0, k1, k2, k3, k4⟩, _⟩ := box5 hs10
           clear hs10)
        | fail)
      all_goals
        go_wp2
        go_ret
        exact ⟨rfl, HB10.out⟩
/-- between two rounds -/
def Rel (w0 w : World) (c m q most K b7 n : Nat) (A1 : Option Addr) (n1 c1 : Nat) (A2 : Option Addr) (n2 c2 : Nat) (A3 : Option Addr) (n3 c3 : Nat) : Prop :=
  (∃ FT FO D W T O, PD w0.heap.size w c m q FT FO D most n W T O W T O A1 n1 c1 A2 n2 c2 A3 n3 c3 ∧ n ≤ K ∧ n2 ≤ K ∧ ¬ PF c m FT FO b7) ∧ w.heap[b7]? = some (.cells #[.int .i64 most, .int .i64 n, .slice A1 n1 c1, .slice A2 n2 c2, .slice A3 n3 c3] 40 (0, 0)) ∧ Below w0.heap.size w0 w
set_option maxRecDepth 10000 in
set_option maxHeartbeats 8000000 in
theorem walk_big (w : World) (adr : Nat → Addr) (hS : Sent w adr) (most : Nat) (hm1 : 1 ≤ most) (hm2 : most ≤ 1024) (sv : Value) (ns : Nat) (ops : List (Int × Int)) (hO : Reads w 2 sv ns (opC ops)) (hOw : ∀ o ∈ ops, (Lit.int .i64 o.1).wf = true ∧ (Lit.int .u32 o.2).wf = true) (hns : ns ≤ 1048576) :
    Calls Tryd.prog 4 #[.int .i64 most, sv] w fun e w' => e = .returned (.bool true) ∧ Below w.heap.size w w' := by
  have HS := hide hS
  have HO := hide hO
  have HOw := hide hOw
  obtain ⟨SA, sc, rfl⟩ := hO.shape
  have hOl : ops.length = ns := by have := hO.1; rw [opC_length] at this; omega
  have HOl := hide hOl
  clear hS hO hOl hOw
  go_enter Tryd.func4, Tryd.ntmps4
  go_wp2_with fail
  refine (fixed_true w adr HS.out).mono ?_
  rintro e w1 ⟨rfl, hb1⟩
  have HB1 := hide hb1
  clear hb1
  go_wp2_with fail
  refine (new_ok w1 most hm1 hm2).mono ?_
  rintro e w2 ⟨c, m, q, FT, FO, rfl, h2, hl2, hb2⟩
  have HB2 := hide (HB1.out.trans (hb2.mono HB1.out.size))
  have HP2 := hide (show PD w.heap.size w2 c m q FT FO (fun _ => False) most 0 [] [] [] [] [] [] none 0 0 none 0 0 none 0 0 from ⟨h2, Row.nil _ _ _ _, Row.nil _ _ _ _, Row.nil _ _ _ _, fun _ h => h.elim, fun _ _ h => h, fun k hk => Nat.le_trans HB1.out.size (hl2 k hk), HB2.out.size⟩)
  clear hb2 h2 hl2
  go_wp2_with fail
  refine (refnew_ok w2 most hm1 hm2).mono ?_
  rintro e w3 ⟨rfl, hb3⟩
  have HB3 := hide (HB2.out.trans (hb3.mono HB2.out.size))
  have HP3 := hide (HP2.out.past hb3)
  clear hb3
  go_upto_region 5 with fail
  obtain ⟨b7, hb7⟩ : ∃ b7, w3.heap.size = b7 := ⟨_, rfl⟩
  obtain ⟨w4, hw4⟩ : ∃ w4, w3.alloc (.cells #[.int .i64 most, .int .i64 0, .slice none 0 0, .slice none 0 0, .slice none 0 0] 40) = w4 := ⟨_, rfl⟩
  have h4 : w4.heap[b7]? = some (.cells #[.int .i64 most, .int .i64 0, .slice none 0 0, .slice none 0 0, .slice none 0 0] 40 (0, 0)) := by rw [← hw4, ← hb7]; exact heap_alloc_new w3 _
  have HB4 : Hid (Below w.heap.size w w4) := by rw [← hw4]; exact HB3.out.alloc HB3.out.size _
  have HR0 : Hid (Rel w w4 c m q most 0 b7 0 none 0 0 none 0 0 none 0 0) := hide ⟨⟨FT, FO, _, [], [], [], HP3.out.past (by rw [← hw4]; exact (Below.refl _ _).alloc (Nat.le_refl _) _), Nat.le_refl _, Nat.le_refl _, fun hf => by have := HP3.out.pg.low _ hf; omega⟩, h4, HB4.out⟩
  have HBl : Hid (w.heap.size ≤ b7) := hide (by have := HB3.out.size; omega)
  rw [hb7, hw4]
  clear h4 hb7 hw4
  go_wp2_with fail
  refine (code_nil _).mono ?_
  rintro e w5 ⟨rfl, rfl⟩
  go_wp2
  go_loopw [38] (fun s wr => ∃ i : Nat, i ≤ ns ∧ s = .int .i64 i ∧ ∃ n A1 n1 c1 A2 n2 c2 A3 n3 c3, Hid (Rel w wr c m q most i b7 n A1 n1 c1 A2 n2 c2 A3 n3 c3)) (fun s _ => ns - (intOf s).toNat)
  case atStart => exact ⟨0, Nat.zero_le _, rfl, 0, none, 0, 0, none, 0, 0, none, 0, 0, HR0⟩
  case round =>
    clear HR0
    obtain ⟨i, hi, rfl, n, A1, n1, c1, A2, n2, c2, A3, n3, c3, HR⟩ := hrel
    obtain ⟨⟨FT, FO, D, W, T, O, hpd, hn, hn2, hb7n⟩, hb7, hbel⟩ := HR.out
    by_cases hlt : i < ns
    · obtain ⟨o, ho⟩ : ∃ o, ops[i]? = some o := ⟨_, List.getElem?_eq_getElem (by have := HOl.out; omega)⟩
      obtain ⟨sd, he, sk, st⟩ := opc_cells (HO.out.later hbel) ho
      subst he
      have HWf := hide (HOw.out o (List.mem_of_getElem? ho)).2
      obtain ⟨kd, tk⟩ := o
      simp only at sk st HWf
      have hal : Below wr.heap.size wr (wr.alloc (.cells #[.int .i64 kd, .int .u32 tk] 32)) := (Below.refl _ _).alloc (Nat.le_refl _) _
      obtain ⟨⟨k0, k1, k2, k3, k4⟩, _⟩ := box5 (below_at hal hb7)
      have HB7 := hide (below_at hal hb7)
      have HBa := hide (hbel.trans (hal.mono hbel.size))
      have HPa := hide (hpd.past hal)
      have HNb := hide hb7n
      clear hal hb7 hbel ho hpd hb7n HR
      go_wp2_with fail
      refine (step_any w.heap.size _ c m q FT FO D most n W T O A1 n1 c1 A2 n2 c2 A3 n3 c3 i HPa.out (by omega) hn hn2 adr (HS.out.below HBa.out) kd tk HWf.out).mono ?_
      clear k0 k1 k2 k3 k4 hn hn2
      have HPF := hide HPa.out.lo
      rintro e w6 ⟨n', A1', n1', c1', A2', n2', c2', A3', n3', c3', rfl, ⟨FT', FO', D', W', T', O', hp6, hn, hn2, hsub⟩, hm6⟩
      have HB6 := hide (HBa.out.trans (hm6.below HBa.out.size HPF.out))
      have h67 := hm6.heap HB7.out HNb.out
      have HC6 := hide h67
      have HP6 := hide hp6
      have HN6 : Hid (¬ PF c m FT' FO' b7) := hide (fun hf => (hsub _ hf).elim HNb.out (fun h => by have := (Array.getElem?_eq_some_iff.1 HB7.out).1; omega))
      clear hm6 hsub hp6
      go_upto_region 11 with fail
      obtain ⟨b11, hb11⟩ : ∃ b11, w6.heap.size = b11 := ⟨_, rfl⟩
      have hlt11 : b7 < b11 := by rw [← hb11]; exact (Array.getElem?_eq_some_iff.1 h67).1
      obtain ⟨w7, hw7⟩ : ∃ w7, w6.alloc (.cells #[.int .i64 most, .int .i64 n', .slice A1' n1' c1', .slice A2' n2' c2', .slice A3' n3' c3'] 40) = w7 := ⟨_, rfl⟩
      have hal : Below w6.heap.size w6 w7 := by rw [← hw7]; exact (Below.refl _ _).alloc (Nat.le_refl _) _
      have h711 : w7.heap[b11]? = some (.cells #[.int .i64 most, .int .i64 n', .slice A1' n1' c1', .slice A2' n2' c2', .slice A3' n3' c3'] 40 (0, 0)) := by rw [← hw7, ← hb11]; exact heap_alloc_new w6 _
      have h77 := below_at hal h67
      have HB7' := hide (HB6.out.trans (hal.mono HB6.out.size))
      have HP7 := hide (HP6.out.past hal)
      obtain ⟨⟨k0, k1, k2, k3, k4⟩, _⟩ := box5 h711
      obtain ⟨_, f0, f1, f2, f3, f4⟩ := box5 h77
      have HC7 := hide h77
      clear h67 h711 h77 hal
      rw [hb11, hw7]
      clear hb11 hw7
      have hset := box5_set HC7.out (.int .i64 most) (.int .i64 n') (.slice A1' n1' c1') (.slice A2' n2' c2') (.slice A3' n3' c3')
      have HSet := hide hset
      have HB8 := hide (below_set5 HB7'.out HBl.out (.int .i64 most) (.int .i64 n') (.slice A1' n1' c1') (.slice A2' n2' c2') (.slice A3' n3' c3'))
      have HP8 := hide (HP7.out.set5 HC7.out HN6.out (.int .i64 most) (.int .i64 n') (.slice A1' n1' c1') (.slice A2' n2' c2') (.slice A3' n3' c3'))
      go_upto_region 12 with fail
      obtain ⟨w8, hw8⟩ : ∃ w8, (((((w7.setCell ⟨b7, 0, none⟩ (.int .i64 most)).setCell ⟨b7, 1, none⟩ (.int .i64 n')).setCell ⟨b7, 2, none⟩ (.slice A1' n1' c1')).setCell ⟨b7, 3, none⟩ (.slice A2' n2' c2')).setCell ⟨b7, 4, none⟩ (.slice A3' n3' c3')) = w8 := ⟨_, rfl⟩
      rw [hw8] at HSet HB8 hset HP8
      rw [hw8]
      clear hw8 k0 k1 k2 k3 k4 f0 f1 f2 f3 f4
      obtain ⟨⟨k0, k1, k2, k3, k4⟩, _⟩ := box5 hset
      clear hset
      have HBd := hide HB8.out.drew
      have HPd := hide (HP8.out.past (Below.refl _ _).drew)
      have HLw : Hid (W'.length = n1') := hide (row_len HP8.out.r1)
      have hLo : O'.length = n3' := row_len HP8.out.r3
      go_region_law (first
        | (go_simp; go_at_call 13; (with_reducible refine Calls.mono (waiting_any _ HPd.out.pg) ?_); rintro e w9 ⟨v9, rfl, hr9, _, hb9⟩
           have hs9 := below_at hb9 (show w8.drew.heap[b7]? = some (.cells #[.int .i64 most, .int .i64 n', .slice A1' n1' c1', .slice A2' n2' c2', .slice A3' n3' c3'] 40 (0, 0)) from HSet.out)
           have HS9 := hide hs9
           have HB9 := hide (HBd.out.trans (hb9.mono HBd.out.size))
           have HP9 := hide (HPd.out.past hb9)
           have HR9 := hide hr9.reads
           clear k0 k1 k2 k3 k4 hb9 hr9
           obtain ⟨⟨k0, k1, k2, k3, k4⟩, _⟩ := box5 hs9
           clear hs9)
        | (go_simp; go_at_call 12; (with_reducible refine Calls.mono (same_true _ _ _ _ _ HLw.out W' HR9.out HP9.out.r1.reads) ?_); rintro e w10 ⟨rfl, hd10⟩
           have hb10 := hd10.below
           have hs10 := below_at hb10 HS9.out
           have HS10 := hide hs10
           have HB10 := hide (HB9.out.trans (hb10.mono HB9.out.size))
           have HP10 := hide (HP9.out.past hb10)
           clear k0 k1 k2 k3 k4 hb10 hd10
           obtain ⟨⟨k0, k1, k2, k3, k4⟩, _⟩ := box5 hs10
           clear hs10)
        | (go_simp; go_at_call 17; (with_reducible refine Calls.mono (owed_any _ HP10.out.pg) ?_); rintro e w11 ⟨rfl, rfl⟩)
        | fail)
      all_goals
        go_wp2
        go_roundw
        case rel => exact ⟨i + 1, by omega, by go_num, n', A1', n1', c1', A2', n2', c2', A3', n3', c3', hide ⟨⟨FT', FO', D', W', T', O', HP10.out, hn, hn2, HN6.out⟩, HS10.out, HB10.out⟩⟩
        case measure => simp [intOf]; omega
    · obtain rfl : i = ns := by omega
      have HB8 := hide hbel
      have HSet := hide hb7
      have HP8 := hide hpd
      have HNb := hide hb7n
      obtain ⟨⟨k0, k1, k2, k3, k4⟩, _⟩ := box5 hb7
      clear hbel hb7 hpd hb7n HR
      go_upto_region 15 with fail
      have HBd := hide HB8.out.drew
      have HPd := hide (HP8.out.past (Below.refl _ _).drew)
      have HLt : Hid (T.length = n2) := hide (row_len HP8.out.r2)
      have HCn : Hid (c ≠ b7 ∧ w.heap.size ≤ c) := hide ⟨fun e => HNb.out (.inl e.symm), HP8.out.lo c (.inl rfl)⟩
      go_region_law (first
        | (go_simp; go_at_call 11; (with_reducible refine Calls.mono (answered_any _ HP10.out.pg) ?_); rintro e w11 ⟨A11, c11, rfl, _, _, hm11⟩
           have hs11 := hm11.heap HS10.out (fun e => HCn.out.1 e.symm)
           have HB11 := hide (HB10.out.trans (hm11.below HB10.out.size (fun j hj => by subst hj; exact HCn.out.2)))
           clear k0 k1 k2 k3 k4 hm11
           obtain ⟨⟨k0, k1, k2, k3, k4⟩, _⟩ := box5 hs11
           clear hs11)
        | (go_simp; go_at_call 11; (with_reducible refine Calls.mono (answered_any _ HPd.out.pg) ?_); rintro e w9 ⟨A9, c9, rfl, hr9, hp9, hm9⟩
           have hm9' : Mod (PF c m FT FO) wr.drew w9 := hm9.mono (fun _ _ e => .inl e)
           have hs9 := hm9.heap (show wr.drew.heap[b7]? = some (.cells #[.int .i64 most, .int .i64 n, .slice A1 n1 c1, .slice A2 n2 c2, .slice A3 n3 c3] 40 (0, 0)) from HSet.out) (fun e => HCn.out.1 e.symm)
           have HS9 := hide hs9
           have HB9 := hide (HBd.out.trans (hm9.below HBd.out.size (fun j hj => by subst hj; exact HCn.out.2)))
           have HP9 := hide (HPd.out.prog hp9 hm9' (fun j hf => by
             rcases hf with hf | hf | hf | hf
             · exact .inl (.inl hf)
             · exact .inl (.inr (.inl hf))
             · exact hf.elim
             · exact .inl (.inr (.inr (.inr hf)))))
           have HR9 := hide hr9.reads
           clear k0 k1 k2 k3 k4 hr9 hp9 hm9 hm9'
           obtain ⟨⟨k0, k1, k2, k3, k4⟩, _⟩ := box5 hs9
           clear hs9)
        | (go_simp; go_at_call 12; (with_reducible refine Calls.mono (same_true _ _ _ _ _ HLt.out T HR9.out HP9.out.r2.reads) ?_); rintro e w10 ⟨rfl, hd10⟩
           have hb10 := hd10.below
           have hs10 := below_at hb10 HS9.out
           have HS10 := hide hs10
           have HB10 := hide (HB9.out.trans (hb10.mono HB9.out.size))
           have HP10 := hide (HP9.out.past hb10)
           clear k0 k1 k2 k3 k4 hb10 hd10
           obtain ⟨⟨k0, k1, k2, k3, k4⟩, _⟩ := box5 hs10
           clear hs10)
        | fail)
      all_goals
        go_wp2
        go_ret
        exact ⟨rfl, HB11.out⟩
theorem walk (w : World) (adr : Nat → Addr) (hS : Sent w adr) (most : Int) (sv : Value) (ns : Nat) (ops : List (Int × Int)) (hO : Reads w 2 sv ns (opC ops) ∧ ∀ o ∈ ops, (Lit.int .i64 o.1).wf = true ∧ (Lit.int .u32 o.2).wf = true) (hns : ns ≤ 1048576) :
    Calls Tryd.prog 4 #[.int .i64 most, sv] w fun e w' => e = .returned (.bool true) ∧ Below w.heap.size w w' := by
  by_cases h : 1 ≤ most ∧ most ≤ 1024
  · obtain ⟨m, rfl⟩ : ∃ m : Nat, most = m := ⟨most.toNat, by omega⟩
    exact walk_big w adr hS m (by omega) (by omega) sv ns ops hO.1 hO.2 hns
  · exact walk_small w adr hS most (by omega) sv ns ops hO.1 (by omega)
end pingsAnswers
end Go.Proofs.YtccojgaahoonhaaDoor
