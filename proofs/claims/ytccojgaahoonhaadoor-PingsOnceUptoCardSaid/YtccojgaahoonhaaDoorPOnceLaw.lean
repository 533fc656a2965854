import Derived.Test.YtccojgaahoonhaaDoorPOnceP
import Derived.Test.YtccojgaahoonhaaDoorPOps
import Derived.Deep.CutBlock
/- PingsOnce. -/
namespace Go.Proofs.YtccojgaahoonhaaDoor
open Go Go.RowKit Go.Shelf Go.Cu Go.Proofs.YtccojgaahoonhaaDoor.errs
namespace pingsOnce
set_option maxRecDepth 10000 in
set_option maxHeartbeats 4000000 in
theorem walk_small (w : World) (adr : Nat → Addr) (hS : Sent w adr) (most : Int) (hn : most < 1 ∨ 1024 < most) (SA : Option Addr) (ns sc : Nat) (hns : ns ≤ 1048576) :
    Calls Tryd.prog 3 #[.int .i64 most, .slice SA ns sc] w fun e w' => e = .returned (.bool true) ∧ Below w.heap.size w w' := by
  have HS := hide hS
  have hd : decide (most < 1) = true ∨ decide (most < 1) = false ∧ decide (1024 < most) = true := by
    by_cases h : most < 1
    · exact .inl (by simp [h])
    · refine .inr ⟨by simp [h], ?_⟩
      simp; omega
  clear hS
  go_enter Tryd.func3, Tryd.ntmps3
  go_wp2_with fail
  refine (fixed_true w adr HS.out).mono ?_
  rintro e w1 ⟨rfl, hb1⟩
  have HB1 := hide hb1
  clear hb1
  go_wp2_with fail
  refine (new_bad w1 most hn _ ((HS.out.below HB1.out).cell 2 (by decide) (by decide))).mono ?_
  rintro e w2 ⟨rfl, hb2⟩
  have HB2 := hide (HB1.out.trans (hb2.mono HB1.out.size))
  clear hb2
  rcases hd with hd | ⟨hd, hd2⟩
  · go_wp2
    go_ret
    exact ⟨rfl, HB2.out⟩
  · go_wp2
    go_ret
    exact ⟨rfl, HB2.out⟩
/-- between two rounds -/
def Rel (w0 w : World) (c m q most n : Nat) (H : List Int) (A1 : Option Addr) (c1 : Nat) (A2 : Option Addr) (n2 c2 : Nat) (A3 : Option Addr) (n3 c3 : Nat) (i : Nat) : Prop :=
  ∃ FT FO FA FH FK W T K, OS w0.heap.size w c m q FT FO FA FH FK most n W T (asc n) H K A1 n c1 A2 n2 c2 A3 n3 c3 ∧ Book n W T H K ∧ n ≤ i ∧ n2 ≤ i ∧ n3 ≤ i ∧ Below w0.heap.size w0 w
set_option maxRecDepth 200000 in
set_option maxHeartbeats 8000000 in
theorem walk_big (w : World) (adr : Nat → Addr) (hS : Sent w adr) (most : Nat) (hm1 : 1 ≤ most) (hm2 : most ≤ 1024) (sv : Value) (ns : Nat) (ops : List (Int × Int)) (hO : Reads w 2 sv ns (opC ops)) (hOw : ∀ o ∈ ops, (Lit.int .i64 o.1).wf = true ∧ (Lit.int .u32 o.2).wf = true) (hns : ns ≤ 1048576) :
    Calls Tryd.prog 3 #[.int .i64 most, sv] w fun e w' => e = .returned (.bool true) ∧ Below w.heap.size w w' := by
  have HS := hide hS
  have HO := hide hO
  have HOw := hide hOw
  obtain ⟨SA, sc, rfl⟩ := hO.shape
  have hOl : ops.length = ns := by have := hO.1; rw [opC_length] at this; omega
  have HOl := hide hOl
  obtain ⟨i0, hi0, hz0, hz1, hz2⟩ := info_parts info_u
  have hdn : decide ((1048576 : Int) < (ns : Int)) = false := by simp; omega
  clear hS hO hOl hOw
  go_enter Tryd.func3, Tryd.ntmps3
  go_wp2_with fail
  refine (fixed_true w adr HS.out).mono ?_
  rintro e w1 ⟨rfl, hb1⟩
  have HB1 := hide hb1
  clear hb1
  go_wp2_with fail
  refine (new_ok w1 most hm1 hm2).mono ?_
  rintro e w2 ⟨c, m, q, FT, FO, rfl, h2, hl2, hb2⟩
  have HB2 := hide (HB1.out.trans (hb2.mono HB1.out.size))
  have HR0 : Hid (Rel w w2 c m q most 0 [] none 0 none 0 0 none 0 0 0) := hide ⟨FT, FO, fun _ => False, fun _ => False, fun _ => False, [], [], [], ⟨h2, Row.nil _ _ _ _, Row.nil _ _ _ _, Row.nil _ _ _ _, ⟨fun k hk => ⟨Nat.le_trans HB1.out.size (hl2 k hk), h2.low k hk⟩, fun _ h => h.elim, fun _ h => h.elim, fun _ h => h.elim, fun _ _ h => h, fun _ _ h => h, fun _ _ h => h, fun _ _ h => h, fun _ _ h => h, fun _ _ h => h⟩, HB2.out.size⟩, Book.start, Nat.le_refl _, Nat.le_refl _, Nat.le_refl _, HB2.out⟩
  clear hb2 h2 hl2 HB1 HB2
  go_wp2
  go_loopw [7, 8, 9, 47] (fun va vh vk s wr => ∃ i : Nat, i ≤ ns ∧ s = .int .i64 i ∧ ∃ n H A1 c1 A2 n2 c2 A3 n3 c3, va = .slice A1 n c1 ∧ vh = .slice A2 n2 c2 ∧ vk = .slice A3 n3 c3 ∧ Hid (Rel w wr c m q most n H A1 c1 A2 n2 c2 A3 n3 c3 i)) (fun _ _ _ s _ => ns - (intOf s).toNat)
  case atStart => exact ⟨0, Nat.zero_le _, rfl, 0, [], none, 0, none, 0, 0, none, 0, 0, rfl, rfl, rfl, HR0⟩
  case round =>
    clear HR0
    obtain ⟨i, hi, rfl, n, H, A1, c1, A2, n2, c2, A3, n3, c3, rfl, rfl, rfl, HR⟩ := hrel
    by_cases hlt : i < ns
    · obtain ⟨FT, FO, FA, FH, FK, W, T, K, hos, hbk, hn, hn2, hn3, hbel⟩ := HR.out
      obtain ⟨o, ho⟩ : ∃ o, ops[i]? = some o := ⟨_, List.getElem?_eq_getElem (by have := HOl.out; omega)⟩
      obtain ⟨sd, he, sk, st⟩ := opc_cells (HO.out.later hbel) ho
      subst he
      have HWf := hide (HOw.out o (List.mem_of_getElem? ho)).2
      obtain ⟨kd, tk⟩ := o
      simp only at sk st HWf
      have hal : Below wr.heap.size wr (wr.alloc (.cells #[.int .i64 kd, .int .u32 tk] 32)) := (Below.refl _ _).alloc (Nat.le_refl _) _
      have HBa := hide (hbel.trans (hal.mono hbel.size))
      have HOa := hide (hos.past hal)
      have HBk := hide hbk
      have hNb : ∀ j, PF c m FT FO j → j < wr.heap.size := fun j hj => (hos.own.lp j hj).2
      clear hal hbel ho hos hbk HR
      go_upto_block 2 with fail
      obtain ⟨wa, hwa⟩ : ∃ wa, wr.alloc (.cells #[.int .i64 kd, .int .u32 tk] 32) = wa := ⟨_, rfl⟩
      obtain ⟨b, hb⟩ : ∃ b, wr.heap.size = b := ⟨_, rfl⟩
      have hbx : wa.heap[b]? = some (.cells #[.int .i64 kd, .int .u32 tk] 32 (0, 0)) := by rw [← hwa, ← hb]; exact heap_alloc_new wr _
      rw [hwa] at HBa HOa
      rw [hb] at hNb
      have HNb := hide hNb
      rw [hwa, hb]
      clear hwa hb sk st hNb
      have HBx := hide hbx
      obtain ⟨o0, o1, _, _⟩ : wa.cell? ⟨b, 0, none⟩ = some (.int .i64 kd) ∧ wa.cell? ⟨b, 1, none⟩ = some (.int .u32 tk) ∧ True ∧ True := ⟨by rw [cell_of_row wa b 0 _ _ _ hbx]; rfl, by rw [cell_of_row wa b 1 _ _ _ hbx]; rfl, trivial, trivial⟩
      clear hbx
      go_cut [7, 8, 9, 12, 13] from 53 to 98 (fun va vh vk _ _ wc => ∃ n H A1 c1 A2 n2 c2 A3 n3 c3, va = .slice A1 n c1 ∧ vh = .slice A2 n2 c2 ∧ vk = .slice A3 n3 c3 ∧ Hid (Rel w wc c m q most n H A1 c1 A2 n2 c2 A3 n3 c3 (i + 1)))
      case first => as_aux_lemma =>
        have HL := hide (And.intro (row_len HOa.out.rh) (row_len HOa.out.rk))
        obtain ⟨k, rfl⟩ : ∃ k, n = n2 + k := ⟨W.length, by have := HBk.out.sum; have := HL.out.1; omega⟩
        have HW : Hid (W.length = k) := hide (by have := HBk.out.sum; have := HL.out.1; omega)
        by_cases k0 : kd = 0
        · subst k0
          by_cases hl : k < most
          · have HLt : Hid (W.length < most) := hide (by rw [HW.out]; exact hl)
            go_wp2_with fail
            refine (ask_ok _ HOa.out.pg HLt.out (by omega)).mono ?_
            rintro e w4 ⟨rfl, hp4, hm4⟩
            have HO4 := hide (HOa.out.prog hp4 hm4 (fun _ h => .inl h))
            have HK4 := hide HBk.out.ask
            have HB4 := hide (HBa.out.trans (hm4.below HBa.out.size (fun j hj => (HOa.out.own.lp j hj).1)))
            have HO5 : Hid (OS w.heap.size (w4.alloc (.cells #[.int .u32 ((n2 + k + 1 : Nat) : Int)] 30)) c m q FT FO FA FH FK most (n2 + k + 1) (W ++ [((n2 + k + 1 : Nat) : Int)]) T (asc (n2 + k)) H K A1 (n2 + k) c1 A2 n2 c2 A3 n3 c3) := hide (HO4.out.past ((Below.refl _ _).alloc (Nat.le_refl _) _))
            clear hp4 hm4 o0 o1
            have hz : ((n2 + k + 1 : Nat) : Int) = (n2 : Int) + (k : Int) + 1 := by omega
            rw [hz] at HO5
            go_wp2_with (first
              | (at_builtin; refine wpList_append_row rfl _ _ 29 rfl 30 i0 (.int .u32 0) 1 4 Tryd.underlying29 hi0 hz0 hz1 hz2 rfl (by decide) rfl HO5.out.ra rfl (reads_one w4 (.int .u32 ((n2 : Int) + (k : Int) + 1)) 30 1) (us_one [(n2 : Int) + (k : Int) + 1]) (by unfold maxLen; omega) (by omega) ?_
                 intro A5 c5 w5 hr5 hm5
                 have HR5 := hide hr5
                 have HM5 := hide hm5
                 clear hr5 hm5)
              | fail)
            go_meet
            case rel =>
              have hr := HR5.out
              rw [show us (asc (n2 + k)) ++ [Value.int .u32 ((n2 : Int) + (k : Int) + 1)] = us (asc (n2 + k + 1)) by rw [asc_succ, ← us_append, hz]; rfl] at hr
              exact ⟨n2 + k + 1, H, A5, c5, A2, n2, c2, A3, n3, c3, rfl, rfl, rfl, hide ⟨FT, FO, _, FH, FK, W ++ [(n2 : Int) + (k : Int) + 1], T, K, HO5.out.askedA hr HM5.out, by rw [← hz]; exact HK4.out, by omega, by omega, by omega, (HB4.out.alloc HB4.out.size _).trans (HM5.out.below (by rw [World.size_alloc]; have := HB4.out.size; omega) (fun j hj => (HO5.out.own.lq j hj).1))⟩⟩
          · obtain ⟨hk1, hk2⟩ : most ≤ k ∧ ¬ k < most := ⟨by omega, hl⟩
            have HLt : Hid (most ≤ W.length) := hide (by rw [HW.out]; exact hk1)
            have hq : decide ((n2 : Int) + (k : Int) - (n2 : Int) < (most : Int)) = false := by simp; omega
            have hq2 : decide ((most : Int) ≤ (n2 : Int) + (k : Int) - (n2 : Int)) = true := by simp; omega
            go_wp2_with fail
            refine (ask_full _ HOa.out.pg HLt.out _ ((HS.out.below HBa.out).cell 31 (by decide) (by decide))).mono ?_
            rintro e w4 ⟨rfl, hb4⟩
            have HO4 := hide (HOa.out.past hb4)
            have HB4 := hide (HBa.out.trans (hb4.mono HBa.out.size))
            clear hb4 o0 o1
            go_wp2
            go_meet
            case rel => exact ⟨n2 + k, H, A1, c1, A2, n2, c2, A3, n3, c3, rfl, rfl, rfl, hide ⟨FT, FO, FA, FH, FK, W, T, K, HO4.out, HBk.out, by omega, by omega, by omega, HB4.out⟩⟩
        · by_cases k1 : kd = 1
          · subst k1
            by_cases hl : tk ∈ W
            · have HLt := hide hl
              have HTl : Hid (T.length ≤ 4194304) := hide (by have h := congrArg List.length HBk.out.told; rw [List.length_append] at h; have := HL.out.1; omega)
              clear hl k0
              go_wp2_with fail
              refine (heard_ok _ HOa.out.pg tk HLt.out HTl.out).mono ?_
              rintro e w4 ⟨rfl, FT', hp4, hm4, hl4⟩
              have HO4 := hide (HOa.out.prog hp4 hm4 (fun j hf => by
                rcases hf with hf | hf | hf | hf
                · exact .inl (.inl hf)
                · exact .inl (.inr (.inl hf))
                · exact (hl4 j hf).imp (fun h => .inr (.inr (.inl h))) id
                · exact .inl (.inr (.inr (.inr hf)))))
              have HK4 := hide (HBk.out.hear HOa.out.pg.inc HLt.out)
              have HB4 := hide (HBa.out.trans (hm4.below HBa.out.size (fun j hj => (HOa.out.own.lp j hj).1)))
              have hx4 := hm4.heap HBx.out (fun hf => by have := HNb.out b hf; omega)
              have hsx : (w4.alloc (.cells #[.int .u32 tk] 30)).heap.size = w4.heap.size + 1 := by simp
              have HO5 := hide (HO4.out.past (w' := w4.alloc (.cells #[.int .u32 tk] 30)) ((Below.refl _ _).alloc (Nat.le_refl _) _))
              have o1' : w4.cell? ⟨b, 1, none⟩ = some (.int .u32 tk) := by rw [cell_of_row w4 b 1 _ _ _ hx4]; rfl
              clear hp4 hm4 hl4 o0 o1 hx4 hsx
              go_wp2_with (first
                | (at_builtin; refine wpList_append_row rfl _ _ 29 rfl 30 i0 (.int .u32 0) 1 4 Tryd.underlying29 hi0 hz0 hz1 hz2 rfl (by decide) rfl HO5.out.rh rfl (reads_one w4 (.int .u32 tk) 30 1) (us_one [tk]) (by unfold maxLen; omega) (by omega) ?_
                   intro A5 c5 w5 hr5 hm5
                   have HR5 := hide hr5
                   have HM5 := hide hm5
                   clear hr5 hm5)
                | fail)
              go_meet
              case rel =>
                have hr := HR5.out
                rw [show us H ++ [Value.int .u32 tk] = us (H ++ [tk]) from us_append H [tk]] at hr
                exact ⟨n2 + k, H ++ [tk], A1, c1, A5, n2 + 1, c5, A3, n3, c3, rfl, rfl, rfl, hide ⟨FT', FO, FA, _, FK, W.erase tk, T ++ [tk], K, HO5.out.heardA hr HM5.out, HK4.out, by omega, by omega, by omega, (HB4.out.alloc HB4.out.size _).trans (HM5.out.below (by rw [World.size_alloc]; have := HB4.out.size; omega) (fun j hj => (HO5.out.own.lr j hj).1))⟩⟩
            · have HLt := hide hl
              clear hl k0
              go_wp2_with fail
              refine (heard_bad _ HOa.out.pg tk HWf.out HLt.out _ ((HS.out.below HBa.out).cell 22 (by decide) (by decide))).mono ?_
              rintro e w4 ⟨rfl, rfl⟩
              go_wp2
              go_meet
              case rel => exact ⟨n2 + k, H, A1, c1, A2, n2, c2, A3, n3, c3, rfl, rfl, rfl, hide ⟨FT, FO, FA, FH, FK, W, T, K, HOa.out, HBk.out, by omega, by omega, by omega, HBa.out⟩⟩
          · by_cases k2 : kd = 2
            · subst k2
              clear k0 k1
              go_wp2_with fail
              refine (answered_any _ HOa.out.pg).mono ?_
              rintro e w4 ⟨A4, d4, rfl, hr4, hp4, hm4⟩
              have hm4' : Mod (PF c m FT FO) wa w4 := hm4.mono (fun _ _ e => .inl e)
              have HO4 := hide (HOa.out.prog hp4 hm4' (fun j hf => by
                rcases hf with hf | hf | hf | hf
                · exact .inl (.inl hf)
                · exact .inl (.inr (.inl hf))
                · exact hf.elim
                · exact .inl (.inr (.inr (.inr hf)))) )
              have HK4 := hide HBk.out.tell
              have HB4 := hide (HBa.out.trans (hm4'.below HBa.out.size (fun j hj => (HOa.out.own.lp j hj).1)))
              have HR4 := hide hr4.reads
              have hsum : n3 + T.length = n2 := by have h := congrArg List.length HBk.out.told; rw [List.length_append] at h; have := HL.out; omega
              have HSum := hide hsum
              have hTb : n3 + T.length ≤ 2097152 := by omega
              clear hp4 hm4 hm4' hr4 o0 o1 hsum
              go_wp2_with (first
                | (at_builtin; refine wpList_append_row rfl _ _ 29 rfl 30 i0 (.int .u32 0) 1 4 Tryd.underlying29 hi0 hz0 hz1 hz2 rfl (by decide) rfl HO4.out.rk rfl HR4.out (us_one _) (by unfold maxLen; omega) (by omega) ?_
                   intro A5 c5 w5 hr5 hm5
                   have HR5 := hide hr5
                   have HM5 := hide hm5
                   clear hr5 hm5)
                | fail)
              have HR6 : Hid (Row w5 (fun j => FK j ∨ j = w4.heap.size) 30 1 (.slice A5 (n3 + T.length) c5) (n3 + T.length) (us H)) := hide (by
                have hr := HR5.out
                rw [us_append, ← HBk.out.told] at hr
                exact hr)
              have HO5 := hide (HO4.out.toldA HR6.out HM5.out)
              have HB5 := hide (HB4.out.trans (HM5.out.below HB4.out.size (fun j hj => (HO4.out.own.ls j hj).1)))
              refine (same_true _ _ _ _ _ HSum.out H HR6.out.reads HO5.out.rh.reads).mono ?_
              rintro e w6 ⟨rfl, hd6⟩
              have hb6 := hd6.below
              have HO6 := hide (HO5.out.past hb6)
              have HB6 := hide (HB5.out.trans (hb6.mono HB5.out.size))
              clear hb6 hd6
              go_wp2
              go_meet
              case rel => exact ⟨n2 + k, H, A1, c1, A2, n2, c2, A5, n3 + T.length, c5, rfl, rfl, rfl, hide ⟨_, FO, FA, FH, _, W, [], H, HO6.out, by have h := HK4.out; rw [← HBk.out.told] at h; exact h, by omega, by omega, by have := HSum.out; omega, HB6.out⟩⟩
            · have g0 : (kd == 0) = false := by simpa using k0
              have g1 : (kd == 1) = false := by simpa using k1
              have g2 : (kd == 2) = false := by simpa using k2
              clear k0 k1 k2
              go_wp2
              go_meet
              case rel => exact ⟨n2 + k, H, A1, c1, A2, n2, c2, A3, n3, c3, rfl, rfl, rfl, hide ⟨FT, FO, FA, FH, FK, W, T, K, HOa.out, HBk.out, by omega, by omega, by omega, HBa.out⟩⟩
      case rest => as_aux_lemma =>
        clear o0 o1
        obtain ⟨n, H, A1, c1, A2, n2, c2, A3, n3, c3, rfl, rfl, rfl, HR⟩ := hcut
        obtain ⟨FT, FO, FA, FH, FK, W, T, K, hos, hbk, hn, hn2, hn3, hbel⟩ := HR.out
        have HL := hide (And.intro (row_len hos.rh) (row_len hos.rk))
        have HO4 := hide hos
        have HK4 := hide hbk
        have HB4 := hide hbel
        clear hos hbk hbel HR
        obtain ⟨k, rfl⟩ : ∃ k, n = n2 + k := ⟨W.length, by have := HK4.out.sum; have := HL.out.1; omega⟩
        have HW : Hid (W.length = k) := hide (by have := HK4.out.sum; have := HL.out.1; omega)
        have hkm : k ≤ most := by rw [← HW.out]; exact HO4.out.pg.room
        have hq1 : ((k : Int) != (n2 : Int) + (k : Int) - (n2 : Int)) = false := by simp; omega
        have hq2 : ((k : Int) != ((n2 + k : Nat) : Int) - (n2 : Int)) = false := by simp; omega
        have hq3 : ((k : Int) != (k : Int)) = false := by simp
        go_wp2_with fail
        refine (waiting_any _ HO4.out.pg).mono ?_
        rintro e w5 ⟨v5, rfl, hr5, _, hb5⟩
        obtain ⟨A5, c5, rfl, _⟩ := hr5.shape
        rw [HW.out]
        have HO5 := hide (HO4.out.past hb5)
        have HB5 := hide (HB4.out.trans (hb5.mono HB4.out.size))
        clear hr5 hb5
        go_wp2_with fail
        refine (waiting_any _ HO5.out.pg).mono ?_
        rintro e w6 ⟨v6, rfl, hr6, _, hb6⟩
        obtain ⟨A6, c6, rfl, _⟩ := hr6.shape
        rw [HW.out]
        have HO6 := hide (HO5.out.past hb6)
        have HB6 := hide (HB5.out.trans (hb6.mono HB5.out.size))
        clear hr6 hb6
        go_wp2
        go_roundw
        case rel => exact ⟨i + 1, by omega, by go_num, n2 + k, H, A1, c1, A2, n2, c2, A3, n3, c3, rfl, rfl, rfl, hide ⟨FT, FO, FA, FH, FK, W, T, K, HO6.out, HK4.out, hn, hn2, hn3, HB6.out⟩⟩
        case measure => simp [intOf]; omega
    · as_aux_lemma =>
      obtain ⟨FT, FO, FA, FH, FK, W, T, K, hos, hbk, hn, hn2, hn3, hbel⟩ := HR.out
      have HL := hide (And.intro (row_len hos.rh) (row_len hos.rk))
      have HOa := hide hos
      have HBk := hide hbk
      have HBa := hide hbel
      clear hos hbk hbel HR
      go_wp2_with fail
      refine (answered_any _ HOa.out.pg).mono ?_
      rintro e w4 ⟨A4, d4, rfl, hr4, hp4, hm4⟩
      have hm4' : Mod (PF c m FT FO) wr w4 := hm4.mono (fun _ _ e => .inl e)
      have HO4 := hide (HOa.out.prog hp4 hm4' (fun j hf => by
        rcases hf with hf | hf | hf | hf
        · exact .inl (.inl hf)
        · exact .inl (.inr (.inl hf))
        · exact hf.elim
        · exact .inl (.inr (.inr (.inr hf)))))
      have HB4 := hide (HBa.out.trans (hm4'.below HBa.out.size (fun j hj => (HOa.out.own.lp j hj).1)))
      have HR4 := hide hr4.reads
      have hsum : n3 + T.length = n2 := by have h := congrArg List.length HBk.out.told; rw [List.length_append] at h; have := HL.out; omega
      have HSum := hide hsum
      have hTb : n3 + T.length ≤ 2097152 := by omega
      clear hp4 hm4 hm4' hr4 hsum
      go_upto_region 30 with (first
        | (at_builtin; refine wpList_append_row rfl _ _ 29 rfl 30 i0 (.int .u32 0) 1 4 Tryd.underlying29 hi0 hz0 hz1 hz2 rfl (by decide) rfl HO4.out.rk rfl HR4.out (us_one _) (by unfold maxLen; omega) (by omega) ?_
           intro A5 c5 w5 hr5 hm5
           have HR5 := hide hr5
           have HM5 := hide hm5
           clear hr5 hm5)
        | fail)
      have HR6 : Hid (Row w5 (fun j => FK j ∨ j = w4.heap.size) 30 1 (.slice A5 (n3 + T.length) c5) (n3 + T.length) (us H)) := hide (by
        have hr := HR5.out
        rw [us_append, ← HBk.out.told] at hr
        exact hr)
      have HO5 := hide (HO4.out.toldA HR6.out HM5.out)
      have HB5 := hide (HB4.out.trans (HM5.out.below HB4.out.size (fun j hj => (HO4.out.own.ls j hj).1)))
      rw [HSum.out] at HR6 HO5
      rw [HSum.out]
      clear HR5 hTb
      go_wp2_with fail
      refine (waiting_any _ HO5.out.pg).mono ?_
      rintro e w6 ⟨v6, rfl, hr6, _, hb6⟩
      obtain ⟨A6, c6, rfl, _⟩ := hr6.shape
      obtain ⟨k, hk⟩ : ∃ k, W.length = k := ⟨_, rfl⟩
      rw [hk] at hr6
      rw [hk]
      have HW := hide hk
      have hkb : k ≤ 1024 := by rw [← hk]; have := HO5.out.pg.room; omega
      have HRl := hide hr6.reads
      have HO6 := hide (HO5.out.past hb6)
      have HB6 := hide (HB5.out.trans (hb6.mono HB5.out.size))
      clear hr6 hb6 hk
      go_wp2
      go_loop [15, 123] (fun s15 s => ∃ j a : Nat, j ≤ n ∧ s = .int .i64 j ∧ s15 = .int .i64 a ∧ Hid (upto W j = a)) (fun _ s => n - (intOf s).toNat)
      case atStart => exact ⟨0, 0, Nat.zero_le _, rfl, rfl, hide (upto_zero HO6.out.pg.inc)⟩
      case round =>
        obtain ⟨j, a, hj, rfl, rfl, HU⟩ := hrel
        by_cases hjn : j < n
        · obtain ⟨ad, c', he, hcell⟩ := reads_pos' HO6.out.ra.reads (by omega)
          injection he with he _ hcc
          subst he
          subst hcc
          have hx : w6.cell? (ad.add j) = some (.int .u32 ((j : Int) + 1)) := hcell j _ (us_get (asc_get hjn))
          have HC := hide hcell
          have HIn := hide HO6.out.pg.inc
          clear hcell
          go_upto_region 36 with fail
          go_wp2
          go_loop [18, 20, 130] (fun s18 _ s => ∃ l r : Nat, l ≤ n2 ∧ s = .int .i64 l ∧ s18 = .int .i64 r ∧ Hid ((H.take l).count ((j : Int) + 1) = r)) (fun _ _ s => n2 - (intOf s).toNat)
          case atStart => exact ⟨0, 0, Nat.zero_le _, rfl, rfl, hide (by simp)⟩
          case round =>
            obtain ⟨l, r, hl, rfl, rfl, HCt⟩ := hrel
            have hrl : r ≤ l := by have h := List.count_le_length (a := (j : Int) + 1) (l := H.take l); rw [HCt.out, List.length_take] at h; omega
            by_cases hln : l < n2
            · obtain ⟨u, hu⟩ : ∃ u, H[l]? = some u := ⟨_, List.getElem?_eq_getElem (by have := HL.out.1; omega)⟩
              obtain ⟨bd, c', he, hcell⟩ := reads_pos' HO6.out.rh.reads (by omega)
              injection he with he _ hcc
              subst he
              subst hcc
              have hy := hcell l _ (us_get hu)
              have hct := count_take (t := (j : Int) + 1) hu
              rw [HCt.out] at hct
              clear hcell hu
              by_cases hut : u = (j : Int) + 1
              · rw [if_pos hut] at hct
                have HCt2 := hide hct
                have hb1 : (u == (j : Int) + 1) = true := by simpa using hut
                clear hct hut
                go_wp2
                go_round
                case rel => exact ⟨l + 1, r + 1, by omega, by go_num, by go_num, HCt2⟩
                case measure => simp [intOf]; omega
              · rw [if_neg hut] at hct
                have HCt2 := hide hct
                have hb1 : (u == (j : Int) + 1) = false := by simpa using hut
                clear hct hut
                go_wp2
                go_round
                case rel => exact ⟨l + 1, r, by omega, by go_num, rfl, HCt2⟩
                case measure => simp [intOf]; omega
            · have hct : r = if (j : Int) + 1 ∈ H then 1 else 0 := by
                have h := HCt.out
                rw [List.take_of_length_le (by have := HL.out.1; omega), count_one HBk.out.once] at h
                exact h.symm
              have HCt2 := hide hct
              clear hct hrl
              have hcap : j ≤ c1 := by have := row_cap HO6.out.ra; omega
              have hcs : (r = 1 ∧ (j : Int) + 1 ∈ H) ∨ (r = 0 ∧ (j : Int) + 1 ∉ H) := by
                have h := HCt2.out
                by_cases hm : (j : Int) + 1 ∈ H
                · rw [if_pos hm] at h; exact .inl ⟨h, hm⟩
                · rw [if_neg hm] at h; exact .inr ⟨h, hm⟩
              have hcs2 : (r = 1 ∧ Hid (upto W (j + 1) = a)) ∨ (r = 0 ∧ Hid (upto W (j + 1) = a + 1) ∧ Hid (W[a]? = some ((j : Int) + 1)) ∧ a < k) := by
                rcases hcs with ⟨hr, hm⟩ | ⟨hr, hm⟩
                · refine .inl ⟨hr, hide ?_⟩
                  rw [upto_out (t := (j : Int) + 1) rfl (fun h => ((HBk.out.part _ (by omega) (by omega)).1 h) hm)]
                  exact HU.out
                · have hw := (HBk.out.part ((j : Int) + 1) (by omega) (by omega)).2 hm
                  obtain ⟨h1, h2⟩ := upto_in HIn.out (j := j) rfl hw
                  rw [HU.out] at h1 h2
                  exact .inr ⟨hr, hide h2, hide h1, by have := (List.getElem?_eq_some_iff.1 h1).1; rw [HW.out] at this; exact this⟩
              have HCs := hide hcs2
              clear hcs hcs2
              go_upto_region 43 with (first
                | ((with_reducible refine at_slice rfl ?_); refine wpList_cut_hi rfl _ _ 29 30 rfl Tryd.underlying29 size_us rfl rfl rfl (by omega) ?_)
                | fail)
              go_loop [22, 144] (fun _ s => ∃ l : Nat, l ≤ j ∧ s = .int .i64 l) (fun _ s => j - (intOf s).toNat)
              case atStart => exact ⟨0, Nat.zero_le _, rfl⟩
              case round =>
                obtain ⟨l2, hl2, rfl⟩ := hrel
                by_cases hln2 : l2 < j
                · have hy : w6.cell? (ad.add l2) = some (.int .u32 ((l2 : Int) + 1)) := HC.out l2 _ (us_get (asc_get (by omega)))
                  have hb1 : ((l2 : Int) + 1 == (j : Int) + 1) = false := by simp; omega
                  go_wp2
                  go_round
                  case rel => exact ⟨l2 + 1, by omega, by go_num⟩
                  case measure => simp [intOf]; omega
                · obtain rfl : l2 = j := by omega
                  rcases HCs.out with ⟨rfl, hU2⟩ | ⟨rfl, hU2, hW2, hak⟩
                  · clear HCs
                    go_wp2
                    go_round
                    case rel => exact ⟨l2 + 1, a, by omega, by go_num, rfl, hU2⟩
                    case measure => simp [intOf]; omega
                  · clear HCs
                    obtain ⟨ld, c', he, hcell⟩ := reads_pos' HRl.out (by omega)
                    injection he with he _ hcc
                    subst he
                    subst hcc
                    have hz := hcell a _ (us_get hW2.out)
                    clear hcell
                    go_wp2
                    go_round
                    case rel => exact ⟨l2 + 1, a + 1, by omega, by go_num, by go_num, hU2⟩
                    case measure => simp [intOf]; omega
        · obtain rfl : j = n := by omega
          have hak : a = k := by have h := HU.out; rw [upto_all HO6.out.pg.inc] at h; have := HW.out; omega
          subst hak
          go_wp2_with fail
          refine (same_true _ _ _ n2 n2 rfl H ?_ HO6.out.rh.reads).mono ?_
          · exact HO6.out.rk.reads
          rintro e w7 ⟨rfl, hd7⟩
          have hb7 := hd7.below
          go_wp2
          go_ret
          exact ⟨rfl, HB6.out.trans (hb7.mono HB6.out.size)⟩
theorem walk (w : World) (adr : Nat → Addr) (hS : Sent w adr) (most : Int) (sv : Value) (ns : Nat) (ops : List (Int × Int)) (hO : Reads w 2 sv ns (opC ops) ∧ ∀ o ∈ ops, (Lit.int .i64 o.1).wf = true ∧ (Lit.int .u32 o.2).wf = true) (hns : ns ≤ 1048576) :
    Calls Tryd.prog 3 #[.int .i64 most, sv] w fun e w' => e = .returned (.bool true) ∧ Below w.heap.size w w' := by
  by_cases h : 1 ≤ most ∧ most ≤ 1024
  · obtain ⟨m, rfl⟩ : ∃ m : Nat, most = m := ⟨most.toNat, by omega⟩
    exact walk_big w adr hS m (by omega) (by omega) sv ns ops hO.1 hO.2 hns
  · obtain ⟨SA, sc, rfl⟩ := hO.1.shape
    exact walk_small w adr hS most (by omega) SA ns sc hns
end pingsOnce
end Go.Proofs.YtccojgaahoonhaaDoor
