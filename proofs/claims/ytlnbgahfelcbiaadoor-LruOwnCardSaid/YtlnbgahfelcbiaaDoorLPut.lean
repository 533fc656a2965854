import Derived.Test.YtlnbgahfelcbiaaDoorLExp
import Derived.Deep.CutBlock
/- The cache's Put. -/
namespace Go.Proofs.YtlnbgahfelcbiaaDoor
open Go Go.RowKit Go.Cu

theorem put_nil (w : World) (k v wt un : Int) (x : Value) (hE : w.cell? ⟨1, 0, none⟩ = some x) : Calls Tryd.prog 13 #[.pointer none, .int .i64 k, .int .i64 v, .int .i64 wt, .int .i64 un] w fun r w' => r = .returned (.tuple #[.slice none 0 0, x]) ∧ Below w.heap.size w w' := by
  go_enter Tryd.func13, Tryd.ntmps13
  go_wp2
  go_quiet (fail)
  go_wp2
  go_ret2
  exact ⟨rfl, below_drewN _ _⟩
theorem put_neg (w : World) (c : Nat) (k v wt un : Int) (hw : wt < 0) (x : Value) (hE : w.cell? ⟨0, 0, none⟩ = some x) : Calls Tryd.prog 13 #[ptr c, .int .i64 k, .int .i64 v, .int .i64 wt, .int .i64 un] w fun r w' => r = .returned (.tuple #[.slice none 0 0, x]) ∧ Below w.heap.size w w' := by
  go_enter Tryd.func13, Tryd.ntmps13
  go_wp2
  go_quiet (fail)
  go_wp2
  go_ret2
  exact ⟨rfl, below_drewN _ _⟩
theorem put_full (w : World) (c m : Nat) (room : Int) (L : List LE) (h : LCP w c m room L) (k v wt un : Int) (h0 : ¬ wt < 0) (hw : room < wt) (x : Value) (hE : w.cell? ⟨2, 0, none⟩ = some x) :
    Calls Tryd.prog 13 #[ptr c, .int .i64 k, .int .i64 v, .int .i64 wt, .int .i64 un] w fun r w' => r = .returned (.tuple #[.slice none 0 0, x]) ∧ Below w.heap.size w w' := by
  obtain ⟨y0, y1, y2, g3, g4, fc⟩ := cFacts h.ord.cells
  clear h y1 y2 g3 g4 fc
  go_enter Tryd.func13, Tryd.ntmps13
  go_wp2
  go_quiet (fail)
  go_wp2
  go_ret2
  exact ⟨rfl, below_drewN _ _⟩

/-- the keys of those who go where j stay, the last first -/
theorem goneKeys_step {R : List LE} {j : Nat} {e : LE} (hj : j < R.length) (h : R.take (j + 1) = R.take j ++ [e]) : goneKeys R j = goneKeys R (j + 1) ++ [e.k] := by
  unfold goneKeys
  have h1 : R.drop j = e :: R.drop (j + 1) := by
    obtain ⟨e', he, hd, ht⟩ := step_on R j hj
    rw [ht] at h
    have := List.append_cancel_left h
    injection this with h2 _
    rw [hd, h2]
  rw [h1]
  simp
theorem stayN_go {lim : Int} {R : List LE} {j : Nat} (h : lim < wsum (R.take (j + 1))) : stayN lim R (j + 1) = stayN lim R j := by
  rw [stayN, if_pos (by omega)]
theorem stayN_stop {lim : Int} {R : List LE} {j : Nat} (h : wsum (R.take j) ≤ lim) : stayN lim R j = j := by
  cases j with
  | zero => rfl
  | succ j => rw [stayN, if_neg (by omega)]
theorem wsum_nil : wsum [] = 0 := rfl
/-- what Put leaves -/
def PutPost (w : World) (c m : Nat) (room : Int) (L : List LE) (k v wt un : Int) (r : Ending) (w' : World) : Prop :=
  ∃ b A n cc, r = .returned (.tuple #[.slice A n cc, .nilIface]) ∧ w.heap.size ≤ b ∧ n = (goneKeys (without L k) (stay (room - wt) (without L k)).length).length ∧
    Row w' (New w) 3 1 (.slice A n cc) n (ints (goneKeys (without L k) (stay (room - wt) (without L k)).length)) ∧ LCP w' c m room (⟨b, k, v, wt, un⟩ :: stay (room - wt) (without L k)) ∧ Mod (InC c m L) w w'

set_option maxRecDepth 10000 in
set_option maxHeartbeats 2000000 in
theorem put_ok (w : World) (c m : Nat) (room : Int) (L : List LE) (h : LCP w c m room L) (hn : L.length ≤ 17592186044414) (k v wt un : Int) (hk : (Lit.int .i64 k).wf = true) (h0 : 0 ≤ wt) (hfit : wt ≤ room) :
    Calls Tryd.prog 13 #[ptr c, .int .i64 k, .int .i64 v, .int .i64 wt, .int .i64 un] w (PutPost w c m room L k v wt un) := by
  obtain ⟨y0, y1, y2, g3, g4, fc⟩ := cFacts h.ord.cells
  obtain ⟨i0, hi0, hz0, hz1, hz2⟩ := info_parts info_int
  have HL := hide h
  have hl := h.look hk
  have h1 : ¬ wt < 0 := by omega
  have h2 : ¬ room < wt := by omega
  have htop := h.top
  have hlt0 := hide h.lt
  clear y1 g3 g4 fc
  obtain ⟨lim, hlim⟩ : ∃ lim, room - wt = lim := ⟨_, rfl⟩
  have hlim0 : 0 ≤ lim := by omega
  have hlim1 : wt + lim = room := by omega
  have hwr : IntKind.i64.wrap (room - wt) = lim := by rw [IntKind.wrap_i64]; omega
  have HLim := hide hlim
  clear hlim
  rcases find_key L k with hnone | ⟨a, e, b, rfl, rfl, ha⟩
  · rw [lk_none hnone] at hl
    simp only [Option.getD_none] at hl
    obtain ⟨R, hgR⟩ : ∃ R, L = R := ⟨_, rfl⟩
    have HK : Hid (∀ x ∈ R, x.k ≠ k) := hide (by rw [← hgR]; exact hnone)
    have HW : Hid (without L k = R) := hide (by rw [without_none hnone, hgR])
    have HC1 : Hid (LCP w c m room R) := hide (by rw [← hgR]; exact HL.out)
    have HM1 : Hid (Mod (InC c m L) w w) := hide (Mod.refl _ _)
    have HSub : Hid (∀ x ∈ R, x ∈ L) := hide (by rw [← hgR]; exact fun x hx => hx)
    have hRn : R.length ≤ 17592186044414 := by rw [← hgR]; exact hn
    clear hnone h hgR hn
    go_enter Tryd.func13, Tryd.ntmps13
    go_wp2
    clear hl y0 y2
    go_loopg [13] R.length (fun g s wr => ∃ j : Nat, j ≤ R.length ∧ g = j ∧ ∃ A n cc, s = .slice A n cc ∧ n + j ≤ R.length ∧ Hid (n = (goneKeys R j).length) ∧ Hid (Row wr (New w) 3 1 (.slice A n cc) n (ints (goneKeys R j))) ∧ Hid (LCP wr c m room (R.take j)) ∧ Hid (stayN lim R R.length = stayN lim R j) ∧ Hid (Mod (InC c m L) w wr))
    case atStart => exact ⟨R.length, Nat.le_refl _, rfl, none, 0, 0, rfl, by omega, hide (by simp [goneKeys]), hide (by unfold goneKeys; rw [List.drop_length]; exact Row.nil _ _ _ _), hide (by rw [List.take_length]; exact HC1.out), hide rfl, HM1⟩
    case round =>
      clear HC1 HM1
      obtain ⟨j, hj, hgj, A, n, cc, rfl, hnj, HN, HRow, HC, HSt, HM⟩ := hrel
      obtain rfl : j = gk := hgj.symm
      obtain ⟨y0, y1, y2, g3, g4, fc⟩ := cFacts HC.out.ord.cells
      clear fc g3 g4
      by_cases hgt : lim < wsum (R.take j)
      · go_wp2
        go_quiet (fail)
        clear y0 y1 y2
        obtain ⟨wq, hwq⟩ : ∃ wq, wr.drewN nq = wq := ⟨_, rfl⟩
        have HMq : Hid (Mod (InC c m L) w wq) := hide (by rw [← hwq]; exact HM.out.drewN nq)
        have HCq : Hid (LCP wq c m room (R.take j)) := hide (by rw [← hwq]; exact HC.out.past (below_drewN wr nq))
        have HRowq : Hid (Row wq (New w) 3 1 (.slice A n cc) n (ints (goneKeys R j))) := hide (by rw [← hwq]; exact HRow.out.drewN nq)
        rw [hwq]
        clear hwq HM HC HRow
        obtain ⟨j, rfl⟩ : ∃ i, j = i + 1 := ⟨j - 1, by
          cases j with
          | zero => rw [List.take_zero, wsum_nil] at hgt; omega
          | succ j => rfl⟩
        obtain ⟨e2, he, hd, ht⟩ := step_on R j (by omega)
        have hL : LCP wq c m room (R.take j ++ e2 :: []) := by rw [← ht]; exact HCq.out
        obtain ⟨x0, x1, x2, x3, k4, k5, fe⟩ := eFacts hL.ord.seg.mid
        obtain ⟨y0, y1, y2, g3, g4, fc⟩ := cFacts hL.ord.cells
        have HT := hide ht
        have HGo := hide hgt
        rw [lb_last] at g4
        unfold pt at g4
        simp only [Option.map_some] at g4
        have hLa := hL.past ((Below.refl _ wq).alloc (Nat.le_refl _) (.cells #[.int .i64 e2.k] 3))
        have HLa := hide hLa
        have HRow1 := hide (HRowq.out.alloc (.cells #[.int .i64 e2.k] 3)).narrow
        have HMe : Hid (e2 ∈ R) := hide (by rw [he]; simp)
        have hws := HMq.out.size
        clear he hd ht hL x1 x2 x3 k4 k5 fe y0 y1 y2 g3 fc hLa
        go_wp2_with (first
          | (at_builtin; refine wpList_append_row rfl _ _ 32 rfl 3 i0 (.int .i64 0) 1 8 Tryd.underlying32 hi0 hz0 hz1 hz2 rfl (by decide) rfl HRow1.out rfl (reads_one _ _ _ _) (by simp [Value.oneCell']) (by unfold maxLen; omega) (by omega) ?_
             intro A1 c1 w1 hrow1 hmod1
             have hC1 := HLa.out.far (by decide) (by decide) hmod1
             have HR1 := hide hrow1
             have HC1 := hide hC1
             have HM1 := hide (((HMq.out.alloc (.cells #[.int .i64 e2.k] 3)).trans hmod1 (fun k hk hh => absurd hh.1 (by show ¬ w.heap.size ≤ k; omega))))
             obtain ⟨y0, y1, y2, g3, g4, fc⟩ := cFacts hC1.ord.cells
             rw [lb_last] at g4
             unfold pt at g4
             simp only [Option.map_some] at g4
             clear hrow1 hmod1 hC1 fc g3 y0 y1 y2)
          | fail)
        refine (remove_any w1 c m room (R.take j) [] e2 HC1.out).mono ?_
        rintro r w2 ⟨rfl, h1, _, h2⟩
        rw [List.append_nil] at h1
        have hnot : ∀ k, InC c m (R.take j ++ e2 :: []) k → InC c m L k := InC.sub (fun x hx => HSub.out x (by
          rcases List.mem_append.1 hx with hx | hx
          · exact List.mem_of_mem_take hx
          · rcases List.mem_cons.1 hx with rfl | hx
            · exact HMe.out
            · cases hx))
        have HM2 := hide (HM1.out.trans h2 (fun k _ hk => hnot k hk))
        have HR2 := hide (HC1.out.row (by decide) (by decide) h2 HR1.out)
        have HC3 := hide h1
        clear h1 h2 hnot
        go_wp2
        go_roundg j
        case measure => omega
        case rel =>
          have hstep := goneKeys_step (show j < R.length by omega) HT.out
          refine ⟨j, by omega, rfl, A1, n + 1, c1, rfl, by omega, hide ?_, hide ?_, HC3, hide ?_, HM2⟩
          · rw [hstep, List.length_append, ← HN.out]; rfl
          · rw [hstep, ← ints_append]
            exact HR2.out.mono (fun k hk _ => by
              rcases hk with hk | hk
              · exact hk.1
              · show w.heap.size ≤ k
                rw [hk]; simp; omega)
          · rw [HSt.out, stayN_go HGo.out]
      · go_wp2
        go_quiet (fail)
        clear y0 y1 y2
        obtain ⟨wq, hwq⟩ : ∃ wq, wr.drewN nq = wq := ⟨_, rfl⟩
        have HMq : Hid (Mod (InC c m L) w wq) := hide (by rw [← hwq]; exact HM.out.drewN nq)
        have hstop := stayN_stop (lim := lim) (R := R) (j := j) (by omega)
        have hj2 : stayN lim R R.length = j := HSt.out.trans hstop
        have HJ := hide hj2
        have HCq : Hid (LCP wq c m room (R.take j)) := hide (by rw [← hwq]; exact HC.out.past (below_drewN wr nq))
        have HRowq : Hid (Row wq (New w) 3 1 (.slice A n cc) n (ints (goneKeys R j))) := hide (by rw [← hwq]; exact HRow.out.drewN nq)
        have hfits : wsum (R.take j) ≤ lim := by omega
        rw [hwq]
        clear hwq HM HC HRow hstop hj2 HSt
        go_upto_region 15 with fail
        obtain ⟨wa, hwa⟩ : ∃ wa, wq.alloc (.cells #[.int .i64 k, .int .i64 v, .int .i64 wt, .int .i64 un, .pointer none, .pointer none] 99) = wa := ⟨_, rfl⟩
        obtain ⟨q, hq⟩ : ∃ q, wq.heap.size = q := ⟨_, rfl⟩
        obtain ⟨S, hS⟩ : ∃ S, R.take j = S := ⟨_, rfl⟩
        have hCa : LCP wa c m room S := by rw [← hwa, ← hS]; exact HCq.out.past ((Below.refl _ wq).alloc (Nat.le_refl _) _)
        obtain ⟨y0, y1, y2, g3, g4, fc⟩ := cFacts hCa.ord.cells
        have HCa := hide hCa
        have HCs : Hid (LCP wq c m room S) := hide (by rw [← hS]; exact HCq.out)
        have HKs : Hid (∀ x ∈ S, x.k ≠ k) := hide (by rw [← hS]; exact fun x hx => HK.out x (List.mem_of_mem_take hx))
        have HSs : Hid (∀ x ∈ S, x ∈ L) := hide (by rw [← hS]; exact fun x hx => HSub.out x (List.mem_of_mem_take hx))
        have hsl : S.length ≤ 17592186044414 := by rw [← hS, List.length_take]; omega
        have hsw : wsum S ≤ lim := by rw [← hS]; exact hfits
        have hsw0 : 0 ≤ wsum S := wsum_nonneg hCa.wts
        have HRq := HRowq
        have HWa := hide hwa
        have HQ := hide hq
        have HSe := hide hS
        have hwadd : IntKind.i64.wrap (wsum S + wt) = wsum S + wt := by rw [IntKind.wrap_i64]; omega
        have hws := HMq.out.size
        rw [hwa, hq]
        clear hwa hq hS hCa HCq HRowq g3 g4 fc hfits
        go_wp2_with (first
          | (at_mapUpdate; refine wpList_store_mp rfl _ _ _ 93 rfl int_law Tryd.underlying93 rfl HCa.out.map (by unfold maxLen; omega) (val := ptr q) rfl rfl (key_int hk) ?_
             intro w2 hmp2 hg2
             have hne : some c ≠ some m := by
               intro he
               injection he with he
               exact HCa.out.m_ne (.inl he.symm)
             have hC2 := grown_heap hg2 HCa.out.ord.cells hne
             obtain ⟨z0, z1, z2, g3, g4, fc⟩ := cFacts hC2
             have fc1 := fc 1
             have HMp2 : Hid (Mp w2 Tryd.prog 3 m (upd (lk S) (.int .i64 k) (some (pt (some q)))) (S.length + 1)) := hide (by rw [lk_none HKs.out] at hmp2; exact hmp2)
             have HG2 := hide hg2
             clear hmp2 hg2 hne hC2 z0 z2 g3 g4 fc y0 y1 y2)
          | fail)
        obtain ⟨e3, he3⟩ : ∃ e3 : LE, e3 = ⟨q, k, v, wt, un⟩ := ⟨_, rfl⟩
        have hw3 : wsum (e3 :: S) = wsum S + wt := by rw [he3]; simp only [wsum]; omega
        have hadd := fun w7 => HCs.out.added (e := e3) (w1 := wa) (w2 := w2) (w3 := w2.setCell ⟨c, 1, none⟩ (.int .i64 (wsum (e3 :: S)))) (w7 := w7) (by rw [he3]; exact HQ.out.symm) (by rw [he3]; exact HWa.out.symm) (by rw [he3]; exact HKs.out) (by rw [he3]; exact hk) (by rw [he3]; exact h0) (by rw [he3]; show wsum S + wt ≤ room; omega) rfl (by rw [he3]; exact HMp2.out) HG2.out rfl
        obtain ⟨a1, a2, a3, a4, a5, _⟩ := hadd wq
        have HA := hide hadd
        have HA5 := hide a5
        have hb3 : e3.b = q := by rw [he3]
        rw [hw3] at a1 a2
        have ho := lead_any _ c m room _ S e3 a1 a2 a3 a4
        rw [hb3] at ho
        clear hadd a1 a2 a3 a4 a5
        refine ho.mono ?_
        rintro r w7 ⟨rfl, ho7, hm7⟩
        obtain ⟨_, _, _, _, _, ha⟩ := HA.out w7
        rw [hw3] at ha
        obtain ⟨hl7, hm8⟩ := ha ho7 hm7
        have HL7 := hide hl7
        have hmq : Mod (InC c m L) w w7 := HMq.out.trans hm8 (fun k _ hk => InC.sub HSs.out k hk)
        have HMf := hide hmq
        have HRowf := hide (HCs.out.row (by decide) (by decide) hm8 (show Row wq (New w) 3 1 (.slice A n cc) n (ints (goneKeys R j)) from HRq.out))
        clear ho7 hm7 ha hl7 hm8 hmq ho
        go_wp2
        go_ret2
        have hst : stay (room - wt) (without L k) = S := by rw [HW.out, HLim.out]; unfold stay; rw [HJ.out, HSe.out]
        have hsj : S.length = j := by rw [← HSe.out, List.length_take]; omega
        refine ⟨q, A, n, cc, rfl, by rw [← HQ.out]; exact hws, ?_, ?_, ?_, HMf.out⟩
        · rw [hst, HW.out, hsj]; exact HN.out
        · rw [hst, HW.out, hsj]; exact HRowf.out
        · rw [hst, ← he3]; exact HL7.out
  · rw [lk_mid ha] at hl
    simp only [Option.getD_some, pt, Option.map_some] at hl
    obtain ⟨_, hks⟩ := sub_keys h.keys
    have HK := hide hks
    have HW := hide (without_mid hks)
    have HSub : Hid (∀ x ∈ a ++ b, x ∈ a ++ e :: b) := hide (fun x hx => mem_mid hx)
    have hRn : (a ++ b).length ≤ 17592186044414 := by simp at hn ⊢; omega
    clear h hks ha hn
    go_enter Tryd.func13, Tryd.ntmps13
    go_wp2_with fail
    refine (remove_any w c m room a b e HL.out).mono ?_
    rintro r w1 ⟨rfl, hc1, _, hm1⟩
    have HC1 := hide hc1
    have HM1 := hide hm1
    clear hc1 hm1 y0 y2 hl
    generalize a ++ e :: b = L at *
    generalize a ++ b = R at *
    generalize e.k = k at *
    go_wp2
    go_loopg [13] R.length (fun g s wr => ∃ j : Nat, j ≤ R.length ∧ g = j ∧ ∃ A n cc, s = .slice A n cc ∧ n + j ≤ R.length ∧ Hid (n = (goneKeys R j).length) ∧ Hid (Row wr (New w) 3 1 (.slice A n cc) n (ints (goneKeys R j))) ∧ Hid (LCP wr c m room (R.take j)) ∧ Hid (stayN lim R R.length = stayN lim R j) ∧ Hid (Mod (InC c m L) w wr))
    case atStart => exact ⟨R.length, Nat.le_refl _, rfl, none, 0, 0, rfl, by omega, hide (by simp [goneKeys]), hide (by unfold goneKeys; rw [List.drop_length]; exact Row.nil _ _ _ _), hide (by rw [List.take_length]; exact HC1.out), hide rfl, HM1⟩
    case round =>
      clear HC1 HM1
      obtain ⟨j, hj, hgj, A, n, cc, rfl, hnj, HN, HRow, HC, HSt, HM⟩ := hrel
      obtain rfl : j = gk := hgj.symm
      obtain ⟨y0, y1, y2, g3, g4, fc⟩ := cFacts HC.out.ord.cells
      clear fc g3 g4
      by_cases hgt : lim < wsum (R.take j)
      · go_wp2
        go_quiet (fail)
        clear y0 y1 y2
        obtain ⟨wq, hwq⟩ : ∃ wq, wr.drewN nq = wq := ⟨_, rfl⟩
        have HMq : Hid (Mod (InC c m L) w wq) := hide (by rw [← hwq]; exact HM.out.drewN nq)
        have HCq : Hid (LCP wq c m room (R.take j)) := hide (by rw [← hwq]; exact HC.out.past (below_drewN wr nq))
        have HRowq : Hid (Row wq (New w) 3 1 (.slice A n cc) n (ints (goneKeys R j))) := hide (by rw [← hwq]; exact HRow.out.drewN nq)
        rw [hwq]
        clear hwq HM HC HRow
        obtain ⟨j, rfl⟩ : ∃ i, j = i + 1 := ⟨j - 1, by
          cases j with
          | zero => rw [List.take_zero, wsum_nil] at hgt; omega
          | succ j => rfl⟩
        obtain ⟨e2, he, hd, ht⟩ := step_on R j (by omega)
        have hL : LCP wq c m room (R.take j ++ e2 :: []) := by rw [← ht]; exact HCq.out
        obtain ⟨x0, x1, x2, x3, k4, k5, fe⟩ := eFacts hL.ord.seg.mid
        obtain ⟨y0, y1, y2, g3, g4, fc⟩ := cFacts hL.ord.cells
        have HT := hide ht
        have HGo := hide hgt
        rw [lb_last] at g4
        unfold pt at g4
        simp only [Option.map_some] at g4
        have hLa := hL.past ((Below.refl _ wq).alloc (Nat.le_refl _) (.cells #[.int .i64 e2.k] 3))
        have HLa := hide hLa
        have HRow1 := hide (HRowq.out.alloc (.cells #[.int .i64 e2.k] 3)).narrow
        have HMe : Hid (e2 ∈ R) := hide (by rw [he]; simp)
        have hws := HMq.out.size
        clear he hd ht hL x1 x2 x3 k4 k5 fe y0 y1 y2 g3 fc hLa
        go_wp2_with (first
          | (at_builtin; refine wpList_append_row rfl _ _ 32 rfl 3 i0 (.int .i64 0) 1 8 Tryd.underlying32 hi0 hz0 hz1 hz2 rfl (by decide) rfl HRow1.out rfl (reads_one _ _ _ _) (by simp [Value.oneCell']) (by unfold maxLen; omega) (by omega) ?_
             intro A1 c1 w1 hrow1 hmod1
             have hC1 := HLa.out.far (by decide) (by decide) hmod1
             have HR1 := hide hrow1
             have HC1 := hide hC1
             have HM1 := hide (((HMq.out.alloc (.cells #[.int .i64 e2.k] 3)).trans hmod1 (fun k hk hh => absurd hh.1 (by show ¬ w.heap.size ≤ k; omega))))
             obtain ⟨y0, y1, y2, g3, g4, fc⟩ := cFacts hC1.ord.cells
             rw [lb_last] at g4
             unfold pt at g4
             simp only [Option.map_some] at g4
             clear hrow1 hmod1 hC1 fc g3 y0 y1 y2)
          | fail)
        refine (remove_any w1 c m room (R.take j) [] e2 HC1.out).mono ?_
        rintro r w2 ⟨rfl, h1, _, h2⟩
        rw [List.append_nil] at h1
        have hnot : ∀ k, InC c m (R.take j ++ e2 :: []) k → InC c m L k := InC.sub (fun x hx => HSub.out x (by
          rcases List.mem_append.1 hx with hx | hx
          · exact List.mem_of_mem_take hx
          · rcases List.mem_cons.1 hx with rfl | hx
            · exact HMe.out
            · cases hx))
        have HM2 := hide (HM1.out.trans h2 (fun k _ hk => hnot k hk))
        have HR2 := hide (HC1.out.row (by decide) (by decide) h2 HR1.out)
        have HC3 := hide h1
        clear h1 h2 hnot
        go_wp2
        go_roundg j
        case measure => omega
        case rel =>
          have hstep := goneKeys_step (show j < R.length by omega) HT.out
          refine ⟨j, by omega, rfl, A1, n + 1, c1, rfl, by omega, hide ?_, hide ?_, HC3, hide ?_, HM2⟩
          · rw [hstep, List.length_append, ← HN.out]; rfl
          · rw [hstep, ← ints_append]
            exact HR2.out.mono (fun k hk _ => by
              rcases hk with hk | hk
              · exact hk.1
              · show w.heap.size ≤ k
                rw [hk]; simp; omega)
          · rw [HSt.out, stayN_go HGo.out]
      · go_wp2
        go_quiet (fail)
        clear y0 y1 y2
        obtain ⟨wq, hwq⟩ : ∃ wq, wr.drewN nq = wq := ⟨_, rfl⟩
        have HMq : Hid (Mod (InC c m L) w wq) := hide (by rw [← hwq]; exact HM.out.drewN nq)
        have hstop := stayN_stop (lim := lim) (R := R) (j := j) (by omega)
        have hj2 : stayN lim R R.length = j := HSt.out.trans hstop
        have HJ := hide hj2
        have HCq : Hid (LCP wq c m room (R.take j)) := hide (by rw [← hwq]; exact HC.out.past (below_drewN wr nq))
        have HRowq : Hid (Row wq (New w) 3 1 (.slice A n cc) n (ints (goneKeys R j))) := hide (by rw [← hwq]; exact HRow.out.drewN nq)
        have hfits : wsum (R.take j) ≤ lim := by omega
        rw [hwq]
        clear hwq HM HC HRow hstop hj2 HSt
        go_upto_region 15 with fail
        obtain ⟨wa, hwa⟩ : ∃ wa, wq.alloc (.cells #[.int .i64 k, .int .i64 v, .int .i64 wt, .int .i64 un, .pointer none, .pointer none] 99) = wa := ⟨_, rfl⟩
        obtain ⟨q, hq⟩ : ∃ q, wq.heap.size = q := ⟨_, rfl⟩
        obtain ⟨S, hS⟩ : ∃ S, R.take j = S := ⟨_, rfl⟩
        have hCa : LCP wa c m room S := by rw [← hwa, ← hS]; exact HCq.out.past ((Below.refl _ wq).alloc (Nat.le_refl _) _)
        obtain ⟨y0, y1, y2, g3, g4, fc⟩ := cFacts hCa.ord.cells
        have HCa := hide hCa
        have HCs : Hid (LCP wq c m room S) := hide (by rw [← hS]; exact HCq.out)
        have HKs : Hid (∀ x ∈ S, x.k ≠ k) := hide (by rw [← hS]; exact fun x hx => HK.out x (List.mem_of_mem_take hx))
        have HSs : Hid (∀ x ∈ S, x ∈ L) := hide (by rw [← hS]; exact fun x hx => HSub.out x (List.mem_of_mem_take hx))
        have hsl : S.length ≤ 17592186044414 := by rw [← hS, List.length_take]; omega
        have hsw : wsum S ≤ lim := by rw [← hS]; exact hfits
        have hsw0 : 0 ≤ wsum S := wsum_nonneg hCa.wts
        have HRq := HRowq
        have HWa := hide hwa
        have HQ := hide hq
        have HSe := hide hS
        have hwadd : IntKind.i64.wrap (wsum S + wt) = wsum S + wt := by rw [IntKind.wrap_i64]; omega
        have hws := HMq.out.size
        rw [hwa, hq]
        clear hwa hq hS hCa HCq HRowq g3 g4 fc hfits
        go_wp2_with (first
          | (at_mapUpdate; refine wpList_store_mp rfl _ _ _ 93 rfl int_law Tryd.underlying93 rfl HCa.out.map (by unfold maxLen; omega) (val := ptr q) rfl rfl (key_int hk) ?_
             intro w2 hmp2 hg2
             have hne : some c ≠ some m := by
               intro he
               injection he with he
               exact HCa.out.m_ne (.inl he.symm)
             have hC2 := grown_heap hg2 HCa.out.ord.cells hne
             obtain ⟨z0, z1, z2, g3, g4, fc⟩ := cFacts hC2
             have fc1 := fc 1
             have HMp2 : Hid (Mp w2 Tryd.prog 3 m (upd (lk S) (.int .i64 k) (some (pt (some q)))) (S.length + 1)) := hide (by rw [lk_none HKs.out] at hmp2; exact hmp2)
             have HG2 := hide hg2
             clear hmp2 hg2 hne hC2 z0 z2 g3 g4 fc y0 y1 y2)
          | fail)
        obtain ⟨e3, he3⟩ : ∃ e3 : LE, e3 = ⟨q, k, v, wt, un⟩ := ⟨_, rfl⟩
        have hw3 : wsum (e3 :: S) = wsum S + wt := by rw [he3]; simp only [wsum]; omega
        have hadd := fun w7 => HCs.out.added (e := e3) (w1 := wa) (w2 := w2) (w3 := w2.setCell ⟨c, 1, none⟩ (.int .i64 (wsum (e3 :: S)))) (w7 := w7) (by rw [he3]; exact HQ.out.symm) (by rw [he3]; exact HWa.out.symm) (by rw [he3]; exact HKs.out) (by rw [he3]; exact hk) (by rw [he3]; exact h0) (by rw [he3]; show wsum S + wt ≤ room; omega) rfl (by rw [he3]; exact HMp2.out) HG2.out rfl
        obtain ⟨a1, a2, a3, a4, a5, _⟩ := hadd wq
        have HA := hide hadd
        have HA5 := hide a5
        have hb3 : e3.b = q := by rw [he3]
        rw [hw3] at a1 a2
        have ho := lead_any _ c m room _ S e3 a1 a2 a3 a4
        rw [hb3] at ho
        clear hadd a1 a2 a3 a4 a5
        refine ho.mono ?_
        rintro r w7 ⟨rfl, ho7, hm7⟩
        obtain ⟨_, _, _, _, _, ha⟩ := HA.out w7
        rw [hw3] at ha
        obtain ⟨hl7, hm8⟩ := ha ho7 hm7
        have HL7 := hide hl7
        have hmq : Mod (InC c m L) w w7 := HMq.out.trans hm8 (fun k _ hk => InC.sub HSs.out k hk)
        have HMf := hide hmq
        have HRowf := hide (HCs.out.row (by decide) (by decide) hm8 (show Row wq (New w) 3 1 (.slice A n cc) n (ints (goneKeys R j)) from HRq.out))
        clear ho7 hm7 ha hl7 hm8 hmq ho
        go_wp2
        go_ret2
        have hst : stay (room - wt) (without L k) = S := by rw [HW.out, HLim.out]; unfold stay; rw [HJ.out, HSe.out]
        have hsj : S.length = j := by rw [← HSe.out, List.length_take]; omega
        refine ⟨q, A, n, cc, rfl, by rw [← HQ.out]; exact hws, ?_, ?_, ?_, HMf.out⟩
        · rw [hst, HW.out, hsj]; exact HN.out
        · rw [hst, HW.out, hsj]; exact HRowf.out
        · rw [hst, ← he3]; exact HL7.out
end Go.Proofs.YtlnbgahfelcbiaaDoor
