import Derived.Test.YtdokpbcknlijdaaDoorLibIn
import Derived.Test.YtdokpbcknlijdaaDoorErrs
import Derived.DeepKeys4
import Derived.BigQuiet
import Derived.Deep.CutRange
import Derived.RangeFuncGives
import Derived.Sort.MapsRangeIn
/- New, Owed, Waiting of nothing. -/
namespace Go.Proofs.YtdokpbcknlijdaaDoor
open Go Go.RowKit Go.Shelf Go.Cu Go.Proofs.YtdokpbcknlijdaaDoor.errs
open Go.Maps (Keyed)
attribute [local go_sem] Oper.semAt_some

theorem law_u32 : Keyed Tryd.prog 35 := Maps.int_keyed Tryd.underlying35
abbrev ptr (c : Nat) : Value := .pointer (some ⟨c, 0, none⟩)
theorem fnew_ok (w : World) : Calls Tryd.prog 8 #[.int .i64 1024, .int .i64 1024] w fun e w' => e = .returned (.tuple #[ptr w.heap.size, .nilIface]) ∧ w' = w.alloc (.cells #[.int .i64 1024, .int .i64 1024, .slice none 0 0, .int .i64 0] 49) := by
  go_enter Tryd.func8, Tryd.ntmps8
  go_wp2
  go_ret2
  exact ⟨rfl, rfl⟩
theorem new_low (w : World) (v : Value) (hE : w.cell? ⟨0, 0, none⟩ = some v) : Calls Tryd.prog 4 #[.int .i64 0] w fun e w' => e = .returned (.tuple #[.pointer none, v]) ∧ Below w.heap.size w w' := by
  go_enter Tryd.func4, Tryd.ntmps4
  go_wp2
  go_quiet (fail)
  go_wp2
  go_ret2
  exact ⟨rfl, ((Mod.refl (fun _ => False) w).drewN _).below (Nat.le_refl _) (fun _ h => h.elim)⟩
theorem new_high (w : World) (v : Value) (hE : w.cell? ⟨0, 0, none⟩ = some v) : Calls Tryd.prog 4 #[.int .i64 1025] w fun e w' => e = .returned (.tuple #[.pointer none, v]) ∧ Below w.heap.size w w' := by
  go_enter Tryd.func4, Tryd.ntmps4
  go_wp2
  go_quiet (fail)
  go_wp2
  go_ret2
  exact ⟨rfl, ((Mod.refl (fun _ => False) w).drewN _).below (Nat.le_refl _) (fun _ h => h.elim)⟩
/-- a new one -/
structure PN (w : World) (c m q : Nat) : Prop where
  cells : w.heap[c]? = some (.cells #[.int .i64 1024, .int .u32 0, .map (some m), .int .i64 0, .slice none 0 0, ptr q] 38 (0, 0))
  mp : Mp w Tryd.prog 35 m (fun _ => none) 0
  owed : w.heap[q]? = some (.cells #[.int .i64 1024, .int .i64 1024, .slice none 0 0, .int .i64 0] 49 (0, 0))
theorem PN.past {w w' : World} {c m q : Nat} (h : PN w c m q) (hb : Below w.heap.size w w') : PN w' c m q :=
  ⟨(hb.block _ (Array.getElem?_eq_some_iff.1 h.cells).1).trans h.cells, h.mp.block (hb.block _ h.mp.lt), (hb.block _ (Array.getElem?_eq_some_iff.1 h.owed).1).trans h.owed⟩
theorem new_ok (w : World) : Calls Tryd.prog 4 #[.int .i64 1024] w fun e w' => ∃ c m q, e = .returned (.tuple #[ptr c, .nilIface]) ∧ PN w' c m q ∧ Below w.heap.size w w' := by
  have hmm := @run_makeMap Tryd.prog
  go_enter Tryd.func4, Tryd.ntmps4
  go_wp2_with fail
  refine (fnew_ok w).mono ?_
  rintro e w1 ⟨rfl, hw1⟩
  have HW1 := hide hw1
  clear hw1
  go_wp2
  go_ret2
  have h1 : w1.heap.size = w.heap.size + 1 := by rw [HW1.out]; simp
  have hb1 : Below w.heap.size w w1 := by rw [HW1.out]; exact (Below.refl _ _).alloc (Nat.le_refl _) _
  have hb2 : Below w1.heap.size w1 ((w1.alloc (.map #[] 0)).alloc (.cells #[.int .i64 1024, .int .u32 0, .map (some w1.heap.size), .int .i64 0, .slice none 0 0, ptr w.heap.size] 38)) := ((Below.refl _ _).alloc (Nat.le_refl _) _).alloc (by simp) _
  refine ⟨w1.heap.size + 1, w1.heap.size, w.heap.size, rfl, ⟨?_, ?_, ?_⟩, hb1.trans (hb2.mono hb1.size)⟩
  · have := heap_alloc_new (w1.alloc (.map #[] 0)) (.cells #[.int .i64 1024, .int .u32 0, .map (some w1.heap.size), .int .i64 0, .slice none 0 0, ptr w.heap.size] 38)
    rw [World.size_alloc] at this
    exact this
  · exact (Mp.made w1 Tryd.prog 35).block (Below.heap_alloc _ _ _ (by simp))
  · rw [hb2.block _ (by omega), HW1.out]
    exact heap_alloc_new w _
theorem owed_zero (w : World) (c m q : Nat) (h : PN w c m q) : Calls Tryd.prog 6 #[ptr c] w fun e w' => e = .returned (.int .i64 0) ∧ w' = w := by
  have c5 : w.cell? ⟨c, 5, none⟩ = some (ptr q) := by rw [cell_of_row w c 5 _ _ _ h.cells]; rfl
  have q2 : w.cell? ⟨q, 2, none⟩ = some (.slice none 0 0) := by rw [cell_of_row w q 2 _ _ _ h.owed]; rfl
  clear h
  go_enter Tryd.func6, Tryd.ntmps6
  go_wp2_with fail
  refine (show Calls Tryd.prog 11 #[ptr q] w (fun e w' => e = .returned (.int .i64 0) ∧ w' = w) from ?_).mono ?_
  · go_enter Tryd.func11, Tryd.ntmps11
    go_wp2
    go_ret
    exact ⟨rfl, rfl⟩
  · rintro e w1 ⟨rfl, rfl⟩
    go_wp2
    go_ret
    exact ⟨rfl, rfl⟩
theorem isort_none (w : World) (cv : Value) : Calls Tryd.prog 25 #[.slice none 0 0, .int .i64 0, .int .i64 0, cv] w fun e w' => (∃ v, e = .returned v) ∧ w' = w := by
  go_enter Tryd.func25, Tryd.ntmps25
  go_wp2
  refine wp_loop_rounds 1 ?_
  rw [rounds_succ]
  go_wp2
  go_end0
  exact ⟨⟨_, rfl⟩, rfl⟩
set_option maxRecDepth 100000 in
theorem len64_zero (w : World) : Calls Tryd.prog 34 #[.int .u64 0] w fun e w' => (∃ v, e = .returned v) ∧ w' = w := by
  go_enter Tryd.func34, Tryd.ntmps34
  go_wp2
  go_ret
  exact ⟨⟨_, rfl⟩, rfl⟩
theorem len_zero (w : World) : Calls Tryd.prog 24 #[.int .u64 0] w fun e w' => (∃ v, e = .returned v) ∧ w' = w := by
  go_enter Tryd.func24, Tryd.ntmps24
  go_wp2_with fail
  refine (len64_zero w).mono ?_
  rintro e w1 ⟨⟨v, rfl⟩, rfl⟩
  go_wp2
  go_ret
  exact ⟨⟨_, rfl⟩, rfl⟩
theorem pdq_none (w : World) (lv cv : Value) : Calls Tryd.prog 23 #[.slice none 0 0, .int .i64 0, .int .i64 0, lv, cv] w fun e w' => (∃ v, e = .returned v) ∧ w' = w := by
  go_enter Tryd.func23, Tryd.ntmps23
  go_wp2
  refine wp_loop_rounds 1 ?_
  rw [rounds_succ]
  go_wp2_with fail
  refine (isort_none w cv).mono ?_
  rintro e w1 ⟨⟨v, rfl⟩, rfl⟩
  go_wp2
  refine bodyPost_ret (results_none rfl _ _ _) rfl ?_
  exact ⟨⟨_, rfl⟩, rfl⟩
theorem sortfunc_none (w : World) (cv : Value) : Calls Tryd.prog 19 #[.slice none 0 0, cv] w fun e w' => (∃ v, e = .returned v) ∧ w' = w := by
  go_enter Tryd.func19, Tryd.ntmps19
  go_wp2_with fail
  refine (len_zero w).mono ?_
  rintro e w1 ⟨⟨lv, rfl⟩, rfl⟩
  go_wp2_with fail
  refine (pdq_none w1 lv cv).mono ?_
  rintro e w2 ⟨⟨v, rfl⟩, rfl⟩
  go_wp2
  go_end0
  exact ⟨⟨_, rfl⟩, rfl⟩
theorem keys_val (w : World) (m : Nat) : Calls Tryd.prog 13 #[.map (some m)] w fun e w' => ∃ p, e = .returned (.func (.func 20) #[] #[ptr p]) ∧ w'.cell? ⟨p, 0, none⟩ = some (.map (some m)) ∧ Below w.heap.size w w' := by
  go_enter Tryd.func13, Tryd.ntmps13
  go_wp2
  go_ret
  refine ⟨w.heap.size, rfl, ?_, (Below.refl _ _).alloc (Nat.le_refl _) _⟩
  rw [cell_of_row _ w.heap.size 0 _ _ _ (heap_alloc_new w _)]
  rfl
abbrev encU (x : Int) : Array Value := #[.int .u32 x]

set_option maxRecDepth 100000 in
set_option maxHeartbeats 1000000 in
/-- over an empty map the iterator asks nobody -/
theorem iter_none (w : World) (k p m : Nat) (_ : 1 ≤ k) (hp : w.cell? ⟨p, 0, none⟩ = some (.map (some m))) (hm : Mp w Tryd.prog 35 m (fun _ => none) 0) :
    SeqStopsK Fence.wide k Tryd.prog 20 #[ptr p] encU (Keep (fun _ => False)) (fun ys => ys = []) (fun pre => pre <+: ([] : List Int)) 0 w := fun l J Jx W hW hJ hJx hY h0 => by
  have hpW := (hW.cell (World.block_lt_of_cell? w _ hp)).trans hp
  have hmW := hm.block (hW.block _ hm.lt)
  obtain ⟨D, hD, hs, hno⟩ := hmW
  have HNo := hide hno
  have HD := hide hD
  have HJ := hide hJ
  have HS := hide hs
  clear hp hm hD hJ hs hW hno
  refine callsIn_of_wp Tryd.func20 rfl trivial ?_ rfl
  simp only [Tryd.ntmps20, List.size_toArray, List.length_cons, List.length_nil, Nat.reduceAdd, Nat.reduceSub, Array.replicate_succ, Array.replicate_zero, List.push_toArray, List.append_toArray, List.nil_append, List.cons_append]
  gi_wp2_with (first
    | (gi_at_range; refine wpListIn_range_own _ rfl _ 36 rfl 35 3 law_u32 Tryd.underlying36 _ m 0 D rfl HD.out ?_; intro w0 hrg0 hg0 hs0)
    | gi_in)
  refine wpIn_loop_rounds 1 ?_
  rw [roundsIn_succ]
  gi_wp2_with (first
    | (gi_at_next; refine wpListIn_next_ranges _ rfl _ rfl 35 law_u32 heldR (fun v : Value => v) id (fun key kl hk => ⟨key, rfl⟩) (fun v _ _ => ⟨v, rfl⟩) m W.heap.size 0 _ _ _ rfl hrg0 ?_ ?_)
    | gi_in)
  · intro hc0 hl0
    gi_wp2
    go_end0
    exact ⟨⟨_, rfl⟩, .inl ⟨[], rfl, HJ.out _ _ _ none h0 hg0 (fun r e => by cases e)⟩⟩
  · intro x c kl yd yp w2 cnt2 hkey hlk
    rw [(HNo.out kl).1 trivial] at hlk
    cases hlk

set_option maxRecDepth 100000 in
set_option maxHeartbeats 1000000 in
theorem append_none (w : World) (p m : Nat) (hp : w.cell? ⟨p, 0, none⟩ = some (.map (some m))) (hm : Mp w Tryd.prog 35 m (fun _ => none) 0) :
    Calls Tryd.prog 22 #[.slice none 0 0, .func (.func 20) #[] #[ptr p]] w fun e w' => e = .returned (.slice none 0 0) ∧ Below w.heap.size w w' := by
  have hal : Below w.heap.size w (w.alloc (.cells #[.slice none 0 0] 29)) := (Below.refl _ _).alloc (Nat.le_refl _) _
  have hb := heap_alloc_new w (.cells #[.slice none 0 0] 29)
  have hp1 : (w.alloc (.cells #[.slice none 0 0] 29)).cell? ⟨p, 0, none⟩ = some (.map (some m)) := (hal.cell (World.block_lt_of_cell? w _ hp)).trans hp
  have hm1 := hm.block (hal.block _ hm.lt)
  have HP := hide hp1
  have HM := hide hm1
  have HBx := hide hb
  have HAl := hide hal
  clear hp hm hp1 hm1 hb hal
  refine (callsIn_wide (n := 5)).1 (callsIn_of_wp_marks Tryd.func22 rfl trivial (wpIn_wide.2 ?_) rfl)
  simp only [Tryd.ntmps22, List.size_toArray, List.length_cons, List.length_nil, Nat.reduceAdd, Nat.reduceSub, Array.replicate_succ, Array.replicate_zero, List.push_toArray, List.append_toArray, List.nil_append, List.cons_append]
  obtain ⟨w1, hw1⟩ : ∃ w1, w.alloc (.cells #[.slice none 0 0] 29) = w1 := ⟨_, rfl⟩
  obtain ⟨q, hq⟩ : ∃ q, w.heap.size = q := ⟨_, rfl⟩
  have hq1 : w.heap.size ≤ q := by omega
  rw [hw1] at HP HM HBx HAl
  rw [hq] at HBx
  go_upto_region 1 with fail
  clear hw1 hq
  go_wp2_with fail
  refine wpIn_wide (n := 5).1 ?_
  refine wpIn_rangeFunc_ownH (F := Fence.wide) rfl (by decide) (gf := 20) (lb := #[ptr p]) rfl trivial (enters_of Tryd.func20 (by kernel_rfl) rfl)
    (iter_none w1 4 p m (by decide) HP.out HM.out)
    Keep.trans (Keep.putObj (fun _ h => h.elim)) (Below.refl _ _) (fun _ => rfl)
    (fun pre W => (W.heap[q]? = some (.cells #[.slice none 0 0] 29 (0, 0)) ∧ pre <+: ([] : List Int)) ∧ Below w.heap.size w W)
    (fun _ pre _ => ¬ pre <+: ([] : List Int))
    (OwnFrom.and (fun s A B row hs hg hr => ⟨heap_kept hs.1 rfl hg hr, hs.2⟩) (ownFrom_below (Nat.le_refl _) HAl.out.size))
    (fun _ _ _ _ _ h _ _ => h) ⟨⟨HBx.out, List.nil_prefix⟩, HAl.out⟩
    (fun _ _ _ => True)
    (fun _ _ _ _ _ _ h _ _ => h) ?assign ?body ?done ?stop
  case assign =>
    intro l pre x W K hI hK
    gi_wp2
    exact hK _ _ (KeepsFrom.refl _ _) (Keep.refl _ _) hI trivial
  case stop =>
    rintro D cc pre W hD hpre hx hKd
    exact (hx hpre).elim
  case body =>
    rintro l pre x a' W hl hrec _ _ hlen
    exact absurd hlen (Nat.not_lt_zero _)
  case done =>
    rintro D ys W hD rfl ⟨⟨i0, _⟩, hbW⟩ hK
    have k0 : W.cell? ⟨q, 0, none⟩ = some (.slice none 0 0) := by rw [cell_of_row W _ 0 _ _ _ i0]; rfl
    have HbW := hide hbW
    have HK := hide hK
    clear i0 hbW hK
    go_wp2
    refine ⟨by simp, .inl ⟨_, _, rfl, run_takeDeferred HK.out, ?_⟩⟩
    refine ⟨.slice none 0 0, ?_, rfl, ?_⟩
    · simp [results, Tryd.results22, go_sem]
    · exact HbW.out.trans (belowK_b (w := w1) HAl.out.size _ D _ _ hD HK.out rfl rfl)
theorem collect_none (w : World) (p m : Nat) (hp : w.cell? ⟨p, 0, none⟩ = some (.map (some m))) (hm : Mp w Tryd.prog 35 m (fun _ => none) 0) :
    Calls Tryd.prog 18 #[.func (.func 20) #[] #[ptr p]] w fun e w' => e = .returned (.slice none 0 0) ∧ Below w.heap.size w w' := by
  have HO := hide (append_none w p m hp hm)
  clear hp hm
  go_enter Tryd.func18, Tryd.ntmps18
  go_wp2_with fail
  refine HO.out.mono ?_
  rintro e w1 ⟨rfl, hb⟩
  have HB := hide hb
  clear hb
  go_wp2
  go_ret
  exact ⟨rfl, HB.out⟩
theorem sorted_none (w : World) (p m : Nat) (cv : Value) (hp : w.cell? ⟨p, 0, none⟩ = some (.map (some m))) (hm : Mp w Tryd.prog 35 m (fun _ => none) 0) :
    Calls Tryd.prog 12 #[.func (.func 20) #[] #[ptr p], cv] w fun e w' => e = .returned (.slice none 0 0) ∧ Below w.heap.size w w' := by
  have HO := hide (collect_none w p m hp hm)
  clear hp hm
  go_enter Tryd.func12, Tryd.ntmps12
  go_wp2_with fail
  refine HO.out.mono ?_
  rintro e w1 ⟨rfl, hb⟩
  have HB := hide hb
  clear hb
  go_wp2_with fail
  refine (sortfunc_none w1 cv).mono ?_
  rintro e w2 ⟨⟨v, rfl⟩, rfl⟩
  go_wp2
  go_ret
  exact ⟨rfl, HB.out⟩
theorem waiting_none (w : World) (c m q : Nat) (h : PN w c m q) : Calls Tryd.prog 7 #[ptr c] w fun e w' => e = .returned (.slice none 0 0) ∧ Below w.heap.size w w' := by
  have hal : Below w.heap.size w (w.alloc (.cells #[ptr c] 22)) := (Below.refl _ _).alloc (Nat.le_refl _) _
  have h1 := h.past hal
  have HH := hide h1
  have HAl := hide hal
  have c2 : (w.alloc (.cells #[ptr c] 22)).cell? ⟨c, 2, none⟩ = some (.map (some m)) := by rw [cell_of_row _ c 2 _ _ _ h1.cells]; rfl
  clear h h1 hal
  go_enter Tryd.func7, Tryd.ntmps7
  go_wp2_with fail
  refine (keys_val _ m).mono ?_
  rintro e w1 ⟨p, rfl, hp, hb⟩
  have HP := hide hp
  have HM := hide (HH.out.past hb).mp
  have HB := hide (HAl.out.trans (hb.mono HAl.out.size))
  clear hp hb c2
  go_wp2_with fail
  refine (sorted_none w1 p m _ HP.out HM.out).mono ?_
  rintro e w2 ⟨rfl, hb⟩
  have HB2 := hide (HB.out.trans (hb.mono HB.out.size))
  clear hb
  go_wp2
  go_ret
  exact ⟨rfl, HB2.out⟩
namespace pingsNames
theorem walk (w : World) (adr : Nat → Addr) (hS : Sent w adr) : Calls Tryd.prog 3 #[] w fun e w' => e = .returned (.bool true) ∧ Below w.heap.size w w' := by
  have HS := hide hS
  have HE := hide (hS.cell 2 (by decide) (by decide))
  clear hS
  go_enter Tryd.func3, Tryd.ntmps3
  go_wp2_with fail
  refine (new_low w _ HE.out).mono ?_
  rintro e w1 ⟨rfl, hb1⟩
  have HB1 := hide hb1
  have HS1 := hide (HS.out.below hb1)
  clear hb1
  go_wp2_with fail
  refine (new_high w1 _ (HS1.out.cell 2 (by decide) (by decide))).mono ?_
  rintro e w2 ⟨rfl, hb2⟩
  have HB2 := hide (HB1.out.trans (hb2.mono HB1.out.size))
  clear hb2
  go_wp2_with fail
  refine (new_ok w2).mono ?_
  rintro e w3 ⟨c, m, q, rfl, hn, hb3⟩
  have HN := hide hn
  have HB3 := hide (HB2.out.trans (hb3.mono HB2.out.size))
  have HS3 := hide (HS.out.below HB3.out)
  clear hn hb3
  go_wp2_with fail
  refine (code_err w3 adr HS3.out 2 (by decide) (by decide) (by decide)).mono ?_
  rintro e w4 ⟨rfl, rfl⟩
  go_wp2_with fail
  refine (code_err w4 adr HS3.out 2 (by decide) (by decide) (by decide)).mono ?_
  rintro e w5 ⟨rfl, rfl⟩
  go_wp2_with fail
  refine (owed_zero w5 c m q HN.out).mono ?_
  rintro e w6 ⟨rfl, rfl⟩
  go_wp2_with fail
  refine (waiting_none w6 c m q HN.out).mono ?_
  rintro e w7 ⟨rfl, hb⟩
  have hfin := HB3.out.trans (hb.mono HB3.out.size)
  clear hb
  go_wp2
  go_ret
  exact ⟨rfl, hfin⟩
end pingsNames
end Go.Proofs.YtdokpbcknlijdaaDoor
