/-
  FifoNil: for every call the law returns true: a nil queue holds nothing; nothing goes into it.
-/
import Derived.Test.YtipbaffhlekpfaaDoorFifR
namespace Go.Proofs.YtipbaffhlekpfaaDoor.fifoNil
open Go Go.RowKit Go.Shelf Go.Cu Go.Proofs.YtipbaffhlekpfaaDoor Go.Proofs.YtipbaffhlekpfaaDoor.errs
attribute [local go_sem] Oper.semAt_some

set_option maxRecDepth 10000 in
set_option maxHeartbeats 2000000 in
theorem walk (w : World) (adr : Nat → Addr) (hS : Sent w adr) (k v wt : Int) (O : Value) :
    Calls Tryd.prog 6 #[.agg #[.int .i64 k, .int .i64 v, .int .i64 wt, O]] w fun e w' => e = .returned (.bool true) ∧ Below w.heap.size w w' := by
  obtain ⟨w0, hw0⟩ : ∃ w0, (w.alloc (.cells #[.int .i64 k, .int .i64 v, .int .i64 wt, O] 47)).alloc (.cells #[.bool false] 4) = w0 := ⟨_, rfl⟩
  obtain ⟨p0, hp0⟩ : ∃ p0, w.heap.size = p0 := ⟨_, rfl⟩
  have HAl : Hid (Below w.heap.size w w0) := by rw [← hw0]; exact hide (((Below.refl _ _).alloc (Nat.le_refl _) _).alloc (by simp) _)
  have HS : Hid (Sent w0 adr) := hide (hS.below HAl.out)
  have c1 : w0.cell? ⟨p0, 1, none⟩ = some (.int .i64 v) := by rw [← hw0, ← hp0]; simp
  have c2 : w0.cell? ⟨p0, 2, none⟩ = some (.int .i64 wt) := by rw [← hw0, ← hp0]; simp
  have b1 : w0.heap[p0 + 1]? = some (.cells #[.bool false] 4 (0, 0)) := by rw [← hw0, ← hp0]; exact (by rw [World.size_alloc] : w.heap.size + 1 = (w.alloc (.cells #[.int .i64 k, .int .i64 v, .int .i64 wt, O] 47)).heap.size) ▸ heap_alloc_new _ _
  have HC1 := hide c1
  have HC2 := hide c2
  have HB1 := hide b1
  clear hS c1 c2 b1
  refine (callsIn_wide (n := 5)).1 (callsIn_of_wp_marks Tryd.func6 rfl trivial (wpIn_wide.2 ?_) rfl)
  simp only [Tryd.ntmps6, List.size_toArray, List.length_cons, List.length_nil, Nat.reduceAdd, Nat.reduceSub, Array.replicate_succ, Array.replicate_zero, List.push_toArray, List.append_toArray, List.nil_append, List.cons_append]
  go_wp2_with fail
  refine (wakes_true w0 adr HS.out).mono ?_
  rintro e w1 ⟨rfl, hb1⟩
  have d1 := (hb1.cell (World.block_lt_of_cell? w0 _ HC1.out)).trans HC1.out
  have d2 := (hb1.cell (World.block_lt_of_cell? w0 _ HC2.out)).trans HC2.out
  have HW1 := hide hb1
  clear hb1
  go_wp2_with fail
  obtain ⟨w2, hw2⟩ : ∃ w2, w1.alloc (.cells #[.bool false] 4) = w2 := ⟨_, rfl⟩
  obtain ⟨p4, hp4⟩ : ∃ p4, w1.heap.size = p4 := ⟨_, rfl⟩
  have hb2 : Below w1.heap.size w1 w2 := by rw [← hw2]; exact (Below.refl _ _).alloc (Nat.le_refl _) _
  have a4 : w2.cell? ⟨p4, 0, none⟩ = some (.bool false) := by rw [← hw2, ← hp4]; simp
  have HB12 : Hid (Below w0.heap.size w0 w2) := hide (HW1.out.trans (hb2.mono HW1.out.size))
  have e1 := (hb2.cell (World.block_lt_of_cell? w1 _ d1)).trans d1
  have e2 := (hb2.cell (World.block_lt_of_cell? w1 _ d2)).trans d2
  rw [hw2, hp4]
  clear hb2 d1 d2 hw2 hp4
  refine (remove_nil w2 _ (.inr ⟨22, _, rfl⟩)).mono ?_
  rintro e wz ⟨rfl, rfl⟩
  go_wp2_with fail
  refine (get_nil w2).mono ?_
  rintro e wz ⟨rfl, rfl⟩
  go_wp2_with fail
  refine (head_nil w2).mono ?_
  rintro e wz ⟨rfl, rfl⟩
  go_wp2_with fail
  refine (all_nil w2).mono ?_
  rintro e w3 ⟨p, rfl, hp, hpl, hb3⟩
  have HB13 : Hid (Below w0.heap.size w0 w3) := hide (HB12.out.trans (hb3.mono HB12.out.size))
  have a4' := (hb3.cell (World.block_lt_of_cell? w2 _ a4)).trans a4
  have f1 := (hb3.cell (World.block_lt_of_cell? w2 _ e1)).trans e1
  have f2 := (hb3.cell (World.block_lt_of_cell? w2 _ e2)).trans e2
  have HP := hide hp
  have hnn := walk_not_nil w3 (.pointer (some ⟨p, 0, none⟩))
  clear hp hpl hb3 a4 e1 e2
  go_wp2_with fail
  refine wpIn_wide (n := 5).1 ?_
  refine wpIn_rangeFunc_ownH (F := Fence.wide) rfl (by decide) (gf := 40) (lb := #[.pointer (some ⟨p, 0, none⟩)]) rfl trivial (enters_of Tryd.func40 (by kernel_rfl) rfl)
    (all1_stops w3 4 p (by decide) none 0 [] (fun _ => False) (fun _ e => by cases e) (fun _ h => h.elim) HP.out ⟨rfl, none, 0, rfl, Nat.zero_le _, .inl rfl⟩)
    Keep.trans (Keep.putObj (fun _ h => h.elim)) (Below.refl _ _) (fun _ => rfl)
    (fun _ W => Below w3.heap.size w3 W) (fun _ _ _ => False) (ownFrom_below (Nat.le_refl _) (Nat.le_refl _)) (fun _ _ _ _ _ h _ _ => h) (Below.refl _ _)
    (fun _ _ _ => True) (fun _ _ _ _ _ _ h _ _ => h) ?assign ?body ?done ?stop
  case assign =>
    intro l pre x W K hI hK
    gi_wp2
    exact hK _ _ (KeepsFrom.refl _ _) (Keep.refl _ _) hI trivial
  case body => exact fun l pre x a' W _ _ _ _ h => absurd h (Nat.not_lt_zero _)
  case stop => exact fun _ _ _ _ _ _ h _ => h.elim
  case done =>
    rintro D ys W hD rfl hbW hK
    have HBW : Hid (Below w0.heap.size w0 W) := hide (HB13.out.trans (hbW.mono HB13.out.size))
    have g4 := (hbW.cell (World.block_lt_of_cell? w3 _ a4')).trans a4'
    have g1 := (hbW.cell (World.block_lt_of_cell? w3 _ f1)).trans f1
    have g2 := (hbW.cell (World.block_lt_of_cell? w3 _ f2)).trans f2
    have hE := (HS.out.below HBW.out).cell 1 (by decide) (by decide)
    have hb1 : W.heap[p0 + 1]? = some (.cells #[.bool false] 4 (0, 0)) := (HBW.out.block _ (Array.getElem?_eq_some_iff.1 HB1.out).1).trans HB1.out
    have HBL := hide hb1
    have hfr := frozen_of_row W (p0 + 1) 0 _ _ hb1
    have hrc : W.cell? ⟨p0 + 1, 0, none⟩ = some (.bool false) := by rw [cell_of_row W _ 0 _ _ _ hb1]; rfl
    clear a4' f1 f2 hbW hb1
    have HK := hide hK
    clear hK
    go_wp2_with (first
      | (go_at_call 11; refine (len_nil _).mono ?_; rintro e wz ⟨rfl, rfl⟩)
      | (go_at_call 12; refine (weight_nil _).mono ?_; rintro e wz ⟨rfl, rfl⟩)
      | (go_at_call 21; refine (remove_nil _ _ (.inl rfl)).mono ?_; rintro e wz ⟨rfl, rfl⟩)
      | (go_at_call 14; refine (put_nil _ v wt _ hE).mono ?_; rintro e wz ⟨rfl, rfl⟩)
      | (go_at_call 13; refine (code_err _ adr (HS.out.below HBW.out) 1 (by decide) (by decide) (by decide)).mono ?_; rintro e wz ⟨rfl, rfl⟩))
    have b4 := heap_setCell_same _ (p0 + 1) 0 _ 4 (.bool true) HBL.out
    have hK4 : (wz.setCell ⟨p0 + 1, 0, none⟩ (.bool true)).heap[D]? = some (.deferred (some [])) := (KeepsOthers.setCell _ _ _).same D _ HK.out rfl
    have hne : p0 + 1 ≠ D := by
      intro e
      rw [← e, b4] at hK4
      cases hK4
    have b5 : ((wz.setCell ⟨p0 + 1, 0, none⟩ (.bool true)).putObj D (.deferred none)).heap[p0 + 1]? = some (.cells #[.bool true] 4 (0, 0)) := by
      rw [World.putObj_heap_other hne]
      simpa using b4
    have k0 : ((wz.setCell ⟨p0 + 1, 0, none⟩ (.bool true)).putObj D (.deferred none)).cell? ⟨p0 + 1, 0, none⟩ = some (.bool true) := by rw [cell_of_row _ _ 0 _ _ _ b5]; rfl
    have hDl : w0.heap.size ≤ D := Nat.le_trans HB13.out.size hD
    have hp : w.heap.size ≤ p0 + 1 := by omega
    refine ⟨by simp, .inl ⟨_, _, rfl, run_takeDeferred hK4, ?_⟩⟩
    refine ⟨.bool true, ?_, rfl, ?_⟩
    · simp [results, Tryd.results6, go_sem, k0]
    · exact ((HAl.out.trans (HBW.out.mono HAl.out.size)).setCell (p := ⟨p0 + 1, 0, none⟩) hp _).trans (belowK_b (w := w0) HAl.out.size _ D _ _ hDl hK4 rfl rfl)
end Go.Proofs.YtipbaffhlekpfaaDoor.fifoNil
