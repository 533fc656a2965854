import Derived.Test.YtipfjnjjfojdgaaDoorTFun2
import Derived.Test.YtipfjnjjfojdgaaDoorLibIn
import Derived.BigQuiet
import Derived.Deep.CutRange
import Derived.RangeFuncGives
import Derived.Sort.MapsRangeIn
import Derived.Maps.OwnIn
/- maps.Keys over the history's map (turned from the pings'). -/
namespace Go.Proofs.YtipfjnjjfojdgaaDoor
open Go Go.RowKit Go.Shelf Go.Cu
open Go.Maps (Keyed has)
attribute [local go_sem] Oper.semAt_some

theorem keys_val (w : World) (m : Nat) : Calls Tryd.prog 32 #[.map (some m)] w fun e w' => ∃ p, e = .returned (.func (.func 47) #[] #[ptr p]) ∧ p < w'.heap.size ∧ w'.cell? ⟨p, 0, none⟩ = some (.map (some m)) ∧ Below w.heap.size w w' := by
  go_enter Tryd.func32, Tryd.ntmps32
  go_wp2
  go_ret
  refine ⟨w.heap.size, rfl, by simp, ?_, (Below.refl _ _).alloc (Nat.le_refl _) _⟩
  rw [cell_of_row _ w.heap.size 0 _ _ _ (heap_alloc_new w _)]
  rfl
abbrev encK (x : Int) : Array Value := #[.int .i64 x]
/-- what has come -/
def Come (D : DataW Value) (left : Lit → Bool) (ss : List Int) : Prop := ss.Nodup ∧ ∀ x, x ∈ ss ↔ (has D (.int .i64 x) = true ∧ left (.int .i64 x) = false)
theorem Come.start (D : DataW Value) : Come D (has D) [] := ⟨List.nodup_nil, fun x => by cases has D (.int .i64 x) <;> simp⟩
theorem Come.step {D : DataW Value} {left : Lit → Bool} {ss : List Int} (h : Come D left ss) {x : Int} {y : DataW Value} (hlk : left (.int .i64 x) = true) (hat : ∀ zd, D.atKey (.int .i64 x) zd = y) : Come D (fun z => left z && !z.sameKey (.int .i64 x)) (ss ++ [x]) := by
  have hhas : has D (.int .i64 x) = true := Maps.has_true_of_atKey hat
  have hnew : x ∉ ss := fun hx => by have := ((h.2 x).1 hx).2; rw [hlk] at this; cases this
  refine ⟨List.nodup_append.2 ⟨h.1, by simp, fun a ha b hb => by simp at hb; subst hb; exact fun e => hnew (e ▸ ha)⟩, fun y => ?_⟩
  by_cases hy : y = x
  · subst hy; simp [hhas, Lit.sameKey]
  · simp [h.2 y, hy, Lit.sameKey]

set_option maxRecDepth 100000 in
set_option maxHeartbeats 1000000 in
theorem iter_any (w : World) (k p m : Nat) (_ : 1 ≤ k) (hp : w.cell? ⟨p, 0, none⟩ = some (.map (some m))) (W : List Int) (f : Lit → Option Value) (hf : ∀ x : Int, (∃ v, f (.int .i64 x) = some v) ↔ x ∈ W) (hm : Mp w Tryd.prog 3 m f W.length) :
    SeqStopsK Fence.wide k Tryd.prog 47 #[ptr p] encK KeepsWalks (fun ys => ys.Nodup ∧ ∀ x, x ∈ ys ↔ x ∈ W) (fun _ => True) W.length w := fun l J Jx V hV hJ hJx hY h0 => by
  have hpW := (hV.cell (World.block_lt_of_cell? w _ hp)).trans hp
  have hmW := hm.block (hV.block _ hm.lt)
  obtain ⟨D, hD, hs, hno⟩ := hmW
  have hhas : ∀ x : Int, has D (.int .i64 x) = true ↔ x ∈ W := fun x => by
    by_cases hx : x ∈ W
    · obtain ⟨v, hv⟩ := (hf x).2 hx
      have := ((hno (.int .i64 x)).2 v hv).1
      simp [this, hx]
    · have hn : f (.int .i64 x) = none := by
        cases h : f (.int .i64 x) with
        | none => rfl
        | some v => exact (hx ((hf x).1 ⟨v, h⟩)).elim
      have := (hno (.int .i64 x)).1 hn
      simp [this, hx]
  have HHas := hide hhas
  have HD := hide hD
  have HJ := hide hJ
  have HS := hide hs
  clear hp hm hD hJ hs hV hno hhas hf
  refine callsIn_of_wp Tryd.func47 rfl trivial ?_ rfl
  simp only [Tryd.ntmps47, List.size_toArray, List.length_cons, List.length_nil, Nat.reduceAdd, Nat.reduceSub, Array.replicate_succ, Array.replicate_zero, List.push_toArray, List.append_toArray, List.nil_append, List.cons_append]
  gi_wp2_with (first
    | (gi_at_range; refine wpListIn_range_own _ rfl _ 63 rfl 3 66 law_int Tryd.underlying63 _ m W.length D rfl HD.out ?_; intro w0 hrg0 hg0 hs0)
    | gi_in)
  go_frame
  gi_loopw [3] (fun _ wr => ∃ (left : Lit → Bool) (cnt : Nat) (ss : List Int), wr.ranges Tryd.prog 3 heldR m V.heap.size W.length D left cnt ∧ Hid (ss.length + cnt ≤ W.length) ∧ Hid (Come D left ss) ∧ Hid (J ss wr))
    (fun _ wr => wr.rangeLeft m V.heap.size)
  case atStart =>
    exact ⟨_, _, [], hrg0, hide (by have := HS.out; simp; omega), hide (Come.start D), hide (HJ.out [] V w0 none h0 hg0 (fun r e => by cases e))⟩
  case round =>
    obtain ⟨left, cnt, ss, hrg, hcs, hC, hJs⟩ := hrel
    gi_wp2_with (first
      | (gi_at_next; refine wpListIn_next_ranges _ rfl _ rfl 3 law_int heldR (Value.int .i64) id (fun key kl hk => by obtain ⟨x, hx, _⟩ := Maps.keyOf_int_inv Tryd.underlying3 hk; exact ⟨x, hx⟩) (fun v _ _ => ⟨v, rfl⟩) m V.heap.size W.length _ _ _ rfl hrg ?_ ?_)
      | gi_in)
    · intro hc0 hl0
      gi_wp2
      go_end0
      exact ⟨⟨_, rfl⟩, .inl ⟨ss, ⟨hC.out.1, fun x => by rw [hC.out.2 x, hl0, HHas.out]; simp⟩, hJs.out⟩⟩
    · intro x c kl yd yp w2 cnt2 hkey hlk hv hat hrg2 hlt hg2 hs2 hen
      obtain ⟨x', ex, rfl, _⟩ := Maps.keyOf_int_inv Tryd.underlying3 hkey
      cases ex
      have hJ2 : J ss w2 := HJ.out ss wr w2 (some V.heap.size) hJs.out hg2 (fun r e => by cases e; exact ⟨Nat.le_refl _, hrg.iter_walk⟩)
      obtain ⟨fn, tmps, assign, body, hy, hR⟩ := hY ss x w2 hJ2 (by have := hcs.out; omega)
      clear hs2
      gi_wp2
      refine hR.mono ?_
      rintro e W3 (⟨rfl, hJ3, hk3⟩ | ⟨rfl, hJx3⟩)
      · gi_wp2
        have hrg3 := hrg2.of_walks hk3
        go_roundw
        case rel => exact ⟨_, cnt2, ss ++ [x], hrg3, hide (by have := hcs.out; simp; omega), hide (hC.out.step hlk hat), hide hJ3⟩
        case measure => rw [hrg3.left_eq, hrg.left_eq]; exact hlt
      · gi_wp2
        refine bodyPost_ret (results_none rfl _ _ _) rfl ?_
        exact ⟨⟨_, rfl⟩, .inr ⟨ss ++ [x], trivial, hJx3⟩⟩
end Go.Proofs.YtipfjnjjfojdgaaDoor
