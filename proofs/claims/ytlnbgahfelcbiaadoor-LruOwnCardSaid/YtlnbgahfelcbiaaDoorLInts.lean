import Derived.Test.YtlnbgahfelcbiaaDoorLRem
/- Rows of numbers. -/
namespace Go.Proofs.YtlnbgahfelcbiaaDoor
open Go Go.RowKit Go.Cu

def ints (L : List Int) : List Value := L.map (Value.int .i64)
theorem ints_length (L : List Int) : (ints L).length = L.length := by simp [ints]
theorem ints_get {L : List Int} {i : Nat} {x : Int} (h : L[i]? = some x) : (ints L)[i]? = some (.int .i64 x) := by simp [ints, h]
theorem ints_take (L : List Int) (k : Nat) : (ints L).take k = ints (L.take k) := by simp [ints, List.map_take]
theorem ints_drop (L : List Int) (k : Nat) : (ints L).drop k = ints (L.drop k) := by simp [ints, List.map_drop]
theorem ints_append (L M : List Int) : ints L ++ ints M = ints (L ++ M) := by simp [ints]
theorem ints_one (L : List Int) : ∀ u ∈ ints L, u.oneCell' = true := by
  intro u hu
  obtain ⟨x, _, rfl⟩ := List.mem_map.1 hu
  rfl
theorem size_int : (Tryd.prog.info? 3).map (·.size) = some 1 := by kernel_rfl
theorem agg_int (w : World) : (isAgg 3).run Tryd.prog w = .ok false w := by kernel_rfl
theorem info_int : (Tryd.prog.info? 3).map (fun i => (i.zero, i.size, i.bytes)) = some (some (.int .i64 0), 1, 8) := by kernel_rfl
/-- the keys -/
def keysOf (L : List LE) : List Int := L.map (·.k)
theorem keysOf_length (L : List LE) : (keysOf L).length = L.length := by simp [keysOf]
theorem keysOf_app (a b : List LE) : keysOf (a ++ b) = keysOf a ++ keysOf b := by simp [keysOf]
/-- new memory -/
abbrev New (w : World) : Nat → Prop := fun k => w.heap.size ≤ k
theorem take_mid {α : Type} (a : List α) (e : α) (b : List α) : (a ++ e :: b).take (a.length + 1) = a ++ [e] := by
  rw [show a ++ e :: b = (a ++ [e]) ++ b by simp, List.take_left' (by simp)]
theorem drop_mid {α : Type} (a : List α) (e : α) (b : List α) : (a ++ e :: b).drop (a.length + 1) = b := by
  rw [show a ++ e :: b = (a ++ [e]) ++ b by simp, List.drop_left' (by simp)]
/-- one step on -/
theorem step_on {α : Type} (L : List α) (i : Nat) (h : i < L.length) : ∃ e, L = L.take i ++ e :: L.drop (i + 1) ∧ L.drop i = e :: L.drop (i + 1) ∧ L.take (i + 1) = L.take i ++ [e] := by
  refine ⟨L[i], ?_, (List.drop_eq_getElem_cons h), by rw [List.take_succ_eq_append_getElem h]⟩
  conv => lhs; rw [← List.take_append_drop i L, List.drop_eq_getElem_cons h]
end Go.Proofs.YtlnbgahfelcbiaaDoor
