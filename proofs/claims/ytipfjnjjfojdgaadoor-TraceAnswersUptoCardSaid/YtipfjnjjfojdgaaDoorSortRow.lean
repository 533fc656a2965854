import Derived.Test.YtipfjnjjfojdgaaDoorLib
import Derived.Sort.Grow
/- A row of numbers, handed to the library's sort. -/
namespace Go.Cu
open Go Go.RowKit Go.Sort

/-- what the sort asks of it -/
theorem row_holds {w : World} {F : Nat → Prop} {e : TypeId} {A : Option Addr} {n c : Nat} {xs : List Int} (h : Row w F e 1 (.slice A n c) n (xs.map (Value.int .i64))) (hn : 0 < n) :
    ∃ g o, A = some ⟨g, o, none⟩ ∧ xs.length = n ∧ F g ∧ g < w.heap.size ∧ Holds (Value.int .i64) w g o xs.toArray := by
  have hl := h.1
  rw [List.length_map, Nat.mul_one] at hl
  obtain ⟨g, o, c', he, h1, h2, hF, hlt, hc, hf⟩ := h.open hn
  injection he with he _ _
  refine ⟨g, o, he, hl, hF, hlt, fun j hj => ⟨hc j _ ?_, hf _⟩⟩
  have hj' : j < xs.length := by simpa using hj
  rw [List.getElem?_map, List.getElem?_eq_getElem hj']
  simp [hj']
/-- behind it: the same slice holds the sorted list; nothing else of what was there has turned -/
theorem row_sorted {w : World} {F : Nat → Prop} {e : TypeId} {g o n c k : Nat} {os : Array Obj} {xs ys : List Int} (h : Row w F e 1 (.slice (some ⟨g, o, none⟩) n c) n (xs.map (Value.int .i64))) (hn : 0 < n) (hl : ys.length = n) :
    Row (grow (putRow (Value.int .i64) (Sort.ahead w k) g o ys.toArray) os) F e 1 (.slice (some ⟨g, o, none⟩) n c) n (ys.map (Value.int .i64)) ∧ Mod (fun j => j = g) w (grow (putRow (Value.int .i64) (Sort.ahead w k) g o ys.toArray) os) := by
  obtain ⟨h1, A', c', he, h2, h3, h4⟩ := h
  cases he
  rcases h4 with h4 | ⟨b, o', cur, he, hF, hb, h5, h6⟩
  · omega
  cases he
  have hg : g < w.heap.size := (Array.getElem?_eq_some_iff.1 hb).1
  refine ⟨⟨by simp [hl], _, c, rfl, h2, h3, .inr ⟨g, o, putCells (Value.int .i64) o ys.toArray cur, rfl, hF, ?_, by simpa [putCells] using h5, fun j hj => ?_⟩⟩, ⟨rfl, rfl, rfl, by simp, fun j hj hne => ?_⟩⟩
  · rw [heap_grow_old _ _ (by simpa using hg)]
    simp [putRow, mapBlock, Sort.ahead, Array.getElem?_modify, hb, onCells]
  · have hjl : j < ys.length := by omega
    have hjc : o + j < cur.size := by omega
    rw [List.getElem?_map, List.getElem?_eq_getElem hjl]
    simp [putCells, hjc, hjl]
  · rw [heap_grow_old _ _ (by simpa using hj)]
    have : g ≠ j := fun e => hne e.symm
    simp [putRow, mapBlock, Sort.ahead, Array.getElem?_modify, this]
/-- a rising list is its own sorted form, in whatever order it was met -/
theorem sort_rising {xs ys : List Int} (hp : xs.Perm ys) (hr : ys.Pairwise (fun x y => x < y)) : xs.mergeSort (fun x y => decide (x ≤ y)) = ys := by
  have h1 : (xs.mergeSort (fun x y => decide (x ≤ y))).Pairwise (fun a b => decide (a ≤ b) = true) :=
    List.pairwise_mergeSort (fun a b c h1 h2 => by simp at *; omega) (fun a b => by simp; omega) xs
  have h2 : ys.Pairwise (fun a b => decide (a ≤ b) = true) := hr.imp (fun h => by simp; omega)
  exact ((List.mergeSort_perm xs _).trans hp).eq_of_pairwise (fun a b _ _ h1 h2 => by simp at h1 h2; omega) h1 h2
end Go.Cu
