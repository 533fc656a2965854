import Derived.Test.YtipfjnjjfojdgaaDoorLib
/- Rows of structs, cell by cell. -/
namespace Go.Proofs.YtipfjnjjfojdgaaDoor
open Go Go.RowKit Go.Cu
theorem flat_get {α : Type} {f : α → List Value} {k : Nat} (hk : ∀ a, (f a).length = k) {l : List α} {i : Nat} {a : α} (h : l[i]? = some a) : ∀ (j : Nat) u, (f a)[j]? = some u → (l.flatMap f)[i * k + j]? = some u := by
  induction l generalizing i with
  | nil => simp at h
  | cons p r ih =>
    intro j u hj
    have hj2 : j < k := by have := (List.getElem?_eq_some_iff.1 hj).1; rw [hk] at this; exact this
    rw [List.flatMap_cons]
    cases i with
    | zero =>
      simp at h
      subst h
      rw [Nat.zero_mul, Nat.zero_add, List.getElem?_append_left (by rw [hk]; exact hj2)]
      exact hj
    | succ i =>
      simp only [List.getElem?_cons_succ] at h
      have hs : (i + 1) * k = i * k + k := Nat.succ_mul i k
      rw [List.getElem?_append_right (by rw [hk]; omega), ← ih h j u hj, hk]
      congr 1
      omega
theorem flat_length {α : Type} {f : α → List Value} {k : Nat} (hk : ∀ a, (f a).length = k) (l : List α) : (l.flatMap f).length = l.length * k := by
  induction l with
  | nil => simp
  | cons a r ih => rw [List.flatMap_cons, List.length_append, ih, hk, List.length_cons, Nat.succ_mul]; omega
theorem flat_at {α : Type} {f : α → List Value} {m : Nat} (hk : ∀ a, (f a).length = m) {l : List α} {k : Nat} {u : Value} (h : (l.flatMap f)[k]? = some u) : ∃ i j a, k = i * m + j ∧ j < m ∧ l[i]? = some a ∧ (f a)[j]? = some u := by
  induction l generalizing k with
  | nil => simp at h
  | cons p r ih =>
    rw [List.flatMap_cons] at h
    by_cases hlt : k < m
    · rw [List.getElem?_append_left (by rw [hk]; exact hlt)] at h
      exact ⟨0, k, p, by omega, hlt, rfl, h⟩
    · rw [List.getElem?_append_right (by rw [hk]; omega), hk] at h
      obtain ⟨i, j, a, e, hj, ha, hu⟩ := ih h
      refine ⟨i + 1, j, a, ?_, hj, by simpa using ha, hu⟩
      rw [Nat.succ_mul]
      omega
end Go.Proofs.YtipfjnjjfojdgaaDoor
