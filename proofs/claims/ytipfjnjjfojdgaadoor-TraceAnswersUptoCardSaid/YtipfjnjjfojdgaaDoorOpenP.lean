import Derived.Test.YtipfjnjjfojdgaaDoorLib
import Derived.ProofKit
import Derived.OpenShut
import Derived.Deep.Slices
import Derived.Deep.Fields
import Derived.ChangeSame
import Derived.SizedLaws
/- Arguments that came in are opened to their cells (no seat's types). -/
namespace Go.Cu
open Go Go.RowKit Go.ChangeShapes Go.WideShapes Go.Deep

section
variable {H : Type} {enc : TypeId × Value → H} {P : Program} {w : World} {base : Nat} {spare : Nat → Bool} {held : Bool}
/-- A slice of structs of one-cell fields (after the guide's page on structs). -/
theorem open_slice_fields {t e : TypeId} {fs : Array Field} {fuel : Nat} {cs : List Value} {x : DataW H × List MemPlace} (ht : P.underlying t = some (.slice e)) (he : P.underlying e = some (.struct fs))
    (hone : oneCellFields P fs = true) (hC : P.cellsOf e = fs.size) (h : DataW.trod enc P w base spare held fuel t cs = some x) :
    (cs = [.slice none 0 0] ∧ x = (.nil, [])) ∨
    ∃ (a : Addr) (len cap m : Nat) (D : Nat → DataW H) (Pl : Nat → List MemPlace), cs = [.slice (some a) len cap] ∧ base ≤ a.block ∧ len ≤ cap ∧ cap ≤ maxLen ∧ m = (if spare a.block then cap else len) ∧
      x = (.slice ((List.range len).map D) ((List.range (m - len)).map fun j => D (len + j)), MemPlace.row a (m * fs.size) ++ (List.range m).flatMap Pl) ∧
      ∀ i, i < m → ∃ (ys : List (DataW H × List MemPlace)) (n : Nat), D i = .agg (ys.map (·.1)) ∧ Pl i = ys.flatMap (·.2) ∧ ys.length = fs.size ∧
        ∀ (j : Nat) (f : Field), fs[j]? = some f → ∃ (v : Value) (y : DataW H × List MemPlace), w.cell? (a.add (i * fs.size + j)) = some v ∧ ys[j]? = some y ∧ DataW.trod enc P w base spare held n f.type [v] = some y := by
  rcases open_slice ht h with h0 | ⟨a, len, cap, m, n, D, Pl, hcs, hb, hl, hm, hmm, hx, hi⟩
  · exact .inl h0
  · refine .inr ⟨a, len, cap, m, D, Pl, hcs, hb, hl, hm, hmm, by rw [hC] at hx; exact hx, fun i him => ?_⟩
    obtain ⟨cs', hc, ht'⟩ := hi i him
    rw [hC] at hc
    obtain ⟨ys, n', hn', hy, hlen, hyl, hf⟩ := DataW.trod_struct he ht'
    obtain ⟨_, hcl, hat⟩ := World.cells?_some hc
    simp only [Prod.mk.injEq] at hy
    refine ⟨ys, n', hy.1, hy.2, hyl, fun j f hj => ?_⟩
    obtain ⟨ho, hk⟩ := hone_of hone j f hj
    have hjl : j < fs.size := (Array.getElem?_eq_some_iff.1 hj).1
    have hcell := hat j hjl
    have hv : cs'[j]? = some (cs'[j]'(by omega)) := List.getElem?_eq_getElem (by omega)
    have h1 := hf j f hj
    rw [ho, hk] at h1
    have hone' : (cs'.drop j).take 1 = [cs'[j]'(by omega)] := by
      rw [List.drop_eq_getElem_cons (by omega)]
      rfl
    rw [hone'] at h1
    have hys : ys[j]? = some (ys[j]'(by omega)) := List.getElem?_eq_getElem (by omega)
    refine ⟨_, _, ?_, hys, h1.trans hys⟩
    rw [← Go.Deep.add_add, hcell, hv]
end

theorem list_choose {α β : Type} {R : α → β → Prop} : ∀ (l : List α), (∀ a ∈ l, ∃ b, R a b) → ∃ m : List β, m.length = l.length ∧ ∀ (i : Nat) (a : α), l[i]? = some a → ∃ b, m[i]? = some b ∧ R a b
  | [], _ => ⟨[], rfl, fun i a h => by simp at h⟩
  | x :: r, h => by
    obtain ⟨b, hb⟩ := h x (by simp)
    obtain ⟨m, hl, hm⟩ := list_choose r (fun a ha => h a (by simp [ha]))
    refine ⟨b :: m, by simp [hl], fun i a hi => ?_⟩
    cases i with
    | zero => simp at hi; subst hi; exact ⟨b, rfl, hb⟩
    | succ i => exact hm i a (by simpa using hi)

/-- over the numbers below n -/
theorem range_choose {β : Type} {R : Nat → β → Prop} (n : Nat) (h : ∀ i, i < n → ∃ b, R i b) : ∃ m : List β, m.length = n ∧ ∀ (i : Nat) (b : β), m[i]? = some b → R i b := by
  obtain ⟨m, hl, hm⟩ := list_choose (R := R) (List.range n) (fun i hi => h i (List.mem_range.1 hi))
  rw [List.length_range] at hl
  refine ⟨m, hl, fun i b hb => ?_⟩
  have hi : i < n := by rw [← hl]; exact (List.getElem?_eq_some_iff.1 hb).1
  obtain ⟨b', hb', hr⟩ := hm i i (by rw [List.getElem?_range]; exact hi)
  rw [hb] at hb'
  injection hb' with hb'
  exact hb' ▸ hr

/-- a cell of a list laid out row by row -/
theorem flat_at {α : Type} {f : α → List Value} {m : Nat} (hk : ∀ a, (f a).length = m) {l : List α} {k : Nat} {u : Value} (h : (l.flatMap f)[k]? = some u) : ∃ i j a, k = i * m + j ∧ j < m ∧ l[i]? = some a ∧ (f a)[j]? = some u := by
  induction l generalizing k with
  | nil => simp at h
  | cons p r ih =>
    rw [List.flatMap_cons] at h
    by_cases hlt : k < m
    · rw [List.getElem?_append_left (by rw [hk]; exact hlt)] at h
      exact ⟨0, k, p, by omega, hlt, rfl, h⟩
    · rw [List.getElem?_append_right (by rw [hk]; omega), hk] at h
      obtain ⟨i, j, a, e, hj, ha, hu⟩ := ih h
      refine ⟨i + 1, j, a, ?_, hj, by simpa using ha, hu⟩
      rw [Nat.succ_mul]
      omega
end Go.Cu
