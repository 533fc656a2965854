import Derived.Test.YtccojgaahoonhaaDoorPOnceS
/- PingsOnce: how many of those that wait are at most so great. -/
namespace Go.Proofs.YtccojgaahoonhaaDoor
open Go Go.RowKit Go.Cu
def upto (W : List Int) (j : Nat) : Nat := (W.filter fun x => decide (x ≤ (j : Int))).length
theorem upto_zero {W : List Int} {n : Nat} (h : Inc W n) : upto W 0 = 0 := by
  unfold upto
  rw [List.length_eq_zero_iff, List.filter_eq_nil_iff]
  intro x hx
  have := (h.bd x hx).1
  simp; omega
theorem upto_all {W : List Int} {n : Nat} (h : Inc W n) : upto W n = W.length := by
  unfold upto
  rw [List.filter_eq_self.2 (fun x hx => by have := (h.bd x hx).2; simp; omega)]
theorem inc_split {W : List Int} {n : Nat} (h : Inc W n) {t : Int} (ht : t ∈ W) : ∃ a b, W = a ++ t :: b ∧ (∀ x ∈ a, x < t) ∧ ∀ x ∈ b, t < x := by
  obtain ⟨a, b, rfl⟩ := List.append_of_mem ht
  have hu := h.up
  rw [List.pairwise_append, List.pairwise_cons] at hu
  exact ⟨a, b, rfl, fun x hx => hu.2.2 x hx t (List.mem_cons_self ..), hu.2.1.1⟩
theorem upto_split {a b : List Int} {t : Int} {j : Nat} (hj : (j : Int) + 1 = t) (ha : ∀ x ∈ a, x < t) (hb : ∀ x ∈ b, t < x) : upto (a ++ t :: b) j = a.length ∧ upto (a ++ t :: b) (j + 1) = a.length + 1 := by
  unfold upto
  constructor
  · rw [List.filter_append, List.filter_eq_self.2 (fun x hx => by have := ha x hx; simp; omega), List.filter_eq_nil_iff.2 (fun x hx => by
      rcases List.mem_cons.1 hx with rfl | hx
      · simp; omega
      · have := hb x hx; simp; omega), List.append_nil]
  · rw [List.filter_append, List.filter_eq_self.2 (fun x hx => by have := ha x hx; simp; omega), List.filter_cons_of_pos (by simp; omega), List.filter_eq_nil_iff.2 (fun x hx => by have := hb x hx; simp; omega)]
    simp
theorem upto_in {W : List Int} {n j : Nat} (h : Inc W n) {t : Int} (hj : (j : Int) + 1 = t) (ht : t ∈ W) : W[upto W j]? = some t ∧ upto W (j + 1) = upto W j + 1 := by
  obtain ⟨a, b, rfl, ha, hb⟩ := inc_split h ht
  obtain ⟨h1, h2⟩ := upto_split (b := b) hj ha hb
  rw [h1, h2]
  exact ⟨by rw [List.getElem?_append_right (Nat.le_refl _)]; simp, rfl⟩
theorem upto_out {W : List Int} {j : Nat} {t : Int} (hj : (j : Int) + 1 = t) (ht : t ∉ W) : upto W (j + 1) = upto W j := by
  unfold upto
  congr 1
  apply List.filter_congr
  intro x hx
  have hne : x ≠ t := fun e => ht (e ▸ hx)
  rw [decide_eq_decide]
  omega
theorem count_one {H : List Int} (hn : H.Nodup) (t : Int) : H.count t = if t ∈ H then 1 else 0 := by
  split
  · rename_i h
    exact hn.count.trans (if_pos h)
  · rename_i h
    exact List.count_eq_zero.2 h
theorem count_take {H : List Int} {l : Nat} {u t : Int} (hu : H[l]? = some u) : (H.take (l + 1)).count t = (H.take l).count t + if u = t then 1 else 0 := by
  rw [List.take_add_one, hu, List.count_append]
  simp [List.count_cons]
end Go.Proofs.YtccojgaahoonhaaDoor
