import Derived.Test.YtcalamofccdldaaDoorNilR
import Derived.Test.YtcalamofccdldaaDoorRefR
/- Four places: in each a ring of the program's (or none) and the document's. -/
namespace Go.Proofs.YtcalamofccdldaaDoor
open Go Go.RowKit Go.Cu Go.Proofs.YtcalamofccdldaaDoor.RI

/-- a place: the ring's pointer, its memory, its capacity and list; the document's slice and its memory -/
structure Place where
  p : Value
  F : Nat → Prop
  cap : Nat
  L : List Int
  A : Option Addr
  c : Nat
  G : Nat → Prop

/-- one place -/
structure At (w : World) (x : Place) : Prop where
  ring : RN w x.F x.p x.cap x.L
  row : Row w x.G 3 1 (.slice x.A x.L.length x.c) x.L.length (ints x.L)
  lt : ∀ k, x.G k → k < w.heap.size
theorem At.kept {w w' : World} {x : Place} {H : Nat → Prop} (h : At w x) (hm : Mod H w w') (h1 : ∀ k, x.F k → ¬ H k) (h2 : ∀ k, x.G k → ¬ H k) : At w' x :=
  ⟨h.ring.kept hm h1, h.row.kept hm (fun k hk _ => h2 k hk), fun k hk => Nat.lt_of_lt_of_le (h.lt k hk) hm.size⟩
theorem At.below {w w' : World} {x : Place} (h : At w x) (hb : Below w.heap.size w w') : At w' x := h.kept (Mod.ofBelow hb (fun _ => False)) (fun _ _ h => h) (fun _ _ h => h)

/-- the world's cells -/
def rwCells (P : Nat → Place) : Array Value :=
  #[(P 0).p, (P 1).p, (P 2).p, (P 3).p, .int .i64 (P 0).cap, .slice (P 0).A (P 0).L.length (P 0).c, .int .i64 (P 1).cap, .slice (P 1).A (P 1).L.length (P 1).c,
    .int .i64 (P 2).cap, .slice (P 2).A (P 2).L.length (P 2).c, .int .i64 (P 3).cap, .slice (P 3).A (P 3).L.length (P 3).c]
/-- Block b holds four places whose memories have nothing in common. -/
structure RW (w0 w : World) (b : Nat) (P : Nat → Place) : Prop where
  cells : w.heap[b]? = some (.cells (rwCells P) 64 (0, 0))
  at_ : ∀ i, i < 4 → At w (P i)
  ff : ∀ i j, i < 4 → j < 4 → i ≠ j → ∀ k, (P i).F k → ¬ (P j).F k
  fg : ∀ i j, i < 4 → j < 4 → ∀ k, (P i).F k → ¬ (P j).G k
  nf : ∀ i, i < 4 → ¬ (P i).F b
  ng : ∀ i, i < 4 → ¬ (P i).G b
  lowF : ∀ i, i < 4 → ∀ k, (P i).F k → w0.heap.size ≤ k
  low : w0.heap.size ≤ b
  below : Below w0.heap.size w0 w
/-- a place turned -/
def upd (P : Nat → Place) (i : Nat) (x : Place) : Nat → Place := fun j => if j = i then x else P j
theorem upd_same (P : Nat → Place) (i : Nat) (x : Place) : upd P i x i = x := by simp [upd]
theorem upd_other (P : Nat → Place) {i j : Nat} (x : Place) (h : j ≠ i) : upd P i x j = P j := by simp [upd, h]
theorem upd_self (P : Nat → Place) (i : Nat) : upd P i (P i) = P := by funext j; unfold upd; split <;> simp_all

section
variable {w0 w w' : World} {b : Nat} {P : Nat → Place}
theorem RW.size (h : RW w0 w b P) : b < w.heap.size := (Array.getElem?_eq_some_iff.1 h.cells).1
theorem RW.past (h : RW w0 w b P) (hb : Below w.heap.size w w') : RW w0 w' b P :=
  ⟨(hb.block _ h.size).trans h.cells, fun i hi => (h.at_ i hi).below hb, h.ff, h.fg, h.nf, h.ng, h.lowF, h.low, h.below.trans (hb.mono h.below.size)⟩
/-- a step of the ring in one place; the document's is as it was or new -/
theorem RW.turn (h : RW w0 w b P) (i : Nat) (hi : i < 4) (x : Place) (hm : Mod (P i).F w w') (hx : At w' x) (hF : ∀ k, x.F k → (P i).F k ∨ w.heap.size ≤ k) (hG : ∀ k, x.G k → (P i).G k ∨ w.heap.size ≤ k)
    (hFG : ∀ k, x.F k → ¬ x.G k) :
    (∀ j, j < 4 → At w' (upd P i x j)) ∧ (∀ j l, j < 4 → l < 4 → j ≠ l → ∀ k, (upd P i x j).F k → ¬ (upd P i x l).F k) ∧ (∀ j l, j < 4 → l < 4 → ∀ k, (upd P i x j).F k → ¬ (upd P i x l).G k) ∧
      (∀ j, j < 4 → ¬ (upd P i x j).F b) ∧ (∀ j, j < 4 → ¬ (upd P i x j).G b) ∧ (∀ j, j < 4 → ∀ k, (upd P i x j).F k → w0.heap.size ≤ k) ∧ w'.heap[b]? = some (.cells (rwCells P) 64 (0, 0)) ∧ Below w0.heap.size w0 w' := by
  have hbl := h.size
  have hlt : ∀ j, j < 4 → ∀ k, (P j).F k → k < w.heap.size := fun j hj => (h.at_ j hj).ring.lt
  have hlg : ∀ j, j < 4 → ∀ k, (P j).G k → k < w.heap.size := fun j hj => (h.at_ j hj).lt
  refine ⟨fun j hj => ?_, fun j l hj hl hne k hk hk2 => ?_, fun j l hj hl k hk hk2 => ?_, fun j hj hf => ?_, fun j hj hg => ?_, fun j hj k hk => ?_, hm.heap h.cells (h.nf i hi), h.below.trans (hm.below h.below.size (h.lowF i hi))⟩
  · by_cases e : j = i
    · subst e; rw [upd_same]; exact hx
    · rw [upd_other P x e]
      exact (h.at_ j hj).kept hm (fun k hk => h.ff j i hj hi e k hk) (fun k hk hf => h.fg i j hi hj k hf hk)
  · by_cases e : j = i
    · subst e
      rw [upd_same] at hk
      rw [upd_other P x (fun e => hne e.symm)] at hk2
      rcases hF k hk with hk | hk
      · exact h.ff j l hj hl hne k hk hk2
      · have := hlt l hl k hk2; omega
    · rw [upd_other P x e] at hk
      by_cases e2 : l = i
      · subst e2
        rw [upd_same] at hk2
        rcases hF k hk2 with hk2 | hk2
        · exact h.ff j l hj hl hne k hk hk2
        · have := hlt j hj k hk; omega
      · rw [upd_other P x e2] at hk2
        exact h.ff j l hj hl hne k hk hk2
  · by_cases e : j = i
    · subst e
      rw [upd_same] at hk
      by_cases e2 : l = j
      · subst e2
        rw [upd_same] at hk2
        exact hFG k hk hk2
      · rw [upd_other P x e2] at hk2
        rcases hF k hk with hk | hk
        · exact h.fg j l hj hl k hk hk2
        · have := hlg l hl k hk2; omega
    · rw [upd_other P x e] at hk
      by_cases e2 : l = i
      · subst e2
        rw [upd_same] at hk2
        rcases hG k hk2 with hk2 | hk2
        · exact h.fg j l hj hl k hk hk2
        · have := hlt j hj k hk; omega
      · rw [upd_other P x e2] at hk2
        exact h.fg j l hj hl k hk hk2
  · by_cases e : j = i
    · subst e
      rw [upd_same] at hf
      exact (hF b hf).elim (h.nf j hj) (fun hl => by omega)
    · rw [upd_other P x e] at hf
      exact h.nf j hj hf
  · by_cases e : j = i
    · subst e
      rw [upd_same] at hg
      exact (hG b hg).elim (h.ng j hj) (fun hl => by omega)
    · rw [upd_other P x e] at hg
      exact h.ng j hj hg
  · by_cases e : j = i
    · subst e
      rw [upd_same] at hk
      exact (hF k hk).elim (h.lowF j hj k) (fun hl => by have := h.below.size; omega)
    · rw [upd_other P x e] at hk
      exact h.lowF j hj k hk
theorem rw_upd (P : Nat → Place) (i : Nat) (hi : i < 4) (x : Place) :
    rwCells (upd P i x) = (((rwCells P).setIfInBounds i x.p).setIfInBounds (4 + i * 2) (.int .i64 x.cap)).setIfInBounds (4 + i * 2 + 1) (.slice x.A x.L.length x.c) := by
  match i, hi with
  | 0, _ => simp [rwCells, upd]
  | 1, _ => simp [rwCells, upd]
  | 2, _ => simp [rwCells, upd]
  | 3, _ => simp [rwCells, upd]
theorem setSelf {xs : Array Value} {i : Nat} {v : Value} (h : xs[i]? = some v) : xs.setIfInBounds i v = xs := by
  obtain ⟨hi, hv⟩ := Array.getElem?_eq_some_iff.1 h
  subst hv
  apply Array.ext_getElem?
  intro j
  rw [Array.getElem?_setIfInBounds]
  split
  · rename_i e
    subst e
    simp [hi]
  · rfl
theorem rw_at (P : Nat → Place) (i : Nat) (hi : i < 4) : (rwCells P)[i]? = some (P i).p ∧ (rwCells P)[4 + i * 2]? = some (.int .i64 (P i).cap) ∧ (rwCells P)[4 + i * 2 + 1]? = some (.slice (P i).A (P i).L.length (P i).c) := by
  match i, hi with
  | 0, _ => exact ⟨rfl, rfl, rfl⟩
  | 1, _ => exact ⟨rfl, rfl, rfl⟩
  | 2, _ => exact ⟨rfl, rfl, rfl⟩
  | 3, _ => exact ⟨rfl, rfl, rfl⟩
/-- what lies in a place's cells -/
theorem RW.facts (h : RW w0 w b P) (i : Nat) (hi : i < 4) : w.cell? ⟨b, i, none⟩ = some (P i).p ∧ w.cell? ⟨b, 4 + i * 2, none⟩ = some (.int .i64 (P i).cap) ∧ w.cell? ⟨b, 4 + i * 2 + 1, none⟩ = some (.slice (P i).A (P i).L.length (P i).c) ∧
    w.frozen? ⟨b, i, none⟩ = false ∧ w.frozen? ⟨b, 4 + i * 2, none⟩ = false ∧ w.frozen? ⟨b, 4 + i * 2 + 1, none⟩ = false := by
  obtain ⟨h1, h2, h3⟩ := rw_at P i hi
  exact ⟨by rw [cell_of_row w b i _ _ _ h.cells]; exact h1, by rw [cell_of_row w b _ _ _ _ h.cells]; exact h2, by rw [cell_of_row w b _ _ _ _ h.cells]; exact h3, frozen_of_row w b _ _ _ h.cells, frozen_of_row w b _ _ _ h.cells, frozen_of_row w b _ _ _ h.cells⟩
/-- behind a step in one place, its cells stored -/
theorem RW.store (h : RW w0 w b P) {w2 : World} (i : Nat) (hi : i < 4) (x : Place) (hm : Mod (P i).F w w') (hx : At w' x) (hF : ∀ k, x.F k → (P i).F k ∨ w.heap.size ≤ k) (hG : ∀ k, x.G k → (P i).G k ∨ w.heap.size ≤ k)
    (hFG : ∀ k, x.F k → ¬ x.G k) (hm2 : Mod (fun k => k = b) w' w2) (hc : w2.heap[b]? = some (.cells (rwCells (upd P i x)) 64 (0, 0))) : RW w0 w2 b (upd P i x) := by
  obtain ⟨h1, h2, h3, h4, h5, h6, h7, h8⟩ := h.turn i hi x hm hx hF hG hFG
  exact ⟨hc, fun j hj => (h1 j hj).kept hm2 (fun k hk e => h4 j hj (e ▸ hk)) (fun k hk e => h5 j hj (e ▸ hk)), h2, h3, h4, h5, h6, h.low, h8.trans (hm2.below h8.size (fun k e => by have := h.low; omega))⟩
/-- the document's cells alone -/
theorem store_m (hc : w.heap[b]? = some (.cells (rwCells P) 64 (0, 0))) (i : Nat) (hi : i < 4) (x : Place) (hp : x.p = (P i).p) :
    ((w.setCell ⟨b, 4 + i * 2, none⟩ (.int .i64 x.cap)).setCell ⟨b, 4 + i * 2 + 1, none⟩ (.slice x.A x.L.length x.c)).heap[b]? = some (.cells (rwCells (upd P i x)) 64 (0, 0)) := by
  have h1 := heap_setCell_same _ b (4 + i * 2) _ 64 (.int .i64 x.cap) hc
  have h2 := heap_setCell_same _ b (4 + i * 2 + 1) _ 64 (.slice x.A x.L.length x.c) h1
  rw [h2, rw_upd P i hi x]
  have e : (rwCells P).setIfInBounds i x.p = rwCells P := by
    have := (rw_at P i hi).1
    rw [hp]
    exact setSelf this
  rw [e]
end
end Go.Proofs.YtcalamofccdldaaDoor
