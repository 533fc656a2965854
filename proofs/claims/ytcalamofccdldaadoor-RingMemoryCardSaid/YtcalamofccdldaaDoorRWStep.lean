import Derived.Test.YtcalamofccdldaaDoorSeen
import Derived.Test.YtcalamofccdldaaDoorOpsW
/- A step in one place of four. -/
namespace Go.Proofs.YtcalamofccdldaaDoor
open Go Go.RowKit Go.Cu Go.Proofs.YtcalamofccdldaaDoor.RI
section
variable {w0 w w' : World} {b : Nat} {P : Nat → Place}
/-- a step of both in one place, the world's cells stored on the way -/
theorem RW.step (h : RW w0 w b P) (i : Nat) (hi : i < 4) (x : Place) (hm : Mod (fun k => k = b ∨ (P i).F k) w w') (hx : At w' x) (hF : ∀ k, x.F k → (P i).F k ∨ w.heap.size ≤ k) (hG : ∀ k, x.G k → (P i).G k ∨ w.heap.size ≤ k)
    (hFG : ∀ k, x.F k → ¬ x.G k) (hc : w'.heap[b]? = some (.cells (rwCells (upd P i x)) 64 (0, 0))) : RW w0 w' b (upd P i x) := by
  have hbl := h.size
  have hlt : ∀ j, j < 4 → ∀ k, (P j).F k → k < w.heap.size := fun j hj => (h.at_ j hj).ring.lt
  have hlg : ∀ j, j < 4 → ∀ k, (P j).G k → k < w.heap.size := fun j hj => (h.at_ j hj).lt
  refine ⟨hc, fun j hj => ?_, fun j l hj hl hne k hk hk2 => ?_, fun j l hj hl k hk hk2 => ?_, fun j hj hf => ?_, fun j hj hg => ?_, fun j hj k hk => ?_, h.low, h.below.trans (hm.below h.below.size (fun k hk => hk.elim (fun e => by have := h.low; omega) (h.lowF i hi k)))⟩
  · by_cases e : j = i
    · subst e; rw [upd_same]; exact hx
    · rw [upd_other P x e]
      exact (h.at_ j hj).kept hm (fun k hk hf => hf.elim (fun e => h.nf j hj (e ▸ hk)) (h.ff j i hj hi e k hk)) (fun k hk hf => hf.elim (fun e => h.ng j hj (e ▸ hk)) (fun hf => h.fg i j hi hj k hf hk))
  · by_cases e : j = i
    · subst e
      rw [upd_same] at hk
      rw [upd_other P x (fun e => hne e.symm)] at hk2
      rcases hF k hk with hk | hk
      · exact h.ff j l hj hl hne k hk hk2
      · have := hlt l hl k hk2; omega
    · rw [upd_other P x e] at hk
      by_cases e2 : l = i
      · subst e2
        rw [upd_same] at hk2
        rcases hF k hk2 with hk2 | hk2
        · exact h.ff j l hj hl hne k hk hk2
        · have := hlt j hj k hk; omega
      · rw [upd_other P x e2] at hk2
        exact h.ff j l hj hl hne k hk hk2
  · by_cases e : j = i
    · subst e
      rw [upd_same] at hk
      by_cases e2 : l = j
      · subst e2
        rw [upd_same] at hk2
        exact hFG k hk hk2
      · rw [upd_other P x e2] at hk2
        rcases hF k hk with hk | hk
        · exact h.fg j l hj hl k hk hk2
        · have := hlg l hl k hk2; omega
    · rw [upd_other P x e] at hk
      by_cases e2 : l = i
      · subst e2
        rw [upd_same] at hk2
        rcases hG k hk2 with hk2 | hk2
        · exact h.fg j l hj hl k hk hk2
        · have := hlt j hj k hk; omega
      · rw [upd_other P x e2] at hk2
        exact h.fg j l hj hl k hk hk2
  · by_cases e : j = i
    · subst e
      rw [upd_same] at hf
      exact (hF b hf).elim (h.nf j hj) (fun hl => by omega)
    · rw [upd_other P x e] at hf
      exact h.nf j hj hf
  · by_cases e : j = i
    · subst e
      rw [upd_same] at hg
      exact (hG b hg).elim (h.ng j hj) (fun hl => by omega)
    · rw [upd_other P x e] at hg
      exact h.ng j hj hg
  · by_cases e : j = i
    · subst e
      rw [upd_same] at hk
      exact (hF k hk).elim (h.lowF j hj k) (fun hl => by have := h.below.size; omega)
    · rw [upd_other P x e] at hk
      exact h.lowF j hj k hk
/-- all three of a place's cells -/
theorem store_all (hc : w.heap[b]? = some (.cells (rwCells P) 64 (0, 0))) (i : Nat) (hi : i < 4) (x : Place) :
    (((w.setCell ⟨b, i, none⟩ x.p).setCell ⟨b, 4 + i * 2, none⟩ (.int .i64 x.cap)).setCell ⟨b, 4 + i * 2 + 1, none⟩ (.slice x.A x.L.length x.c)).heap[b]? = some (.cells (rwCells (upd P i x)) 64 (0, 0)) := by
  have h0 := heap_setCell_same _ b i _ 64 x.p hc
  have h1 := heap_setCell_same _ b (4 + i * 2) _ 64 (.int .i64 x.cap) h0
  have h2 := heap_setCell_same _ b (4 + i * 2 + 1) _ 64 (.slice x.A x.L.length x.c) h1
  rw [h2, rw_upd P i hi x]
/-- a new row -/
theorem row_made {w w' : World} {A : Option Addr} {c n : Nat} {L : List Int} (hr : Row w' (New w) 3 1 (.slice A n c) n (ints L)) : Row w' (fun k => w.heap.size ≤ k ∧ k < w'.heap.size) 3 1 (.slice A n c) n (ints L) :=
  hr.mono (fun _ hk hl => ⟨hk, hl⟩)
end
/-- what a step leaves -/
def RWPost (w0 : World) (b : Nat) (P : Nat → Place) (w : World) (e : Ending) (w' : World) : Prop := e = .returned (.bool true) ∧ (∃ P', RW w0 w' b P') ∧ Mod (fun k => k = b ∨ ∃ j, j < 4 ∧ (P j).F k) w w'
end Go.Proofs.YtcalamofccdldaaDoor
