import Derived.Test.YtcalamofccdldaaDoorApartW
import Derived.Test.YtcalamofccdldaaDoorRWStep
/- Four places, and lists beside them, each in memory of its own. -/
namespace Go.Proofs.YtcalamofccdldaaDoor
open Go Go.RowKit Go.Cu Go.Proofs.YtcalamofccdldaaDoor.RI

/-- memory that the four places do not use -/
structure Out (w0 : World) (b : Nat) (P : Nat → Place) (k : Nat) : Prop where
  low : w0.heap.size ≤ k
  nb : k ≠ b
  nf : ∀ j, j < 4 → ¬ (P j).F k
  ng : ∀ j, j < 4 → ¬ (P j).G k
section
variable {w0 w w' : World} {b : Nat} {P : Nat → Place} {H : Nat → Prop}
theorem RW.new (h : RW w0 w b P) {k : Nat} (hk : w.heap.size ≤ k) : Out w0 b P k :=
  ⟨Nat.le_trans h.below.size hk, fun e => by have := h.size; omega, fun j hj hf => by have := (h.at_ j hj).ring.lt k hf; omega, fun j hj hg => by have := (h.at_ j hj).lt k hg; omega⟩
/-- a step elsewhere -/
theorem RW.other (h : RW w0 w b P) (hm : Mod H w w') (hd : ∀ k, H k → Out w0 b P k) : RW w0 w' b P :=
  ⟨hm.heap h.cells (fun hk => (hd b hk).nb rfl), fun i hi => (h.at_ i hi).kept hm (fun k hk hh => (hd k hh).nf i hi hk) (fun k hk hh => (hd k hh).ng i hi hk), h.ff, h.fg, h.nf, h.ng, h.lowF, h.low, h.below.trans (hm.below h.below.size (fun k hk => (hd k hk).low))⟩
end
/-- a list made anew in the step from w to w1; then the row takes it in -/
theorem AP.add {w w1 w2 w3 : World} {F F2 : Nat → Prop} {v v2 u : Value} {n m : Nat} {P : List Ent} {K : List Lx} {xs : List Value} (h : AP 3 38 w v n K F P) (hb1 : Below w.heap.size w w1) (hl : Row w1 (fun k => w.heap.size ≤ k) 3 1 u m xs) (hb : Below w1.heap.size w1 w2) (hm : Mod (fun k => F k ∧ OfE w2 38 k) w2 w3) (hr : Row w3 F2 38 1 v2 (n + 1) (K.map (·.v) ++ [u])) :
    AP 3 38 w3 v2 (n + 1) (K ++ [⟨u, m, xs⟩]) F2 (P ++ [⟨fun k => w.heap.size ≤ k ∧ k < w1.heap.size, [(u, m, xs)]⟩]) :=
  ⟨by rw [List.map_append]; exact hr, ((h.fam.add (h.past hb1).fam hl).past hb).other hm (by decide), by rw [List.map_append, List.map_append, h.views]; rfl⟩
/-- the four places and the lists -/
structure LS (w0 w : World) (b : Nat) (P : Nat → Place) (v : Value) (n : Nat) (K : List Lx) (F : Nat → Prop) (L : List Ent) : Prop where
  rw : RW w0 w b P
  ap : AP 3 38 w v n K F L
  fo : ∀ k, F k → Out w0 b P k ∧ k < w.heap.size
  lo : ∀ k, Foot L k → Out w0 b P k
section
variable {w0 w w1 w2 w3 w' : World} {b : Nat} {P : Nat → Place} {v v2 u : Value} {n m : Nat} {K : List Lx} {F : Nat → Prop} {L : List Ent} {xs : List Value}
theorem RW.ls (h : RW w0 w b P) : LS w0 w b P (.slice none 0 0) 0 [] (fun _ => False) [] :=
  ⟨h, ⟨Row.nil _ _ _ _, Fam.nil _ _ _, rfl⟩, fun _ h => h.elim, fun k hk => by obtain ⟨_, h, _⟩ := hk; cases h⟩
theorem LS.past (h : LS w0 w b P v n K F L) (hb : Below w.heap.size w w') : LS w0 w' b P v n K F L :=
  ⟨h.rw.past hb, h.ap.past hb, fun k hk => ⟨(h.fo k hk).1, Nat.lt_of_lt_of_le (h.fo k hk).2 hb.size⟩, h.lo⟩
/-- one more list -/
theorem LS.add (h : LS w0 w b P v n K F L) (hb1 : Below w.heap.size w w1) (hl : Row w1 (fun k => w.heap.size ≤ k) 3 1 u m xs) (hb : Below w1.heap.size w1 w2) :
    ∃ F', Row w2 F' 38 1 v n (K.map (·.v)) ∧ ∀ w3 v2, Row w3 (fun k => F' k ∨ k = w2.heap.size) 38 1 v2 (n + 1) (K.map (·.v) ++ [u]) → Mod F' w2 w3 → ∃ F2 L2, LS w0 w3 b P v2 (n + 1) (K ++ [⟨u, m, xs⟩]) F2 L2 := by
  have h2 := (h.past hb1).past hb
  refine ⟨fun k => F k ∧ OfE w2 38 k, h2.ap.row.narrow, fun w3 v2 hr hm => ⟨fun k => ((F k ∧ OfE w2 38 k) ∨ k = w2.heap.size) ∧ k < w3.heap.size, _, ⟨h2.rw.other hm (fun k hk => (h.fo k hk.1).1), AP.add h.ap hb1 hl hb hm (hr.mono (fun k hk hl => ⟨hk, hl⟩)), fun k hk => ⟨?_, hk.2⟩, fun k hk => ?_⟩⟩⟩
  · rcases hk.1 with hk | rfl
    · exact (h.fo k hk.1).1
    · exact h2.rw.new (Nat.le_refl _)
  · obtain ⟨p, hp, hk⟩ := hk
    rcases List.mem_append.1 hp with hp | hp
    · exact h.lo k ⟨p, hp, hk⟩
    · rw [List.mem_singleton] at hp
      subst hp
      exact h.rw.new hk.1
/-- a step of the places: the lists live on -/
theorem LS.turn {P' : Nat → Place} (h : LS w0 w b P v n K F L) (hrw : RW w0 w' b P') (hm : Mod (fun k => k = b ∨ ∃ j, j < 4 ∧ (P j).F k) w w')
    (hF : ∀ j, j < 4 → ∀ k, (P' j).F k → (P j).F k ∨ w.heap.size ≤ k) (hG : ∀ j, j < 4 → ∀ k, (P' j).G k → (P j).G k ∨ w.heap.size ≤ k) : LS w0 w' b P' v n K F L := by
  have ho : ∀ k, Out w0 b P k → k < w.heap.size → Out w0 b P' k := fun k hk hl => ⟨hk.low, hk.nb, fun j hj hf => (hF j hj k hf).elim (hk.nf j hj) (fun h => by omega), fun j hj hg => (hG j hj k hg).elim (hk.ng j hj) (fun h => by omega)⟩
  have hd : ∀ k, Out w0 b P k → ¬ (k = b ∨ ∃ j, j < 4 ∧ (P j).F k) := fun k hk hh => by
    rcases hh with hh | ⟨j, hj, hf⟩
    · exact hk.nb hh
    · exact hk.nf j hj hf
  refine ⟨hrw, h.ap.kept hm (fun k hk => hd k (h.fo k hk).1) (fun k hk => hd k (h.lo k hk)), fun k hk => ⟨ho k (h.fo k hk).1 (h.fo k hk).2, Nat.lt_of_lt_of_le (h.fo k hk).2 hm.size⟩, fun k hk => ho k (h.lo k hk) ?_⟩
  obtain ⟨p, hp, hk⟩ := hk
  exact h.ap.fam.low p hp k hk
/-- a step within the lists' memory -/
theorem LS.lists {H : Nat → Prop} {n' : Nat} {K' : List Lx} {v' : Value} {F' : Nat → Prop} {L' : List Ent} (h : LS w0 w b P v n K F L) (hm : Mod H w w') (hH : ∀ k, H k → Out w0 b P k) (hap : AP 3 38 w' v' n' K' F' L') (hF : ∀ k, F' k → (F k ∨ w.heap.size ≤ k) ∧ k < w'.heap.size) (hL : ∀ k, Foot L' k → Foot L k ∨ w.heap.size ≤ k) : LS w0 w' b P v' n' K' F' L' :=
  ⟨h.rw.other hm hH, hap, fun k hk => ⟨(hF k hk).1.elim (fun hk => (h.fo k hk).1) h.rw.new, (hF k hk).2⟩, fun k hk => (hL k hk).elim (h.lo k) h.rw.new⟩
theorem LS.reads (h : LS w0 w b P v n K F L) {q : Nat} {x : Lx} (hx : K[q]? = some x) : Reads w 1 x.v x.n x.xs := by
  obtain ⟨p, _, _, hr⟩ := h.ap.row_at hx
  exact hr.reads
end
end Go.Proofs.YtcalamofccdldaaDoor
