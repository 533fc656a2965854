import Derived.Test.YtjkahckglhpjeaaDoorHWakes
import Derived.Test.YtjkahckglhpjeaaDoorHOps
import Derived.Test.YtjkahckglhpjeaaDoorPut
/- What HandlesNever carries: a handles object, which handles live, and whose place was whose. -/
namespace Go.Proofs.YtjkahckglhpjeaaDoor
open Go Go.RowKit Go.Cu Go.Proofs.YtjkahckglhpjeaaDoor.errs

def bools (B : List Bool) : List Value := B.map Value.bool
theorem bools_length (B : List Bool) : (bools B).length = B.length := by simp [bools]
theorem bools_get {B : List Bool} {i : Nat} {x : Bool} (h : B[i]? = some x) : (bools B)[i]? = some (.bool x) := by simp [bools, h]
theorem bools_set (B : List Bool) (i : Nat) (u : Bool) : (bools B).set i (.bool u) = bools (B.set i u) := by
  unfold bools
  rw [List.map_set]
theorem bools_app (B C : List Bool) : bools B ++ bools C = bools (B ++ C) := by simp [bools]
def pls (P : List Pl) : List Value := P.flatMap Pl.cells
theorem pl_length (p : Pl) : p.cells.length = 3 := rfl
theorem pls_length (P : List Pl) : (pls P).length = P.length * 3 := flat_length pl_length P
theorem pls_app (P Q : List Pl) : pls P ++ pls Q = pls (P ++ Q) := by simp [pls]
theorem pls_one (P : List Pl) : ∀ u ∈ pls P, u.oneCell' = true := by
  intro u hu
  obtain ⟨e, _, hu⟩ := List.mem_flatMap.1 hu
  simp only [Pl.cells, List.mem_cons, List.not_mem_nil, or_false] at hu
  rcases hu with rfl | rfl | rfl <;> rfl
theorem info_bool : (Tryd.prog.info? 4).map (fun i => (i.zero, i.size, i.bytes)) = some (some (.bool false), 1, 1) := by kernel_rfl
theorem info_pl : (Tryd.prog.info? 28).map (fun i => (i.zero, i.size, i.bytes)) = some (some (.agg #[.int .i64 0, .int .i64 0, .int .u32 0]), 3, 24) := by kernel_rfl
theorem size_bool : (Tryd.prog.info? 4).map (·.size) = some 1 := by kernel_rfl
theorem agg_bool (w : World) : (isAgg 4).run Tryd.prog w = .ok false w := by kernel_rfl
theorem size_pl : (Tryd.prog.info? 28).map (·.size) = some 3 := by kernel_rfl
theorem agg_pl (w : World) : (isAgg 28).run Tryd.prog w = .ok true w := by kernel_rfl
/-- the book: of handle h, in place h - 1, whether it lives, and its place -/
structure Nv (L : List HE) (B : List Bool) (P : List Pl) (g : Nat) : Prop where
  lb : B.length = g
  lp : P.length = g
  yes : ∀ e ∈ L, ∃ i : Nat, e.h = (i : Int) + 1 ∧ B[i]? = some true ∧ P[i]? = some e.p
  no : ∀ i : Nat, i < g → (∀ e ∈ L, e.h ≠ (i : Int) + 1) → B[i]? = some false
theorem Nv.nil : Nv [] [] [] 0 := ⟨rfl, rfl, fun _ h => (List.not_mem_nil h).elim, fun _ hi => absurd hi (Nat.not_lt_zero _)⟩
theorem Nv.drop {a b : List HE} {e : HE} {B : List Bool} {P : List Pl} {g i : Nat} (h : Nv (a ++ e :: b) B P g) (hr : (a ++ e :: b).Pairwise (fun x y => x.h ≠ y.h)) (hi : e.h = (i : Int) + 1) : Nv (a ++ b) (B.set i false) P g := by
  obtain ⟨q1, q2, _⟩ := mid_ne hr
  have hne : ∀ x ∈ a ++ b, x.h ≠ e.h := fun x hx => by
    rcases List.mem_append.1 hx with hx | hx
    · exact q1 x hx
    · exact fun e => q2 x hx e.symm
  have hsub : ∀ x ∈ a ++ b, x ∈ a ++ e :: b := fun x hx => by
    rcases List.mem_append.1 hx with hx | hx
    · exact List.mem_append_left _ hx
    · exact List.mem_append_right _ (List.mem_cons_of_mem _ hx)
  refine ⟨by simpa using h.lb, h.lp, fun x hx => ?_, fun j hj hn => ?_⟩
  · obtain ⟨j, h1, h2, h3⟩ := h.yes x (hsub x hx)
    have hij : i ≠ j := fun e' => hne x hx (by rw [h1, hi, e'])
    exact ⟨j, h1, by rw [List.getElem?_set_ne hij]; exact h2, h3⟩
  · by_cases hij : i = j
    · subst hij
      rw [List.getElem?_set_self (by have := h.lb; omega)]
    · rw [List.getElem?_set_ne hij]
      refine h.no j hj (fun x hx he => ?_)
      rcases List.mem_append.1 hx with hx | hx
      · exact hn x (List.mem_append_left _ hx) he
      · rcases List.mem_cons.1 hx with rfl | hx
        · rw [hi] at he; omega
        · exact hn x (List.mem_append_right _ hx) he
theorem Nv.bind {L : List HE} {B : List Bool} {P : List Pl} {g : Nat} (h : Nv L B P g) (p : Pl) : Nv (L ++ [⟨(g + 1 : Nat), p⟩]) (B ++ [true]) (P ++ [p]) (g + 1) := by
  have hb := h.lb
  have hp := h.lp
  refine ⟨by simp [hb], by simp [hp], fun x hx => ?_, fun j hj hn => ?_⟩
  · rcases List.mem_append.1 hx with hx | hx
    · obtain ⟨j, h1, h2, h3⟩ := h.yes x hx
      have hj1 := (List.getElem?_eq_some_iff.1 h2).1
      have hj2 := (List.getElem?_eq_some_iff.1 h3).1
      exact ⟨j, h1, by rw [List.getElem?_append_left hj1]; exact h2, by rw [List.getElem?_append_left hj2]; exact h3⟩
    · rw [List.mem_singleton] at hx
      subst hx
      exact ⟨g, rfl, by rw [List.getElem?_append_right (by omega), hb]; simp, by rw [List.getElem?_append_right (by omega), hp]; simp⟩
  · by_cases hjg : j = g
    · subst hjg
      exact absurd rfl (hn ⟨(j + 1 : Nat), p⟩ (List.mem_append_right _ (List.mem_singleton.2 rfl)))
    · rw [List.getElem?_append_left (by omega)]
      exact h.no j (by omega) (fun x hx => hn x (List.mem_append_left _ hx))
/-- the state -/
structure NS (w0 w : World) (c m1 m2 g : Nat) (L : List HE) (lv pv : Value) (B : List Bool) (P : List Pl) : Prop where
  h1 : H1 w0 w c m1 m2 g L
  live : Row w (New w0) 4 1 lv g (bools B)
  place : Row w (New w0) 28 3 pv g (pls P)
  nv : Nv L B P g
section
variable {w0 w w' w2 : World} {c m1 m2 g g' : Nat} {L L' : List HE} {lv pv : Value} {B : List Bool} {P : List Pl}
theorem NS.past (h : NS w0 w c m1 m2 g L lv pv B P) (hb : Below w.heap.size w w') : NS w0 w' c m1 m2 g L lv pv B P :=
  ⟨h.h1.past hb, h.live.kept (Mod.ofBelow hb (fun _ => False)) (fun _ _ _ h => h), h.place.kept (Mod.ofBelow hb (fun _ => False)) (fun _ _ _ h => h), h.nv⟩
/-- the handles' own step: the book's rows stand -/
theorem NS.rows (h : NS w0 w c m1 m2 g L lv pv B P) (hm : Mod (InH c m1 m2) w w') : Row w' (New w0) 4 1 lv g (bools B) ∧ Row w' (New w0) 28 3 pv g (pls P) :=
  ⟨h.h1.hs.row (by decide) hm h.live, h.h1.hs.row (by decide) hm h.place⟩
theorem NS.dropped {a b : List HE} {e : HE} {i : Nat} (h : NS w0 w c m1 m2 g (a ++ e :: b) lv pv B P) (hi : e.h = (i : Int) + 1) (hs : HS w' c m1 m2 g (a ++ b)) (hm : Mod (InH c m1 m2) w w')
    (hr : Row w2 (fun k => New w0 k ∧ OfE w' 4 k) 4 1 lv g ((bools B).set i (.bool false))) (hm2 : Mod (fun k => New w0 k ∧ OfE w' 4 k) w' w2) : NS w0 w2 c m1 m2 g (a ++ b) lv pv (B.set i false) P := by
  have h1 := h.h1.turn hs hm
  refine ⟨⟨h1.hs.far (by decide) hm2, h1.low, h1.below.trans (hm2.below h1.below.size (fun k hk => hk.1))⟩, ?_, ?_, h.nv.drop h.h1.hs.hne hi⟩
  · rw [← bools_set]
    exact hr.mono (fun k hk _ => hk.1)
  · exact ((h.rows hm).2.narrow.kept hm2 (fun k hk _ hg => by
      obtain ⟨_, c1, e1⟩ := hk
      obtain ⟨_, c2, e2⟩ := hg
      rw [e1] at e2
      cases e2)).mono (fun k hk _ => hk.1)
end
end Go.Proofs.YtjkahckglhpjeaaDoor
