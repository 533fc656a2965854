import Derived.Test.YtccojgaahoonhaaDoorLib
/- A family of lists, each in memory of its own. -/
namespace Go.Cu
open Go Go.RowKit

theorem ofE_ne {w : World} {e e' : TypeId} {k : Nat} (h1 : OfE w e k) (h2 : OfE w e' k) (hne : e ≠ e') : False := by
  obtain ⟨_, h1⟩ := h1
  obtain ⟨_, h2⟩ := h2
  rw [h1] at h2
  injection h2 with h2
  injection h2 with _ h3 _
  exact hne h3
/-- memory, and the slices that are seen in it -/
structure Ent where
  F : Nat → Prop
  vs : List (Value × Nat × List Value)
def Ent.At (e : TypeId) (sz : Nat) (w : World) (p : Ent) : Prop := ∀ x ∈ p.vs, Row w p.F e sz x.1 x.2.1 x.2.2
/-- each stands; no two share a block -/
structure Fam (e : TypeId) (sz : Nat) (w : World) (P : List Ent) : Prop where
  each : ∀ p ∈ P, p.At e sz w
  apart : P.Pairwise (fun p q => ∀ k, p.F k → ¬ q.F k)
  low : ∀ p ∈ P, ∀ k, p.F k → k < w.heap.size
section
variable {e : TypeId} {sz : Nat} {w w' : World} {P : List Ent} {G : Nat → Prop}
theorem Fam.nil (e : TypeId) (sz : Nat) (w : World) : Fam e sz w [] := ⟨fun _ h => (List.not_mem_nil h).elim, .nil, fun _ h => (List.not_mem_nil h).elim⟩
/-- a step elsewhere -/
theorem Fam.kept (h : Fam e sz w P) (hm : Mod G w w') (hn : ∀ p ∈ P, ∀ k, p.F k → ¬ G k) : Fam e sz w' P :=
  ⟨fun p hp x hx => (h.each p hp x hx).kept hm (fun k hk _ => hn p hp k hk), h.apart, fun p hp k hk => Nat.lt_of_lt_of_le (h.low p hp k hk) hm.size⟩
theorem Fam.past (h : Fam e sz w P) (hb : Below w.heap.size w w') : Fam e sz w' P := h.kept (Mod.ofBelow hb (fun _ => False)) (fun _ _ _ _ h => h)
/-- a step in memory of another element type -/
theorem Fam.other {e' : TypeId} (h : Fam e sz w P) (hm : Mod (fun k => G k ∧ OfE w e' k) w w') (hne : e ≠ e') : Fam e sz w' P :=
  ⟨fun p hp x hx => ((h.each p hp x hx).narrow.kept hm (fun _ hk _ hg => ofE_ne hk.2 hg.2 hne)).mono (fun _ hk _ => hk.1), h.apart, fun p hp k hk => Nat.lt_of_lt_of_le (h.low p hp k hk) hm.size⟩
/-- one more, in memory that was not there ahead of the step -/
theorem Fam.add (h : Fam e sz w P) (h1 : Fam e sz w' P) {v : Value} {n : Nat} {xs : List Value} (hr : Row w' (fun k => w.heap.size ≤ k) e sz v n xs) : Fam e sz w' (P ++ [⟨fun k => w.heap.size ≤ k ∧ k < w'.heap.size, [(v, n, xs)]⟩]) := by
  refine ⟨fun p hp => ?_, ?_, fun p hp => ?_⟩
  · rcases List.mem_append.1 hp with hp | hp
    · exact h1.each p hp
    · rw [List.mem_singleton] at hp
      subst hp
      intro x hx
      rw [List.mem_singleton] at hx
      subst hx
      exact hr.mono (fun k hk hl => ⟨hk, hl⟩)
  · rw [List.pairwise_append]
    refine ⟨h1.apart, List.pairwise_singleton _ _, fun p hp q hq k hk hk2 => ?_⟩
    rw [List.mem_singleton] at hq
    subst hq
    have := h.low p hp k hk
    exact absurd hk2.1 (by omega)
  · rcases List.mem_append.1 hp with hp | hp
    · exact h1.low p hp
    · rw [List.mem_singleton] at hp
      subst hp
      exact fun k hk => hk.2
/-- a step within one of them: what it leaves there is told -/
theorem Fam.turn {A B : List Ent} {p q : Ent} (h : Fam e sz w (A ++ p :: B)) (hm : Mod p.F w w') (hq : q.At e sz w') (hF : ∀ k, q.F k → p.F k ∨ (w.heap.size ≤ k ∧ k < w'.heap.size)) : Fam e sz w' (A ++ q :: B) := by
  have hap := h.apart
  rw [List.pairwise_append, List.pairwise_cons] at hap
  obtain ⟨h1, ⟨h2, h3⟩, h4⟩ := hap
  have hlow : ∀ r ∈ A ++ B, ∀ k, r.F k → k < w.heap.size := fun r hr => h.low r (by rcases List.mem_append.1 hr with hr | hr; exact List.mem_append_left _ hr; exact List.mem_append_right _ (List.mem_cons_of_mem _ hr))
  have hpn : ∀ r ∈ A ++ B, ∀ k, r.F k → ¬ p.F k := fun r hr k hk hp => by
    rcases List.mem_append.1 hr with hr | hr
    · exact h4 r hr p (List.mem_cons_self ..) k hk hp
    · exact h2 r hr k hp hk
  have hat : ∀ r ∈ A ++ B, r.At e sz w' := fun r hr x hx => (h.each r (by rcases List.mem_append.1 hr with hr | hr; exact List.mem_append_left _ hr; exact List.mem_append_right _ (List.mem_cons_of_mem _ hr)) x hx).kept hm (fun k hk _ => hpn r hr k hk)
  have hqn : ∀ r ∈ A ++ B, ∀ k, r.F k → ¬ q.F k := fun r hr k hk hq => (hF k hq).elim (fun hp => hpn r hr k hk hp) (fun hs => by have := hlow r hr k hk; omega)
  refine ⟨fun r hr => ?_, ?_, fun r hr k hk => ?_⟩
  · rcases List.mem_append.1 hr with hr | hr
    · exact hat r (List.mem_append_left _ hr)
    · rcases List.mem_cons.1 hr with rfl | hr
      · exact hq
      · exact hat r (List.mem_append_right _ hr)
  · rw [List.pairwise_append, List.pairwise_cons]
    refine ⟨h1, ⟨fun r hr k hk hr2 => hqn r (List.mem_append_right _ hr) k hr2 hk, h3⟩, fun a ha r hr k hk hr2 => ?_⟩
    rcases List.mem_cons.1 hr with rfl | hr
    · exact hqn a (List.mem_append_left _ ha) k hk hr2
    · exact h4 a ha r (List.mem_cons_of_mem _ hr) k hk hr2
  · have hsz := hm.size
    rcases List.mem_append.1 hr with hr | hr
    · have := hlow r (List.mem_append_left _ hr) k hk; omega
    · rcases List.mem_cons.1 hr with rfl | hr
      · rcases hF k hk with hp | hp
        · have := h.low p (List.mem_append_right _ (List.mem_cons_self ..)) k hp; omega
        · exact hp.2
      · have := hlow r (List.mem_append_right _ hr) k hk; omega
end
end Go.Cu
