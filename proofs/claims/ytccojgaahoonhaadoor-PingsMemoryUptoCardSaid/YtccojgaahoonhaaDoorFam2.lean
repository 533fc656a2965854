import Derived.Test.YtccojgaahoonhaaDoorFam
import Derived.Test.YtccojgaahoonhaaDoorAppTwo
/- A slice that grows behind one of a family's, in place or in new memory. -/
namespace Go.Cu
open Go Go.RowKit

abbrev Vw := Value × Nat × List Value
theorem split_at {α : Type} {P : List α} {s : Nat} {p : α} (h : P[s]? = some p) : P = P.take s ++ p :: P.drop (s + 1) := by
  obtain ⟨hs, he⟩ := List.getElem?_eq_some_iff.1 h
  conv => lhs; rw [← List.take_append_drop s P]
  rw [List.drop_eq_getElem_cons hs, he]
theorem set_at {α : Type} {P : List α} {s : Nat} (p : α) (h : s < P.length) : P.set s p = P.take s ++ p :: P.drop (s + 1) := List.set_eq_take_append_cons_drop.trans (if_pos h)
theorem get_set {α : Type} {P : List α} {s q : Nat} {p : α} (h : s ≠ q) : (P.set s p)[q]? = P[q]? := List.getElem?_set_ne h
theorem get_set_same {α : Type} {P : List α} {s : Nat} {p x : α} (h : P[s]? = some x) : (P.set s p)[s]? = some p := by
  rw [List.getElem?_set_self (List.getElem?_eq_some_iff.1 h).1]
/-- a step in the memory of one of them -/
theorem Fam.turnAt {e : TypeId} {sz : Nat} {w w' : World} {P : List Ent} {s : Nat} {p q : Ent} (h : Fam e sz w P) (hp : P[s]? = some p) (hm : Mod p.F w w') (hq : q.At e sz w') (hF : ∀ k, q.F k → p.F k) : Fam e sz w' (P.set s q) := by
  rw [set_at q (List.getElem?_eq_some_iff.1 hp).1]
  rw [split_at hp] at h
  have := h.turn hm hq (fun k hk => .inl (hF k hk))
  exact this
def Seen (P : List Ent) (y : Vw) : Prop := ∃ p ∈ P, y ∈ p.vs
theorem Fam.seen {e : TypeId} {sz : Nat} {w : World} {P : List Ent} {y : Vw} (h : Fam e sz w P) (hy : Seen P y) : Reads w sz y.1 y.2.1 y.2.2 := by
  obtain ⟨p, hp, hy⟩ := hy
  exact (h.each p hp y hy).reads
/-- the last view of one of them: the others in it lie ahead of it -/
structure Tip (P : List Ent) (s : Nat) (g : Value) (m : Nat) (gs : List Value) (Y : Vw → Prop) : Prop where
  spot : ∃ p vs0, P[s]? = some p ∧ p.vs = vs0 ++ [(g, m, gs)] ∧ (∀ y ∈ vs0, ∃ A c, g = .slice A m c ∧ y.1 = .slice A y.2.1 c ∧ y.2.1 ≤ m ∧ y.2.2 = gs.take y.2.1) ∧
    ∀ y, Y y → (∃ q r, q ≠ s ∧ P[q]? = some r ∧ y ∈ r.vs) ∨ y ∈ vs0
theorem Tip.seen {P : List Ent} {s : Nat} {g : Value} {m : Nat} {gs : List Value} {Y : Vw → Prop} (h : Tip P s g m gs Y) {y : Vw} (hy : Y y) : Seen P y := by
  obtain ⟨p, vs0, hp, hv, _, h2⟩ := h.spot
  rcases h2 y hy with ⟨q, r, _, hr, hy⟩ | hy
  · exact ⟨r, List.mem_of_getElem? hr, hy⟩
  · exact ⟨p, List.mem_of_getElem? hp, by rw [hv]; exact List.mem_append_left _ hy⟩
theorem Tip.tip {P : List Ent} {s : Nat} {g : Value} {m : Nat} {gs : List Value} {Y : Vw → Prop} (h : Tip P s g m gs Y) : Seen P (g, m, gs) := by
  obtain ⟨p, vs0, hp, hv, _⟩ := h.spot
  exact ⟨p, List.mem_of_getElem? hp, by rw [hv]; exact List.mem_append_right _ (List.mem_singleton.2 rfl)⟩
theorem Tip.lt {P : List Ent} {s : Nat} {g : Value} {m : Nat} {gs : List Value} {Y : Vw → Prop} (h : Tip P s g m gs Y) : s < P.length := by
  obtain ⟨p, vs0, hp, _⟩ := h.spot
  exact (List.getElem?_eq_some_iff.1 hp).1
theorem Tip.row {e : TypeId} {w : World} {P : List Ent} {s : Nat} {g : Value} {m : Nat} {gs : List Value} {Y : Vw → Prop} (h : Tip P s g m gs Y) (hf : Fam e 1 w P) : ∃ p, P[s]? = some p ∧ Row w p.F e 1 g m gs := by
  obtain ⟨p, vs0, hp, hv, _⟩ := h.spot
  exact ⟨p, hp, hf.each p (List.mem_of_getElem? hp) (g, m, gs) (by rw [hv]; exact List.mem_append_right _ (List.mem_singleton.2 rfl))⟩
/-- one that has one view only begins to grow -/
theorem Fam.begin {e : TypeId} {w : World} {P : List Ent} {s : Nat} {p : Ent} {A : Option Addr} {m c : Nat} {gs : List Value} {Y : Vw → Prop} (hf : Fam e 1 w P) (hp : P[s]? = some p) (hv : p.vs = [(.slice A m c, m, gs)]) (hY : ∀ y, Y y → Seen P y) :
    Fam e 1 w (P.set s ⟨p.F, [(.slice A m c, m, gs), (.slice A m c, m, gs)]⟩) ∧ Tip (P.set s ⟨p.F, [(.slice A m c, m, gs), (.slice A m c, m, gs)]⟩) s (.slice A m c) m gs (fun y => Y y ∨ y = (.slice A m c, m, gs)) := by
  have hrow := hf.each p (List.mem_of_getElem? hp) (.slice A m c, m, gs) (by rw [hv]; exact List.mem_singleton.2 rfl)
  have hlen : gs.length = m := by have := hrow.1; simpa using this
  refine ⟨hf.turnAt hp (Mod.refl _ _) (fun x hx => ?_) (fun _ h => h), ⟨_, [(.slice A m c, m, gs)], get_set_same hp, rfl, fun y hy => ?_, fun y hy => ?_⟩⟩
  · rcases List.mem_cons.1 hx with rfl | hx
    · exact hrow
    · rw [List.mem_singleton] at hx
      subst hx
      exact hrow
  · rw [List.mem_singleton] at hy
    subst hy
    exact ⟨A, c, rfl, rfl, Nat.le_refl _, (List.take_of_length_le (Nat.le_of_eq hlen)).symm⟩
  · rcases hy with hy | rfl
    · obtain ⟨r, hr, hy⟩ := hY y hy
      obtain ⟨q, hq⟩ := List.mem_iff_getElem?.1 hr
      by_cases h : q = s
      · subst h
        rw [hq] at hp
        injection hp with hp
        subst hp
        rw [hv] at hy
        exact .inr hy
      · exact .inl ⟨q, r, h, by rw [get_set (fun e => h e.symm)]; exact hq, hy⟩
    · exact .inr (List.mem_singleton.2 rfl)
/-- it grows in place -/
theorem Tip.room {e : TypeId} {w w' : World} {P : List Ent} {s m k c : Nat} {A : Option Addr} {gs news : List Value} {Y : Vw → Prop} {p : Ent} (hf : Fam e 1 w P) (h : Tip P s (.slice A m c) m gs Y) (hp : P[s]? = some p)
    (hr : Row w' p.F e 1 (.slice A (m + k) c) (m + k) (gs ++ news)) (hm : Mod p.F w w') :
    ∃ P', P'.length = P.length ∧ (∀ q, q ≠ s → P'[q]? = P[q]?) ∧ Fam e 1 w' P' ∧ Tip P' s (.slice A (m + k) c) (m + k) (gs ++ news) Y ∧ ∀ lo, (∀ p ∈ P, ∀ k, p.F k → lo ≤ k) → ∀ p ∈ P', ∀ k, p.F k → lo ≤ k := by
  obtain ⟨p', vs0, hp', hv, h1, h2⟩ := h.spot
  rw [hp] at hp'
  injection hp' with hp'
  subst hp'
  have hgl : gs.length = m := by
    have := (hf.each p (List.mem_of_getElem? hp) (.slice A m c, m, gs) (by rw [hv]; exact List.mem_append_right _ (List.mem_singleton.2 rfl))).1
    simpa using this
  have hat : ∀ y ∈ vs0, y.1 = .slice A y.2.1 c ∧ y.2.1 ≤ m ∧ y.2.2 = (gs ++ news).take y.2.1 := fun y hy => by
    obtain ⟨A', c', he, h3, h4, h5⟩ := h1 y hy
    injection he with he1 _ he2
    subst he1
    subst he2
    exact ⟨h3, h4, by rw [h5, List.take_append_of_le_length (by omega)]⟩
  refine ⟨P.set s ⟨p.F, vs0 ++ [(.slice A (m + k) c, m + k, gs ++ news)]⟩, by simp, fun q hq => get_set (fun e => hq e.symm), hf.turnAt hp hm (fun x hx => ?_) (fun _ h => h), ⟨_, vs0, get_set_same hp, rfl, fun y hy => ?_, fun y hy => ?_⟩, fun lo hlo q hq j hj => ?_⟩
  · rcases List.mem_append.1 hx with hx | hx
    · obtain ⟨h3, h4, h5⟩ := hat x hx
      have := hr.ahead (m := x.2.1) (by omega)
      rw [h3, h5]
      simpa using this
    · rw [List.mem_singleton] at hx
      subst hx
      exact hr
  · obtain ⟨h3, h4, h5⟩ := hat y hy
    exact ⟨A, c, rfl, h3, by omega, h5⟩
  · rcases h2 y hy with ⟨q, r, hq, hr, hy⟩ | hy
    · exact .inl ⟨q, r, hq, by rw [get_set (fun e => hq e.symm)]; exact hr, hy⟩
    · exact .inr hy
  · rcases List.mem_or_eq_of_mem_set hq with hq | rfl
    · exact hlo q hq j hj
    · exact hlo p (List.mem_of_getElem? hp) j hj
/-- it moves to new memory -/
theorem Tip.moved {e : TypeId} {w w' : World} {P : List Ent} {s m n : Nat} {g g' : Value} {gs gs' : List Value} {Y : Vw → Prop} (hf : Fam e 1 w P) (h : Tip P s g m gs Y)
    (hr : Row w' (fun k => w.heap.size ≤ k ∧ k < w'.heap.size) e 1 g' n gs') (hb : Below w.heap.size w w') :
    ∃ P', P'.length = P.length + 1 ∧ (∀ q, q < P.length → P'[q]? = P[q]?) ∧ Fam e 1 w' P' ∧ Tip P' P.length g' n gs' Y ∧ ∀ lo, lo ≤ w.heap.size → (∀ p ∈ P, ∀ k, p.F k → lo ≤ k) → ∀ p ∈ P', ∀ k, p.F k → lo ≤ k := by
  refine ⟨P ++ [⟨fun k => w.heap.size ≤ k ∧ k < w'.heap.size, [(g', n, gs')]⟩], by simp, fun q hq => List.getElem?_append_left hq, hf.add (hf.past hb) (hr.mono (fun k hk _ => hk.1)), ⟨_, [], by rw [List.getElem?_append_right (Nat.le_refl _), Nat.sub_self]; rfl, rfl, fun y hy => (List.not_mem_nil hy).elim, fun y hy => ?_⟩, fun lo hle hlo q hq j hj => ?_⟩
  · obtain ⟨q, hq, hy⟩ := h.seen hy
    obtain ⟨i, hi⟩ := List.mem_iff_getElem?.1 hq
    have hlt := (List.getElem?_eq_some_iff.1 hi).1
    exact .inl ⟨i, q, by omega, by rw [List.getElem?_append_left hlt]; exact hi, hy⟩
  · rcases List.mem_append.1 hq with hq | hq
    · exact hlo q hq j hj
    · rw [List.mem_singleton] at hq
      subst hq
      have : w.heap.size ≤ j := hj.1
      omega
end Go.Cu
