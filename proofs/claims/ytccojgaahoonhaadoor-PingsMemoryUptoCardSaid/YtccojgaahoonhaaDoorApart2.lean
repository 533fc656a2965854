import Derived.Test.YtccojgaahoonhaaDoorFam2
/- Lists in a row, each in memory of its own: painted over, then one longer each. -/
namespace Go.Cu
open Go Go.RowKit

/-- a list: its value, its length, its cells -/
structure Lx where
  v : Value
  n : Nat
  xs : List Value
def Lx.vw (x : Lx) : Vw := (x.v, x.n, x.xs)
def Foot (P : List Ent) (k : Nat) : Prop := ∃ p ∈ P, p.F k
/-- the lists of a row, each in an entry of its own -/
structure AP (ti tl : TypeId) (w : World) (kv : Value) (n : Nat) (K : List Lx) (F : Nat → Prop) (P : List Ent) : Prop where
  row : Row w F tl 1 kv n (K.map (·.v))
  fam : Fam ti 1 w P
  views : P.map (·.vs) = K.map (fun x => [x.vw])
section
variable {ti tl : TypeId} {w w' : World} {kv : Value} {n : Nat} {K : List Lx} {F : Nat → Prop} {P : List Ent}
theorem AP.len (h : AP ti tl w kv n K F P) : K.length = n := by
  have := h.row.1
  rw [List.length_map, Nat.mul_one] at this
  exact this
theorem AP.at_ (h : AP ti tl w kv n K F P) {i : Nat} {x : Lx} (hx : K[i]? = some x) : ∃ p, P[i]? = some p ∧ p.vs = [x.vw] := by
  have h1 : (P.map (·.vs))[i]? = some [x.vw] := by rw [h.views, List.getElem?_map, hx]; rfl
  rw [List.getElem?_map] at h1
  cases hp : P[i]? with
  | none => rw [hp] at h1; cases h1
  | some p =>
    rw [hp] at h1
    injection h1 with h1
    exact ⟨p, rfl, h1⟩
theorem AP.row_at (h : AP ti tl w kv n K F P) {i : Nat} {x : Lx} (hx : K[i]? = some x) : ∃ p, P[i]? = some p ∧ p.vs = [x.vw] ∧ Row w p.F ti 1 x.v x.n x.xs := by
  obtain ⟨p, hp, hv⟩ := h.at_ hx
  exact ⟨p, hp, hv, h.fam.each p (List.mem_of_getElem? hp) x.vw (by rw [hv]; exact List.mem_singleton.2 rfl)⟩
theorem AP.past (h : AP ti tl w kv n K F P) (hb : Below w.heap.size w w') : AP ti tl w' kv n K F P :=
  ⟨h.row.kept (Mod.ofBelow hb (fun _ => False)) (fun _ _ _ h => h), h.fam.past hb, h.views⟩
/-- a step elsewhere -/
theorem AP.kept {G : Nat → Prop} (h : AP ti tl w kv n K F P) (hm : Mod G w w') (h1 : ∀ k, F k → ¬ G k) (h2 : ∀ k, Foot P k → ¬ G k) : AP ti tl w' kv n K F P :=
  ⟨h.row.kept hm (fun k hk _ => h1 k hk), h.fam.kept hm (fun p hp k hk => h2 k ⟨p, hp, hk⟩), h.views⟩
theorem get_vs {α β : Type} {K : List α} {f : α → β} {i : Nat} {x : α} (hx : K[i]? = some x) : (K.map f)[i]? = some (f x) := by rw [List.getElem?_map, hx]; rfl
theorem foot_set {P : List Ent} {j k : Nat} {p : Ent} {vs : List Vw} (hp : P[j]? = some p) : Foot (P.set j ⟨p.F, vs⟩) k ↔ Foot P k := by
  constructor
  · rintro ⟨q, hq, hk⟩
    rcases List.mem_or_eq_of_mem_set hq with hq | rfl
    · exact ⟨q, hq, hk⟩
    · exact ⟨p, List.mem_of_getElem? hp, hk⟩
  · rintro ⟨q, hq, hk⟩
    obtain ⟨i, hi⟩ := List.mem_iff_getElem?.1 hq
    by_cases h : j = i
    · subst h
      rw [hp] at hi
      injection hi with hi
      subst hi
      exact ⟨⟨p.F, vs⟩, List.mem_of_getElem? (get_set_same hp), hk⟩
    · exact ⟨q, List.mem_of_getElem? (by rw [get_set h]; exact hi), hk⟩
/-- a list is written -/
theorem AP.set (h : AP ti tl w kv n K F P) (hne : ti ≠ tl) {j : Nat} {x : Lx} (hx : K[j]? = some x) :
    ∃ p, P[j]? = some p ∧ Row w (fun k => p.F k ∧ OfE w ti k) ti 1 x.v x.n x.xs ∧ ∀ w' xs', Row w' (fun k => p.F k ∧ OfE w ti k) ti 1 x.v x.n xs' → Mod (fun k => p.F k ∧ OfE w ti k) w w' → ∃ P', (∀ k, Foot P' k ↔ Foot P k) ∧ AP ti tl w' kv n (K.set j ⟨x.v, x.n, xs'⟩) F P' := by
  obtain ⟨p, hp, hv, hrow⟩ := h.row_at hx
  refine ⟨p, hp, hrow.narrow, fun w' xs' hr hm => ⟨P.set j ⟨p.F, [(x.v, x.n, xs')]⟩, fun k => foot_set hp, ?_, ?_, ?_⟩⟩
  · have e : (K.set j ⟨x.v, x.n, xs'⟩).map (·.v) = K.map (·.v) := by
      rw [List.map_set]
      have := get_vs (f := fun x : Lx => x.v) hx
      obtain ⟨hj, he⟩ := List.getElem?_eq_some_iff.1 this
      show (K.map (·.v)).set j x.v = K.map (·.v)
      conv => lhs; rw [← he]
      rw [List.set_getElem_self]
    rw [e]
    exact (h.row.narrow.kept hm (fun _ hk _ hg => ofE_ne hk.2 hg.2 (fun e => hne e.symm))).mono (fun _ hk _ => hk.1)
  · refine h.fam.turnAt hp (hm.mono (fun _ _ hk => hk.1)) (fun y hy => ?_) (fun _ h => h)
    rw [List.mem_singleton] at hy
    subst hy
    exact hr.mono (fun _ hk _ => hk.1)
  · rw [List.map_set, List.map_set, h.views]
    rfl
end
/-- while they grow: t of them are dealt with, j taken into the row of what has grown -/
structure AG (ti tl : TypeId) (w0 w : World) (kv : Value) (n : Nat) (K : List Lx) (F : Nat → Prop) (u : Nat → Value) (t : Nat) (gv : Value) (j : Nat) (Gs : List Lx) (FG : Nat → Prop) (P0 P : List Ent) : Prop where
  row : Row w F tl 1 kv n (K.map (·.v))
  gr : Row w FG tl 1 gv j (Gs.map (·.v))
  fl : ∀ k, F k → k < w0.heap.size
  gl : ∀ k, FG k → w0.heap.size ≤ k
  fam : Fam ti 1 w P
  foot : ∀ k, Foot P k → Foot P0 k ∨ w0.heap.size ≤ k
  first : ∀ (q : Nat) (x : Lx), K[q]? = some x → ∃ p, P[q]? = some p ∧ x.vw ∈ p.vs ∧ (t ≤ q → p.vs = [x.vw]) ∧ ∀ k, p.F k → Foot P0 k
  gs : Gs.length = j
  gat : ∀ g ∈ Gs, Seen P g.vw
  gc : ∀ (q : Nat) (g x : Lx), Gs[q]? = some g → K[q]? = some x → g.n = x.n + 1 ∧ g.xs = x.xs ++ [u q]
  mod : Mod (Foot P0) w0 w
section
variable {ti tl : TypeId} {w0 w w' : World} {kv gv : Value} {n t j : Nat} {K Gs : List Lx} {F FG : Nat → Prop} {u : Nat → Value} {P0 P : List Ent}
theorem AP.grow (h : AP ti tl w kv n K F P) (hm : Mod (Foot P) w0 w) (hF : ∀ k, F k → k < w0.heap.size) (u : Nat → Value) : AG ti tl w0 w kv n K F u 0 (.slice none 0 0) 0 [] (fun _ => False) P P :=
  ⟨h.row, Row.nil _ _ _ _, hF, fun _ h => h.elim, h.fam, fun _ hk => .inl hk, fun q x hx => by
    obtain ⟨p, hp, hv⟩ := h.at_ hx
    exact ⟨p, hp, by rw [hv]; exact List.mem_singleton.2 rfl, fun _ => hv, fun k hk => ⟨p, List.mem_of_getElem? hp, hk⟩⟩, rfl, fun _ h => (List.not_mem_nil h).elim, fun q g x hg => by simp at hg, hm⟩
theorem AG.past (h : AG ti tl w0 w kv n K F u t gv j Gs FG P0 P) (hb : Below w.heap.size w w') : AG ti tl w0 w' kv n K F u t gv j Gs FG P0 P :=
  ⟨h.row.kept (Mod.ofBelow hb (fun _ => False)) (fun _ _ _ h => h), h.gr.kept (Mod.ofBelow hb (fun _ => False)) (fun _ _ _ h => h), h.fl, h.gl, h.fam.past hb, h.foot, h.first, h.gs, h.gat, h.gc, h.mod.trans (Mod.ofBelow hb (fun _ => False)) (fun _ _ h => h.elim)⟩
theorem AG.len (h : AG ti tl w0 w kv n K F u t gv j Gs FG P0 P) : K.length = n := by
  have := h.row.1
  rw [List.length_map, Nat.mul_one] at this
  exact this
theorem AG.longer (h : AG ti tl w0 w kv n K F u t gv j Gs FG P0 P) {q : Nat} {x : Lx} (hx : K[q]? = some x) : q < P.length := by
  obtain ⟨p, hp, _⟩ := h.first q x hx
  exact (List.getElem?_eq_some_iff.1 hp).1
theorem AG.reads (h : AG ti tl w0 w kv n K F u t gv j Gs FG P0 P) {q : Nat} {x : Lx} (hx : K[q]? = some x) : Reads w 1 x.v x.n x.xs := by
  obtain ⟨p, hp, hv, _⟩ := h.first q x hx
  exact (h.fam.each p (List.mem_of_getElem? hp) x.vw hv).reads
theorem AG.grown (h : AG ti tl w0 w kv n K F u t gv j Gs FG P0 P) {q : Nat} {g : Lx} (hg : Gs[q]? = some g) : Reads w 1 g.v g.n g.xs := h.fam.seen (h.gat g (List.mem_of_getElem? hg))
/-- a step in memory of the lists' type -/
theorem AG.rows (h : AG ti tl w0 w kv n K F u t gv j Gs FG P0 P) (hne : ti ≠ tl) {G : Nat → Prop} (hm : Mod (fun k => G k ∧ OfE w ti k) w w') : Row w' F tl 1 kv n (K.map (·.v)) ∧ Row w' FG tl 1 gv j (Gs.map (·.v)) :=
  ⟨(h.row.narrow.kept hm (fun _ hk _ hg => ofE_ne hk.2 hg.2 (fun e => hne e.symm))).mono (fun _ hk _ => hk.1), (h.gr.narrow.kept hm (fun _ hk _ hg => ofE_ne hk.2 hg.2 (fun e => hne e.symm))).mono (fun _ hk _ => hk.1)⟩
/-- the next one's own memory: a step there that leaves the list as it was -/
theorem AG.spot (h : AG ti tl w0 w kv n K F u j gv j Gs FG P0 P) (hne : ti ≠ tl) {x : Lx} (hx : K[j]? = some x) :
    ∃ G, (∀ k, G k → k < w.heap.size) ∧ Row w G ti 1 x.v x.n x.xs ∧ (∀ w', Row w' G ti 1 x.v x.n x.xs → Mod G w w' → AG ti tl w0 w' kv n K F u j gv j Gs FG P0 P) := by
  obtain ⟨p, hp, hv, hvs, hf⟩ := h.first j x hx
  have hrow := h.fam.each p (List.mem_of_getElem? hp) x.vw hv
  refine ⟨fun k => p.F k ∧ OfE w ti k, fun k hk => h.fam.low p (List.mem_of_getElem? hp) k hk.1, hrow.narrow, fun w' hr hm => ⟨(h.rows hne hm).1, (h.rows hne hm).2, h.fl, h.gl, ?_, h.foot, h.first, h.gs, h.gat, h.gc, h.mod.trans hm (fun k _ hk => hf k hk.1)⟩⟩
  have := h.fam.turnAt hp (hm.mono (fun _ _ hk => hk.1)) (q := p) (fun y hy => by
    rw [hvs (Nat.le_refl _), List.mem_singleton] at hy
    subst hy
    exact hr.mono (fun _ hk _ => hk.1)) (fun _ h => h)
  have e : P.set j p = P := by
    obtain ⟨hj, he⟩ := List.getElem?_eq_some_iff.1 hp
    conv => lhs; rw [← he]
    rw [List.set_getElem_self]
  rwa [e] at this
/-- it is longer by one, in place or in new memory -/
theorem AG.more (h : AG ti tl w0 w kv n K F u j gv j Gs FG P0 P) (hne : ti ≠ tl) {A : Option Addr} {m c : Nat} {xs : List Value} (hx : K[j]? = some ⟨.slice A m c, m, xs⟩) :
    ∃ G, Row w G ti 1 (.slice A m c) m xs ∧ (∀ w', Row w' G ti 1 (.slice A (m + 1) c) (m + 1) (xs ++ [u j]) → Mod G w w' → ∃ P', AG ti tl w0 w' kv n K F u (j + 1) gv j Gs FG P0 P' ∧ Seen P' (.slice A (m + 1) c, m + 1, xs ++ [u j])) ∧
      (∀ A' c' w', Row w' (fun k => w.heap.size ≤ k ∧ k < w'.heap.size) ti 1 (.slice A' (m + 1) c') (m + 1) (xs ++ [u j]) → Below w.heap.size w w' → ∃ P', AG ti tl w0 w' kv n K F u (j + 1) gv j Gs FG P0 P' ∧ Seen P' (.slice A' (m + 1) c', m + 1, xs ++ [u j])) := by
  obtain ⟨p, hp, hv, hvs, hf⟩ := h.first j _ hx
  have hrow := h.fam.each p (List.mem_of_getElem? hp) _ hv
  have hv1 := hvs (Nat.le_refl _)
  have hlen : xs.length = m := by have := hrow.1; simpa [Lx.vw] using this
  have keepS : ∀ (P' : List Ent), (∀ (q : Nat) (r : Ent), P[q]? = some r → ∃ r' : Ent, P'[q]? = some r' ∧ ∀ y ∈ r.vs, y ∈ r'.vs) → ∀ g ∈ Gs, Seen P' g.vw := fun P' hP g hg => by
    obtain ⟨r, hr, hy⟩ := h.gat g hg
    obtain ⟨q, hq⟩ := List.mem_iff_getElem?.1 hr
    obtain ⟨r', hr', hsub⟩ := hP q r hq
    exact ⟨r', List.mem_of_getElem? hr', hsub _ hy⟩
  refine ⟨fun k => p.F k ∧ OfE w ti k, hrow.narrow, fun w' hr hm => ⟨P.set j ⟨p.F, [(.slice A m c, m, xs), (.slice A (m + 1) c, m + 1, xs ++ [u j])]⟩, ⟨(h.rows hne hm).1, (h.rows hne hm).2, h.fl, h.gl, ?_, fun k hk => h.foot k ((foot_set hp).1 hk), fun q x hq => ?_, h.gs, keepS _ (fun q r hq => ?_), h.gc, h.mod.trans hm (fun k _ hk => hf k hk.1)⟩, ?_⟩, fun A' c' w' hr hb => ⟨P ++ [⟨fun k => w.heap.size ≤ k ∧ k < w'.heap.size, [(.slice A' (m + 1) c', m + 1, xs ++ [u j])]⟩], ⟨h.row.kept (Mod.ofBelow hb (fun _ => False)) (fun _ _ _ h => h), h.gr.kept (Mod.ofBelow hb (fun _ => False)) (fun _ _ _ h => h), h.fl, h.gl, h.fam.add (h.fam.past hb) (hr.mono (fun k hk _ => hk.1)), fun k hk => ?_, fun q x hq => ?_, h.gs, keepS _ (fun q r hq => ?_), h.gc, h.mod.trans (Mod.ofBelow hb (fun _ => False)) (fun _ _ h => h.elim)⟩, ?_⟩⟩
  · refine h.fam.turnAt hp (hm.mono (fun _ _ hk => hk.1)) (fun y hy => ?_) (fun _ h => h)
    rcases List.mem_cons.1 hy with rfl | hy
    · have := (hr.mono (fun _ hk _ => hk.1) : Row w' p.F ti 1 (.slice A (m + 1) c) (m + 1) (xs ++ [u j])).ahead (m := m) (by omega)
      rw [Nat.mul_one, List.take_append_of_le_length (by omega), List.take_of_length_le (by omega)] at this
      exact this
    · rw [List.mem_singleton] at hy
      subst hy
      exact hr.mono (fun _ hk _ => hk.1)
  · by_cases hqj : j = q
    · subst hqj
      rw [hx] at hq
      injection hq with hq
      subst hq
      exact ⟨_, get_set_same hp, List.mem_cons_self .., fun h => absurd h (by omega), hf⟩
    · obtain ⟨r, hr, h1, h2, h3⟩ := h.first q x hq
      exact ⟨r, by rw [get_set hqj]; exact hr, h1, fun hl => h2 (by omega), h3⟩
  · by_cases hqj : j = q
    · subst hqj
      rw [hp] at hq
      injection hq with hq
      subst hq
      exact ⟨_, get_set_same hp, fun y hy => by rw [hv1, List.mem_singleton] at hy; subst hy; exact List.mem_cons_self ..⟩
    · exact ⟨r, by rw [get_set hqj]; exact hq, fun _ h => h⟩
  · exact ⟨_, List.mem_of_getElem? (get_set_same hp), List.mem_cons_of_mem _ (List.mem_singleton.2 rfl)⟩
  · obtain ⟨r, hr, hk⟩ := hk
    rcases List.mem_append.1 hr with hr | hr
    · exact h.foot k ⟨r, hr, hk⟩
    · rw [List.mem_singleton] at hr
      subst hr
      have := h.mod.size
      exact .inr (Nat.le_trans this hk.1)
  · obtain ⟨r, hr, h1, h2, h3⟩ := h.first q x hq
    exact ⟨r, by rw [List.getElem?_append_left (List.getElem?_eq_some_iff.1 hr).1]; exact hr, h1, fun hl => h2 (by omega), h3⟩
  · exact ⟨r, by rw [List.getElem?_append_left (List.getElem?_eq_some_iff.1 hq).1]; exact hq, fun _ h => h⟩
  · exact ⟨_, List.mem_append_right _ (List.mem_singleton.2 rfl), List.mem_singleton.2 rfl⟩
/-- what has grown is taken into its row -/
theorem AG.take (h : AG ti tl w0 w kv n K F u (j + 1) gv j Gs FG P0 P) (hne : ti ≠ tl) {y x : Lx} (hy : Seen P y.vw) (hx : K[j]? = some x) (hn : y.n = x.n + 1) (hxs : y.xs = x.xs ++ [u j]) :
    ∃ FG', Row w FG' tl 1 gv j (Gs.map (·.v)) ∧ ∀ w' gv2, Row w' (fun k => FG' k ∨ k = w.heap.size) tl 1 gv2 (j + 1) (Gs.map (·.v) ++ [y.v]) → Mod FG' w w' → AG ti tl w0 w' kv n K F u (j + 1) gv2 (j + 1) (Gs ++ [y]) (fun k => FG' k ∨ k = w.heap.size) P0 P := by
  have hsz := h.mod.size
  refine ⟨fun k => FG k ∧ OfE w tl k, h.gr.narrow, fun w' gv2 hr hm => ⟨h.row.kept hm (fun k hk _ hg => by have := h.fl k hk; have := h.gl k hg.1; omega), by rw [List.map_append]; exact hr, h.fl, fun k hk => ?_, h.fam.other hm hne, h.foot, h.first, by rw [List.length_append, h.gs]; rfl, fun g hg => ?_, fun q g z hg hz => ?_, ?_⟩⟩
  · rcases hk with hk | rfl
    · exact h.gl k hk.1
    · exact hsz
  · rcases List.mem_append.1 hg with hg | hg
    · exact h.gat g hg
    · rw [List.mem_singleton] at hg
      subst hg
      exact hy
  · by_cases hq : q < Gs.length
    · rw [List.getElem?_append_left hq] at hg
      exact h.gc q g z hg hz
    · have hgs := h.gs
      have hql : q < (Gs ++ [y]).length := (List.getElem?_eq_some_iff.1 hg).1
      rw [List.length_append, List.length_singleton] at hql
      obtain rfl : q = j := by omega
      rw [List.getElem?_append_right (by omega), hgs, Nat.sub_self] at hg
      injection hg with hg
      subst hg
      rw [hx] at hz
      injection hz with hz
      subst hz
      exact ⟨hn, hxs⟩
  · exact h.mod.trans hm (fun k hk hg => absurd (h.gl k hg.1) (by omega))
/-- all have grown: the lists still stand, each in an entry of its own -/
theorem AG.done (h : AG ti tl w0 w kv n K F u t gv j Gs FG P0 P) : ∃ P', AP ti tl w kv n K F P' ∧ ∀ k, Foot P' k → Foot P0 k := by
  have key : ∀ (q : Nat) (r : Ent), (List.zipWith (fun (p : Ent) (x : Lx) => (⟨p.F, [x.vw]⟩ : Ent)) P K)[q]? = some r → ∃ p x, P[q]? = some p ∧ K[q]? = some x ∧ r = ⟨p.F, [x.vw]⟩ ∧ x.vw ∈ p.vs ∧ ∀ k, p.F k → Foot P0 k := fun q r hr => by
    obtain ⟨p, x, hp, hx, rfl⟩ := List.getElem?_zipWith_eq_some.1 hr
    obtain ⟨p', hp', h1, _, h3⟩ := h.first q x hx
    rw [hp] at hp'
    injection hp' with hp'
    subst hp'
    exact ⟨p, x, hp, hx, rfl, h1, h3⟩
  refine ⟨List.zipWith (fun p x => ⟨p.F, [x.vw]⟩) P K, ⟨h.row, ⟨fun r hr => ?_, ?_, fun r hr k hk => ?_⟩, ?_⟩, fun k hk => ?_⟩
  · obtain ⟨q, hq⟩ := List.mem_iff_getElem?.1 hr
    obtain ⟨p, x, hp, hx, rfl, hv, _⟩ := key q r hq
    intro y hy
    rw [List.mem_singleton] at hy
    subst hy
    exact h.fam.each p (List.mem_of_getElem? hp) _ hv
  · rw [List.pairwise_iff_getElem]
    intro a b ha hb hab k hk hk2
    obtain ⟨p, x, hp, _, e1, _⟩ := key a _ (List.getElem?_eq_getElem ha)
    obtain ⟨p2, x2, hp2, _, e2, _⟩ := key b _ (List.getElem?_eq_getElem hb)
    rw [e1] at hk
    rw [e2] at hk2
    obtain ⟨ha', hpa⟩ := List.getElem?_eq_some_iff.1 hp
    obtain ⟨hb', hpb⟩ := List.getElem?_eq_some_iff.1 hp2
    have := List.pairwise_iff_getElem.1 h.fam.apart a b ha' hb' hab k
    rw [hpa, hpb] at this
    exact this hk hk2
  · obtain ⟨q, hq⟩ := List.mem_iff_getElem?.1 hr
    obtain ⟨p, x, hp, hx, rfl, _⟩ := key q r hq
    exact h.fam.low p (List.mem_of_getElem? hp) k hk
  · apply List.ext_getElem?
    intro q
    rw [List.getElem?_map, List.getElem?_map]
    cases hx : K[q]? with
    | none =>
      have : (List.zipWith (fun (p : Ent) (x : Lx) => (⟨p.F, [x.vw]⟩ : Ent)) P K)[q]? = none := by
        cases hr : (List.zipWith (fun (p : Ent) (x : Lx) => (⟨p.F, [x.vw]⟩ : Ent)) P K)[q]? with
        | none => rfl
        | some r =>
          obtain ⟨_, _, _, hx2, _⟩ := key q r hr
          rw [hx] at hx2
          cases hx2
      rw [this]
      rfl
    | some x =>
      obtain ⟨p, hp, _⟩ := h.first q x hx
      rw [show (List.zipWith (fun (p : Ent) (x : Lx) => (⟨p.F, [x.vw]⟩ : Ent)) P K)[q]? = some ⟨p.F, [x.vw]⟩ from List.getElem?_zipWith_eq_some.2 ⟨p, x, hp, hx, rfl⟩]
      rfl
  · obtain ⟨r, hr, hk⟩ := hk
    obtain ⟨q, hq⟩ := List.mem_iff_getElem?.1 hr
    obtain ⟨p, x, _, _, rfl, _, hf⟩ := key q r hq
    exact hf k hk
end
end Go.Cu
