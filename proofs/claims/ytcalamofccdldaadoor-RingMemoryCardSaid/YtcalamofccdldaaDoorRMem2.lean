import Derived.Test.YtcalamofccdldaaDoorRMem
/- Lists beside four places: the row's block apart from the lists; lists that are not in the row yet; both behind an append and a writing over. -/
namespace Go.Proofs.YtcalamofccdldaaDoor
open Go Go.RowKit Go.Cu Go.Proofs.YtcalamofccdldaaDoor.RI

def Dj (F : Nat → Prop) (L : List Ent) : Prop := ∀ k, F k → ¬ Foot L k
theorem foot_app {L M : List Ent} {k : Nat} (h : Foot (L ++ M) k) : Foot L k ∨ Foot M k := by
  obtain ⟨p, hp, hk⟩ := h
  rcases List.mem_append.1 hp with hp | hp
  · exact .inl ⟨p, hp, hk⟩
  · exact .inr ⟨p, hp, hk⟩
theorem foot_one {p : Ent} {k : Nat} (h : Foot [p] k) : p.F k := by
  obtain ⟨q, hq, hk⟩ := h
  rw [List.mem_singleton] at hq
  subst hq
  exact hk
theorem foot_lt {e : TypeId} {sz : Nat} {w : World} {L : List Ent} (h : Fam e sz w L) {k : Nat} (hk : Foot L k) : k < w.heap.size := by
  obtain ⟨p, hp, hk⟩ := hk
  exact h.low p hp k hk

/-- the four places, a row of lists, and lists beside it -/
structure LX (w0 w : World) (b : Nat) (P : Nat → Place) (v : Value) (n : Nat) (K M : List Lx) (F : Nat → Prop) (L : List Ent) : Prop where
  rw : RW w0 w b P
  row : Row w F 38 1 v n (K.map (·.v))
  fam : Fam 3 1 w L
  views : L.map (·.vs) = (K ++ M).map (fun x => [x.vw])
  fo : ∀ k, F k → Out w0 b P k ∧ k < w.heap.size
  lo : ∀ k, Foot L k → Out w0 b P k
  dj : Dj F L
section
variable {w0 w w1 w2 w3 w' : World} {b : Nat} {P : Nat → Place} {v u : Value} {n m : Nat} {K M : List Lx} {F : Nat → Prop} {L : List Ent} {xs : List Value}
theorem LX.begin (h : RW w0 w b P) : LX w0 w b P (.slice none 0 0) 0 [] [] (fun _ => False) [] :=
  ⟨h, Row.nil _ _ _ _, Fam.nil _ _ _, rfl, fun _ h => False.elim h, fun k hk => (by obtain ⟨_, h, _⟩ := hk; cases h), fun _ h => False.elim h⟩
theorem LX.past (h : LX w0 w b P v n K M F L) (hb : Below w.heap.size w w') : LX w0 w' b P v n K M F L :=
  ⟨h.rw.past hb, h.row.kept (Mod.ofBelow hb (fun _ => False)) (fun _ _ _ h => h), h.fam.past hb, h.views, fun k hk => ⟨(h.fo k hk).1, Nat.lt_of_lt_of_le (h.fo k hk).2 hb.size⟩, h.lo, h.dj⟩
/-- one more list -/
theorem LX.add (h : LX w0 w b P v n K [] F L) (hb1 : Below w.heap.size w w1) (hl : Row w1 (fun k => w.heap.size ≤ k) 3 1 u m xs) (hb : Below w1.heap.size w1 w2) :
    Row w2 (fun k => F k ∧ OfE w2 38 k) 38 1 v n (K.map (·.v)) ∧ ∀ w3 v2, Row w3 (fun k => (F k ∧ OfE w2 38 k) ∨ k = w2.heap.size) 38 1 v2 (n + 1) (K.map (·.v) ++ [u]) → Mod (fun k => F k ∧ OfE w2 38 k) w2 w3 → ∃ F2 L2, LX w0 w3 b P v2 (n + 1) (K ++ [⟨u, m, xs⟩]) [] F2 L2 := by
  have h2 := (h.past hb1).past hb
  have hs1 := hb1.size
  have hs2 := hb.size
  refine ⟨h2.row.narrow, fun w3 v2 hr hm => ⟨fun k => ((F k ∧ OfE w2 38 k) ∨ k = w2.heap.size) ∧ k < w3.heap.size, _, ⟨h2.rw.other hm (fun k hk => (h.fo k hk.1).1), ?_, ((h.fam.add (h.past hb1).fam hl).past hb).other hm (by decide), ?_, fun k hk => ⟨?_, hk.2⟩, fun k hk => ?_, fun k hk hf => ?_⟩⟩⟩
  · rw [List.map_append]; exact hr.mono (fun k hk hl => ⟨hk, hl⟩)
  · have hv := h.views
    rw [List.append_nil] at hv ⊢
    rw [List.map_append, List.map_append, hv]; rfl
  · rcases hk.1 with hk | rfl
    · exact (h.fo k hk.1).1
    · exact h2.rw.new (Nat.le_refl _)
  · rcases foot_app hk with hk | hk
    · exact h.lo k hk
    · exact h.rw.new (foot_one hk).1
  · rcases foot_app hf with hf | hf
    · rcases hk.1 with hk | hk
      · exact h.dj k hk.1 hf
      · have := foot_lt h.fam hf; omega
    · have hf := foot_one hf
      rcases hk.1 with hk | hk
      · have := (h.fo k hk.1).2; have := hf.1; omega
      · have := hf.2; omega
/-- a list in the row is read -/
theorem LX.reads (h : LX w0 w b P v n K M F L) {q : Nat} {x : Lx} (hx : (K ++ M)[q]? = some x) : Reads w 1 x.v x.n x.xs := by
  have h1 : (L.map (·.vs))[q]? = some [x.vw] := by rw [h.views, List.getElem?_map, hx]; rfl
  rw [List.getElem?_map] at h1
  cases hp : L[q]? with
  | none => rw [hp] at h1; cases h1
  | some p =>
    rw [hp] at h1
    injection h1 with h1
    have h1 : p.vs = [x.vw] := h1
    exact (h.fam.each p (List.mem_of_getElem? hp) x.vw (by rw [h1]; exact List.mem_singleton.2 rfl)).reads
theorem Out.upd {x : Place} {i k : Nat} (h : Out w0 b P k) (hf : ¬ x.F k) (hg : ¬ x.G k) : Out w0 b (upd P i x) k :=
  ⟨h.low, h.nb, fun j hj hk => by
    by_cases e : j = i
    · subst e; rw [upd_same] at hk; exact hf hk
    · rw [upd_other P x e] at hk; exact h.nf j hj hk, fun j hj hk => by
    by_cases e : j = i
    · subst e; rw [upd_same] at hk; exact hg hk
    · rw [upd_other P x e] at hk; exact h.ng j hj hk⟩
/-- a ring gives a list and the document's is stored -/
theorem LX.take (h : LX w0 w b P v n K M F L) (i : Nat) (hi : i < 4) (x : Place) (hm1 : Mod (P i).F w w1) (hr1 : Row w1 (fun k => w.heap.size ≤ k) 3 1 u m xs) (hm2 : Mod (fun k => k = b) w1 w3)
    (hx : At w3 x) (hF : ∀ k, x.F k → (P i).F k) (hG : ∀ k, x.G k → w1.heap.size ≤ k) (hc : w3.heap[b]? = some (.cells (rwCells (upd P i x)) 64 (0, 0))) :
    ∃ L', LX w0 w3 b (Go.Proofs.YtcalamofccdldaaDoor.upd P i x) v n K (M ++ [⟨u, m, xs⟩]) F L' := by
  have hs1 := hm1.size
  have hs2 := hm2.size
  have hbl := h.rw.size
  have hFl : ∀ k, x.F k → k < w.heap.size := fun k hk => (h.rw.at_ i hi).ring.lt k (hF k hk)
  refine ⟨_, ⟨h.rw.step i hi x ((hm1.mono (fun k _ hk => .inr hk)).trans hm2 (fun k _ hk => .inl hk)) hx (fun k hk => .inl (hF k hk)) (fun k hk => .inr (Nat.le_trans hs1 (hG k hk))) (fun k hk hg => by have := hFl k hk; have := hG k hg; omega) hc,
    (h.row.kept hm1 (fun k hk _ => (h.fo k hk).1.nf i hi)).kept hm2 (fun k hk _ => (h.fo k hk).1.nb),
    (h.fam.add (h.fam.kept hm1 (fun p hp k hk => (h.lo k ⟨p, hp, hk⟩).nf i hi)) hr1).kept hm2 (fun p hp k hk e => ?_), ?_, fun k hk => ⟨(h.fo k hk).1.upd (fun hf => (h.fo k hk).1.nf i hi (hF k hf)) (fun hg => by have := (h.fo k hk).2; have := hG k hg; omega), by have := (h.fo k hk).2; omega⟩, fun k hk => ?_, fun k hk hf => ?_⟩⟩
  · rcases List.mem_append.1 hp with hp | hp
    · exact (h.lo k ⟨p, hp, hk⟩).nb e
    · rw [List.mem_singleton] at hp
      subst hp
      have := hk.1; omega
  · rw [← List.append_assoc, List.map_append, List.map_append, h.views]; rfl
  · rcases foot_app hk with hk | hk
    · exact (h.lo k hk).upd (fun hf => (h.lo k hk).nf i hi (hF k hf)) (fun hg => by have := foot_lt h.fam hk; have := hG k hg; omega)
    · have hk := foot_one hk
      exact (h.rw.new hk.1).upd (fun hf => by have := hFl k hf; have := hk.1; omega) (fun hg => by have := hG k hg; have := hk.2; omega)
  · rcases foot_app hf with hf | hf
    · exact h.dj k hk hf
    · have := (foot_one hf).1; have := (h.fo k hk).2; omega
/-- what an append of the lists beside the row leaves -/
def LJ (w0 : World) (b : Nat) (P : Nat → Place) (A : Option Addr) (n c : Nat) (K : List Lx) (m : Nat) (KM : List Lx) (L : List Ent) (A' : Option Addr) (c' : Nat) (w : World) : Prop :=
  ∃ F', AP 3 38 w (.slice A' m c') m KM F' L ∧ RW w0 w b P ∧ (∀ k, F' k → Out w0 b P k ∧ k < w.heap.size) ∧ (∀ k, Foot L k → Out w0 b P k) ∧
    ((A' = A ∧ c' = c) ∨ ∃ Fa, Row w Fa 38 1 (.slice A n c) n (K.map (·.v)) ∧ Dj Fa L ∧ ∀ k, Fa k → Out w0 b P k ∧ k < w.heap.size)
theorem LX.room {A : Option Addr} {c k : Nat} (h : LX w0 w b P (.slice A n c) n K M F L) (hb : Below w.heap.size w w1) :
    Row w1 (fun k => F k ∧ OfE w1 38 k) 38 1 (.slice A n c) n (K.map (·.v)) ∧ (∀ w', Row w' (fun k => F k ∧ OfE w1 38 k) 38 1 (.slice A (n + k) c) (n + k) (K.map (·.v) ++ M.map (·.v)) → Mod (fun k => F k ∧ OfE w1 38 k) w1 w' → LJ w0 b P A n c K (n + k) (K ++ M) L A c w') ∧
      ∀ A' c' w', Row w' (fun k => w1.heap.size ≤ k ∧ k < w'.heap.size) 38 1 (.slice A' (n + k) c') (n + k) (K.map (·.v) ++ M.map (·.v)) → Below w1.heap.size w1 w' → LJ w0 b P A n c K (n + k) (K ++ M) L A' c' w' := by
  have h1 := h.past hb
  refine ⟨h1.row.narrow, fun w' hr hm => ⟨fun k => F k ∧ OfE w1 38 k, ⟨by rw [List.map_append]; exact hr, h1.fam.other hm (by decide), h1.views⟩, h1.rw.other hm (fun k hk => (h1.fo k hk.1).1), fun k hk => ⟨(h1.fo k hk.1).1, Nat.lt_of_lt_of_le (h1.fo k hk.1).2 hm.size⟩, h.lo, .inl ⟨rfl, rfl⟩⟩,
    fun A' c' w' hr hb2 => ⟨fun k => w1.heap.size ≤ k ∧ k < w'.heap.size, ⟨by rw [List.map_append]; exact hr, (h1.past hb2).fam, h1.views⟩, (h1.past hb2).rw, fun k hk => ⟨h1.rw.new hk.1, hk.2⟩, h.lo, .inr ⟨F, (h1.past hb2).row, h.dj, (h1.past hb2).fo⟩⟩⟩
theorem fam_ahead {e : TypeId} {sz : Nat} (h : Fam e sz w L) (q : Nat) : Fam e sz w (L.take q) :=
  ⟨fun p hp => h.each p (List.mem_of_mem_take hp), h.apart.sublist (List.take_sublist _ _), fun p hp => h.low p (List.mem_of_mem_take hp)⟩
theorem foot_take {q k : Nat} (h : Foot (L.take q) k) : Foot L k := by
  obtain ⟨p, hp, hk⟩ := h
  exact ⟨p, List.mem_of_mem_take hp, hk⟩
/-- the row behind a writing over: the lists in it -/
theorem lj_back {A A' : Option Addr} {c c' : Nat} {F' : Nat → Prop} {K2 : List Lx} {L2 : List Ent} (hn : n ≤ m) (hK : K.length = n) (hrw : RW w0 w b P) (hfo : ∀ k, F' k → Out w0 b P k ∧ k < w.heap.size) (hlo : ∀ k, Foot L k → Out w0 b P k)
    (hor : (A' = A ∧ c' = c) ∨ ∃ Fa, Row w Fa 38 1 (.slice A n c) n (K.map (·.v)) ∧ Dj Fa L ∧ ∀ k, Fa k → Out w0 b P k ∧ k < w.heap.size)
    (h2 : AP 3 38 w' (.slice A' m c') m K2 F' L2) (hv : K2.map (·.v) = (K ++ M).map (·.v)) (hf : ∀ k, Foot L2 k → Foot L k) (hm : Mod (Foot L) w w') :
    RW w0 w' b P ∧ ∃ F3, AP 3 38 w' (.slice A n c) n (K2.take n) F3 (L2.take n) ∧ (∀ k, F3 k → Out w0 b P k ∧ k < w'.heap.size) ∧ (∀ k, Foot (L2.take n) k → Out w0 b P k) := by
  have hvk : (K2.take n).map (·.v) = K.map (·.v) := by
    rw [List.map_take, hv, List.map_append, List.take_left' (by rw [List.length_map]; exact hK)]
  have hvw : (L2.take n).map (·.vs) = (K2.take n).map (fun x => [x.vw]) := by rw [List.map_take, h2.views, List.map_take]
  refine ⟨hrw.other hm hlo, ?_⟩
  rcases hor with ⟨rfl, rfl⟩ | ⟨Fa, hra, hdj, hfa⟩
  · refine ⟨F', ⟨?_, fam_ahead h2.fam n, hvw⟩, fun k hk => ⟨(hfo k hk).1, Nat.lt_of_lt_of_le (hfo k hk).2 hm.size⟩, fun k hk => hlo k (hf k (foot_take hk))⟩
    have := h2.row.ahead hn
    rw [Nat.mul_one, ← List.map_take] at this
    exact this
  · exact ⟨Fa, ⟨by rw [hvk]; exact hra.kept hm (fun k hk _ => hdj k hk), fam_ahead h2.fam n, hvw⟩, fun k hk => ⟨(hfa k hk).1, Nat.lt_of_lt_of_le (hfa k hk).2 hm.size⟩, fun k hk => hlo k (hf k (foot_take hk))⟩
/-- the lists beside a step of one place -/
theorem ap_turn (hap : AP 3 38 w v n K F L) (ho : ∀ k, F k → Out w0 b P k ∧ k < w.heap.size) (hl : ∀ k, Foot L k → Out w0 b P k) {i : Nat} (hi : i < 4) {x : Place} (hm : Mod (fun k => k = b ∨ (P i).F k) w w') (hF : ∀ k, x.F k → (P i).F k ∨ w.heap.size ≤ k) (hG : ∀ k, x.G k → (P i).G k ∨ w.heap.size ≤ k) :
    AP 3 38 w' v n K F L ∧ (∀ k, Foot L k → Out w0 b (Go.Proofs.YtcalamofccdldaaDoor.upd P i x) k) :=
  ⟨hap.kept hm (fun k hk h => h.elim (ho k hk).1.nb ((ho k hk).1.nf i hi)) (fun k hk h => h.elim (hl k hk).nb ((hl k hk).nf i hi)),
    fun k hk => (hl k hk).upd (fun hf => (hF k hf).elim ((hl k hk).nf i hi) (fun h => by have := foot_lt hap.fam hk; omega)) (fun hg => (hG k hg).elim ((hl k hk).ng i hi) (fun h => by have := foot_lt hap.fam hk; omega))⟩
/-- a list of numbers elsewhere -/
theorem row_far {G H : Nat → Prop} (h : Row w G 3 1 v n xs) (hm : Mod (fun k => H k ∧ OfE w 38 k) w w') : Row w' (fun _ => True) 3 1 v n xs :=
  (h.narrow.kept hm (fun _ hk _ hg => ofE_ne hk.2 hg.2 (by decide))).mono (fun _ _ _ => trivial)
end
end Go.Proofs.YtcalamofccdldaaDoor
