import Derived.Test.YtlnbgahfelcbiaaDoorLOwn2
import Derived.Test.YtlnbgahfelcbiaaDoorFam2
/- What LruOwn carries behind its first loop: a cache, and lists each in memory of its own, the first n of them in a row. -/
namespace Go.Proofs.YtlnbgahfelcbiaaDoor
open Go Go.RowKit Go.Cu Go.Proofs.YtlnbgahfelcbiaaDoor.errs

structure G2 (w0 w : World) (c m : Nat) (room : Int) (L : List LE) (F : Nat → Prop) (kv : Value) (n : Nat) (P : List Ent) (K : List Lst) : Prop where
  c1 : C1 w0 w c m room L
  row : Row w F 32 1 kv n ((K.take n).map (·.v))
  fam : Fam 3 1 w P
  views : P.map (·.vs) = K.map Lst.views
  fl : ∀ k, F k → w0.heap.size ≤ k
  pl : ∀ p ∈ P, ∀ k, p.F k → w0.heap.size ≤ k
/-- the same, with what nobody asks for put away -/
def G3 (w0 w : World) (c m : Nat) (room : Int) (L : List LE) (kv : Value) (n : Nat) (K : List Lst) : Prop := ∃ F P, G2 w0 w c m room L F kv n P K
section
variable {w0 w w' : World} {c m : Nat} {room : Int} {L L' : List LE} {kv tv : Value} {n : Nat} {K T : List Lst} {P : List Ent} {F : Nat → Prop}
theorem OS.g3 {PK PT : List Ent} {FK FT : Nat → Prop} (h : OS w0 w c m room L kv tv n K T PK PT FK FT) : G3 w0 w c m room L kv n K :=
  ⟨FK, PK, h.c1, by rw [List.take_of_length_le (Nat.le_of_eq h.k.len)]; exact h.k.row, h.k.fam, h.k.views, fun k hk => (h.kl k hk).1, h.pl⟩
theorem G2.past (h : G2 w0 w c m room L F kv n P K) (hb : Below w.heap.size w w') : G2 w0 w' c m room L F kv n P K :=
  ⟨h.c1.past hb, h.row.kept (Mod.ofBelow hb (fun _ => False)) (fun _ _ _ h => h), h.fam.past hb, h.views, h.fl, h.pl⟩
theorem G3.past (h : G3 w0 w c m room L kv n K) (hb : Below w.heap.size w w') : G3 w0 w' c m room L kv n K := by
  obtain ⟨F, P, h⟩ := h
  exact ⟨F, P, h.past hb⟩
theorem G3.c1 (h : G3 w0 w c m room L kv n K) : C1 w0 w c m room L := by
  obtain ⟨F, P, h⟩ := h
  exact h.c1
theorem views_at {P : List Ent} {K : List Lst} (h : P.map (·.vs) = K.map Lst.views) {i : Nat} {x : Lst} (hx : K[i]? = some x) : ∃ p, P[i]? = some p ∧ p.vs = x.views := by
  have h1 : (P.map (·.vs))[i]? = some x.views := by rw [h, List.getElem?_map, hx]; rfl
  rw [List.getElem?_map] at h1
  cases hp : P[i]? with
  | none => rw [hp] at h1; cases h1
  | some p =>
    rw [hp] at h1
    injection h1 with h1
    exact ⟨p, rfl, h1⟩
theorem G3.row_at (h : G3 w0 w c m room L kv n K) {i : Nat} {x : Lst} (hx : K[i]? = some x) : ∃ G, Row w G 3 1 x.v x.n (ints x.xs) := by
  obtain ⟨F, P, h⟩ := h
  obtain ⟨p, hp, hv⟩ := views_at h.views hx
  exact ⟨p.F, h.fam.each p (List.mem_of_getElem? hp) (x.v, x.n, ints x.xs) (by rw [hv]; exact List.mem_singleton.2 rfl)⟩
theorem G3.reads (h : G3 w0 w c m room L kv n K) {i : Nat} {x : Lst} (hx : K[i]? = some x) : Reads w 1 x.v x.n (ints x.xs) := by
  obtain ⟨G, h⟩ := h.row_at hx
  exact h.reads
theorem row_cell {w : World} {F : Nat → Prop} {e : TypeId} {A : Option Addr} {n cc : Nat} {K : List Lst} (h : Row w F e 1 (.slice A n cc) n ((K.take n).map (·.v))) {i : Nat} (hi : i < n) {x : Lst} (hx : K[i]? = some x) : ∃ ad, A = some ad ∧ w.cell? (ad.add i) = some x.v := by
  obtain ⟨ad, c, he, hc⟩ := reads_pos h.reads (by omega)
  injection he with hA _ _
  exact ⟨ad, hA, hc i _ (by rw [List.getElem?_map, List.getElem?_take_of_lt hi, hx]; rfl)⟩
theorem G3.cell {A : Option Addr} {cc : Nat} (h : G3 w0 w c m room L (.slice A n cc) n K) {i : Nat} (hi : i < n) {x : Lst} (hx : K[i]? = some x) : ∃ ad, A = some ad ∧ w.cell? (ad.add i) = some x.v := by
  obtain ⟨F, P, h⟩ := h
  exact row_cell h.row hi hx
/-- a list told in the step from w to w' -/
theorem G3.add {u : Value} {mm : Nat} {xs : List Int} (h : G3 w0 w c m room L kv n K) (hb : Below w.heap.size w w') (hl : Row w' (New w) 3 1 u mm (ints xs)) (hn : n ≤ K.length) : G3 w0 w' c m room L kv n (K ++ [⟨u, mm, xs⟩]) := by
  obtain ⟨F, P, h⟩ := h
  have h2 := h.past hb
  refine ⟨F, _, h2.c1, ?_, h.fam.add h2.fam hl, ?_, h.fl, fun p hp k hk => ?_⟩
  · rw [List.take_append_of_le_length hn]
    exact h2.row
  · rw [List.map_append, List.map_append, h.views]
    rfl
  · rcases List.mem_append.1 hp with hp | hp
    · exact h.pl p hp k hk
    · rw [List.mem_singleton] at hp
      subst hp
      have : w.heap.size ≤ k := hk.1
      have := h.c1.below.size
      omega
/-- the row takes in the next of the lists -/
theorem G3.take (h : G3 w0 w c m room L kv n K) {x : Lst} (hx : K[n]? = some x) :
    ∃ F, Row w F 32 1 kv n ((K.take n).map (·.v)) ∧ ∀ w' kv2, Row w' (fun k => F k ∨ k = w.heap.size) 32 1 kv2 (n + 1) ((K.take n).map (·.v) ++ [x.v]) → Mod F w w' → G3 w0 w' c m room L kv2 (n + 1) K := by
  obtain ⟨F, P, h⟩ := h
  refine ⟨fun k => F k ∧ OfE w 32 k, h.row.narrow, fun w' kv2 hr hm => ⟨fun k => (F k ∧ OfE w 32 k) ∨ k = w.heap.size, P, h.c1.other hm (fun k hk hg => h.c1.lc.not_row (by decide) (by decide) k hk hg.2) (fun k hg => h.fl k hg.1), ?_, h.fam.other hm (by decide), h.views, fun k hk => ?_, h.pl⟩⟩
  · rw [List.take_add_one, hx, List.map_append]
    exact hr
  · rcases hk with hk | rfl
    · exact h.fl k hk.1
    · exact h.c1.below.size
/-- a list is written -/
theorem G3.set (h : G3 w0 w c m room L kv n K) {j : Nat} {x : Lst} (hx : K[j]? = some x) :
    ∃ G, Row w G 3 1 x.v x.n (ints x.xs) ∧ ∀ w' xs', Row w' G 3 1 x.v x.n (ints xs') → Mod G w w' → G3 w0 w' c m room L kv n (K.set j ⟨x.v, x.n, xs'⟩) := by
  obtain ⟨F, P, h⟩ := h
  obtain ⟨p, hp, hv⟩ := views_at h.views hx
  have hrow := h.fam.each p (List.mem_of_getElem? hp) (x.v, x.n, ints x.xs) (by rw [hv]; exact List.mem_singleton.2 rfl)
  refine ⟨fun k => p.F k ∧ OfE w 3 k, hrow.narrow, fun w' xs' hr hm => ⟨F, P.set j ⟨p.F, [(x.v, x.n, ints xs')]⟩, h.c1.other hm (fun k hk hg => h.c1.lc.not_row (by decide) (by decide) k hk hg.2) (fun k hg => h.pl p (List.mem_of_getElem? hp) k hg.1), ?_, ?_, ?_, h.fl, fun q hq k hk => ?_⟩⟩
  · have e : ((K.set j ⟨x.v, x.n, xs'⟩).take n).map (·.v) = (K.take n).map (·.v) := by
      apply List.ext_getElem?
      intro i
      rw [List.getElem?_map, List.getElem?_map]
      by_cases hi : i < n
      · rw [List.getElem?_take_of_lt hi, List.getElem?_take_of_lt hi]
        by_cases hj : j = i
        · subst hj
          rw [get_set_same hx, hx]
          rfl
        · rw [List.getElem?_set_ne hj]
      · rw [List.getElem?_eq_none (by rw [List.length_take]; omega), List.getElem?_eq_none (by rw [List.length_take]; omega)]
    rw [e]
    exact (h.row.narrow.kept hm (fun _ hk _ hg => ofE_ne hk.2 hg.2 (by decide))).mono (fun _ hk _ => hk.1)
  · refine h.fam.turnAt hp (hm.mono (fun _ _ hk => hk.1)) (fun y hy => ?_) (fun _ h => h)
    rw [List.mem_singleton] at hy
    subst hy
    exact hr.mono (fun _ hk _ => hk.1)
  · rw [List.map_set, List.map_set, h.views]
    rfl
  · rcases List.mem_or_eq_of_mem_set hq with hq | rfl
    · exact h.pl q hq k hk
    · exact h.pl p (List.mem_of_getElem? hp) k hk
end
/-- of the lists: the first j hold their number alone, the two behind the row hold ks -/
structure Pnt (K : List Lst) (j n : Nat) (ks : List Int) (bv wv : Value) (nb : Nat) : Prop where
  len : K.length = n + 2
  done : ∀ (q : Nat) (x : Lst), q < j → K[q]? = some x → x.xs = List.replicate x.n (-1000 - (q : Int))
  b : K[n]? = some ⟨bv, nb, ks⟩
  want : K[n + 1]? = some ⟨wv, nb, ks⟩
  le : ∀ (q : Nat) (x : Lst), K[q]? = some x → x.n ≤ 300
theorem set_get_same {α : Type} {K : List α} {j : Nat} {x : α} (h : K[j]? = some x) : K.set j x = K := by
  obtain ⟨hj, he⟩ := List.getElem?_eq_some_iff.1 h
  rw [← he, List.set_getElem_self]
theorem set_set_same {α : Type} (K : List α) (j : Nat) (x y : α) : (K.set j x).set j y = K.set j y := by simp
/-- a list, painted as far as i -/
def pnt (xs : List Int) (j i : Nat) : List Int := List.replicate i (-1000 - (j : Int)) ++ xs.drop i
theorem pnt_zero (xs : List Int) (j : Nat) : pnt xs j 0 = xs := rfl
theorem pnt_set {xs : List Int} {j i : Nat} (h : i < xs.length) : (pnt xs j i).set i (-1000 - (j : Int)) = pnt xs j (i + 1) := by
  unfold pnt
  rw [List.set_append_right _ _ (by simp), List.length_replicate, Nat.sub_self, List.drop_eq_getElem_cons h, List.set_cons_zero, List.replicate_succ', List.append_assoc]
  rfl
theorem pnt_full {xs : List Int} {j n : Nat} (h : xs.length = n) : pnt xs j n = List.replicate n (-1000 - (j : Int)) := by
  unfold pnt
  rw [List.drop_eq_nil_of_le (by omega), List.append_nil]
theorem pnt_length {xs : List Int} {j i : Nat} (h : i ≤ xs.length) : (pnt xs j i).length = xs.length := by
  unfold pnt
  rw [List.length_append, List.length_replicate, List.length_drop]
  omega
theorem ints_set (xs : List Int) (i : Nat) (u : Int) : (ints xs).set i (.int .i64 u) = ints (xs.set i u) := by
  unfold ints
  rw [List.map_set]
theorem Pnt.next {K : List Lst} {j n nb : Nat} {ks : List Int} {bv wv : Value} (h : Pnt K j n ks bv wv nb) {x : Lst} (hx : K[j]? = some x) (hj : j < n) : Pnt (K.set j ⟨x.v, x.n, List.replicate x.n (-1000 - (j : Int))⟩) (j + 1) n ks bv wv nb := by
  refine ⟨by simpa using h.len, fun q y hq hy => ?_, by rw [List.getElem?_set_ne (by omega)]; exact h.b, by rw [List.getElem?_set_ne (by omega)]; exact h.want, fun q y hy => ?_⟩
  · by_cases hqj : j = q
    · subst hqj
      rw [get_set_same hx] at hy
      injection hy with hy
      subst hy
      rfl
    · rw [List.getElem?_set_ne hqj] at hy
      exact h.done q y (by omega) hy
  · by_cases hqj : j = q
    · subst hqj
      rw [get_set_same hx] at hy
      injection hy with hy
      subst hy
      exact h.le j x hx
    · rw [List.getElem?_set_ne hqj] at hy
      exact h.le q y hy
/-- all that grown's loop leaves alone -/
structure Pt (K : List Lst) (n : Nat) (ks : List Int) (wv : Value) (nb : Nat) : Prop where
  len : K.length = n + 1
  done : ∀ (q : Nat) (x : Lst), q < n → K[q]? = some x → x.xs = List.replicate x.n (-1000 - (q : Int))
  want : K[n]? = some ⟨wv, nb, ks⟩
  le : ∀ (q : Nat) (x : Lst), K[q]? = some x → x.n ≤ 300
theorem Pnt.last {K : List Lst} {n nb : Nat} {ks : List Int} {bv wv : Value} (h : Pnt K n n ks bv wv nb) : Pt (K.set n ⟨bv, nb, List.replicate nb (-1000 - (n : Int))⟩) (n + 1) ks wv nb := by
  have hx := h.b
  refine ⟨by simpa using h.len, fun q y hq hy => ?_, by rw [List.getElem?_set_ne (by omega)]; exact h.want, fun q y hy => ?_⟩
  · by_cases hqj : n = q
    · subst hqj
      rw [get_set_same hx] at hy
      injection hy with hy
      subst hy
      rfl
    · rw [List.getElem?_set_ne hqj] at hy
      exact h.done q y (by omega) hy
  · by_cases hqj : n = q
    · subst hqj
      rw [get_set_same hx] at hy
      injection hy with hy
      subst hy
      exact h.le n ⟨bv, nb, ks⟩ hx
    · rw [List.getElem?_set_ne hqj] at hy
      exact h.le q y hy
theorem get2 {K : List Lst} {i : Nat} (h : K.length = i) (a b : Lst) : ((K ++ [a]) ++ [b])[i + 1]? = some b := by
  subst h
  simp
theorem get3a {K : List Lst} {i : Nat} (h : K.length = i) (a b c : Lst) : (((K ++ [a]) ++ [b]) ++ [c])[i]? = some a := by
  subst h
  simp
theorem pnt_start {K : List Lst} {i nb : Nat} {ks : List Int} {av bv wv : Value} {na : Nat} {xs : List Int} (h : K.length = i) (hK : ∀ x ∈ K, x.n ≤ 300) (ha : na ≤ 300) (hb : nb ≤ 300) :
    Pnt (((K ++ [⟨av, na, xs⟩]) ++ [⟨bv, nb, ks⟩]) ++ [⟨wv, nb, ks⟩]) 0 (i + 1) ks bv wv nb := by
  subst h
  refine ⟨by simp, fun q x hq => absurd hq (Nat.not_lt_zero _), get2 rfl _ _ |> fun h => by rw [List.getElem?_append_left (by simp)]; exact h, by rw [List.getElem?_append_right (by simp)]; simp, fun q x hx => ?_⟩
  have hm := List.mem_of_getElem? hx
  simp only [List.mem_append, List.mem_singleton] at hm
  rcases hm with ((hm | rfl) | rfl) | rfl
  · exact hK x hm
  · exact ha
  · exact hb
  · exact hb
/-- one more cell painted -/
theorem G3.paint {w0 w : World} {c m : Nat} {room : Int} {L : List LE} {kv : Value} {n j q : Nat} {K : List Lst} {x : Lst} (h : G3 w0 w c m room L kv n (K.set j ⟨x.v, x.n, pnt x.xs j q⟩)) (hx : K[j]? = some x) (hq : q < x.n) (hl : x.xs.length = x.n) :
    ∃ G, Row w G 3 1 x.v x.n (ints (pnt x.xs j q)) ∧ ∀ w' u, u = -1000 - (j : Int) → Row w' G 3 1 x.v x.n ((ints (pnt x.xs j q)).set q (.int .i64 u)) → Mod G w w' → G3 w0 w' c m room L kv n (K.set j ⟨x.v, x.n, pnt x.xs j (q + 1)⟩) := by
  obtain ⟨G, h1, h2⟩ := h.set (j := j) (x := ⟨x.v, x.n, pnt x.xs j q⟩) (get_set_same hx)
  refine ⟨G, h1, fun w' u hu hr hm => ?_⟩
  subst hu
  have := h2 w' (pnt x.xs j (q + 1)) (by rw [← pnt_set (by omega), ← ints_set]; exact hr) hm
  rw [set_set_same] at this
  exact this
end Go.Proofs.YtlnbgahfelcbiaaDoor
