import Derived.Test.YtlnbgahfelcbiaaDoorLOwn3
/- What LruOwn carries while its lists grow. -/
namespace Go.Proofs.YtlnbgahfelcbiaaDoor
open Go Go.RowKit Go.Cu Go.Proofs.YtlnbgahfelcbiaaDoor.errs

def Lst.vw (x : Lst) : Vw := (x.v, x.n, ints x.xs)
/-- what must stay: the first j lists, and all that has grown -/
def Yv (K Gs : List Lst) (j : Nat) (y : Vw) : Prop := (∃ (q : Nat) (x : Lst), q < j ∧ K[q]? = some x ∧ y = x.vw) ∨ ∃ g ∈ Gs, y = g.vw
structure B4 (w0 w : World) (c m : Nat) (room : Int) (L : List LE) (kv : Value) (n : Nat) (K : List Lst) (gv : Value) (j : Nat) (Gs : List Lst) (t : Nat) (F FG : Nat → Prop) (P : List Ent) : Prop where
  c1 : C1 w0 w c m room L
  kr : Row w F 32 1 kv n ((K.take n).map (·.v))
  gr : Row w FG 32 1 gv j (Gs.map (·.v))
  ap : ∀ k, F k → ¬ FG k
  kl : ∀ k, F k → w0.heap.size ≤ k ∧ k < w.heap.size
  gl : ∀ k, FG k → w0.heap.size ≤ k
  fam : Fam 3 1 w P
  pl : ∀ p ∈ P, ∀ k, p.F k → w0.heap.size ≤ k
  todo : ∀ (q : Nat) (x : Lst), t ≤ q → K[q]? = some x → ∃ p, P[q]? = some p ∧ p.vs = x.views
  len : K.length ≤ P.length
  gs : Gs.length = j
  gc : ∀ (q : Nat) (g x : Lst), Gs[q]? = some g → K[q]? = some x → g.n = x.n + 40 ∧ g.xs = x.xs ++ List.replicate 40 (-9 - (q : Int))
def H4 (w0 w : World) (c m : Nat) (room : Int) (L : List LE) (kv : Value) (n : Nat) (K : List Lst) (gv : Value) (j : Nat) (Gs : List Lst) : Prop := ∃ F FG P, B4 w0 w c m room L kv n K gv j Gs j F FG P ∧ ∀ y, Yv K Gs j y → Seen P y
def I4 (w0 w : World) (c m : Nat) (room : Int) (L : List LE) (kv : Value) (n : Nat) (K : List Lst) (gv : Value) (j : Nat) (Gs : List Lst) (x : Lst) (i : Nat) (g : Value) : Prop :=
  ∃ F FG P s, B4 w0 w c m room L kv n K gv j Gs (j + 1) F FG P ∧ Tip P s g (x.n + i) (ints (x.xs ++ List.replicate i (-9 - (j : Int)))) (fun y => Yv K Gs j y ∨ y = x.vw) ∧ (s = j ∨ K.length ≤ s)
section
variable {w0 w w' : World} {c m : Nat} {room : Int} {L : List LE} {kv gv : Value} {n j t : Nat} {K Gs : List Lst} {P : List Ent} {F FG : Nat → Prop}
theorem B4.past (h : B4 w0 w c m room L kv n K gv j Gs t F FG P) (hb : Below w.heap.size w w') : B4 w0 w' c m room L kv n K gv j Gs t F FG P :=
  ⟨h.c1.past hb, h.kr.kept (Mod.ofBelow hb (fun _ => False)) (fun _ _ _ h => h), h.gr.kept (Mod.ofBelow hb (fun _ => False)) (fun _ _ _ h => h), h.ap, fun k hk => ⟨(h.kl k hk).1, Nat.lt_of_lt_of_le (h.kl k hk).2 hb.size⟩, h.gl, h.fam.past hb, h.pl, h.todo, h.len, h.gs, h.gc⟩
theorem H4.past (h : H4 w0 w c m room L kv n K gv j Gs) (hb : Below w.heap.size w w') : H4 w0 w' c m room L kv n K gv j Gs := by
  obtain ⟨F, FG, P, h, h2⟩ := h
  exact ⟨F, FG, P, h.past hb, h2⟩
theorem I4.past {x : Lst} {i : Nat} {g : Value} (h : I4 w0 w c m room L kv n K gv j Gs x i g) (hb : Below w.heap.size w w') : I4 w0 w' c m room L kv n K gv j Gs x i g := by
  obtain ⟨F, FG, P, s, h, h2⟩ := h
  exact ⟨F, FG, P, s, h.past hb, h2⟩
/-- the lists have been painted; none has grown -/
theorem G3.h4 (h : G3 w0 w c m room L kv n K) : H4 w0 w c m room L kv n K (.slice none 0 0) 0 [] := by
  obtain ⟨F, P, h⟩ := h
  refine ⟨fun k => F k ∧ OfE w 32 k, fun _ => False, P, ⟨h.c1, h.row.narrow, Row.nil _ _ _ _, fun _ _ h => h, fun k hk => ⟨h.fl k hk.1, ?_⟩, fun _ h => h.elim, h.fam, h.pl, fun q x _ hx => views_at h.views hx, ?_, rfl, fun q g x hg => by simp at hg⟩, fun y hy => ?_⟩
  · obtain ⟨cur, h⟩ := hk.2
    exact (Array.getElem?_eq_some_iff.1 h).1
  · have := congrArg List.length h.views
    simp at this
    omega
  · rcases hy with ⟨q, x, hq, _⟩ | ⟨g, hg, _⟩
    · exact absurd hq (Nat.not_lt_zero _)
    · exact (List.not_mem_nil hg).elim
/-- the next one begins to grow -/
theorem H4.begin (h : H4 w0 w c m room L kv n K gv j Gs) {x : Lst} (hx : K[j]? = some x) : I4 w0 w c m room L kv n K gv j Gs x 0 x.v := by
  obtain ⟨F, FG, P, h, h2⟩ := h
  obtain ⟨p, hp, hv⟩ := h.todo j x (Nat.le_refl _) hx
  have hrow := h.fam.each p (List.mem_of_getElem? hp) (x.v, x.n, ints x.xs) (by rw [hv]; exact List.mem_singleton.2 rfl)
  obtain ⟨A, cc, hxv, _⟩ := hrow.shape
  obtain ⟨xv, xn, xs⟩ := x
  have hxv : xv = .slice A xn cc := hxv
  subst hxv
  obtain ⟨hf, ht⟩ := h.fam.begin hp hv h2
  refine ⟨F, FG, _, j, ⟨h.c1, h.kr, h.gr, h.ap, h.kl, h.gl, hf, fun q hq k hk => ?_, fun q y hq hy => ?_, ?_, h.gs, h.gc⟩, ?_, .inl rfl⟩
  · rcases List.mem_or_eq_of_mem_set hq with hq | rfl
    · exact h.pl q hq k hk
    · exact h.pl p (List.mem_of_getElem? hp) k hk
  · rw [get_set (by omega)]
    exact h.todo q y (by omega) hy
  · rw [List.length_set]
    exact h.len
  · simp only [List.replicate_zero, List.append_nil, Nat.add_zero]
    exact ht
theorem B4.turn {G : Nat → Prop} {P' : List Ent} (h : B4 w0 w c m room L kv n K gv j Gs t F FG P) (hm : Mod (fun k => G k ∧ OfE w 3 k) w w') (hG : ∀ k, G k → w0.heap.size ≤ k) (hf : Fam 3 1 w' P') (hpl : ∀ p ∈ P', ∀ k, p.F k → w0.heap.size ≤ k)
    (hle : P.length ≤ P'.length) (htodo : ∀ (q : Nat) (x : Lst), t ≤ q → K[q]? = some x → P'[q]? = P[q]?) : B4 w0 w' c m room L kv n K gv j Gs t F FG P' :=
  ⟨h.c1.other hm (fun k hk hg => h.c1.lc.not_row (by decide) (by decide) k hk hg.2) (fun k hg => hG k hg.1), (h.kr.narrow.kept hm (fun _ hk _ hg => ofE_ne hk.2 hg.2 (by decide))).mono (fun _ hk _ => hk.1), (h.gr.narrow.kept hm (fun _ hk _ hg => ofE_ne hk.2 hg.2 (by decide))).mono (fun _ hk _ => hk.1), h.ap,
    fun k hk => ⟨(h.kl k hk).1, Nat.lt_of_lt_of_le (h.kl k hk).2 hm.size⟩, h.gl, hf, hpl, fun q x hq hx => by rw [htodo q x hq hx]; exact h.todo q x hq hx, Nat.le_trans h.len hle, h.gs, h.gc⟩
theorem ints_snoc (xs : List Int) (i : Nat) (a : Int) : ints (xs ++ List.replicate (i + 1) a) = ints (xs ++ List.replicate i a) ++ [.int .i64 a] := by
  rw [List.replicate_succ', ← List.append_assoc]
  simp [ints]
/-- it grows by one -/
theorem I4.step {x : Lst} {i cc : Nat} {A : Option Addr} (h : I4 w0 w c m room L kv n K gv j Gs x i (.slice A (x.n + i) cc)) :
    ∃ G, Row w G 3 1 (.slice A (x.n + i) cc) (x.n + i) (ints (x.xs ++ List.replicate i (-9 - (j : Int)))) ∧
      (∀ w', Row w' G 3 1 (.slice A (x.n + i + 1) cc) (x.n + i + 1) (ints (x.xs ++ List.replicate i (-9 - (j : Int))) ++ [.int .i64 (-9 - (j : Int))]) → Mod G w w' → I4 w0 w' c m room L kv n K gv j Gs x (i + 1) (.slice A (x.n + i + 1) cc)) ∧
      (∀ A' c' w', Row w' (fun k => w.heap.size ≤ k ∧ k < w'.heap.size) 3 1 (.slice A' (x.n + i + 1) c') (x.n + i + 1) (ints (x.xs ++ List.replicate i (-9 - (j : Int))) ++ [.int .i64 (-9 - (j : Int))]) → Below w.heap.size w w' → I4 w0 w' c m room L kv n K gv j Gs x (i + 1) (.slice A' (x.n + i + 1) c')) := by
  obtain ⟨F, FG, P, s, h, ht, hs⟩ := h
  obtain ⟨p, hp, hrow⟩ := ht.row h.fam
  refine ⟨fun k => p.F k ∧ OfE w 3 k, hrow.narrow, fun w' hr hm => ?_, fun A' c' w' hr hb => ?_⟩
  · obtain ⟨P', h1, h2, h3, h4, h5⟩ := ht.room h.fam hp (hr.mono (fun _ hk _ => hk.1)) (hm.mono (fun _ _ hk => hk.1))
    refine ⟨F, FG, P', s, h.turn hm (h.pl p (List.mem_of_getElem? hp)) h3 (h5 _ h.pl) (by omega) (fun q x hq hx => h2 q ?_), ?_, hs⟩
    · have := (List.getElem?_eq_some_iff.1 hx).1
      omega
    · rw [ints_snoc]
      exact h4
  · obtain ⟨P', h1, h2, h3, h4, h5⟩ := ht.moved h.fam hr hb
    have hb2 := h.past hb
    have hl := h.len
    refine ⟨F, FG, P', P.length, (h.past hb).turn (G := fun _ => False) (Mod.refl _ _) (fun _ h => h.elim) h3 (h5 _ h.c1.below.size h.pl) (by omega) (fun q x hq hx => h2 q ?_), ?_, .inr h.len⟩
    · have := (List.getElem?_eq_some_iff.1 hx).1
      omega
    · rw [ints_snoc]
      exact h4
/-- what has grown is taken into its row -/
theorem I4.take {x : Lst} {g : Value} (h : I4 w0 w c m room L kv n K gv j Gs x 40 g) (hx : K[j]? = some x) :
    ∃ FG, Row w FG 32 1 gv j (Gs.map (·.v)) ∧ ∀ w' gv2, Row w' (fun k => FG k ∨ k = w.heap.size) 32 1 gv2 (j + 1) (Gs.map (·.v) ++ [g]) → Mod FG w w' → H4 w0 w' c m room L kv n K gv2 (j + 1) (Gs ++ [⟨g, x.n + 40, x.xs ++ List.replicate 40 (-9 - (j : Int))⟩]) := by
  obtain ⟨F, FG, P, s, h, ht, hs⟩ := h
  refine ⟨fun k => FG k ∧ OfE w 32 k, h.gr.narrow, fun w' gv2 hr hm => ⟨F, fun k => (FG k ∧ OfE w 32 k) ∨ k = w.heap.size, P, ⟨h.c1.other hm (fun k hk hg => h.c1.lc.not_row (by decide) (by decide) k hk hg.2) (fun k hg => h.gl k hg.1),
    h.kr.kept hm (fun k hk _ hg => h.ap k hk hg.1), by rw [List.map_append]; exact hr, fun k hk hg => ?_, fun k hk => ⟨(h.kl k hk).1, Nat.lt_of_lt_of_le (h.kl k hk).2 hm.size⟩, fun k hg => ?_, h.fam.other hm (by decide), h.pl, h.todo, h.len, by rw [List.length_append, h.gs]; rfl, fun q g' y hg hy => ?_⟩, fun y hy => ?_⟩⟩
  · rcases hg with hg | rfl
    · exact h.ap k hk hg.1
    · exact absurd (h.kl _ hk).2 (Nat.lt_irrefl _)
  · rcases hg with hg | rfl
    · exact h.gl k hg.1
    · exact h.c1.below.size
  · by_cases hq : q < Gs.length
    · rw [List.getElem?_append_left hq] at hg
      exact h.gc q g' y hg hy
    · have hgs := h.gs
      have hql : q < (Gs ++ [(⟨g, x.n + 40, x.xs ++ List.replicate 40 (-9 - (j : Int))⟩ : Lst)]).length := (List.getElem?_eq_some_iff.1 hg).1
      rw [List.length_append, List.length_singleton] at hql
      obtain rfl : q = j := by omega
      rw [List.getElem?_append_right (by omega), hgs, Nat.sub_self] at hg
      injection hg with hg
      subst hg
      rw [hx] at hy
      injection hy with hy
      subst hy
      exact ⟨rfl, rfl⟩
  · rcases hy with ⟨q, y', hq, hy', rfl⟩ | ⟨g', hg', rfl⟩
    · by_cases hqj : q = j
      · subst hqj
        rw [hx] at hy'
        injection hy' with hy'
        subst hy'
        exact ht.seen (.inr rfl)
      · exact ht.seen (.inl (.inl ⟨q, y', by omega, hy', rfl⟩))
    · rcases List.mem_append.1 hg' with hg' | hg'
      · exact ht.seen (.inl (.inr ⟨g', hg', rfl⟩))
      · rw [List.mem_singleton] at hg'
        subst hg'
        exact ht.tip
/-- a list that has been dealt with reads as it did -/
theorem H4.kept (h : H4 w0 w c m room L kv n K gv j Gs) {q : Nat} {x : Lst} (hx : K[q]? = some x) : Reads w 1 x.v x.n (ints x.xs) := by
  obtain ⟨F, FG, P, h, h2⟩ := h
  by_cases hq : q < j
  · exact h.fam.seen (y := x.vw) (h2 _ (.inl ⟨q, x, hq, hx, rfl⟩))
  · obtain ⟨p, hp, hv⟩ := h.todo q x (by omega) hx
    exact h.fam.seen (y := x.vw) ⟨p, List.mem_of_getElem? hp, by rw [hv]; exact List.mem_singleton.2 rfl⟩
theorem H4.grown (h : H4 w0 w c m room L kv n K gv j Gs) {q : Nat} (hq : q < j) {x : Lst} (hx : K[q]? = some x) : ∃ g, Gs[q]? = some g ∧ g.n = x.n + 40 ∧ Reads w 1 g.v (x.n + 40) (ints (x.xs ++ List.replicate 40 (-9 - (q : Int)))) := by
  obtain ⟨F, FG, P, h, h2⟩ := h
  have hgs := h.gs
  obtain ⟨g, hg⟩ : ∃ g, Gs[q]? = some g := ⟨_, List.getElem?_eq_getElem (by omega)⟩
  obtain ⟨h3, h4⟩ := h.gc q g x hg hx
  have := h.fam.seen (y := g.vw) (h2 _ (.inr ⟨g, List.mem_of_getElem? hg, rfl⟩))
  refine ⟨g, hg, h3, ?_⟩
  rw [← h3, ← h4]
  exact this
theorem H4.c1 (h : H4 w0 w c m room L kv n K gv j Gs) : C1 w0 w c m room L := by
  obtain ⟨F, FG, P, h, h2⟩ := h
  exact h.c1
theorem H4.kcell {A : Option Addr} {cc : Nat} (h : H4 w0 w c m room L (.slice A n cc) n K gv j Gs) {q : Nat} (hq : q < n) {x : Lst} (hx : K[q]? = some x) : ∃ ad, A = some ad ∧ w.cell? (ad.add q) = some x.v := by
  obtain ⟨F, FG, P, h, h2⟩ := h
  exact row_cell h.kr hq hx
theorem H4.gcell {A : Option Addr} {cc : Nat} (h : H4 w0 w c m room L kv n K (.slice A j cc) j Gs) {q : Nat} {g : Lst} (hx : Gs[q]? = some g) : ∃ ad, A = some ad ∧ w.cell? (ad.add q) = some g.v := by
  obtain ⟨F, FG, P, h, h2⟩ := h
  have hgs := h.gs
  have hr : Row w FG 32 1 (.slice A j cc) j ((Gs.take j).map (·.v)) := by rw [List.take_of_length_le (by omega)]; exact h.gr
  exact row_cell hr (by have := (List.getElem?_eq_some_iff.1 hx).1; omega) hx
theorem H4.krow (h : H4 w0 w c m room L kv n K gv j Gs) : Reads w 1 kv n ((K.take n).map (·.v)) := by
  obtain ⟨F, FG, P, h, h2⟩ := h
  exact h.kr.reads
theorem H4.grow (h : H4 w0 w c m room L kv n K gv j Gs) : Reads w 1 gv j (Gs.map (·.v)) := by
  obtain ⟨F, FG, P, h, h2⟩ := h
  exact h.gr.reads
theorem G3.krow (h : G3 w0 w c m room L kv n K) : Reads w 1 kv n ((K.take n).map (·.v)) := by
  obtain ⟨F, P, h⟩ := h
  exact h.row.reads
theorem G3.shape (h : G3 w0 w c m room L kv n K) {i : Nat} {x : Lst} (hx : K[i]? = some x) : (∃ A cc, x.v = .slice A x.n cc) ∧ x.xs.length = x.n := by
  obtain ⟨G, h⟩ := h.row_at hx
  obtain ⟨A, cc, he, _⟩ := h.shape
  exact ⟨⟨A, cc, he⟩, by have := h.1; rw [ints_length] at this; omega⟩
theorem vs_get {K : List Lst} {n q : Nat} {x : Lst} (hx : K[q]? = some x) (hq : q < n) : ((K.take n).map (·.v))[q]? = some x.v := by
  rw [List.getElem?_map, List.getElem?_take_of_lt hq, hx]
  rfl
end
end Go.Proofs.YtlnbgahfelcbiaaDoor
