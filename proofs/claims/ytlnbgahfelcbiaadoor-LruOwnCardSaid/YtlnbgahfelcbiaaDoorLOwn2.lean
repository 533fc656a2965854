import Derived.Test.YtlnbgahfelcbiaaDoorLOwn1
/- What LruOwn carries through its first loop: a cache, lists kept and their copies. -/
namespace Go.Proofs.YtlnbgahfelcbiaaDoor
open Go Go.RowKit Go.Cu Go.Proofs.YtlnbgahfelcbiaaDoor.errs

structure OS (w0 w : World) (c m : Nat) (room : Int) (L : List LE) (kv tv : Value) (n : Nat) (K T : List Lst) (PK PT : List Ent) (FK FT : Nat → Prop) : Prop where
  c1 : C1 w0 w c m room L
  k : Rows2 w FK kv n PK K
  t : Rows2 w FT tv n PT T
  eq : K.map (fun x => (x.n, x.xs)) = T.map (fun x => (x.n, x.xs))
  ap : ∀ k, FK k → ¬ FT k
  kl : ∀ k, FK k → w0.heap.size ≤ k ∧ k < w.heap.size
  tl : ∀ k, FT k → w0.heap.size ≤ k ∧ k < w.heap.size
  pl : ∀ p ∈ PK, ∀ k, p.F k → w0.heap.size ≤ k
section
variable {w0 w w' : World} {c m : Nat} {room : Int} {L L' : List LE} {kv tv : Value} {n : Nat} {K T : List Lst} {PK PT : List Ent} {FK FT : Nat → Prop}
theorem OS.past (h : OS w0 w c m room L kv tv n K T PK PT FK FT) (hb : Below w.heap.size w w') : OS w0 w' c m room L kv tv n K T PK PT FK FT :=
  ⟨h.c1.past hb, h.k.past hb, h.t.past hb, h.eq, h.ap, fun j hj => ⟨(h.kl j hj).1, Nat.lt_of_lt_of_le (h.kl j hj).2 hb.size⟩, fun j hj => ⟨(h.tl j hj).1, Nat.lt_of_lt_of_le (h.tl j hj).2 hb.size⟩, h.pl⟩
/-- the cache's own steps -/
theorem OS.cache (h : OS w0 w c m room L kv tv n K T PK PT FK FT) (hl : LCP w' c m room L') (hm : Mod (InC c m L) w w') (hf : From w c m L L') : OS w0 w' c m room L' kv tv n K T PK PT FK FT :=
  ⟨h.c1.step hl hm hf, h.k.cache h.c1.lc hm, h.t.cache h.c1.lc hm, h.eq, h.ap, fun j hj => ⟨(h.kl j hj).1, Nat.lt_of_lt_of_le (h.kl j hj).2 hm.size⟩, fun j hj => ⟨(h.tl j hj).1, Nat.lt_of_lt_of_le (h.tl j hj).2 hm.size⟩, h.pl⟩
/-- the same place in both -/
theorem OS.at (h : OS w0 w c m room L kv tv n K T PK PT FK FT) {i : Nat} (hi : i < n) : ∃ x y : Lst, K[i]? = some x ∧ T[i]? = some y ∧ x.n = y.n ∧ x.xs = y.xs := by
  have hk := h.k.len
  have ht := h.t.len
  obtain ⟨x, hx⟩ : ∃ x, K[i]? = some x := ⟨_, List.getElem?_eq_getElem (by omega)⟩
  obtain ⟨y, hy⟩ : ∃ y, T[i]? = some y := ⟨_, List.getElem?_eq_getElem (by omega)⟩
  have he := congrArg (fun l => l[i]?) h.eq
  simp only [List.getElem?_map, hx, hy, Option.map_some, Option.some.injEq, Prod.mk.injEq] at he
  exact ⟨x, y, hx, hy, he.1, he.2⟩
/-- a row's cell -/
theorem Rows2.cell {w : World} {F : Nat → Prop} {A : Option Addr} {n cc : Nat} {P : List Ent} {K : List Lst} (h : Rows2 w F (.slice A n cc) n P K) {i : Nat} {x : Lst} (hx : K[i]? = some x) : ∃ ad, A = some ad ∧ w.cell? (ad.add i) = some x.v := by
  have hi : i < K.length := (List.getElem?_eq_some_iff.1 hx).1
  have hl := h.len
  obtain ⟨ad, c, he, hc⟩ := reads_pos h.row.reads (by omega)
  injection he with hA _ _
  exact ⟨ad, hA, hc i _ (by rw [List.getElem?_map, hx]; rfl)⟩
/-- a row that has been appended to: its own memory, and what the step made -/
def Wd (F : Nat → Prop) (w w' : World) (e : TypeId) (k : Nat) : Prop := (F k ∧ OfE w e k) ∨ (k = w.heap.size ∧ k < w'.heap.size)
theorem row_wd {w w' : World} {F : Nat → Prop} {e e' : TypeId} {sz n : Nat} {v : Value} {xs : List Value} (h : Row w' (fun k => (F k ∧ OfE w e k) ∨ k = w.heap.size) e' sz v n xs) : Row w' (Wd F w w' e) e' sz v n xs :=
  h.mono (fun _ hk hl => hk.imp id (fun h => ⟨h, hl⟩))
/-- a list made by the cache's step from w to w1 is kept -/
theorem OS.keepK {w1 w2 w3 : World} {kv2 u : Value} {mm : Nat} {xs : List Int} (h : OS w0 w c m room L kv tv n K T PK PT FK FT) (h1 : OS w0 w1 c m room L' kv tv n K T PK PT FK FT) (hl : Row w1 (New w) 3 1 u mm (ints xs)) (hb : Below w1.heap.size w1 w2) (hm : Mod (fun k => FK k ∧ OfE w2 32 k) w2 w3)
    (hr : Row w3 (fun k => (FK k ∧ OfE w2 32 k) ∨ k = w2.heap.size) 32 1 kv2 (n + 1) (K.map (·.v) ++ [u])) :
    C1 w0 w3 c m room L' ∧ Rows2 w3 (Wd FK w2 w3 32) kv2 (n + 1) (PK ++ [⟨fun k => w.heap.size ≤ k ∧ k < w1.heap.size, [(u, mm, ints xs)]⟩]) (K ++ [⟨u, mm, xs⟩]) ∧ Rows2 w3 FT tv n PT T ∧
      (∀ k, Wd FK w2 w3 32 k → ¬ FT k) ∧ (∀ k, Wd FK w2 w3 32 k → w0.heap.size ≤ k ∧ k < w3.heap.size) ∧ (∀ k, FT k → w0.heap.size ≤ k ∧ k < w3.heap.size) ∧ (∀ p ∈ PK ++ [⟨fun k => w.heap.size ≤ k ∧ k < w1.heap.size, [(u, mm, ints xs)]⟩], ∀ k, p.F k → w0.heap.size ≤ k) := by
  have h2 := h1.past hb
  have hz1 := hb.size
  have hz0 := h.c1.below.size
  have hz2 := h1.c1.below.size
  refine ⟨h2.c1.other hm (fun k hk hg => h2.c1.lc.not_row (by decide) (by decide) k hk hg.2) (fun k hg => (h.kl k hg.1).1), h.k.add h1.k hl hb hm (row_wd hr),
    ⟨h2.t.row.kept hm (fun k hk _ hg => h2.ap k hg.1 hk), h2.t.fam.other hm (by decide), h2.t.views⟩, fun k hk ht => ?_, fun k hk => ?_, fun k ht => ⟨(h2.tl k ht).1, Nat.lt_of_lt_of_le (h2.tl k ht).2 hm.size⟩, fun p hp k hk => ?_⟩
  · rcases hk with hk | hk
    · exact h.ap k hk.1 ht
    · have := (h2.tl k ht).2; omega
  · rcases hk with hk | hk
    · have := h2.kl k hk.1; have := hm.size; omega
    · omega
  · rcases List.mem_append.1 hp with hp | hp
    · exact h.pl p hp k hk
    · rw [List.mem_singleton] at hp
      subst hp
      have : w.heap.size ≤ k := hk.1
      omega
/-- its copy is kept beside -/
theorem OS.keepT {w3 w4 w5 w6 : World} {FK' : Nat → Prop} {kv2 tv2 u : Value} {mm : Nat} {xs : List Int} {K' : List Lst} {PK' : List Ent} (hc : C1 w0 w3 c m room L) (hk : Rows2 w3 FK' kv2 (n + 1) PK' K') (ht : Rows2 w3 FT tv n PT T) (he : K'.map (fun x => (x.n, x.xs)) = T.map (fun x => (x.n, x.xs)) ++ [(mm, xs)])
    (ap : ∀ k, FK' k → ¬ FT k) (kl : ∀ k, FK' k → w0.heap.size ≤ k ∧ k < w3.heap.size) (tl : ∀ k, FT k → w0.heap.size ≤ k ∧ k < w3.heap.size) (pl : ∀ p ∈ PK', ∀ k, p.F k → w0.heap.size ≤ k)
    (hl : Row w4 (New w3) 3 1 u mm (ints xs)) (hb4 : Below w3.heap.size w3 w4) (hb : Below w4.heap.size w4 w5) (hm : Mod (fun k => FT k ∧ OfE w5 32 k) w5 w6)
    (hr : Row w6 (fun k => (FT k ∧ OfE w5 32 k) ∨ k = w5.heap.size) 32 1 tv2 (n + 1) (T.map (·.v) ++ [u])) :
    OS w0 w6 c m room L kv2 tv2 (n + 1) K' (T ++ [⟨u, mm, xs⟩]) PK' (PT ++ [⟨fun k => w3.heap.size ≤ k ∧ k < w4.heap.size, [(u, mm, ints xs)]⟩]) FK' (Wd FT w5 w6 32) := by
  have hb5 : Below w3.heap.size w3 w5 := hb4.trans (hb.mono hb4.size)
  have hz4 := hb4.size
  have hz5 := hb5.size
  have hz6 := hm.size
  have hz3 := hc.below.size
  have hc5 := hc.past hb5
  have hk5 := hk.past hb5
  refine ⟨hc5.other hm (fun k hk hg => hc5.lc.not_row (by decide) (by decide) k hk hg.2) (fun k hg => (tl k hg.1).1), ⟨hk5.row.kept hm (fun k hk _ hg => ap k hk hg.1), hk5.fam.other hm (by decide), hk5.views⟩, ht.add (ht.past hb4) hl hb hm (row_wd hr), ?_, fun k hk ht => ?_, fun k hk => ?_, fun k hk => ?_, pl⟩
  · rw [he, List.map_append]
    rfl
  · rcases ht with ht | ht
    · exact ap k hk ht.1
    · have := (kl k hk).2; omega
  · have := kl k hk; omega
  · rcases hk with hk | hk
    · have := tl k hk.1; omega
    · omega
end
end Go.Proofs.YtlnbgahfelcbiaaDoor
