import Derived.ArgAppend
import Derived.Deep.AppendLies
import Derived.Deep.Draws
import Derived.Lib.SliceRun
import Derived.Maps.OwnSet
import Derived.Maps.Views
import Derived.OwnWalk
import Derived.WalkKit
/- Words for memory: what a step turns (Mod), a slice of the call's own (Row), a slice that is read (Reads), a map as a function (Mp); the model's operations on them. -/
namespace Go.Cu
open Go Go.RowKit

/-! ### What has turned: the blocks of F, and new ones -/
structure Mod (F : Nat → Prop) (w w' : World) : Prop where
  os : w'.os = w.os
  tape : w'.tape = w.tape
  output : w'.output = w.output
  size : w.heap.size ≤ w'.heap.size
  block : ∀ k, k < w.heap.size → ¬ F k → w'.heap[k]? = w.heap[k]?

theorem Mod.refl (F : Nat → Prop) (w : World) : Mod F w w := ⟨rfl, rfl, rfl, Nat.le_refl _, fun _ _ _ => rfl⟩
/-- Two steps: the second may turn what the first made. -/
theorem Mod.trans {F G : Nat → Prop} {a b c : World} (h : Mod F a b) (k : Mod G b c) (hG : ∀ i, i < a.heap.size → G i → F i) : Mod F a c :=
  ⟨k.os.trans h.os, k.tape.trans h.tape, k.output.trans h.output, Nat.le_trans h.size k.size, fun i hi hn => (k.block i (Nat.lt_of_lt_of_le hi h.size) (fun hg => hn (hG i hi hg))).trans (h.block i hi hn)⟩
theorem Mod.mono {F G : Nat → Prop} {w w' : World} (h : Mod F w w') (hG : ∀ i, i < w.heap.size → F i → G i) : Mod G w w' :=
  ⟨h.os, h.tape, h.output, h.size, fun i hi hn => h.block i hi (fun hf => hn (hG i hi hf))⟩
theorem Mod.drew {F : Nat → Prop} {w w' : World} (h : Mod F w w') : Mod F w w'.drew := ⟨h.os, h.tape, h.output, h.size, h.block⟩
theorem Mod.drewN {F : Nat → Prop} {w w' : World} (h : Mod F w w') (n : Nat) : Mod F w (w'.drewN n) := ⟨h.os, h.tape, h.output, h.size, h.block⟩
theorem Mod.alloc {F : Nat → Prop} {w w' : World} (h : Mod F w w') (o : Obj) : Mod F w (w'.alloc o) :=
  ⟨h.os, h.tape, h.output, Nat.le_trans h.size (by simp), fun i hi hn => (Below.heap_alloc _ _ _ (Nat.lt_of_lt_of_le hi h.size)).trans (h.block i hi hn)⟩
theorem Mod.setCell {F : Nat → Prop} {w w' : World} (h : Mod F w w') {p : Addr} (hp : p.block < w.heap.size → F p.block) (u : Value) : Mod F w (w'.setCell p u) :=
  ⟨h.os, h.tape, h.output, Nat.le_trans h.size (by simp [World.setCell]), fun i hi hn => (Below.heap_setCell _ _ _ _ (fun e => hn (by subst e; exact hp hi))).trans (h.block i hi hn)⟩
theorem Mod.below {F : Nat → Prop} {w w' : World} (h : Mod F w w') {B : Nat} (hB : B ≤ w.heap.size) (hF : ∀ i, F i → B ≤ i) : Below B w w' :=
  ⟨h.os, h.tape, h.output, h.size, fun i hi => h.block i (by omega) (fun hf => by have := hF i hf; omega)⟩
theorem Mod.ofBelow {w w' : World} (h : Below w.heap.size w w') (F : Nat → Prop) : Mod F w w' := ⟨h.os, h.tape, h.output, h.size, fun i hi _ => h.block i hi⟩
theorem Mod.ofGrown {w w' : World} {row : Option Nat} (h : w.grownBy w' row) {F : Nat → Prop} (hF : ∀ k, row = some k → F k) : Mod F w w' :=
  ⟨h.os, h.tape, h.output, h.size, fun i hi hn => h.block i hi (fun e => hn (hF i e.symm))⟩
theorem Mod.cell {F : Nat → Prop} {w w' : World} (h : Mod F w w') {p : Addr} {v : Value} (hc : w.cell? p = some v) (hn : ¬ F p.block) : w'.cell? p = some v :=
  (World.cell?_of_block (w := w) (h.block p.block (World.block_lt_of_cell? w p hc) hn)).trans hc
theorem Mod.heap {F : Nat → Prop} {w w' : World} (h : Mod F w w') {b : Nat} {o : Obj} (hc : w.heap[b]? = some o) (hn : ¬ F b) : w'.heap[b]? = some o :=
  (h.block b (Array.getElem?_eq_some_iff.1 hc).1 hn).trans hc

/-! ### A slice of the call's own: its elements read, its whole room written -/
def Row (w : World) (F : Nat → Prop) (e : TypeId) (sz : Nat) (v : Value) (n : Nat) (xs : List Value) : Prop :=
  xs.length = n * sz ∧ ∃ A c, v = .slice A n c ∧ n ≤ c ∧ c ≤ maxLen ∧
    (c = 0 ∨ ∃ b o cur, A = some ⟨b, o, none⟩ ∧ F b ∧ w.heap[b]? = some (.cells cur e (0, 0)) ∧ o + c * sz ≤ cur.size ∧ ∀ j, j < n * sz → cur[o + j]? = xs[j]?)

theorem Row.nil (w : World) (F : Nat → Prop) (e : TypeId) (sz : Nat) : Row w F e sz (.slice none 0 0) 0 [] :=
  ⟨by simp, none, 0, rfl, Nat.le_refl _, Nat.zero_le _, .inl rfl⟩

theorem Row.mono {w : World} {F G : Nat → Prop} {e : TypeId} {sz : Nat} {v : Value} {n : Nat} {xs : List Value} (h : Row w F e sz v n xs) (hG : ∀ b, F b → b < w.heap.size → G b) : Row w G e sz v n xs := by
  obtain ⟨h1, A, c, rfl, h2, h3, h4⟩ := h
  refine ⟨h1, A, c, rfl, h2, h3, h4.imp id ?_⟩
  rintro ⟨b, o, cur, rfl, hF, hh, h5⟩
  exact ⟨b, o, cur, rfl, hG b hF (Array.getElem?_eq_some_iff.1 hh).1, hh, h5⟩

/-- The same row behind a step that does not turn it. -/
theorem Row.kept {w w' : World} {F G : Nat → Prop} {e : TypeId} {sz : Nat} {v : Value} {n : Nat} {xs : List Value} (h : Row w F e sz v n xs) (hm : Mod G w w') (hn : ∀ b, F b → b < w.heap.size → ¬ G b) : Row w' F e sz v n xs := by
  obtain ⟨h1, A, c, rfl, h2, h3, h4⟩ := h
  refine ⟨h1, A, c, rfl, h2, h3, h4.imp id ?_⟩
  rintro ⟨b, o, cur, rfl, hF, hh, h5⟩
  exact ⟨b, o, cur, rfl, hF, hm.heap hh (hn b hF (Array.getElem?_eq_some_iff.1 hh).1), h5⟩

theorem Row.shape {w : World} {F : Nat → Prop} {e : TypeId} {sz : Nat} {v : Value} {n : Nat} {xs : List Value} (h : Row w F e sz v n xs) : ∃ A c, v = .slice A n c ∧ n ≤ c ∧ c ≤ maxLen := by
  obtain ⟨_, A, c, rfl, h2, h3, _⟩ := h
  exact ⟨A, c, rfl, h2, h3⟩

/-- Where something lies in it: the address, its cells, and that they may be written. -/
theorem Row.open {w : World} {F : Nat → Prop} {e : TypeId} {sz : Nat} {v : Value} {n : Nat} {xs : List Value} (h : Row w F e sz v n xs) (hn : 0 < n) :
    ∃ b o c, v = .slice (some ⟨b, o, none⟩) n c ∧ n ≤ c ∧ c ≤ maxLen ∧ F b ∧ b < w.heap.size ∧ (∀ j u, xs[j]? = some u → w.cell? ⟨b, o + j, none⟩ = some u) ∧ ∀ j, w.frozen? ⟨b, j, none⟩ = false := by
  obtain ⟨h1, A, c, rfl, h2, h3, h4⟩ := h
  rcases h4 with h4 | ⟨b, o, cur, rfl, hF, hh, hs, hx⟩
  · omega
  · refine ⟨b, o, c, rfl, h2, h3, hF, (Array.getElem?_eq_some_iff.1 hh).1, fun j u hj => ?_, fun j => frozen_of_row w b j cur e hh⟩
    rw [cell_of_row w b _ cur e _ hh, hx j]
    · exact hj
    · rw [← h1]; exact (List.getElem?_eq_some_iff.1 hj).1

theorem maxLen_lt {n : Nat} (h : n ≤ maxLen) : n ≤ 9223372036854775807 := by simpa [maxLen] using h

/-- A row that the kit's laws have made is one. -/
theorem Row.ofOwns {w : World} {base : Nat} {e : TypeId} {sz : Nat} {v : Value} {n : Nat} {xs : List Value} (h : w.ownsRow base e sz v n xs) (F : Nat → Prop) (hF : ∀ k, v.ownBlock = some k → F k) : Row w F e sz v n xs := by
  obtain ⟨h1, h2⟩ := h
  refine ⟨h1, ?_⟩
  rcases h2 with ⟨rfl, rfl⟩ | ⟨g, cap, cur, rfl, _, hh, h3, h4, h5, h6⟩
  · exact ⟨none, 0, rfl, Nat.le_refl _, Nat.zero_le _, .inl rfl⟩
  · refine ⟨_, cap, rfl, h3, h4, .inr ⟨g, 0, cur, rfl, hF g rfl, hh, by omega, fun j hj => ?_⟩⟩
    rw [← h6, List.getElem?_take_of_lt hj]
    simp


/-! ### A slice that can be read -/
def Reads (w : World) (sz : Nat) (x : Value) (m : Nat) (news : List Value) : Prop :=
  news.length = m * sz ∧ ∃ A c, x = .slice A m c ∧ m ≤ maxLen ∧ (m * sz = 0 ∨ ∃ ad, A = some ad ∧ ∀ j u, news[j]? = some u → w.cell? (ad.add j) = some u)

theorem add_plain (g o j : Nat) : (⟨g, o, none⟩ : Addr).add j = ⟨g, o + j, none⟩ := by unfold Addr.add; split <;> simp_all

theorem Row.reads {w : World} {F : Nat → Prop} {e : TypeId} {sz : Nat} {v : Value} {n : Nat} {xs : List Value} (h : Row w F e sz v n xs) : Reads w sz v n xs := by
  refine ⟨h.1, ?_⟩
  rcases Nat.eq_zero_or_pos n with rfl | hn
  · obtain ⟨A, c, rfl, _⟩ := h.shape
    exact ⟨A, c, rfl, by omega, .inl (by simp)⟩
  · obtain ⟨b, o, c, rfl, h2, h3, _, _, hc, _⟩ := h.open hn
    exact ⟨_, c, rfl, by omega, .inr ⟨_, rfl, fun j u hj => by rw [add_plain]; exact hc j u hj⟩⟩

theorem Reads.kept {w w' : World} {sz : Nat} {x : Value} {m : Nat} {news : List Value} (h : Reads w sz x m news) (hc : ∀ a v, w.cell? a = some v → w'.cell? a = some v) : Reads w' sz x m news := by
  obtain ⟨h1, A, c, rfl, h2, h3⟩ := h
  refine ⟨h1, A, c, rfl, h2, h3.imp id ?_⟩
  rintro ⟨ad, rfl, h4⟩
  exact ⟨ad, rfl, fun j u hj => hc _ _ (h4 j u hj)⟩

theorem Reads.first {P : Program} {w : World} {sz : Nat} {x : Value} {m : Nat} {news : List Value} (h : Reads w sz x m news) : (Builtin.firstCells sz m x).run P w = .ok news.toArray w := by
  obtain ⟨h1, A, c, rfl, h2, h3⟩ := h
  rcases h3 with h3 | ⟨ad, rfl, h4⟩
  · obtain rfl : news = [] := List.eq_nil_of_length_eq_zero (by omega)
    cases A with
    | none => exact run_firstCells_none w sz m m c
    | some ad => exact run_firstCells_some w sz m ad m c [] (by simpa using h1) (by simp)
  · exact run_firstCells_some w sz m ad m c news h1 h4

section
variable {P : Program} (w : World)

/-- append, onto a row wherever it begins in its block, from whatever can be read. -/
theorem run_append_row (t ty e : TypeId) (i : TypeInfo) (z : Value) (sz bytes : Nat) (ht : P.underlying t = some (.slice e)) (hi : P.info? e = some i) (hz : i.zero = some z)
    (hsize : i.size = sz) (hby : i.bytes = bytes) (hzs : z.cells.size = sz) (hsz : 0 < sz)
    {F : Nat → Prop} {v : Value} {n : Nat} {xs : List Value} (h : Row w F e sz v n xs) {x : Value} {m : Nat} {news : List Value} (hx : Reads w sz x m news) (h1 : ∀ u ∈ news, u.oneCell' = true)
    (h63 : n + m ≤ maxLen) (hbytes : (n + m) * bytes ≤ 140737488355328) :
    ∃ v' w', (Builtin.append_ #[t, t] ty #[v, x]).run P w = .ok v' w' ∧ Row w' (fun k => F k ∨ k = w.heap.size) e sz v' (n + m) (xs ++ news) ∧ Mod F w w' := by
  subst hsize
  subst hby
  have hsmall : n + m ≤ 9223372036854775807 := by simp only [maxLen] at h63; omega
  have hlx : news.length = m * i.size := hx.1
  have hlo : xs.length = n * i.size := h.1
  have hlen : (xs ++ news).length = (n + m) * i.size := by rw [List.length_append, hlo, hlx, Nat.add_mul]
  have hrd := h.reads
  obtain ⟨_, A, c, rfl, hnc, hcm, hcase⟩ := h
  obtain ⟨_, B, c', rfl, hx2⟩ := hx
  have hxr : Reads w i.size (.slice B m c') m news := ⟨hlx, B, c', rfl, hx2⟩
  have hf := hxr.first (P := P)
  by_cases hroom : n + m ≤ c
  · by_cases hm : m = 0
    · subst hm
      obtain rfl : news = [] := List.eq_nil_of_length_eq_zero (by simpa using hlx)
      refine ⟨.slice A n c, w, ?_, ⟨by simpa using hlen, A, c, rfl, by omega, hcm, ?_⟩, Mod.refl _ _⟩
      · cases A <;> simp [Builtin.append_, run_underlying ht, sizeOf, typeInfo, hi, Builtin.lenOf, hnc, hf, storeCells]
      · refine hcase.imp id ?_
        rintro ⟨b, o, cur, rfl, hF, hh, h5, h6⟩
        exact ⟨b, o, cur, rfl, .inl hF, hh, h5, by simpa using h6⟩
    · rcases hcase with h0 | ⟨b, o, cur, rfl, hF, hh, h5, h6⟩
      · omega
      · have hfit : o + n * i.size + 0 + news.length ≤ cur.size := by
          rw [hlx]; have := Nat.mul_le_mul_right i.size hroom; rw [Nat.add_mul] at this; omega
        have hst := run_storeCells_at P b (o + n * i.size) e news 0 cur w hh hfit h1
        simp only [Nat.add_zero] at hst
        refine ⟨_, w.setRow b (cur.toList.take (o + n * i.size) ++ news ++ cur.toList.drop (o + n * i.size + news.length)).toArray, ?_, ⟨hlen, _, c, rfl, hroom, hcm, .inr ⟨b, o, _, rfl, .inl hF, setRow_heap w b cur _ e _ hh, ?_, ?_⟩⟩,
          ⟨rfl, rfl, rfl, by simp, fun k _ hk => setRow_other w b k _ (fun e => hk (by subst e; exact hF))⟩⟩
        · simp [Builtin.append_, run_underlying ht, sizeOf, typeInfo, hi, Builtin.lenOf, hroom, hf, Addr.add_lit, hst]
        · simp only [List.size_toArray, List.length_append, List.length_take, List.length_drop, Array.length_toList]
          omega
        · intro j hj
          rw [Nat.add_mul] at hj
          rw [List.getElem?_toArray]
          have hlt : (cur.toList.take (o + n * i.size)).length = o + n * i.size := by rw [List.length_take, Array.length_toList]; omega
          rw [List.append_assoc]
          by_cases hj1 : j < n * i.size
          · rw [List.getElem?_append_left (by omega), List.getElem?_take_of_lt (by omega), List.getElem?_append_left (by omega), ← h6 j hj1, Array.getElem?_toList]
          · rw [List.getElem?_append_right (by omega), hlt, List.getElem?_append_left (by omega), List.getElem?_append_right (by omega)]
            congr 1
            omega
  · have hge := grownCap_ge w (n + m) c e
    have hcm' : grownCap w (n + m) c e ≤ maxLen := grownCap_le_maxLen w (n + m) c e h63
    have hr : (Builtin.append_ #[t, t] ty #[.slice A n c, .slice B m c']).run P w = .ok (.slice (some ⟨w.heap.size, 0, none⟩) (n + m) (grownCap w (n + m) c e))
        (w.drew.alloc (.cells (xs.toArray ++ news.toArray ++ Builtin.zeroCells z.cells (grownCap w (n + m) c e - (n + m))) e)) := by
      have h63' : ¬ (9223372036854775807 < ((n : Int) + (m : Int))) := by omega
      have h48' : ¬ (281474976710656 < Builtin.nextslicecap (n + m) c * i.bytes) := by have := growslice_fits (need := n + m) (old := c) (by omega) hbytes; omega
      have hf1 : (Builtin.firstCells i.size m (.slice B m c')).run P w.drew = .ok news.toArray w.drew := Reads.first (w := w.drew) hxr
      have hf2 : (Builtin.firstCells i.size n (.slice A n c)).run P w.drew = .ok xs.toArray w.drew := Reads.first (w := w.drew) hrd
      simp [Builtin.append_, run_underlying ht, sizeOf, typeInfo, zeroValue, hi, hz, Builtin.lenOf, hroom, h63', h48', Question.forced, hf1, hf2, newRow, grownCap]
      congr 2
      apply Array.ext'
      simp [List.append_assoc]
    refine ⟨_, _, hr, ⟨hlen, _, _, rfl, hge, hcm', .inr ⟨w.heap.size, 0, _, rfl, .inr rfl, heap_alloc_new w.drew _, ?_, ?_⟩⟩, (Mod.refl F w).drew.alloc _⟩
    · simp only [Array.size_append, List.size_toArray, size_zeroCells, hzs, hlo, hlx, ← Nat.add_mul]
      rw [Nat.zero_add]
      exact Nat.mul_le_mul_right _ (by omega)
    · intro j hj
      rw [Nat.zero_add, Array.getElem?_append_left (by simp only [Array.size_append, List.size_toArray]; rw [hlo, hlx, ← Nat.add_mul]; exact hj)]
      rw [List.append_toArray, List.getElem?_toArray]
end

/-- One cell written. -/
theorem Row.set {w : World} {F : Nat → Prop} {e : TypeId} {sz : Nat} {A : Option Addr} {n c : Nat} {xs : List Value} (h : Row w F e sz (.slice A n c) n xs) {b o : Nat} (hA : A = some ⟨b, o, none⟩) {j : Nat} (hj : j < n * sz) (u : Value) :
    Row (w.setCell ⟨b, o + j, none⟩ u) F e sz (.slice A n c) n (xs.set j u) := by
  obtain ⟨h1, A', c', he, h2, h3, h4⟩ := h
  cases he
  subst hA
  refine ⟨by simpa using h1, _, c, rfl, h2, h3, ?_⟩
  rcases h4 with h4 | ⟨b', o', cur, he, hF, hh, h5, h6⟩
  · exact .inl h4
  · cases he
    refine .inr ⟨b, o, cur.setIfInBounds (o + j) u, rfl, hF, heap_setCell_same w b (o + j) cur e u hh, by simpa using h5, fun k hk => ?_⟩
    rw [Array.getElem?_setIfInBounds, List.getElem?_set, h6 k hk]
    have hle : n * sz ≤ c * sz := Nat.mul_le_mul_right _ h2
    by_cases hkj : j = k
    · subst hkj
      rw [if_pos rfl, if_pos rfl, if_pos (by omega), if_pos (by omega)]
    · rw [if_neg (by omega), if_neg hkj]

/-- v[lo:hi], hi no more than the length. -/
theorem Row.cut {w : World} {F : Nat → Prop} {e : TypeId} {sz : Nat} {A : Option Addr} {n c : Nat} {xs : List Value} (h : Row w F e sz (.slice A n c) n xs) {lo hi : Nat} (hl : lo ≤ hi) (hh : hi ≤ n) :
    Row w F e sz (.slice (if c = lo then A else A.map (·.add (lo * sz))) (hi - lo) (c - lo)) (hi - lo) ((xs.drop (lo * sz)).take ((hi - lo) * sz)) := by
  obtain ⟨h1, A', c', he, h2, h3, h4⟩ := h
  cases he
  have hm1 : lo * sz + (hi - lo) * sz = hi * sz := by rw [← Nat.add_mul]; congr 1; omega
  have hm2 : hi * sz ≤ n * sz := Nat.mul_le_mul_right _ hh
  refine ⟨by simp only [List.length_take, List.length_drop]; omega, _, _, rfl, by omega, by omega, ?_⟩
  by_cases hc : c = lo
  · exact .inl (by omega)
  · rcases h4 with h4 | ⟨b, o, cur, rfl, hF, hb, h5, h6⟩
    · omega
    · have hm3 : lo * sz + (c - lo) * sz = c * sz := by rw [← Nat.add_mul]; congr 1; omega
      refine .inr ⟨b, o + lo * sz, cur, by simp [hc, add_plain], hF, hb, by omega, fun j hj => ?_⟩
      rw [List.getElem?_take_of_lt hj, List.getElem?_drop, ← h6 _ (by omega), Nat.add_assoc]

end Go.Cu
namespace Go.Cu
open Go Go.RowKit
open Go.Maps (Keyed IsMap Tidy)

/-! ### A map, as a function of its keys, whatever its elements are -/
def heldR (v : Value) : Option (DataW Value × List MemPlace) := some (.held v, [])

/-- Block b is a map of n keys that holds what m says. -/
def Mp (w : World) (P : Program) (k : TypeId) (b : Nat) (m : Lit → Option Value) (n : Nat) : Prop :=
  ∃ D : DataW Value, w.ownsMap P k heldR b n D ∧ Maps.size D = n ∧ ∀ l, (m l = none → Maps.has D l = false) ∧ ∀ v, m l = some v → Maps.has D l = true ∧ ∀ z, D.atKey l z = .held v

open Classical in
/-- what m says behind 'm[k] = v' -/
noncomputable def upd (m : Lit → Option Value) (k : Lit) (v : Option Value) (l : Lit) : Option Value := if l = k then v else m l
theorem upd_same (m : Lit → Option Value) (k : Lit) (v : Option Value) : upd m k v k = v := by simp [upd]
theorem upd_other {m : Lit → Option Value} {k l : Lit} (h : l ≠ k) (v : Option Value) : upd m k v l = m l := by simp [upd, h]

section
variable {P : Program} {k e t : TypeId} {w w' : World} {b n : Nat} {m : Lit → Option Value}

theorem Mp.made (w : World) (P : Program) (k : TypeId) : Mp (w.alloc (.map #[] 0)) P k w.heap.size (fun _ => none) 0 :=
  ⟨.map [], World.ownsMap_made w P k _, rfl, fun _ => ⟨fun _ => rfl, fun _ h => by cases h⟩⟩

theorem Mp.lt (h : Mp w P k b m n) : b < w.heap.size := let ⟨_, h, _⟩ := h; h.lt

theorem Mp.block (h : Mp w P k b m n) (hb : w'.heap[b]? = w.heap[b]?) : Mp w' P k b m n := by
  obtain ⟨D, ⟨es, clock, h1, h2⟩, h3⟩ := h
  exact ⟨D, ⟨es, clock, hb.trans h1, h2⟩, h3⟩

theorem Mp.obj (h : Mp w P k b m n) : ∃ es clock, w.heap[b]? = some (.map es clock) := by
  obtain ⟨D, ⟨es, clock, h1, h2⟩, h3⟩ := h
  exact ⟨es, clock, h1⟩

theorem Mp.ext (h : Mp w P k b m n) {m' : Lit → Option Value} (he : ∀ l, m' l = m l) : Mp w P k b m' n := by
  have : m' = m := funext he
  rw [this]; exact h

theorem Mp.lookOk (h : Mp w P k b m n) (K : Keyed P k) (ht : P.underlying t = some (.map k e)) {z : Value} (hz : (zeroValue e).run P w = .ok z w) {key : Value} {kl : Lit} (hkey : keyOf P k key = some kl) :
    (Instr.lookup t (.map (some b)) key true).run P w = .ok (.tuple #[(m kl).getD z, .bool (m kl).isSome]) w := by
  obtain ⟨D, hD, hs, hm⟩ := h
  obtain ⟨v, ps, hr, hv⟩ := hD.look_ok K ht hz (zd := .held z) (zp := []) rfl hkey
  rw [hr]
  simp only [heldR, Option.some.injEq, Prod.mk.injEq] at hv
  cases hk : m kl with
  | none =>
    have h1 := (hm kl).1 hk
    rw [Maps.atKey_of_not_has h1] at hv
    have : v = z := by have := hv.1; injection this
    rw [this, h1]; rfl
  | some u =>
    obtain ⟨h1, h2⟩ := (hm kl).2 u hk
    rw [h2] at hv
    have : v = u := by have := hv.1; injection this
    rw [this, h1]; rfl

theorem Mp.look (h : Mp w P k b m n) (K : Keyed P k) (ht : P.underlying t = some (.map k e)) {z : Value} (hz : (zeroValue e).run P w = .ok z w) {key : Value} {kl : Lit} (hkey : keyOf P k key = some kl) :
    (Instr.lookup t (.map (some b)) key false).run P w = .ok ((m kl).getD z) w := by
  obtain ⟨D, hD, hs, hm⟩ := h
  obtain ⟨v, ps, hr, hv⟩ := hD.lookup K ht hz (zd := .held z) (zp := []) rfl hkey
  rw [hr]
  simp only [heldR, Option.some.injEq, Prod.mk.injEq] at hv
  cases hk : m kl with
  | none =>
    have h1 := (hm kl).1 hk
    rw [Maps.atKey_of_not_has h1] at hv
    have : v = z := by have := hv.1; injection this
    rw [this]; rfl
  | some u =>
    obtain ⟨h1, h2⟩ := (hm kl).2 u hk
    rw [h2] at hv
    have : v = u := by have := hv.1; injection this
    rw [this]; rfl

theorem Mp.len (h : Mp w P k b m n) (ht : P.underlying t = some (.map k e)) (ty : TypeId) : (Builtin.len_ #[t] ty #[.map (some b)]).run P w = .ok (.int .i64 n) w := by
  obtain ⟨D, hD, hs, _⟩ := h
  rw [hD.len ht ty, hs]

theorem ownsMap_tight {H : Type} {R : Value → Option (DataW H × List MemPlace)} {c : Nat} {D : DataW H} (h : w.ownsMap P k R b c D) : w.ownsMap P k R b (Maps.size D) D := by
  obtain ⟨es, clock, h1, F, hs, rfl⟩ := h
  refine ⟨es, clock, h1, F, ?_, rfl⟩
  simp [Maps.size, length_sorted]

open Classical in
theorem Mp.store (h : Mp w P k b m n) (K : Keyed P k) (ht : P.underlying t = some (.map k e)) (hn : n < maxLen) {key val : Value} {kl : Lit} (hkey : keyOf P k key = some kl) :
    ∃ w', (Instr.mapUpdate t (.map (some b)) key val).run P w = .ok () w' ∧ Mp w' P k b (upd m kl (some val)) (if (m kl).isSome then n else n + 1) ∧ w.grownBy w' (some b) := by
  obtain ⟨D, hD, hs, hm⟩ := h
  obtain ⟨w', hr, h1, h2⟩ := hD.update K ht hn (d := .held val) (ps := []) hkey rfl
  have hsz : Maps.size (D.put kl (.held val)) = (if (m kl).isSome then n else n + 1) := by
    rw [Maps.size_put (hD.tidy K)]
    cases hk : m kl with
    | none => rw [(hm kl).1 hk, hs]; rfl
    | some u => rw [((hm kl).2 u hk).1, hs]; rfl
  refine ⟨w', hr, ⟨D.put kl (.held val), ?_, hsz, fun l => ?_⟩, h2⟩
  · have := ownsMap_tight h1; rw [hsz] at this; exact this
  · by_cases hl : l = kl
    · subst hl
      rw [upd_same]
      refine ⟨fun h => (by cases h), fun v hv => ?_⟩
      cases hv
      exact ⟨Maps.has_put_same hD.isMap (K.key hkey) _, fun z => Maps.atKey_put_same hD.isMap (K.key hkey) _ z⟩
    · rw [upd_other hl, Maps.has_put_other hl]
      refine ⟨(hm l).1, fun v hv => ⟨((hm l).2 v hv).1, fun z => ?_⟩⟩
      rw [Maps.atKey_put_other hl]
      exact ((hm l).2 v hv).2 z

theorem Mp.drop (h : Mp w P k b m n) (K : Keyed P k) (ht : P.underlying t = some (.map k e)) {key : Value} {kl : Lit} (hkey : keyOf P k key = some kl) (ty : TypeId) :
    ∃ w', (Builtin.delete_ #[t, k] ty #[.map (some b), key]).run P w = .ok (.tuple #[]) w' ∧ Mp w' P k b (upd m kl none) (if (m kl).isSome then n - 1 else n) ∧ w.grownBy w' (some b) := by
  obtain ⟨D, hD, hs, hm⟩ := h
  obtain ⟨w', hr, h1, h2⟩ := hD.drop K ht hkey ty
  have hsz : Maps.size (D.del kl) = (if (m kl).isSome then n - 1 else n) := by
    have := Maps.size_del (k := kl) (hD.tidy K)
    cases hk : m kl with
    | none => rw [(hm kl).1 hk] at this; simp at this ⊢; omega
    | some u => rw [((hm kl).2 u hk).1] at this; simp at this ⊢; omega
  refine ⟨w', hr, ⟨D.del kl, ?_, hsz, fun l => ?_⟩, h2.grown⟩
  · have := ownsMap_tight h1; rw [hsz] at this; exact this
  · by_cases hl : l = kl
    · subst hl
      rw [upd_same]
      exact ⟨fun _ => Maps.has_del_same, fun v hv => by cases hv⟩
    · rw [upd_other hl, Maps.has_del_other hl]
      refine ⟨(hm l).1, fun v hv => ⟨((hm l).2 v hv).1, fun z => ?_⟩⟩
      rw [Maps.atKey_del_other hl]
      exact ((hm l).2 v hv).2 z

theorem Mp.clear (h : Mp w P k b m n) (ht : P.underlying t = some (.map k e)) (ty : TypeId) :
    ∃ w', (Builtin.clear_ #[t] ty #[.map (some b)]).run P w = .ok (.tuple #[]) w' ∧ Mp w' P k b (fun _ => none) 0 ∧ w.grownBy w' (some b) := by
  obtain ⟨D, ⟨es, clock, hb, F, hsz, rfl⟩, hs, hm⟩ := h
  refine ⟨{ w with heap := w.heap.setIfInBounds b (.map #[] clock) }, ?_, ⟨.map [], ⟨#[], clock, ?_, ⟨by simp, MapKept.stamped_empty clock, by simp⟩, Nat.le_refl _, rfl⟩, rfl, fun _ => ⟨fun _ => rfl, fun _ h => by cases h⟩⟩,
    ⟨rfl, rfl, rfl, by simp, fun i _ hi => ?_⟩⟩
  · have h1 := MapKept.run_getObj_map (P := P) hb
    simp [Builtin.clear_, run_underlying ht, h1, setObj, Sem.run, hb, Result.andThen]
  · exact ChangeMaps.heap_setBlock_same hb _
  · exact ChangeMaps.heap_setBlock_other hb _ (fun e => hi (by rw [e]))
end

/-- A nil map. -/
theorem Mp_nil_look {P : Program} {k e t : TypeId} {w : World} (c : Bool) (K : Keyed P k) (ht : P.underlying t = some (.map k e)) {z : Value} (hz : (zeroValue e).run P w = .ok z w) {key : Value} {kl : Lit} (hkey : keyOf P k key = some kl) :
    (Instr.lookup t (.map none) key c).run P w = .ok (if c then .tuple #[z, .bool false] else z) w := Maps.look_nil c K ht hz hkey

end Go.Cu
namespace Go.Cu
open Go Go.RowKit
open Go.Maps (Keyed)

section
variable {P : Program} {w : World} {ops : Array Oper} {rest : List Oper} {o : Oper} {a : Act} {Q : Exit → Act → World → Prop}

theorem wpList_run (hg : o.guard = none) {v : Value} {w' : World} (hrun : (execOp a.eval o).run P w = .ok (.value v) w') (h : wpList P ops Q rest (a.put o.dst v) w') : wpList P ops Q (o :: rest) a w :=
  wpList_plain hg fun _ hK => by unfold Oper.wp; rw [hrun]; exact hK _ _ h
theorem wpList_runU (hg : o.guard = none) {w' : World} (hrun : (execOp a.eval o).run P w = .ok .skip w') (h : wpList P ops Q rest (a.put o.dst undef) w') : wpList P ops Q (o :: rest) a w :=
  wpList_plain hg fun _ hK => by unfold Oper.wp; rw [hrun]; exact hK _ _ h

/-- append(s, x...), s a row wherever it begins. -/
theorem wpList_append_row (hg : o.guard = none) (s x : Operand) (t : TypeId) (ho : o.op = .call { callee := .builtin .append, args := #[s, x], argTypes := #[t, t] })
    (e : TypeId) (i : TypeInfo) (z : Value) (sz bytes : Nat) (ht : P.underlying t = some (.slice e)) (hi : P.info? e = some i) (hz : i.zero = some z)
    (hsize : i.size = sz) (hby : i.bytes = bytes) (hzs : z.cells.size = sz) (hsz : 0 < sz)
    {F : Nat → Prop} {v : Value} {n : Nat} {xs : List Value} (hs : a.eval s = v) (h : Row w F e sz v n xs) {xv : Value} {m : Nat} {news : List Value} (hxv : a.eval x = xv) (hx : Reads w sz xv m news) (h1 : ∀ u ∈ news, u.oneCell' = true)
    (h63 : n + m ≤ maxLen) (hbytes : (n + m) * bytes ≤ 140737488355328)
    (hK : ∀ A' c' w', Row w' (fun k => F k ∨ k = w.heap.size) e sz (.slice A' (n + m) c') (n + m) (xs ++ news) → Mod F w w' → wpList P ops Q rest (a.put o.dst (.slice A' (n + m) c')) w') : wpList P ops Q (o :: rest) a w := by
  obtain ⟨v', w', hr, h2, h3⟩ := run_append_row (P := P) w t o.type e i z sz bytes ht hi hz hsize hby hzs hsz h hx h1 h63 hbytes
  obtain ⟨A', c', rfl, _⟩ := h2.shape
  refine wpList_run hg (v := .slice A' (n + m) c') (w' := w') ?_ (hK A' c' w' h2 h3)
  simp only [execOp, ho, resolve, invoke, builtin, Sem.run_bind, Sem.run_pure, Result.andThen_ok, List.map_toArray, List.map_cons, List.map_nil, hs, hxv, hr]

/-- The address of an element of a row: behind it the place is known. -/
theorem wpList_index_row (hg : o.guard = none) (x ix : Operand) (t e : TypeId) (ho : o.op = .indexAddr t x ix) (ht : P.underlying t = some (.slice e)) {sz : Nat} (hsz : (P.info? e).map (·.size) = some sz)
    {F : Nat → Prop} {v : Value} {n : Nat} {xs : List Value} (hv : a.eval x = v) (h : Row w F e sz v n xs) {q : IntKind} {j : Int} (hj : a.eval ix = .int q j) (h0 : 0 ≤ j) (hn : j < (n : Int))
    (hK : ∀ b off c, v = .slice (some ⟨b, off, none⟩) n c → F b → b < w.heap.size → (∀ k u, xs[k]? = some u → w.cell? ⟨b, off + k, none⟩ = some u) → (∀ k, w.frozen? ⟨b, k, none⟩ = false) →
      wpList P ops Q rest (a.put o.dst (.pointer (some ⟨b, off + j.toNat * sz, none⟩))) w) : wpList P ops Q (o :: rest) a w := by
  obtain ⟨b, off, c, rfl, h2, h3, hF, hlt, hc, hf⟩ := h.open (by omega)
  refine wpList_run hg (v := .pointer (some ⟨b, off + j.toNat * sz, none⟩)) (w' := w) ?_ (hK b off c rfl hF hlt hc hf)
  cases hq : P.info? e with
  | none => simp [hq] at hsz
  | some i =>
    have hi : i.size = sz := by simpa [hq] using hsz
    simp [execOp, ho, hv, hj, Instr.indexAt, asIntOf, run_underlying ht, h0, hn, sizeOf, typeInfo, hq, hi, add_plain]

/-- The same of a slice that can only be read. -/
theorem wpList_index_reads (hg : o.guard = none) (x ix : Operand) (t e : TypeId) (ho : o.op = .indexAddr t x ix) (ht : P.underlying t = some (.slice e)) {sz : Nat} (hsz : (P.info? e).map (·.size) = some sz) (hpos : 0 < sz)
    {v : Value} {n : Nat} {xs : List Value} (hv : a.eval x = v) (h : Reads w sz v n xs) {q : IntKind} {j : Int} (hj : a.eval ix = .int q j) (h0 : 0 ≤ j) (hn : j < (n : Int))
    (hK : ∀ (ad : Addr) c, v = .slice (some ad) n c → (∀ k u, xs[k]? = some u → w.cell? (ad.add k) = some u) →
      wpList P ops Q rest (a.put o.dst (.pointer (some (ad.add (j.toNat * sz))))) w) : wpList P ops Q (o :: rest) a w := by
  obtain ⟨h1, A, c, rfl, h2, h3⟩ := h
  rcases h3 with h3 | ⟨ad, rfl, h4⟩
  · have hp : 0 < n * sz := Nat.mul_pos (by omega) hpos
    omega
  refine wpList_run hg (v := .pointer (some (ad.add (j.toNat * sz)))) (w' := w) ?_ (hK ad c rfl h4)
  cases hq : P.info? e with
  | none => simp [hq] at hsz
  | some i =>
    have hi : i.size = sz := by simpa [hq] using hsz
    simp [execOp, ho, hv, hj, Instr.indexAt, asIntOf, run_underlying ht, h0, hn, sizeOf, typeInfo, hq, hi]
end
end Go.Cu

/-! ### Rows kept; one new cell -/
namespace Go.Cu
open Go Go.RowKit
open Go.Maps (Keyed)
/-- A fact kept from the walk: '.out' gives it back. -/
theorem hide {p : Prop} (h : p) : Hid p := h
/-- Block k is a row of elements of type e. -/
def OfE (w : World) (e : TypeId) (k : Nat) : Prop := ∃ cur, w.heap[k]? = some (.cells cur e (0, 0))

section
variable {w w' : World} {F G : Nat → Prop} {e : TypeId} {sz n : Nat} {v : Value} {xs : List Value}
theorem Row.narrow (h : Row w F e sz v n xs) : Row w (fun k => F k ∧ OfE w e k) e sz v n xs := by
  obtain ⟨h1, A, c, rfl, h2, h3, h4⟩ := h
  refine ⟨h1, A, c, rfl, h2, h3, h4.imp id ?_⟩
  rintro ⟨b, o, cur, rfl, hF, hh, h5⟩
  exact ⟨b, o, cur, rfl, ⟨hF, cur, hh⟩, hh, h5⟩
theorem Row.drew (h : Row w F e sz v n xs) : Row w.drew F e sz v n xs := h
theorem Row.drewN (h : Row w F e sz v n xs) (k : Nat) : Row (w.drewN k) F e sz v n xs := h
theorem Row.alloc (h : Row w F e sz v n xs) (o : Obj) : Row (w.alloc o) F e sz v n xs :=
  h.kept (G := fun _ => False) ((Mod.refl _ w).alloc o) (fun _ _ _ hf => hf)
theorem Row.far (h : Row w F e sz v n xs) {p : Addr} (hp : ¬ F p.block) (u : Value) : Row (w.setCell p u) F e sz v n xs :=
  h.kept (G := fun k => k = p.block) ((Mod.refl (fun k => k = p.block) w).setCell (p := p) (fun _ => rfl) u) (fun _ hb _ e => hp (e ▸ hb))
/-- A store into a block of another element type. -/
theorem Row.farE (h : Row w F e sz v n xs) {p : Addr} {cs : Array Value} {t : TypeId} {fr : Nat × Nat} (hb : w.heap[p.block]? = some (.cells cs t fr)) (hne : t ≠ e) (u : Value) : Row (w.setCell p u) F e sz v n xs :=
  (h.narrow.far (p := p) (fun ⟨_, cur, hh⟩ => by rw [hb] at hh; injection hh with hh; injection hh with _ ht; exact hne ht) u).mono (fun _ hk _ => hk.1)
theorem not_ofE {b : Nat} {cs : Array Value} {t : TypeId} {fr : Nat × Nat} (hb : w.heap[b]? = some (.cells cs t fr)) (hne : t ≠ e) : ¬ OfE w e b := by
  rintro ⟨cur, hh⟩
  rw [hb] at hh
  injection hh with hh
  injection hh with _ ht
  exact hne ht
theorem not_ofE_map {b : Nat} {es : Array MapEntry} {cl : Nat} (hb : w.heap[b]? = some (.map es cl)) : ¬ OfE w e b := by
  rintro ⟨cur, hh⟩
  rw [hb] at hh
  cases hh
/-- A slice of one new cell. -/
theorem reads_one (w : World) (u : Value) (e : TypeId) (c : Nat) : Reads (w.alloc (.cells #[u] e)) 1 (.slice (some ⟨w.heap.size, 0, none⟩) 1 c) 1 [u] := by
  refine ⟨rfl, _, c, rfl, by unfold maxLen; omega, .inr ⟨_, rfl, fun j x hj => ?_⟩⟩
  cases j with
  | zero => simp at hj; subst hj; rw [add_plain]; simp
  | succ j => simp at hj
theorem reads_new (w : World) (us : List Value) (e : TypeId) (c m sz : Nat) (hl : us.length = m * sz) (hm : m ≤ maxLen) : Reads (w.alloc (.cells us.toArray e)) sz (.slice (some ⟨w.heap.size, 0, none⟩) m c) m us := by
  refine ⟨hl, _, c, rfl, hm, .inr ⟨_, rfl, fun j x hj => ?_⟩⟩
  rw [add_plain, World.cell?_alloc_new]
  simpa using hj
theorem Row.size (h : Row w F e sz v n xs) : n ≤ maxLen := by obtain ⟨_, _, _, h1, h2⟩ := h.shape; omega
end

section
variable {P : Program} {w : World} {ops : Array Oper} {rest : List Oper} {o : Oper} {a : Act} {Q : Exit → Act → World → Prop}

theorem wpList_store_mp (hg : o.guard = none) (mo x y : Operand) (t : TypeId) (ho : o.op = .mapUpdate t mo x y) {k e : TypeId} (K : Keyed P k) (ht : P.underlying t = some (.map k e))
    {b n : Nat} {m : Lit → Option Value} (hm : a.eval mo = .map (some b)) (h : Mp w P k b m n) (hn : n < maxLen) {key val : Value} {kl : Lit} (hx : a.eval x = key) (hy : a.eval y = val) (hkey : keyOf P k key = some kl)
    (hK : ∀ w', Mp w' P k b (upd m kl (some val)) (if (m kl).isSome then n else n + 1) → w.grownBy w' (some b) → wpList P ops Q rest (a.put o.dst undef) w') : wpList P ops Q (o :: rest) a w := by
  obtain ⟨w', hr, h1, h2⟩ := h.store (val := val) K ht hn hkey
  refine wpList_runU hg (w' := w') ?_ (hK w' h1 h2)
  simp [execOp, ho, hm, hx, hy, hr]

theorem wpList_drop_mp (hg : o.guard = none) (mo x : Operand) (t k : TypeId) (ho : o.op = .call { callee := .builtin .delete, args := #[mo, x], argTypes := #[t, k] }) {e : TypeId} (K : Keyed P k) (ht : P.underlying t = some (.map k e))
    {b n : Nat} {m : Lit → Option Value} (hm : a.eval mo = .map (some b)) (h : Mp w P k b m n) {key : Value} {kl : Lit} (hx : a.eval x = key) (hkey : keyOf P k key = some kl)
    (hK : ∀ w', Mp w' P k b (upd m kl none) (if (m kl).isSome then n - 1 else n) → w.grownBy w' (some b) → wpList P ops Q rest (a.put o.dst (.tuple #[])) w') : wpList P ops Q (o :: rest) a w := by
  obtain ⟨w', hr, h1, h2⟩ := h.drop (t := t) (e := e) K ht hkey o.type
  refine wpList_run hg (v := .tuple #[]) (w' := w') ?_ (hK w' h1 h2)
  simp [execOp, ho, resolve, invoke, builtin, hm, hx, hr]

theorem wpList_clear_mp (hg : o.guard = none) (mo : Operand) (t : TypeId) (ho : o.op = .call { callee := .builtin .clear, args := #[mo], argTypes := #[t] }) {k e : TypeId} (ht : P.underlying t = some (.map k e))
    {b n : Nat} {m : Lit → Option Value} (hm : a.eval mo = .map (some b)) (h : Mp w P k b m n)
    (hK : ∀ w', Mp w' P k b (fun _ => none) 0 → w.grownBy w' (some b) → wpList P ops Q rest (a.put o.dst (.tuple #[])) w') : wpList P ops Q (o :: rest) a w := by
  obtain ⟨w', hr, h1, h2⟩ := h.clear (t := t) (e := e) ht o.type
  refine wpList_run hg (v := .tuple #[]) (w' := w') ?_ (hK w' h1 h2)
  simp [execOp, ho, resolve, invoke, builtin, hm, hr]
end
end Go.Cu

/-! ### Objects that grow -/
namespace Go.Cu
open Go Go.RowKit
/-- F, and all blocks that are new. -/
def Wide (F : Nat → Prop) (w w' : World) (k : Nat) : Prop := F k ∨ (w.heap.size ≤ k ∧ k < w'.heap.size)
theorem Wide.old {F : Nat → Prop} {w w' : World} {k : Nat} (h : F k) : Wide F w w' k := .inl h
theorem Wide.lt {F : Nat → Prop} {w w' : World} (hF : ∀ k, F k → k < w.heap.size) (hs : w.heap.size ≤ w'.heap.size) : ∀ k, Wide F w w' k → k < w'.heap.size := by
  rintro k (h | h)
  · have := hF k h; omega
  · exact h.2
theorem Wide.grew {F : Nat → Prop} {w w' : World} : ∀ k, Wide F w w' k → F k ∨ w.heap.size ≤ k := fun _ h => h.imp id (·.1)
theorem Mod.grown {F : Nat → Prop} {w w1 w2 : World} {b : Nat} (h : Mod F w w1) (hg : w1.grownBy w2 (some b)) (hb : b < w.heap.size → F b) : Mod F w w2 :=
  h.trans (Mod.ofGrown hg (F := fun k => k = b) (fun k e => by injection e with e; exact e.symm)) (fun _ hi e => by subst e; exact hb hi)
theorem map_ne {w : World} {b m : Nat} {cs : Array Value} {t : TypeId} {fr : Nat × Nat} (hb : w.heap[b]? = some (.cells cs t fr)) {P : Program} {k : TypeId} {f : Lit → Option Value} {n : Nat} (hm : Mp w P k m f n) : b ≠ m := by
  rintro rfl
  obtain ⟨es, cl, h⟩ := hm.obj
  rw [hb] at h
  cases h
theorem not_ofE_mp {w : World} {m : Nat} {e : TypeId} {P : Program} {k : TypeId} {f : Lit → Option Value} {n : Nat} (hm : Mp w P k m f n) : ¬ OfE w e m := by
  obtain ⟨es, cl, h⟩ := hm.obj
  exact not_ofE_map h
theorem ofE_alloc {w : World} {o : Obj} {e : TypeId} {k : Nat} (hk : k < w.heap.size) : OfE (w.alloc o) e k ↔ OfE w e k := by
  unfold OfE
  rw [Below.heap_alloc _ _ _ hk]
theorem grown_heap {w w' : World} {row : Option Nat} (h : w.grownBy w' row) {b : Nat} {o : Obj} (hb : w.heap[b]? = some o) (hn : some b ≠ row) : w'.heap[b]? = some o :=
  (h.block b (Array.getElem?_eq_some_iff.1 hb).1 hn).trans hb
/-- A row lives on behind a step on a map. -/
theorem Row.overMap {w w' : World} {F : Nat → Prop} {e : TypeId} {sz n : Nat} {v : Value} {xs : List Value} (h : Row w F e sz v n xs) {m : Nat} {P : Program} {k : TypeId} {f : Lit → Option Value} {c : Nat} (hm : Mp w P k m f c) (hg : w.grownBy w' (some m)) : Row w' F e sz v n xs :=
  (h.narrow.kept (G := fun j => j = m) (Mod.ofGrown hg (fun j e => by injection e with e; exact e.symm)) (fun j hj _ e => by subst e; exact not_ofE_mp hm hj.2)).mono (fun _ hj _ => hj.1)
end Go.Cu

/-! ### An element read: the address and the load in one step -/
namespace Go.Cu
open Go Go.RowKit
theorem Reads.size {w : World} {sz n : Nat} {v : Value} {xs : List Value} (h : Reads w sz v n xs) : n ≤ maxLen := by obtain ⟨_, _, _, _, h, _⟩ := h; exact h
theorem Reads.shape {w : World} {sz n : Nat} {v : Value} {xs : List Value} (h : Reads w sz v n xs) : ∃ A c, v = .slice A n c := by obtain ⟨_, A, c, h, _⟩ := h; exact ⟨A, c, h⟩
section
variable {P : Program} {w : World} {ops : Array Oper} {rest : List Oper} {o o2 : Oper} {a : Act} {Q : Exit → Act → World → Prop}

theorem eval_put (a : Act) (d : Tmp) (p : Value) (hd : d < a.tmps.size) : (a.put (some d) p).eval (.tmp d) = p := by
  show (a.tmps.setIfInBounds d p).getD d undef = p
  simp [Array.getD, hd]

/-- 'x[i]', the elements of one cell. -/
theorem wpList_at1 (hg : o.guard = none) (hg2 : o2.guard = none) (x ix : Operand) (t e : TypeId) (d : Tmp) (ho : o.op = .indexAddr t x ix) (hd : o.dst = some d) (ho2 : o2.op = .load e (.tmp d)) (hdl : d < a.tmps.size)
    (ht : P.underlying t = some (.slice e)) (hsz : (P.info? e).map (·.size) = some 1) (hag : ∀ w, (isAgg e).run P w = .ok false w)
    {v : Value} {n : Nat} {xs : List Value} (hv : a.eval x = v) (h : Reads w 1 v n xs) {q : IntKind} {j : Int} (hj : a.eval ix = .int q j) (h0 : 0 ≤ j) (hn : j < (n : Int)) {u : Value} (hu : xs[j.toNat]? = some u)
    (hK : ∀ p, wpList P ops Q rest ((a.put (some d) p).put o2.dst u) w) : wpList P ops Q (o :: o2 :: rest) a w := by
  refine wpList_index_reads hg x ix t e ho ht hsz (by omega) hv h hj h0 hn fun ad c _ hc => ?_
  rw [hd]
  refine wpList_run hg2 (v := u) (w' := w) ?_ (hK _)
  have hcell := hc _ _ hu
  have he := eval_put a d (.pointer (some (ad.add (j.toNat * 1)))) hdl
  rw [Nat.mul_one] at he ⊢
  simp [execOp, ho2, he, Instr.loadAt, Instr.sureAddr, loadVar, hag, hcell]

/-- 'x[i]', the elements of several cells. -/
theorem wpList_atS (hg : o.guard = none) (hg2 : o2.guard = none) (x ix : Operand) (t e : TypeId) (d : Tmp) (ho : o.op = .indexAddr t x ix) (hd : o.dst = some d) (ho2 : o2.op = .load e (.tmp d)) (hdl : d < a.tmps.size)
    (ht : P.underlying t = some (.slice e)) {sz : Nat} (hpos : 0 < sz) (hsz : (P.info? e).map (·.size) = some sz) (hag : ∀ w, (isAgg e).run P w = .ok true w)
    {v : Value} {n : Nat} {xs : List Value} (hv : a.eval x = v) (h : Reads w sz v n xs) {q : IntKind} {j : Int} (hj : a.eval ix = .int q j) (h0 : 0 ≤ j) (hn : j < (n : Int)) {us : List Value} (hl : us.length = sz) (hu : ∀ i u, us[i]? = some u → xs[j.toNat * sz + i]? = some u)
    (hK : ∀ p, wpList P ops Q rest ((a.put (some d) p).put o2.dst (.agg us.toArray)) w) : wpList P ops Q (o :: o2 :: rest) a w := by
  subst hl
  refine wpList_index_reads hg x ix t e ho ht hsz hpos hv h hj h0 hn fun ad c _ hc => ?_
  rw [hd]
  refine wpList_run hg2 (v := .agg us.toArray) (w' := w) ?_ (hK _)
  have hcell := run_loadCells_list (P := P) w (ad.add (j.toNat * us.length)) us (fun i u hi => by
    have hadd : (ad.add (j.toNat * us.length)).add i = ad.add (j.toNat * us.length + i) := by
      unfold Addr.add
      by_cases h1 : j.toNat * us.length = 0 <;> by_cases h2 : i = 0 <;> simp [h1, h2, Nat.add_assoc]
    rw [hadd]
    exact hc _ _ (hu i u hi))
  have he := eval_put a d (.pointer (some (ad.add (j.toNat * us.length)))) hdl
  cases hq : P.info? e with
  | none => simp [hq] at hsz
  | some i =>
    have hi : i.size = us.length := by simpa [hq] using hsz
    simp [execOp, ho2, he, Instr.loadAt, Instr.sureAddr, loadVar, hag, sizeOf, typeInfo, hq, hi, hcell]
end
end Go.Cu

/-! ### Guards: 'with_reducible refine at_index rfl ?_' goes through at that operation alone -/
namespace Go.Cu
open Go Go.RowKit
section
variable {P : Program} {w : World} {ops : Array Oper} {rest : List Oper} {o : Oper} {a : Act} {Q : Exit → Act → World → Prop}
theorem at_index {t : TypeId} {x ix : Operand} (_ : o.op = .indexAddr t x ix) (h : wpList P ops Q (o :: rest) a w) : wpList P ops Q (o :: rest) a w := h
theorem at_slice {t : TypeId} {x : Operand} {lo hi mx : Option Operand} (_ : o.op = .slice t x lo hi mx) (h : wpList P ops Q (o :: rest) a w) : wpList P ops Q (o :: rest) a w := h
theorem at_builtin' {b : Builtin} {as : Array Operand} {ts : Array TypeId} (_ : o.op = .call { callee := .builtin b, args := as, argTypes := ts }) (h : wpList P ops Q (o :: rest) a w) : wpList P ops Q (o :: rest) a w := h
theorem at_load {t : TypeId} {x : Operand} (_ : o.op = .load t x) (h : wpList P ops Q (o :: rest) a w) : wpList P ops Q (o :: rest) a w := h
theorem at_store {t : TypeId} {x y : Operand} (_ : o.op = .store t x y) (h : wpList P ops Q (o :: rest) a w) : wpList P ops Q (o :: rest) a w := h
theorem at_makeSlice {t : TypeId} {x y : Operand} (_ : o.op = .makeSlice t x y) (h : wpList P ops Q (o :: rest) a w) : wpList P ops Q (o :: rest) a w := h
theorem at_lookup' {t : TypeId} {x y : Operand} {b : Bool} (_ : o.op = .lookup t x y b) (h : wpList P ops Q (o :: rest) a w) : wpList P ops Q (o :: rest) a w := h
end
end Go.Cu

/-! ### append where there is room; clear behind the length -/
namespace Go.Cu
open Go Go.RowKit
section
variable {P : Program} (w : World)

theorem run_append_row_room (t ty e : TypeId) (i : TypeInfo) (sz : Nat) (ht : P.underlying t = some (.slice e)) (hi : P.info? e = some i) (hsize : i.size = sz)
    {F : Nat → Prop} {A : Option Addr} {n c : Nat} {xs : List Value} (h : Row w F e sz (.slice A n c) n xs) {x : Value} {m : Nat} {news : List Value} (hx : Reads w sz x m news) (h1 : ∀ u ∈ news, u.oneCell' = true)
    (hroom : n + m ≤ c) :
    ∃ w', (Builtin.append_ #[t, t] ty #[.slice A n c, x]).run P w = .ok (.slice A (n + m) c) w' ∧ Row w' F e sz (.slice A (n + m) c) (n + m) (xs ++ news) ∧ Mod F w w' := by
  subst hsize
  have hlx : news.length = m * i.size := hx.1
  have hlo : xs.length = n * i.size := h.1
  have hlen : (xs ++ news).length = (n + m) * i.size := by rw [List.length_append, hlo, hlx, Nat.add_mul]
  obtain ⟨_, A', c', he, hnc, hcm, hcase⟩ := h
  cases he
  obtain ⟨_, B, c', rfl, hx2⟩ := hx
  have hxr : Reads w i.size (.slice B m c') m news := ⟨hlx, B, c', rfl, hx2⟩
  have hf := hxr.first (P := P)
  by_cases hm : m = 0
  · subst hm
    obtain rfl : news = [] := List.eq_nil_of_length_eq_zero (by simpa using hlx)
    refine ⟨w, ?_, ⟨by simpa using hlen, A, c, rfl, by omega, hcm, ?_⟩, Mod.refl _ _⟩
    · cases A <;> simp [Builtin.append_, run_underlying ht, sizeOf, typeInfo, hi, Builtin.lenOf, hnc, hf, storeCells]
    · refine hcase.imp id ?_
      rintro ⟨b, o, cur, rfl, hF, hh, h5, h6⟩
      exact ⟨b, o, cur, rfl, hF, hh, h5, by simpa using h6⟩
  · rcases hcase with h0 | ⟨b, o, cur, rfl, hF, hh, h5, h6⟩
    · omega
    · have hfit : o + n * i.size + 0 + news.length ≤ cur.size := by
        rw [hlx]; have := Nat.mul_le_mul_right i.size hroom; rw [Nat.add_mul] at this; omega
      have hst := run_storeCells_at P b (o + n * i.size) e news 0 cur w hh hfit h1
      simp only [Nat.add_zero] at hst
      refine ⟨w.setRow b (cur.toList.take (o + n * i.size) ++ news ++ cur.toList.drop (o + n * i.size + news.length)).toArray, ?_, ⟨hlen, _, c, rfl, hroom, hcm, .inr ⟨b, o, _, rfl, hF, setRow_heap w b cur _ e _ hh, ?_, ?_⟩⟩,
        ⟨rfl, rfl, rfl, by simp, fun k _ hk => setRow_other w b k _ (fun e => hk (by subst e; exact hF))⟩⟩
      · simp [Builtin.append_, run_underlying ht, sizeOf, typeInfo, hi, Builtin.lenOf, hroom, hf, Addr.add_lit, hst]
      · simp only [List.size_toArray, List.length_append, List.length_take, List.length_drop, Array.length_toList]
        omega
      · intro j hj
        rw [Nat.add_mul] at hj
        rw [List.getElem?_toArray]
        have hlt : (cur.toList.take (o + n * i.size)).length = o + n * i.size := by rw [List.length_take, Array.length_toList]; omega
        rw [List.append_assoc]
        by_cases hj1 : j < n * i.size
        · rw [List.getElem?_append_left (by omega), List.getElem?_take_of_lt (by omega), List.getElem?_append_left (by omega), ← h6 j hj1, Array.getElem?_toList]
        · rw [List.getElem?_append_right (by omega), hlt, List.getElem?_append_left (by omega), List.getElem?_append_right (by omega)]
          congr 1
          omega

/-- 'clear(s[n:n+d])', the elements of one cell: what lies ahead stays. -/
theorem run_clear_spare (t ty e : TypeId) (z : Value) (ht : P.underlying t = some (.slice e)) (hv : ∀ w, (zeroValue e).run P w = .ok z w) (hz : z.cells = #[z]) (h1 : z.oneCell' = true)
    {F : Nat → Prop} {b o n c : Nat} {xs : List Value} (h : Row w F e 1 (.slice (some ⟨b, o, none⟩) n c) n xs) {d c' : Nat} (hd : n + d ≤ c) :
    ∃ w', (Builtin.clear_ #[t] ty #[.slice (some ⟨b, o + n, none⟩) d c']).run P w = .ok (.tuple #[]) w' ∧ Row w' F e 1 (.slice (some ⟨b, o, none⟩) n c) n xs ∧ Mod F w w' := by
  have h0 := h
  obtain ⟨hl, A', c'', he, hnc, hcm, hcase⟩ := h
  cases he
  rcases Nat.eq_zero_or_pos d with rfl | hpos
  · exact ⟨w, by simp [Builtin.clear_, run_underlying ht], h0, Mod.refl _ _⟩
  · rcases hcase with h4 | ⟨b', o', cur, he, hF, hh, h5, h6⟩
    · omega
    · cases he
      have hzc : (Builtin.zeroCells z.cells d).toList = List.replicate d z := by
        apply List.ext_getElem?
        intro i
        simp only [Builtin.zeroCells, hz, List.getElem?_replicate]
        by_cases hi : i < d <;> simp [hi, Nat.mod_one]
      have hst := run_storeCells_at P b (o + n) e (List.replicate d z) 0 cur w hh (by simp; omega) (by intro u hu; rw [List.eq_of_mem_replicate hu]; exact h1)
      simp only [Nat.add_zero] at hst
      generalize hW : (cur.toList.take (o + n) ++ List.replicate d z ++ cur.toList.drop (o + n + (List.replicate d z).length)).toArray = cur' at hst
      refine ⟨w.setRow b cur', ?_, ⟨hl, _, c, rfl, hnc, hcm, .inr ⟨b, o, cur', rfl, hF, setRow_heap w b cur cur' e _ hh, ?_, ?_⟩⟩, ⟨rfl, rfl, rfl, ?_, fun k _ hk => setRow_other w b k _ (fun e => hk (by subst e; exact hF))⟩⟩
      · obtain ⟨d, rfl⟩ : ∃ m, d = m + 1 := ⟨d - 1, by omega⟩
        simp [Builtin.clear_, run_underlying ht, hv, hzc, hst]
      · subst hW; simp; omega
      · intro j hj
        subst hW
        rw [List.getElem?_toArray, List.append_assoc, List.getElem?_append_left (by simp; omega), List.getElem?_take_of_lt (by omega), ← h6 j hj, Array.getElem?_toList]
      · simp
end
end Go.Cu

namespace Go.Cu
open Go Go.RowKit
section
variable {P : Program} {w : World} {ops : Array Oper} {rest : List Oper} {o : Oper} {a : Act} {Q : Exit → Act → World → Prop}
theorem wpList_append_room (hg : o.guard = none) (s x : Operand) (t : TypeId) (ho : o.op = .call { callee := .builtin .append, args := #[s, x], argTypes := #[t, t] })
    (e : TypeId) (i : TypeInfo) (sz : Nat) (ht : P.underlying t = some (.slice e)) (hi : P.info? e = some i) (hsize : i.size = sz)
    {F : Nat → Prop} {A : Option Addr} {n c : Nat} {xs : List Value} (hs : a.eval s = .slice A n c) (h : Row w F e sz (.slice A n c) n xs) {xv : Value} {m : Nat} {news : List Value} (hxv : a.eval x = xv) (hx : Reads w sz xv m news) (h1 : ∀ u ∈ news, u.oneCell' = true)
    (hroom : n + m ≤ c)
    (hK : ∀ w', Row w' F e sz (.slice A (n + m) c) (n + m) (xs ++ news) → Mod F w w' → wpList P ops Q rest (a.put o.dst (.slice A (n + m) c)) w') : wpList P ops Q (o :: rest) a w := by
  obtain ⟨w', hr, h2, h3⟩ := run_append_row_room (P := P) w t o.type e i sz ht hi hsize h hx h1 hroom
  refine wpList_run hg (v := .slice A (n + m) c) (w' := w') ?_ (hK w' h2 h3)
  simp only [execOp, ho, resolve, invoke, builtin, Sem.run_bind, Sem.run_pure, Result.andThen_ok, List.map_toArray, List.map_cons, List.map_nil, hs, hxv, hr]
theorem wpList_clear_spare (hg : o.guard = none) (x : Operand) (t e : TypeId) (ho : o.op = .call { callee := .builtin .clear, args := #[x], argTypes := #[t] }) (z : Value) (ht : P.underlying t = some (.slice e)) (hv : ∀ w, (zeroValue e).run P w = .ok z w) (hz : z.cells = #[z]) (h1 : z.oneCell' = true)
    {F : Nat → Prop} {b off n c : Nat} {xs : List Value} (h : Row w F e 1 (.slice (some ⟨b, off, none⟩) n c) n xs) {d c' : Nat} (hx : a.eval x = .slice (some ⟨b, off + n, none⟩) d c') (hd : n + d ≤ c)
    (hK : ∀ w', Row w' F e 1 (.slice (some ⟨b, off, none⟩) n c) n xs → Mod F w w' → wpList P ops Q rest (a.put o.dst (.tuple #[])) w') : wpList P ops Q (o :: rest) a w := by
  obtain ⟨w', hr, h2, h3⟩ := run_clear_spare (P := P) w t o.type e z ht hv hz h1 h (c' := c') hd
  refine wpList_run hg (v := .tuple #[]) (w' := w') ?_ (hK w' h2 h3)
  simp only [execOp, ho, resolve, invoke, builtin, Sem.run_bind, Sem.run_pure, Result.andThen_ok, List.map_toArray, List.map_cons, List.map_nil, hx, hr]
end
end Go.Cu

/-! ### x[lo:hi] of a row -/
namespace Go.Cu
open Go Go.RowKit
section
variable {P : Program} {w : World} {ops : Array Oper} {rest : List Oper} {o : Oper} {a : Act} {Q : Exit → Act → World → Prop}

theorem run_sliceAt_lo (w : World) (t e : TypeId) (sz : Nat) (ht : P.underlying t = some (.slice e)) (hsz : (P.info? e).map (·.size) = some sz) (A : Option Addr) (n c : Nat) (q : IntKind) (l : Nat) (hl : l ≤ n) :
    (Instr.sliceAt t (.slice A n c) (some (.int q (l : Int))) none none).run P w = .ok (.slice (if c = l then A else A.map (·.add (l * sz))) (n - l) (c - l)) w := by
  cases hq : P.info? e with
  | none => simp [hq] at hsz
  | some i =>
    have hi : i.size = sz := by simpa [hq] using hsz
    simp [Instr.sliceAt, Instr.slice, Instr.sliceBounds, Instr.sliceBound, asIntOf, run_underlying ht, sizeOf, typeInfo, hq, hi, hl]
theorem run_sliceAt_hi (w : World) (t e : TypeId) (sz : Nat) (ht : P.underlying t = some (.slice e)) (hsz : (P.info? e).map (·.size) = some sz) (A : Option Addr) (n c : Nat) (q : IntKind) (h : Nat) (hh : h ≤ c) :
    (Instr.sliceAt t (.slice A n c) none (some (.int q (h : Int))) none).run P w = .ok (.slice (if c = 0 then A else A.map (·.add (0 * sz))) (h - 0) (c - 0)) w := by
  cases hq : P.info? e with
  | none => simp [hq] at hsz
  | some i => simp [Instr.sliceAt, Instr.slice, Instr.sliceBounds, Instr.sliceBound, asIntOf, run_underlying ht, sizeOf, typeInfo, hq, hh]
theorem run_sliceAt_both (w : World) (t e : TypeId) (sz : Nat) (ht : P.underlying t = some (.slice e)) (hsz : (P.info? e).map (·.size) = some sz) (A : Option Addr) (n c : Nat) (q q' : IntKind) (l h : Nat) (hl : l ≤ h) (hh : h ≤ c) :
    (Instr.sliceAt t (.slice A n c) (some (.int q (l : Int))) (some (.int q' (h : Int))) none).run P w = .ok (.slice (if c = l then A else A.map (·.add (l * sz))) (h - l) (c - l)) w := by
  cases hq : P.info? e with
  | none => simp [hq] at hsz
  | some i =>
    have hi : i.size = sz := by simpa [hq] using hsz
    simp [Instr.sliceAt, Instr.slice, Instr.sliceBounds, Instr.sliceBound, asIntOf, run_underlying ht, sizeOf, typeInfo, hq, hi, hl, hh]

theorem wpList_slice_lo (hg : o.guard = none) (x lo : Operand) (t e : TypeId) (ho : o.op = .slice t x (some lo) none none) {sz : Nat} (ht : P.underlying t = some (.slice e)) (hsz : (P.info? e).map (·.size) = some sz)
    {F : Nat → Prop} {A : Option Addr} {n c : Nat} {xs : List Value} (hx : a.eval x = .slice A n c) (h : Row w F e sz (.slice A n c) n xs) {q : IntKind} {li : Int} {l : Nat} (hlo : a.eval lo = .int q li) (hli : li = (l : Int)) (hl : l ≤ n)
    (hK : ∀ A' c', Row w F e sz (.slice A' (n - l) c') (n - l) (xs.drop (l * sz)) → n - l ≤ c' → wpList P ops Q rest (a.put o.dst (.slice A' (n - l) c')) w) : wpList P ops Q (o :: rest) a w := by
  subst hli
  have hr := run_sliceAt_lo (P := P) w t e sz ht hsz A n c q l hl
  have hc := h.cut hl (Nat.le_refl n)
  have hlen : (xs.drop (l * sz)).length = (n - l) * sz := by rw [List.length_drop, h.1, Nat.sub_mul]
  rw [List.take_of_length_le (Nat.le_of_eq hlen)] at hc
  obtain ⟨_, _, _, he, hnc, _⟩ := h
  cases he
  refine wpList_run hg (v := .slice (if c = l then A else A.map (·.add (l * sz))) (n - l) (c - l)) (w' := w) ?_ (hK _ _ hc (by omega))
  simp only [execOp, ho, hx, hlo, Option.map_some, Option.map_none, Sem.run_bind, hr, Result.andThen_ok, Sem.run_pure]

theorem wpList_slice_hi (hg : o.guard = none) (x hi : Operand) (t e : TypeId) (ho : o.op = .slice t x none (some hi) none) {sz : Nat} (ht : P.underlying t = some (.slice e)) (hsz : (P.info? e).map (·.size) = some sz)
    {F : Nat → Prop} {A : Option Addr} {n c : Nat} {xs : List Value} (hx : a.eval x = .slice A n c) (h : Row w F e sz (.slice A n c) n xs) {q : IntKind} {hi' : Int} {k : Nat} (hhi : a.eval hi = .int q hi') (hki : hi' = (k : Int)) (hk : k ≤ n)
    (hK : ∀ A', Row w F e sz (.slice A' k c) k (xs.take (k * sz)) → wpList P ops Q rest (a.put o.dst (.slice A' k c)) w) : wpList P ops Q (o :: rest) a w := by
  subst hki
  have hcut := h.cut (Nat.zero_le k) hk
  simp only [Nat.zero_mul, List.drop_zero, Nat.sub_zero] at hcut
  obtain ⟨_, _, _, he, hnc, _⟩ := h
  cases he
  have hr := run_sliceAt_hi (P := P) w t e sz ht hsz A n c q k (by omega)
  simp only [Nat.zero_mul, Nat.sub_zero] at hr
  refine wpList_run hg (v := .slice (if c = 0 then A else A.map (·.add 0)) k c) (w' := w) ?_ (hK _ hcut)
  simp only [execOp, ho, hx, hhi, Option.map_some, Option.map_none, Sem.run_bind, hr, Result.andThen_ok, Sem.run_pure]

theorem wpList_slice_both (hg : o.guard = none) (x lo hi : Operand) (t e : TypeId) (ho : o.op = .slice t x (some lo) (some hi) none) {sz : Nat} (ht : P.underlying t = some (.slice e)) (hsz : (P.info? e).map (·.size) = some sz)
    {F : Nat → Prop} {A : Option Addr} {n c : Nat} {xs : List Value} (hx : a.eval x = .slice A n c) (h : Row w F e sz (.slice A n c) n xs) {q q' : IntKind} {li hi' : Int} {l k : Nat} (hlo : a.eval lo = .int q li) (hli : li = (l : Int)) (hhi : a.eval hi = .int q' hi') (hki : hi' = (k : Int)) (hl : l ≤ k) (hk : k ≤ n)
    (hK : ∀ A' c', Row w F e sz (.slice A' (k - l) c') (k - l) ((xs.drop (l * sz)).take ((k - l) * sz)) → wpList P ops Q rest (a.put o.dst (.slice A' (k - l) c')) w) : wpList P ops Q (o :: rest) a w := by
  subst hli
  subst hki
  have hcut := h.cut hl hk
  obtain ⟨_, _, _, he, hnc, _⟩ := h
  cases he
  have hr := run_sliceAt_both (P := P) w t e sz ht hsz A n c q q' l k hl (by omega)
  refine wpList_run hg (v := .slice (if c = l then A else A.map (·.add (l * sz))) (k - l) (c - l)) (w' := w) ?_ (hK _ _ hcut)
  simp only [execOp, ho, hx, hlo, hhi, Option.map_some, Option.map_none, Sem.run_bind, hr, Result.andThen_ok, Sem.run_pure]
end
end Go.Cu
