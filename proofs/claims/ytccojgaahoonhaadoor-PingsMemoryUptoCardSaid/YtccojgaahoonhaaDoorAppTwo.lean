import Derived.Test.YtccojgaahoonhaaDoorLib
/- append told in two ways: into the room behind, or to new memory. -/
namespace Go.Cu
open Go Go.RowKit
section
variable {P : Program} (w : World)
/-- no room: new memory, and all that was there lies on -/
theorem run_append_row_new (t ty e : TypeId) (i : TypeInfo) (z : Value) (sz bytes : Nat) (ht : P.underlying t = some (.slice e)) (hi : P.info? e = some i) (hz : i.zero = some z)
    (hsize : i.size = sz) (hby : i.bytes = bytes) (hzs : z.cells.size = sz)
    {F : Nat → Prop} {A : Option Addr} {n c : Nat} {xs : List Value} (h : Row w F e sz (.slice A n c) n xs) {x : Value} {m : Nat} {news : List Value} (hx : Reads w sz x m news)
    (h63 : n + m ≤ maxLen) (hbytes : (n + m) * bytes ≤ 140737488355328) (hroom : ¬ n + m ≤ c) :
    ∃ A' c' w', (Builtin.append_ #[t, t] ty #[.slice A n c, x]).run P w = .ok (.slice A' (n + m) c') w' ∧ Row w' (fun k => w.heap.size ≤ k ∧ k < w'.heap.size) e sz (.slice A' (n + m) c') (n + m) (xs ++ news) ∧ Below w.heap.size w w' := by
  subst hsize
  subst hby
  have hsmall : n + m ≤ 9223372036854775807 := by simp only [maxLen] at h63; omega
  have hlx : news.length = m * i.size := hx.1
  have hlo : xs.length = n * i.size := h.1
  have hlen : (xs ++ news).length = (n + m) * i.size := by rw [List.length_append, hlo, hlx, Nat.add_mul]
  have hrd := h.reads
  obtain ⟨_, B, c', rfl, hx2⟩ := hx
  have hxr : Reads w i.size (.slice B m c') m news := ⟨hlx, B, c', rfl, hx2⟩
  have hge := grownCap_ge w (n + m) c e
  have hcm' : grownCap w (n + m) c e ≤ maxLen := grownCap_le_maxLen w (n + m) c e h63
  have hr : (Builtin.append_ #[t, t] ty #[.slice A n c, .slice B m c']).run P w = .ok (.slice (some ⟨w.heap.size, 0, none⟩) (n + m) (grownCap w (n + m) c e))
      (w.drew.alloc (.cells (xs.toArray ++ news.toArray ++ Builtin.zeroCells z.cells (grownCap w (n + m) c e - (n + m))) e)) := by
    have h63' : ¬ (9223372036854775807 < ((n : Int) + (m : Int))) := by omega
    have h48' : ¬ (281474976710656 < Builtin.nextslicecap (n + m) c * i.bytes) := by have := growslice_fits (need := n + m) (old := c) (by omega) hbytes; omega
    have hf1 : (Builtin.firstCells i.size m (.slice B m c')).run P w.drew = .ok news.toArray w.drew := Reads.first (w := w.drew) hxr
    have hf2 : (Builtin.firstCells i.size n (.slice A n c)).run P w.drew = .ok xs.toArray w.drew := Reads.first (w := w.drew) hrd
    simp [Builtin.append_, run_underlying ht, sizeOf, typeInfo, zeroValue, hi, hz, Builtin.lenOf, hroom, h63', h48', Question.forced, hf1, hf2, newRow, grownCap]
    congr 2
    apply Array.ext'
    simp [List.append_assoc]
  refine ⟨_, _, _, hr, ⟨hlen, _, _, rfl, hge, hcm', .inr ⟨w.heap.size, 0, _, rfl, ⟨Nat.le_refl _, by simp⟩, heap_alloc_new w.drew _, ?_, ?_⟩⟩, (Below.refl _ w).drew.alloc (Nat.le_refl _) _⟩
  · simp only [Array.size_append, List.size_toArray, size_zeroCells, hzs, hlo, hlx, ← Nat.add_mul]
    rw [Nat.zero_add]
    exact Nat.mul_le_mul_right _ (by omega)
  · intro j hj
    rw [Nat.zero_add, Array.getElem?_append_left (by simp only [Array.size_append, List.size_toArray]; rw [hlo, hlx, ← Nat.add_mul]; exact hj)]
    rw [List.append_toArray, List.getElem?_toArray]
/-- what lies ahead in a row -/
theorem Row.ahead {w : World} {F : Nat → Prop} {e : TypeId} {sz : Nat} {A : Option Addr} {n m c : Nat} {xs : List Value} (h : Row w F e sz (.slice A n c) n xs) (hm : m ≤ n) : Row w F e sz (.slice A m c) m (xs.take (m * sz)) := by
  obtain ⟨h1, A', c', he, h2, h3, h4⟩ := h
  cases he
  have hle : m * sz ≤ n * sz := Nat.mul_le_mul_right _ hm
  refine ⟨by rw [List.length_take]; omega, A, c, rfl, by omega, h3, h4.imp id ?_⟩
  rintro ⟨b, o, cur, rfl, hF, hh, h5, h6⟩
  exact ⟨b, o, cur, rfl, hF, hh, h5, fun j hj => by rw [List.getElem?_take_of_lt hj]; exact h6 j (by omega)⟩
end
section
variable {P : Program} {w : World} {ops : Array Oper} {rest : List Oper} {o : Oper} {a : Act} {Q : Exit → Act → World → Prop}
/-- both ways at once: J holds of the new slice and world -/
theorem wpList_append_two (hg : o.guard = none) (s x : Operand) (t : TypeId) (ho : o.op = .call { callee := .builtin .append, args := #[s, x], argTypes := #[t, t] })
    (e : TypeId) (i : TypeInfo) (z : Value) (sz bytes : Nat) (ht : P.underlying t = some (.slice e)) (hi : P.info? e = some i) (hz : i.zero = some z)
    (hsize : i.size = sz) (hby : i.bytes = bytes) (hzs : z.cells.size = sz)
    {F : Nat → Prop} {A : Option Addr} {n c : Nat} {xs : List Value} (hs : a.eval s = .slice A n c) (h : Row w F e sz (.slice A n c) n xs) {xv : Value} {m : Nat} {news : List Value} (hxv : a.eval x = xv) (hx : Reads w sz xv m news) (h1 : ∀ u ∈ news, u.oneCell' = true)
    (h63 : n + m ≤ maxLen) (hbytes : (n + m) * bytes ≤ 140737488355328) (J : Option Addr → Nat → World → Prop)
    (hJ1 : n + m ≤ c → ∀ w', Row w' F e sz (.slice A (n + m) c) (n + m) (xs ++ news) → Mod F w w' → J A c w')
    (hJ2 : ∀ A' c' w', Row w' (fun k => w.heap.size ≤ k ∧ k < w'.heap.size) e sz (.slice A' (n + m) c') (n + m) (xs ++ news) → Below w.heap.size w w' → J A' c' w')
    (hK : ∀ A' c' w', J A' c' w' → wpList P ops Q rest (a.put o.dst (.slice A' (n + m) c')) w') : wpList P ops Q (o :: rest) a w := by
  by_cases hroom : n + m ≤ c
  · obtain ⟨w', hr, h2, h3⟩ := run_append_row_room (P := P) w t o.type e i sz ht hi hsize h hx h1 hroom
    refine wpList_run hg (v := .slice A (n + m) c) (w' := w') ?_ (hK _ _ _ (hJ1 hroom w' h2 h3))
    simp only [execOp, ho, resolve, invoke, builtin, Sem.run_bind, Sem.run_pure, Result.andThen_ok, List.map_toArray, List.map_cons, List.map_nil, hs, hxv, hr]
  · obtain ⟨A', c', w', hr, h2, h3⟩ := run_append_row_new (P := P) w t o.type e i z sz bytes ht hi hz hsize hby hzs h hx h63 hbytes hroom
    refine wpList_run hg (v := .slice A' (n + m) c') (w' := w') ?_ (hK _ _ _ (hJ2 A' c' w' h2 h3))
    simp only [execOp, ho, resolve, invoke, builtin, Sem.run_bind, Sem.run_pure, Result.andThen_ok, List.map_toArray, List.map_cons, List.map_nil, hs, hxv, hr]
end
end Go.Cu
