import Derived.Test.YtipbaffhlekpfaaDoorFifT
import Derived.Test.YtipbaffhlekpfaaDoorOpenI
/- A script of calls on a queue. -/
namespace Go.Proofs.YtipbaffhlekpfaaDoor
open Go Go.RowKit Go.Cu Go.ChangeShapes Go.WideShapes Go.Deep

theorem size_op : (Tryd.prog.info? 47).map (·.size) = some 4 := by kernel_rfl
theorem agg_op (w : World) : (isAgg 47).run Tryd.prog w = .ok true w := by kernel_rfl
theorem bytes_op : Tryd.prog.bytesOf 47 = 48 := by kernel_rfl
structure OpD where
  kd : Int
  v : Int
  wt : Int
  O : Option Addr
  m : Nat
  co : Nat
  W : List Int
def opCell (o : OpD) : List Value := [.int .i64 o.kd, .int .i64 o.v, .int .i64 o.wt, .slice o.O o.m o.co]
theorem opCell_length (o : OpD) : (opCell o).length = 4 := rfl
theorem ops_length (ops : List OpD) : (ops.flatMap opCell).length = ops.length * 4 := by
  induction ops with
  | nil => rfl
  | cons x r ih => rw [List.flatMap_cons, List.length_append, ih, opCell_length, List.length_cons]; omega
/-- The calls that came in. -/
structure Ops (w : World) (v : Value) (n : Nat) (ops : List OpD) : Prop where
  reads : Reads w 4 v n (ops.flatMap opCell)
  length : ops.length = n
  each : ∀ o ∈ ops, Reads w 1 (.slice o.O o.m o.co) o.m (o.W.map (Value.int .i64))
theorem Ops.below {w w' : World} {v : Value} {n : Nat} {ops : List OpD} (h : Ops w v n ops) (hb : Below w.heap.size w w') : Ops w' v n ops :=
  ⟨Reads.kept h.reads (fun a _ hc => (hb.cell (World.block_lt_of_cell? w a hc)).trans hc), h.length, fun o ho => Reads.kept (h.each o ho) (fun a _ hc => (hb.cell (World.block_lt_of_cell? w a hc)).trans hc)⟩
theorem ops_at {ops : List OpD} {i : Nat} {o : OpD} (h : ops[i]? = some o) (j : Nat) (u : Value) (hu : (opCell o)[j]? = some u) : (ops.flatMap opCell)[i * 4 + j]? = some u := by
  induction ops generalizing i with
  | nil => simp at h
  | cons x r ih =>
    rw [List.flatMap_cons]
    cases i with
    | zero =>
      simp at h
      subst h
      have hj : j < (opCell x).length := (List.getElem?_eq_some_iff.1 hu).1
      rw [Nat.zero_mul, Nat.zero_add, List.getElem?_append_left hj]
      exact hu
    | succ i =>
      rw [List.getElem?_append_right (by rw [opCell_length]; omega), opCell_length, show (i + 1) * 4 + j - 4 = i * 4 + j by omega]
      exact ih (by simpa using h)

theorem fields_op : ∃ f0 f1 f2 f3 : Field, Tryd.prog.underlying 47 = some (.struct #[f0, f1, f2, f3]) ∧ f0.type = 3 ∧ f1.type = 3 ∧ f2.type = 3 ∧ f3.type = 24 ∧ oneCellFields Tryd.prog #[f0, f1, f2, f3] = true := ⟨_, _, _, _, Tryd.underlying47, rfl, rfl, rfl, rfl, by kernel_rfl⟩
theorem cells_op : Tryd.prog.cellsOf 47 = 4 := by kernel_rfl

section
variable {H : Type} {enc : TypeId × Value → H} {W : World} {base : Nat} {sp : Nat → Bool} {held : Bool}
theorem open_ints1 {fuel : Nat} {v : Value} {y : DataW H × List MemPlace} (h : DataW.trod enc Tryd.prog W base sp held fuel 24 [v] = some y) :
    ∃ (A : Option Addr) (n c : Nat) (L : List Int), v = .slice A n c ∧ Reads W 1 (.slice A n c) n (L.map (Value.int .i64)) := by
  rcases open_slice1 Tryd.underlying24 (by kernel_rfl) h with ⟨hcs, rfl⟩ | ⟨a, len, cap, m, n, V, D, Pl, hcs, _, hl, hm, hmm, rfl, hx⟩
  · injection hcs with hcs
    subst hcs
    exact ⟨none, 0, 0, [], rfl, ⟨rfl, none, 0, rfl, Nat.zero_le _, .inl rfl⟩⟩
  · injection hcs with hcs _
    subst hcs
    have hlm : len ≤ m := by rw [hmm]; split <;> omega
    obtain ⟨L, hl2, hL⟩ := range_choose (R := fun i (x : Int) => W.cell? (a.add i) = some (.int .i64 x)) len (fun i hi => by
      obtain ⟨hc, ht⟩ := hx i (by omega)
      obtain ⟨k, e, _, _⟩ := DataW.trod_int Tryd.underlying3 ht
      injection e with e
      exact ⟨k, by rw [hc, e]⟩)
    refine ⟨some a, len, cap, L, rfl, ⟨by rw [List.length_map, hl2, Nat.mul_one], _, _, rfl, by omega, .inr ⟨a, rfl, fun j u hu => ?_⟩⟩⟩
    rw [List.getElem?_map] at hu
    cases hj : L[j]? with
    | none => rw [hj] at hu; cases hu
    | some x =>
      rw [hj] at hu
      injection hu with hu
      rw [← hu]
      exact hL j x hj
theorem open_ops {a0 : Option Addr} {len cap : Nat} {d : DataW H} {p : List MemPlace} (h : DataW.Trod enc Tryd.prog W base sp held 38 (.slice a0 len cap) d p)
    (hsz : ∀ elems spare, d = .slice elems spare → (elems.length + spare.length) * 48 ≤ 140737488351232) : ∃ ops, Ops W (.slice a0 len cap) len ops ∧ len ≤ 2932031007317 := by
  obtain ⟨f0, f1, f2, f3, hf, t0, t1, t2, t3, hone⟩ := fields_op
  obtain ⟨fuel, hfu⟩ := h
  rcases open_slice_fields Tryd.underlying38 hf hone cells_op hfu with ⟨hcs, _⟩ | ⟨a, len', cap', m, D, Pl, hcs, _, hl, hm, hmm, hx, hi⟩
  · simp [Value.cells] at hcs
    obtain ⟨rfl, rfl, rfl⟩ := hcs
    exact ⟨[], ⟨⟨rfl, none, 0, rfl, Nat.zero_le _, .inl rfl⟩, rfl, fun o ho => (by cases ho)⟩, by omega⟩
  · simp [Value.cells] at hcs
    obtain ⟨rfl, rfl, rfl⟩ := hcs
    simp only [Prod.mk.injEq] at hx
    have hroom := hsz _ _ hx.1
    simp only [List.length_map, List.length_range] at hroom
    have hlm : len ≤ m := by rw [hmm]; split <;> omega
    obtain ⟨ops, hol, hops⟩ := range_choose (R := fun i (o : OpD) => (∀ (j : Nat) (u : Value), (opCell o)[j]? = some u → W.cell? (a.add (i * 4 + j)) = some u) ∧ Reads W 1 (.slice o.O o.m o.co) o.m (o.W.map (Value.int .i64))) len (fun i hil => by
      obtain ⟨ys, n, _, _, _, hfield⟩ := hi i (by omega)
      obtain ⟨v0, y0, c0, _, r0⟩ := hfield 0 f0 rfl
      obtain ⟨v1, y1, c1, _, r1⟩ := hfield 1 f1 rfl
      obtain ⟨v2, y2, c2, _, r2⟩ := hfield 2 f2 rfl
      obtain ⟨v3, y3, c3, _, r3⟩ := hfield 3 f3 rfl
      rw [t0] at r0
      rw [t1] at r1
      rw [t2] at r2
      rw [t3] at r3
      obtain ⟨x0, e0, _⟩ := DataW.trod_int Tryd.underlying3 r0
      obtain ⟨x1, e1, _⟩ := DataW.trod_int Tryd.underlying3 r1
      obtain ⟨x2, e2, _⟩ := DataW.trod_int Tryd.underlying3 r2
      obtain ⟨A, n0, c, L, rfl, hrd⟩ := open_ints1 r3
      simp at e0 e1 e2
      subst e0
      subst e1
      subst e2
      refine ⟨⟨x0, x1, x2, A, n0, c, L⟩, fun j u hu => ?_, hrd⟩
      match j, hu with
      | 0, hu => simp [opCell] at hu; subst hu; exact c0
      | 1, hu => simp [opCell] at hu; subst hu; exact c1
      | 2, hu => simp [opCell] at hu; subst hu; exact c2
      | 3, hu => simp [opCell] at hu; subst hu; exact c3
      | j + 4, hu => simp [opCell] at hu)
    refine ⟨ops, ⟨⟨by rw [ops_length, hol], _, cap, rfl, by omega, .inr ⟨a, rfl, fun k u hk => ?_⟩⟩, hol, fun o ho => ?_⟩, by omega⟩
    · obtain ⟨i, j, o, rfl, _, hoi, hu⟩ := flat_at opCell_length hk
      exact (hops i o hoi).1 j u hu
    · obtain ⟨i, hio⟩ := List.mem_iff_getElem?.1 ho
      exact (hops i o hio).2
end
end Go.Proofs.YtipbaffhlekpfaaDoor
