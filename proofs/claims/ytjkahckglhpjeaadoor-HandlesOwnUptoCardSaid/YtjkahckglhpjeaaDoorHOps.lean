import Derived.Test.YtjkahckglhpjeaaDoorHState
import Derived.Test.YtjkahckglhpjeaaDoorOpenI
import Derived.Test.YtjkahckglhpjeaaDoorFlat
/- A script of calls on handles: it came in, and is opened to its cells. -/
namespace Go.Proofs.YtjkahckglhpjeaaDoor
open Go Go.RowKit Go.Cu Go.ChangeShapes Go.WideShapes Go.Deep

structure OpH where
  kd : Int
  p : Pl
  hd : Int
def OpH.cells (o : OpH) : List Value := [.int .i64 o.kd, .int .i64 o.p.conn, .int .i64 o.p.life, .int .u32 o.p.id, .int .i64 o.hd]
theorem opCell_length (o : OpH) : o.cells.length = 5 := rfl
abbrev opV (o : OpH) : Value := .agg #[.int .i64 o.kd, .int .i64 o.p.conn, .int .i64 o.p.life, .int .u32 o.p.id, .int .i64 o.hd]
def OpH.wf (o : OpH) : Prop := (Lit.int .i64 o.kd).wf = true ∧ o.p.wf ∧ (Lit.int .i64 o.hd).wf = true
theorem cells_op : Tryd.prog.cellsOf 30 = 5 := by kernel_rfl
theorem bytes_op : Tryd.prog.bytesOf 30 = 40 := by kernel_rfl
theorem size_op : (Tryd.prog.info? 30).map (·.size) = some 5 := by kernel_rfl
theorem agg_op (w : World) : (isAgg 30).run Tryd.prog w = .ok true w := by kernel_rfl
theorem fields_op : ∃ f0 f1 f2 : Field, Tryd.prog.underlying 30 = some (.struct #[f0, f1, f2]) ∧ f0.type = 3 ∧ f1.type = 28 ∧ f2.type = 3 ∧ f0.offset = 0 ∧ f1.offset = 1 ∧ f2.offset = 4 := ⟨_, _, _, Tryd.underlying30, rfl, rfl, rfl, rfl, rfl, rfl⟩
theorem fields_pl : ∃ f0 f1 f2 : Field, Tryd.prog.underlying 28 = some (.struct #[f0, f1, f2]) ∧ f0.type = 3 ∧ f1.type = 3 ∧ f2.type = 26 ∧ f0.offset = 0 ∧ f1.offset = 1 ∧ f2.offset = 2 := ⟨_, _, _, Tryd.underlying28, rfl, rfl, rfl, rfl, rfl, rfl⟩
theorem len5 {α : Type} {l : List α} (h : l.length = 5) : ∃ a b c d e, l = [a, b, c, d, e] := by
  match l, h with
  | [a, b, c, d, e], _ => exact ⟨a, b, c, d, e, rfl⟩
theorem len3 {α : Type} {l : List α} (h : l.length = 3) : ∃ a b c, l = [a, b, c] := by
  match l, h with
  | [a, b, c], _ => exact ⟨a, b, c, rfl⟩
section
variable {H : Type} {enc : TypeId × Value → H} {W : World} {base : Nat} {sp : Nat → Bool} {held : Bool}
set_option maxRecDepth 10000 in
theorem op_open {n : Nat} {cs : List Value} {y : DataW H × List MemPlace} (h : DataW.trod enc Tryd.prog W base sp held n 30 cs = some y) : ∃ o : OpH, cs = o.cells ∧ o.wf := by
  obtain ⟨f0, f1, f2, hs, t0, t1, t2, o0, o1, o2⟩ := fields_op
  obtain ⟨p0, p1, p2, hs2, u0, u1, u2, w0, w1, w2⟩ := fields_pl
  obtain ⟨xs, n1, _, _, hl, hxl, hf⟩ := DataW.trod_struct hs h
  rw [cells_op] at hl
  obtain ⟨c0, c1, c2, c3, c4, rfl⟩ := len5 hl
  obtain ⟨x0, x1, x2, rfl⟩ := len3 hxl
  have h0 : DataW.trod enc Tryd.prog W base sp held n1 3 [c0] = some x0 := by simpa [t0, o0, cells_int] using hf 0 f0 rfl
  have h1 : DataW.trod enc Tryd.prog W base sp held n1 28 [c1, c2, c3] = some x1 := by simpa [t1, o1, cells_pl] using hf 1 f1 rfl
  have h2 : DataW.trod enc Tryd.prog W base sp held n1 3 [c4] = some x2 := by simpa [t2, o2, cells_int] using hf 2 f2 rfl
  obtain ⟨k0, e0, _, g0⟩ := DataW.trod_int Tryd.underlying3 h0
  obtain ⟨k4, e4, _, g4⟩ := DataW.trod_int Tryd.underlying3 h2
  obtain ⟨zs, n2, _, _, _, hzl, hg⟩ := DataW.trod_struct hs2 h1
  obtain ⟨z0, z1, z2, rfl⟩ := len3 hzl
  have q0 : DataW.trod enc Tryd.prog W base sp held n2 3 [c1] = some z0 := by simpa [u0, w0, cells_int] using hg 0 p0 rfl
  have q1 : DataW.trod enc Tryd.prog W base sp held n2 3 [c2] = some z1 := by simpa [u1, w1, cells_int] using hg 1 p1 rfl
  have q2 : DataW.trod enc Tryd.prog W base sp held n2 26 [c3] = some z2 := by simpa [u2, w2, cells_u32] using hg 2 p2 rfl
  obtain ⟨k1, e1, _, g1⟩ := DataW.trod_int Tryd.underlying3 q0
  obtain ⟨k2, e2, _, g2⟩ := DataW.trod_int Tryd.underlying3 q1
  obtain ⟨k3, e3, _, g3⟩ := DataW.trod_int Tryd.underlying26 q2
  simp only [List.cons.injEq, and_true] at e0 e1 e2 e3 e4
  subst e0
  subst e1
  subst e2
  subst e3
  subst e4
  exact ⟨⟨k0, ⟨k1, k2, k3⟩, k4⟩, rfl, g0, ⟨g1, g2, g3⟩, g4⟩
theorem agg_cells {cs : Array Value} {o : OpH} (h : (Value.agg cs).cells.toList = o.cells) : Value.agg cs = opV o := by
  obtain ⟨l⟩ := cs
  have h : l = o.cells := h
  subst h
  rfl
set_option maxRecDepth 10000 in
theorem open_op {r : Reach} {b0 : Nat} {v : Value} {d : DataW H} {p : List MemPlace} (hv : Value.okWide Tryd.prog W r b0 30 v) (h : DataW.Trod enc Tryd.prog W base sp held 30 v d p) : ∃ o : OpH, v = opV o ∧ o.wf := by
  obtain ⟨cs, rfl, _⟩ := okWide_struct Tryd.underlying30 hv
  obtain ⟨fuel, hf⟩ := h
  obtain ⟨o, ho, hw⟩ := op_open hf
  exact ⟨o, agg_cells ho, hw⟩
/-- The calls that came in. -/
structure Ops (w : World) (v : Value) (n : Nat) (ops : List OpH) : Prop where
  reads : Reads w 5 v n (ops.flatMap OpH.cells)
  length : ops.length = n
  each : ∀ o ∈ ops, o.wf
set_option maxRecDepth 10000 in
theorem open_ops {a0 : Option Addr} {len cap : Nat} {d : DataW H} {p : List MemPlace} (h : DataW.Trod enc Tryd.prog W base sp held 22 (.slice a0 len cap) d p)
    (hsz : ∀ elems spare, d = .slice elems spare → (elems.length + spare.length) * 40 ≤ 140737488351232) : ∃ ops, Ops W (.slice a0 len cap) len ops ∧ len ≤ 3518437208780 := by
  obtain ⟨fuel, hfu⟩ := h
  rcases open_slice Tryd.underlying22 hfu with ⟨hcs, _⟩ | ⟨a, len', cap', m, n, D, Pl, hcs, _, hl, hm, hmm, hx, hi⟩
  · simp [Value.cells] at hcs
    obtain ⟨rfl, rfl, rfl⟩ := hcs
    exact ⟨[], ⟨⟨rfl, none, 0, rfl, Nat.zero_le _, .inl rfl⟩, rfl, fun o ho => (by cases ho)⟩, by omega⟩
  · simp [Value.cells] at hcs
    obtain ⟨rfl, rfl, rfl⟩ := hcs
    simp only [Prod.mk.injEq] at hx
    have hroom := hsz _ _ hx.1
    simp only [List.length_map, List.length_range] at hroom
    have hlm : len ≤ m := by rw [hmm]; split <;> omega
    obtain ⟨ops, hol, hops⟩ := range_choose (R := fun i (o : OpH) => (∀ (j : Nat) (u : Value), o.cells[j]? = some u → W.cell? (a.add (i * 5 + j)) = some u) ∧ o.wf) len (fun i hil => by
      obtain ⟨cs', hc, ht⟩ := hi i (by omega)
      rw [cells_op] at hc
      obtain ⟨_, hcl, hcell⟩ := World.cells?_some hc
      obtain ⟨o, rfl, hw⟩ := op_open ht
      refine ⟨o, fun j u hj => ?_, hw⟩
      have hj5 : j < 5 := (List.getElem?_eq_some_iff.1 hj).1
      rw [← Go.Deep.add_add, hcell j hj5]
      exact hj)
    refine ⟨ops, ⟨⟨by rw [flat_length opCell_length, hol], _, cap, rfl, by omega, .inr ⟨a, rfl, fun k u hk => ?_⟩⟩, hol, fun o ho => ?_⟩, by omega⟩
    · obtain ⟨i, j, o, rfl, _, hoi, hu⟩ := flat_at opCell_length hk
      exact (hops i o hoi).1 j u hu
    · obtain ⟨i, hio⟩ := List.mem_iff_getElem?.1 ho
      exact (hops i o hio).2
/-- a script is no longer than its bulk -/
theorem ops_bulk {a0 : Option Addr} {len cap : Nat} {d : DataW H} {p : List MemPlace} (h : DataW.Trod enc Tryd.prog W base sp held 22 (.slice a0 len cap) d p) : len ≤ Rows.uptoBulk d := by
  obtain ⟨fuel, hfu⟩ := h
  rcases open_slice Tryd.underlying22 hfu with ⟨hcs, _⟩ | ⟨a, len', cap', m, n, D, Pl, hcs, _, hl, hm, hmm, hx, hi⟩
  · simp [Value.cells] at hcs
    obtain ⟨rfl, rfl, rfl⟩ := hcs
    exact Nat.zero_le _
  · simp [Value.cells] at hcs
    obtain ⟨rfl, rfl, rfl⟩ := hcs
    simp only [Prod.mk.injEq] at hx
    rw [hx.1]
    have := Go.Proofs.YtjkahckglhpjeaaDoor.bulks.slice_le ((List.range len).map D) ((List.range (m - len)).map fun j => D (len + j))
    rw [List.length_map, List.length_range] at this
    omega
end
end Go.Proofs.YtjkahckglhpjeaaDoor
