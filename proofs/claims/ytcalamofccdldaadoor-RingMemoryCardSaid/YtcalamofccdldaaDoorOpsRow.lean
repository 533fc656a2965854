import Derived.Test.YtcalamofccdldaaDoorOpsW
import Derived.Test.YtcalamofccdldaaDoorOpenP
/- A script of calls on rings, and a list of numbers, that came in are opened. -/
namespace Go.Proofs.YtcalamofccdldaaDoor
open Go Go.RowKit Go.Cu Go.ChangeShapes Go.WideShapes Go.Deep

theorem fields_op : ∃ f0 f1 f2 f3 : Field, Tryd.prog.underlying 43 = some (.struct #[f0, f1, f2, f3]) ∧ f0.type = 3 ∧ f1.type = 3 ∧ f2.type = 3 ∧ f3.type = 38 ∧ oneCellFields Tryd.prog #[f0, f1, f2, f3] = true := ⟨_, _, _, _, Tryd.underlying43, rfl, rfl, rfl, rfl, by kernel_rfl⟩
theorem cells_op : Tryd.prog.cellsOf 43 = 4 := by kernel_rfl

section
variable {H : Type} {enc : TypeId × Value → H} {W : World} {base : Nat} {sp : Nat → Bool} {held : Bool}
theorem open_ints1 {fuel : Nat} {v : Value} {y : DataW H × List MemPlace} (h : DataW.trod enc Tryd.prog W base sp held fuel 38 [v] = some y) :
    ∃ (A : Option Addr) (n c : Nat) (L : List Int), v = .slice A n c ∧ n ≤ c ∧ Reads W 1 (.slice A n c) n (ints L) := by
  rcases open_slice1 Tryd.underlying38 (by kernel_rfl) h with ⟨hcs, rfl⟩ | ⟨a, len, cap, m, n, V, D, Pl, hcs, _, hl, hm, hmm, rfl, hx⟩
  · injection hcs with hcs
    subst hcs
    exact ⟨none, 0, 0, [], rfl, Nat.le_refl _, ⟨rfl, none, 0, rfl, Nat.zero_le _, .inl rfl⟩⟩
  · injection hcs with hcs _
    subst hcs
    have hlm : len ≤ m := by rw [hmm]; split <;> omega
    obtain ⟨L, hl2, hL⟩ := range_choose (R := fun i (x : Int) => W.cell? (a.add i) = some (.int .i64 x)) len (fun i hi => by
      obtain ⟨hc, ht⟩ := hx i (by omega)
      obtain ⟨k, e, _, _⟩ := DataW.trod_int Tryd.underlying3 ht
      injection e with e
      exact ⟨k, by rw [hc, e]⟩)
    refine ⟨some a, len, cap, L, rfl, hl, ⟨by rw [ints_length, hl2, Nat.mul_one], _, _, rfl, by omega, .inr ⟨a, rfl, fun j u hu => ?_⟩⟩⟩
    unfold ints at hu
    rw [List.getElem?_map] at hu
    cases hj : L[j]? with
    | none => rw [hj] at hu; cases hu
    | some x =>
      rw [hj] at hu
      injection hu with hu
      rw [← hu]
      exact hL j x hj
theorem open_ints {a0 : Option Addr} {len cap : Nat} {d : DataW H} {p : List MemPlace} (h : DataW.Trod enc Tryd.prog W base sp held 38 (.slice a0 len cap) d p) : ∃ L, Reads W 1 (.slice a0 len cap) len (ints L) := by
  obtain ⟨fuel, hfu⟩ := h
  obtain ⟨A, n, c, L, e, _, hr⟩ := open_ints1 hfu
  injection e with e1 e2 e3
  subst e1 e2 e3
  exact ⟨L, hr⟩
theorem open_ops {a0 : Option Addr} {len cap : Nat} {d : DataW H} {p : List MemPlace} (h : DataW.Trod enc Tryd.prog W base sp held 37 (.slice a0 len cap) d p) : ∃ ops, Ops W (.slice a0 len cap) len ops := by
  obtain ⟨f0, f1, f2, f3, hf, t0, t1, t2, t3, hone⟩ := fields_op
  obtain ⟨fuel, hfu⟩ := h
  rcases open_slice_fields Tryd.underlying37 hf hone cells_op hfu with ⟨hcs, _⟩ | ⟨a, len', cap', m, D, Pl, hcs, _, hl, hm, hmm, hx, hi⟩
  · simp [Value.cells] at hcs
    obtain ⟨rfl, rfl, rfl⟩ := hcs
    exact ⟨[], ⟨⟨rfl, none, 0, rfl, Nat.zero_le _, .inl rfl⟩, rfl, fun o ho => (by cases ho)⟩⟩
  · simp [Value.cells] at hcs
    obtain ⟨rfl, rfl, rfl⟩ := hcs
    have hlm : len ≤ m := by rw [hmm]; split <;> omega
    obtain ⟨ops, hol, hops⟩ := range_choose (R := fun i (o : OpD) => (∀ (j : Nat) (u : Value), (opCell o)[j]? = some u → W.cell? (a.add (i * 4 + j)) = some u) ∧ (Reads W 1 (.slice o.A o.len o.c) o.len (ints o.items) ∧ o.len ≤ o.c ∧ (Lit.int .i64 o.kind).wf = true ∧ (Lit.int .i64 o.at_).wf = true ∧ (Lit.int .i64 o.n).wf = true)) len (fun i hil => by
      obtain ⟨ys, n, _, _, _, hfield⟩ := hi i (by omega)
      obtain ⟨v0, y0, c0, _, r0⟩ := hfield 0 f0 rfl
      obtain ⟨v1, y1, c1, _, r1⟩ := hfield 1 f1 rfl
      obtain ⟨v2, y2, c2, _, r2⟩ := hfield 2 f2 rfl
      obtain ⟨v3, y3, c3, _, r3⟩ := hfield 3 f3 rfl
      rw [t0] at r0
      rw [t1] at r1
      rw [t2] at r2
      rw [t3] at r3
      obtain ⟨x0, e0, _, w0⟩ := DataW.trod_int Tryd.underlying3 r0
      obtain ⟨x1, e1, _, w1⟩ := DataW.trod_int Tryd.underlying3 r1
      obtain ⟨x2, e2, _, w2⟩ := DataW.trod_int Tryd.underlying3 r2
      obtain ⟨A, n0, c, L, rfl, hnc, hrd⟩ := open_ints1 r3
      simp at e0 e1 e2
      subst e0
      subst e1
      subst e2
      refine ⟨⟨x0, x1, x2, A, n0, c, L⟩, fun j u hu => ?_, hrd, hnc, w0, w1, w2⟩
      match j, hu with
      | 0, hu => simp [opCell] at hu; subst hu; exact c0
      | 1, hu => simp [opCell] at hu; subst hu; exact c1
      | 2, hu => simp [opCell] at hu; subst hu; exact c2
      | 3, hu => simp [opCell] at hu; subst hu; exact c3
      | j + 4, hu => simp [opCell] at hu)
    refine ⟨ops, ⟨⟨by rw [flat_length opCell_length, hol], _, cap, rfl, by omega, .inr ⟨a, rfl, fun k u hk => ?_⟩⟩, hol, fun o ho => ?_⟩⟩
    · obtain ⟨i, j, o, rfl, _, hoi, hu⟩ := flat_at opCell_length hk
      exact (hops i o hoi).1 j u hu
    · obtain ⟨i, hio⟩ := List.mem_iff_getElem?.1 ho
      exact (hops i o hio).2
end
end Go.Proofs.YtcalamofccdldaaDoor
