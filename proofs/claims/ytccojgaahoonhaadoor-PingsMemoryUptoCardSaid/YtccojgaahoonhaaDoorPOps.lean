import Derived.Test.YtccojgaahoonhaaDoorPOwedLaw
import Derived.Test.YtccojgaahoonhaaDoorOpenI
/- Arguments: lists of 32-bit numbers; scripts of calls. -/
namespace Go.Proofs.YtccojgaahoonhaaDoor
open Go Go.RowKit Go.Cu Go.ChangeShapes Go.WideShapes Go.Deep Go.Proofs.YtccojgaahoonhaaDoor.errs

theorem opC_at {ops : List (Int × Int)} {k : Nat} {u : Value} (h : (opC ops)[k]? = some u) : ∃ (i j : Nat) (o : Int × Int), k = i * 2 + j ∧ (j = 0 ∨ j = 1) ∧ ops[i]? = some o ∧ u = if j = 0 then .int .i64 o.1 else .int .u32 o.2 := by
  have hk : k < ops.length * 2 := by rw [← opC_length]; exact (List.getElem?_eq_some_iff.1 h).1
  obtain ⟨o, ho⟩ : ∃ o, ops[k / 2]? = some o := ⟨_, List.getElem?_eq_getElem (by omega)⟩
  have hg := opC_get ho
  rcases (by omega : k % 2 = 0 ∨ k % 2 = 1) with h0 | h1
  · have e : k / 2 * 2 = k := by omega
    rw [e] at hg
    rw [hg.1] at h
    exact ⟨k / 2, 0, o, by omega, .inl rfl, ho, by simpa using h.symm⟩
  · have e : k / 2 * 2 + 1 = k := by omega
    rw [e] at hg
    rw [hg.2] at h
    exact ⟨k / 2, 1, o, by omega, .inr rfl, ho, by simpa using h.symm⟩
theorem fields_op : ∃ f0 f1 : Field, Tryd.prog.underlying 32 = some (.struct #[f0, f1]) ∧ f0.type = 3 ∧ f1.type = 30 ∧ oneCellFields Tryd.prog #[f0, f1] = true := ⟨_, _, Tryd.underlying32, rfl, rfl, by kernel_rfl⟩
theorem cells_op : Tryd.prog.cellsOf 32 = 2 := by kernel_rfl
section
variable {H : Type} {enc : TypeId × Value → H} {W : World} {base : Nat} {sp : Nat → Bool} {held : Bool}
theorem open_us {a0 : Option Addr} {len cap : Nat} {d : DataW H} {p : List MemPlace} (h : DataW.Trod enc Tryd.prog W base sp held 29 (.slice a0 len cap) d p) :
    ∃ xs : List Int, Reads W 1 (.slice a0 len cap) len (us xs) ∧ (∀ x ∈ xs, (Lit.int .u32 x).wf = true) ∧ len ≤ cap ∧ len + 1 ≤ Rows.uptoBulk d := by
  refine open_list (f := Value.int .u32) Tryd.underlying29 (by kernel_rfl) (fun n v y hy => ?_) h
  obtain ⟨x, e, _, hw⟩ := DataW.trod_int Tryd.underlying30 hy
  injection e with e
  exact ⟨x, e, hw⟩
theorem open_ops {a0 : Option Addr} {len cap : Nat} {d : DataW H} {p : List MemPlace} (h : DataW.Trod enc Tryd.prog W base sp held 22 (.slice a0 len cap) d p)
    (hsz : ∀ elems spare, d = .slice elems spare → (elems.length + spare.length) * 16 ≤ 140737488351232) : ∃ ops, (Reads W 2 (.slice a0 len cap) len (opC ops) ∧ ∀ o ∈ ops, (Lit.int .i64 o.1).wf = true ∧ (Lit.int .u32 o.2).wf = true) ∧ len ≤ 8796093022208 := by
  obtain ⟨f0, f1, hf, t0, t1, hone⟩ := fields_op
  obtain ⟨fuel, hfu⟩ := h
  rcases open_slice_fields Tryd.underlying22 hf hone cells_op hfu with ⟨hcs, _⟩ | ⟨a, len', cap', m, D, Pl, hcs, _, hl, hm, hmm, hx, hi⟩
  · simp [Value.cells] at hcs
    obtain ⟨rfl, rfl, rfl⟩ := hcs
    exact ⟨[], ⟨⟨rfl, none, 0, rfl, Nat.zero_le _, .inl rfl⟩, fun o ho => (by cases ho)⟩, by omega⟩
  · simp [Value.cells] at hcs
    obtain ⟨rfl, rfl, rfl⟩ := hcs
    simp only [Prod.mk.injEq] at hx
    have hroom := hsz _ _ hx.1
    simp only [List.length_map, List.length_range] at hroom
    have hlm : len ≤ m := by rw [hmm]; split <;> omega
    obtain ⟨ops, hol, hops⟩ := range_choose (R := fun i (o : Int × Int) => (W.cell? (a.add (i * 2 + 0)) = some (.int .i64 o.1) ∧ W.cell? (a.add (i * 2 + 1)) = some (.int .u32 o.2)) ∧ (Lit.int .i64 o.1).wf = true ∧ (Lit.int .u32 o.2).wf = true) len (fun i hil => by
      obtain ⟨ys, n, _, _, _, hfield⟩ := hi i (by omega)
      obtain ⟨v0, y0, c0, _, r0⟩ := hfield 0 f0 rfl
      obtain ⟨v1, y1, c1, _, r1⟩ := hfield 1 f1 rfl
      rw [t0] at r0
      rw [t1] at r1
      obtain ⟨x0, e0, _, g0⟩ := DataW.trod_int Tryd.underlying3 r0
      obtain ⟨x1, e1, _, g1⟩ := DataW.trod_int Tryd.underlying30 r1
      simp at e0 e1
      subst e0
      subst e1
      exact ⟨(x0, x1), ⟨c0, c1⟩, g0, g1⟩)
    refine ⟨ops, ⟨⟨by rw [opC_length, hol], _, cap, rfl, by omega, .inr ⟨a, rfl, fun k u hk => ?_⟩⟩, fun o ho => ?_⟩, by omega⟩
    · obtain ⟨i, j, o, rfl, hj, hoi, hu⟩ := opC_at hk
      have h := (hops i o hoi).1
      rcases hj with rfl | rfl
      · rw [h.1]; exact congrArg some hu.symm
      · rw [h.2]; exact congrArg some hu.symm
    · obtain ⟨i, hio⟩ := List.mem_iff_getElem?.1 ho
      exact (hops i o hio).2
end
end Go.Proofs.YtccojgaahoonhaaDoor
