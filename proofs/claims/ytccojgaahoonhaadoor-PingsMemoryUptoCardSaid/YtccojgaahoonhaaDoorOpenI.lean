import Derived.Test.YtccojgaahoonhaaDoorOpenP
import Derived.Test.YtccojgaahoonhaaDoorBulk
import Derived.Lib.SmallJoins
/- Arguments: lists of ints and of bools; a struct of two ints. -/
namespace Go.Cu
open Go Go.RowKit Go.ChangeShapes Go.WideShapes Go.Deep Go.Proofs.YtccojgaahoonhaaDoor Go.Proofs.YtccojgaahoonhaaDoor.bulks

theorem bounds_i64 {x : Int} (h : (Lit.int .i64 x).wf = true) : -9223372036854775808 ≤ x ∧ x ≤ 9223372036854775807 := by
  simp [Lit.wf, IntKind.min, IntKind.max, IntKind.signed, IntKind.bits] at h
  omega

section
variable {H : Type} {enc : TypeId × Value → H} {P : Program} {W : World} {base : Nat} {sp : Nat → Bool} {held : Bool}

theorem open_list {α : Type} {f : α → Value} {R : α → Prop} {t e : TypeId} {a0 : Option Addr} {len cap : Nat} {d : DataW H} {p : List MemPlace} (ht : P.underlying t = some (.slice e)) (hc : P.cellsOf e = 1)
    (he : ∀ (n : Nat) (v : Value) (y : DataW H × List MemPlace), DataW.trod enc P W base sp held n e [v] = some y → ∃ x, v = f x ∧ R x)
    (h : DataW.Trod enc P W base sp held t (.slice a0 len cap) d p) : ∃ xs : List α, Reads W 1 (.slice a0 len cap) len (xs.map f) ∧ (∀ x ∈ xs, R x) ∧ len ≤ cap ∧ len + 1 ≤ Rows.uptoBulk d := by
  obtain ⟨fuel, hf⟩ := h
  rcases open_slice1 ht hc hf with ⟨hcs, hx⟩ | ⟨a, len', cap', m, n, V, D, Pl, hcs, _, hl, hm, hmm, hx, hi⟩
  · simp [Value.cells] at hcs
    obtain ⟨rfl, rfl, rfl⟩ := hcs
    simp only [Prod.mk.injEq] at hx
    obtain ⟨rfl, _⟩ := hx
    exact ⟨[], ⟨rfl, none, 0, rfl, Nat.zero_le _, .inl rfl⟩, fun x hx => (by cases hx), Nat.le_refl _, by simp [Rows.uptoBulk]⟩
  · simp [Value.cells] at hcs
    obtain ⟨rfl, rfl, rfl⟩ := hcs
    simp only [Prod.mk.injEq] at hx
    have hlm : len ≤ m := by rw [hmm]; split <;> omega
    obtain ⟨xs, hl2, hxs⟩ := range_choose (R := fun i (x : α) => W.cell? (a.add i) = some (f x) ∧ R x) len (fun i hi' => by
      obtain ⟨hc, ht⟩ := hi i (by omega)
      obtain ⟨x, e, hr⟩ := he _ _ _ ht
      exact ⟨x, by rw [hc, e], hr⟩)
    refine ⟨xs, ⟨by rw [List.length_map, hl2, Nat.mul_one], _, _, rfl, by omega, .inr ⟨a, rfl, fun j u hu => ?_⟩⟩, fun x hx => ?_, hl, ?_⟩
    · rw [List.getElem?_map] at hu
      cases hj : xs[j]? with
      | none => rw [hj] at hu; cases hu
      | some b =>
        rw [hj] at hu
        injection hu with hu
        rw [← hu]
        exact (hxs j b hj).1
    · obtain ⟨i, hif⟩ := List.mem_iff_getElem?.1 hx
      exact (hxs i x hif).2
    · have := slice_le ((List.range len).map D) ((List.range (m - len)).map fun j => D (len + j))
      simp only [List.length_map, List.length_range] at this
      rw [hx.1]
      omega

theorem open_intl {t e : TypeId} {a0 : Option Addr} {len cap : Nat} {d : DataW H} {p : List MemPlace} (ht : P.underlying t = some (.slice e)) (he : P.underlying e = some (.int .i64)) (hc : P.cellsOf e = 1)
    (h : DataW.Trod enc P W base sp held t (.slice a0 len cap) d p) : ∃ xs : List Int, Reads W 1 (.slice a0 len cap) len (xs.map (Value.int .i64)) ∧ (∀ x ∈ xs, (Lit.int .i64 x).wf = true) ∧ len ≤ cap ∧ len + 1 ≤ Rows.uptoBulk d := by
  refine open_list (f := Value.int .i64) ht hc (fun n v y hy => ?_) h
  obtain ⟨x, e, _, hw⟩ := DataW.trod_int he hy
  injection e with e
  exact ⟨x, e, hw⟩
theorem open_booll {t e : TypeId} {a0 : Option Addr} {len cap : Nat} {d : DataW H} {p : List MemPlace} (ht : P.underlying t = some (.slice e)) (he : P.underlying e = some .bool) (hc : P.cellsOf e = 1)
    (h : DataW.Trod enc P W base sp held t (.slice a0 len cap) d p) : ∃ xs : List Bool, Reads W 1 (.slice a0 len cap) len (xs.map Value.bool) ∧ (∀ x ∈ xs, True) ∧ len ≤ cap ∧ len + 1 ≤ Rows.uptoBulk d := by
  refine open_list (f := Value.bool) (R := fun _ => True) ht hc (fun n v y hy => ?_) h
  obtain ⟨x, e, _⟩ := DataW.trod_bool he hy
  injection e with e
  exact ⟨x, e, trivial⟩

theorem open_two {r : Reach} {b0 : Nat} {t : TypeId} {f0 f1 : Field} {v : Value} {d : DataW H} {p : List MemPlace} (hs : P.underlying t = some (.struct #[f0, f1])) (hone : oneCellFields P #[f0, f1] = true) (hC : P.cellsOf t = 2)
    (t0 : P.underlying f0.type = some (.int .i64)) (t1 : P.underlying f1.type = some (.int .i64)) (hv : Value.okWide P W r b0 t v) (h : DataW.Trod enc P W base sp held t v d p) :
    ∃ a b : Int, v = .agg #[.int .i64 a, .int .i64 b] ∧ d = .agg [.lit (.int .i64 a), .lit (.int .i64 b)] ∧ p = [] ∧ (Lit.int .i64 a).wf = true ∧ (Lit.int .i64 b).wf = true := by
  obtain ⟨v0, v1, y0, y1, n, rfl, rfl, rfl, h0, h1⟩ := Go.Joins.open_agg2 hs hone hC hv h
  obtain ⟨a, e0, k0, w0⟩ := DataW.trod_int t0 h0
  obtain ⟨b, e1, k1, w1⟩ := DataW.trod_int t1 h1
  simp at e0 e1
  subst e0
  subst e1
  subst k0
  subst k1
  exact ⟨a, b, rfl, rfl, rfl, w0, w1⟩
theorem shut_two {t : TypeId} {f0 f1 : Field} {a b : Int} (hs : P.underlying t = some (.struct #[f0, f1])) (hone : oneCellFields P #[f0, f1] = true) (hC : P.cellsOf t = 2)
    (t0 : P.underlying f0.type = some (.int .i64)) (t1 : P.underlying f1.type = some (.int .i64)) (w0 : (Lit.int .i64 a).wf = true) (w1 : (Lit.int .i64 b).wf = true) :
    DataW.Trod enc P W base sp held t (.agg #[.int .i64 a, .int .i64 b]) (.agg [.lit (.int .i64 a), .lit (.int .i64 b)]) [] :=
  Go.Joins.shut_agg2 (y0 := (.lit (.int .i64 a), [])) (y1 := (.lit (.int .i64 b), [])) hs hone hC ⟨1, trod_int_mk 0 t0 w0⟩ ⟨1, trod_int_mk 0 t1 w1⟩
/-- a call: three ints and something of one cell more -/
theorem open_call {r : Reach} {b0 : Nat} {t : TypeId} {f0 f1 f2 f3 : Field} {v : Value} {d : DataW H} {p : List MemPlace} (hs : P.underlying t = some (.struct #[f0, f1, f2, f3])) (hone : oneCellFields P #[f0, f1, f2, f3] = true) (hC : P.cellsOf t = 4)
    (t0 : P.underlying f0.type = some (.int .i64)) (t1 : P.underlying f1.type = some (.int .i64)) (t2 : P.underlying f2.type = some (.int .i64)) (hv : Value.okWide P W r b0 t v) (h : DataW.Trod enc P W base sp held t v d p) :
    ∃ (a b c : Int) (O : Value), v = .agg #[.int .i64 a, .int .i64 b, .int .i64 c, O] := by
  obtain ⟨v0, v1, v2, v3, y0, y1, y2, y3, n, rfl, _, _, h0, h1, h2, _⟩ := Go.Joins.open_agg4 hs hone hC hv h
  obtain ⟨a, e0, _⟩ := DataW.trod_int t0 h0
  obtain ⟨b, e1, _⟩ := DataW.trod_int t1 h1
  obtain ⟨c, e2, _⟩ := DataW.trod_int t2 h2
  simp at e0 e1 e2
  subst e0
  subst e1
  subst e2
  exact ⟨a, b, c, v3, rfl⟩
end
end Go.Cu
