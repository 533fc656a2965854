import Derived.Test.YtjajnejijaoblaaPlays12
import Derived.ProofKit
import Derived.OpenShut
import Derived.Deep.Slices
import Derived.Deep.Fields
import Derived.ChangeSame
import Derived.SizedLaws
/- A script that came in as an argument is opened to its cells. -/
namespace Go.Proofs.Ytjajnejijaoblaa
open Go Go.RowKit Go.Cu Go.ChangeShapes Go.WideShapes Go.Deep

section
variable {H : Type} {enc : TypeId × Value → H} {P : Program} {w : World} {base : Nat} {spare : Nat → Bool} {held : Bool}
/-- A slice of structs of one-cell fields (after the guide's page on structs). -/
theorem open_slice_fields {t e : TypeId} {fs : Array Field} {fuel : Nat} {cs : List Value} {x : DataW H × List MemPlace} (ht : P.underlying t = some (.slice e)) (he : P.underlying e = some (.struct fs))
    (hone : oneCellFields P fs = true) (hC : P.cellsOf e = fs.size) (h : DataW.trod enc P w base spare held fuel t cs = some x) :
    (cs = [.slice none 0 0] ∧ x = (.nil, [])) ∨
    ∃ (a : Addr) (len cap m : Nat) (D : Nat → DataW H) (Pl : Nat → List MemPlace), cs = [.slice (some a) len cap] ∧ base ≤ a.block ∧ len ≤ cap ∧ cap ≤ maxLen ∧ m = (if spare a.block then cap else len) ∧
      x = (.slice ((List.range len).map D) ((List.range (m - len)).map fun j => D (len + j)), MemPlace.row a (m * fs.size) ++ (List.range m).flatMap Pl) ∧
      ∀ i, i < m → ∃ (ys : List (DataW H × List MemPlace)) (n : Nat), D i = .agg (ys.map (·.1)) ∧ Pl i = ys.flatMap (·.2) ∧ ys.length = fs.size ∧
        ∀ (j : Nat) (f : Field), fs[j]? = some f → ∃ (v : Value) (y : DataW H × List MemPlace), w.cell? (a.add (i * fs.size + j)) = some v ∧ ys[j]? = some y ∧ DataW.trod enc P w base spare held n f.type [v] = some y := by
  rcases open_slice ht h with h0 | ⟨a, len, cap, m, n, D, Pl, hcs, hb, hl, hm, hmm, hx, hi⟩
  · exact .inl h0
  · refine .inr ⟨a, len, cap, m, D, Pl, hcs, hb, hl, hm, hmm, by rw [hC] at hx; exact hx, fun i him => ?_⟩
    obtain ⟨cs', hc, ht'⟩ := hi i him
    rw [hC] at hc
    obtain ⟨ys, n', hn', hy, hlen, hyl, hf⟩ := DataW.trod_struct he ht'
    obtain ⟨_, hcl, hat⟩ := World.cells?_some hc
    simp only [Prod.mk.injEq] at hy
    refine ⟨ys, n', hy.1, hy.2, hyl, fun j f hj => ?_⟩
    obtain ⟨ho, hk⟩ := hone_of hone j f hj
    have hjl : j < fs.size := (Array.getElem?_eq_some_iff.1 hj).1
    have hcell := hat j hjl
    have hv : cs'[j]? = some (cs'[j]'(by omega)) := List.getElem?_eq_getElem (by omega)
    have h1 := hf j f hj
    rw [ho, hk] at h1
    have hone' : (cs'.drop j).take 1 = [cs'[j]'(by omega)] := by
      rw [List.drop_eq_getElem_cons (by omega)]
      rfl
    rw [hone'] at h1
    have hys : ys[j]? = some (ys[j]'(by omega)) := List.getElem?_eq_getElem (by omega)
    refine ⟨_, _, ?_, hys, h1.trans hys⟩
    rw [← Go.Deep.add_add, hcell, hv]
end

theorem fields_op : ∃ f0 f1 : Field, Try.prog.underlying 30 = some (.struct #[f0, f1]) ∧ f0.type = 3 ∧ f1.type = 3 ∧ oneCellFields Try.prog #[f0, f1] = true := ⟨_, _, Try.underlying30, rfl, rfl, by kernel_rfl⟩
theorem cells_op : Try.prog.cellsOf 30 = 2 := by kernel_rfl
theorem bytes_op : Try.prog.bytesOf 30 = 16 := by kernel_rfl

theorem list_choose {α β : Type} {R : α → β → Prop} : ∀ (l : List α), (∀ a ∈ l, ∃ b, R a b) → ∃ m : List β, m.length = l.length ∧ ∀ (i : Nat) (a : α), l[i]? = some a → ∃ b, m[i]? = some b ∧ R a b
  | [], _ => ⟨[], rfl, fun i a h => by simp at h⟩
  | x :: r, h => by
    obtain ⟨b, hb⟩ := h x (by simp)
    obtain ⟨m, hl, hm⟩ := list_choose r (fun a ha => h a (by simp [ha]))
    refine ⟨b :: m, by simp [hl], fun i a hi => ?_⟩
    cases i with
    | zero => simp at hi; subst hi; exact ⟨b, rfl, hb⟩
    | succ i => exact hm i a (by simpa using hi)

theorem opCells_at {ops : List (Int × Int)} {k : Nat} {u : Value} (h : (opCells ops)[k]? = some u) : ∃ i j o, k = i * 2 + j ∧ j < 2 ∧ ops[i]? = some o ∧ [Value.int .i64 o.1, Value.int .i64 o.2][j]? = some u := by
  have hl := (List.getElem?_eq_some_iff.1 h).1
  rw [opCells_length] at hl
  have hi : k / 2 < ops.length := by omega
  refine ⟨k / 2, k % 2, ops[k / 2], by omega, by omega, List.getElem?_eq_getElem hi, ?_⟩
  have hj : k % 2 < [Value.int .i64 ops[k / 2].1, Value.int .i64 ops[k / 2].2].length := by simp; omega
  have := opCells_get (List.getElem?_eq_getElem hi) (k % 2) _ (List.getElem?_eq_getElem hj)
  rw [show k / 2 * 2 + k % 2 = k by omega, h] at this
  rw [List.getElem?_eq_getElem hj]
  exact this.symm

theorem open_script {H : Type} {enc : TypeId × Value → H} {W : World} {base : Nat} {sp : Nat → Bool} {held : Bool} {a0 : Option Addr} {len cap : Nat} {d : DataW H} {p : List MemPlace}
    (h : DataW.Trod enc Try.prog W base sp held 22 (.slice a0 len cap) d p) (hsz : ∀ elems spare, d = .slice elems spare → (elems.length + spare.length) * 16 ≤ 140737488351232) :
    ∃ ops, Script W (.slice a0 len cap) len ops := by
  obtain ⟨f0, f1, hf, t0, t1, hone⟩ := fields_op
  obtain ⟨fuel, hfu⟩ := h
  rcases open_slice_fields Try.underlying22 hf hone cells_op hfu with ⟨hcs, _⟩ | ⟨a, len', cap', m, D, Pl, hcs, _, hl, hm, hmm, hx, hi⟩
  · simp [Value.cells] at hcs
    obtain ⟨rfl, rfl, rfl⟩ := hcs
    exact ⟨[], ⟨rfl, none, 0, rfl, Nat.zero_le _, .inl rfl⟩, rfl, fun o ho => (by cases ho), by omega⟩
  · simp [Value.cells] at hcs
    obtain ⟨rfl, rfl, rfl⟩ := hcs
    simp only [Prod.mk.injEq] at hx
    have hroom := hsz _ _ hx.1
    simp only [List.length_map, List.length_range] at hroom
    have hlm : len ≤ m := by rw [hmm]; split <;> omega
    have hex : ∀ i ∈ List.range len, ∃ o : Int × Int, W.cell? (a.add (i * 2 + 0)) = some (.int .i64 o.1) ∧ W.cell? (a.add (i * 2 + 1)) = some (.int .i64 o.2) ∧ (Lit.int .i64 o.2).wf = true ∧ (Lit.int .i64 o.1).wf = true := by
      intro i him
      rw [List.mem_range] at him
      obtain ⟨ys, n, _, _, _, hfield⟩ := hi i (by omega)
      obtain ⟨v0, y0, c0, _, r0⟩ := hfield 0 f0 rfl
      obtain ⟨v1, y1, c1, _, r1⟩ := hfield 1 f1 rfl
      rw [t0] at r0
      rw [t1] at r1
      obtain ⟨x0, e0, _, w0⟩ := DataW.trod_int Try.underlying3 r0
      obtain ⟨x1, e1, _, w1⟩ := DataW.trod_int Try.underlying3 r1
      simp at e0 e1
      subst e0
      subst e1
      exact ⟨(x0, x1), c0, c1, w1, w0⟩
    obtain ⟨ops, hol, hops⟩ := list_choose _ hex
    rw [List.length_range] at hol
    refine ⟨ops, ⟨by rw [opCells_length, hol], _, cap, rfl, by omega, .inr ⟨a, rfl, fun k u hk => ?_⟩⟩, hol, fun o ho => ?_, by omega⟩
    · obtain ⟨i, j, o, rfl, hj, hoi, hu⟩ := opCells_at hk
      have hil : i < len := by rw [← hol]; exact (List.getElem?_eq_some_iff.1 hoi).1
      obtain ⟨o', ho', h0, h1, _⟩ := hops i i (by simp [hil])
      rw [hoi] at ho'
      injection ho' with ho'
      subst ho'
      match j, hj, hu with
      | 0, _, hu => simp at hu; subst hu; exact h0
      | 1, _, hu => simp at hu; subst hu; exact h1
    · obtain ⟨i, hil, rfl⟩ := List.getElem_of_mem ho
      obtain ⟨o', ho', _, _, h2⟩ := hops i i (by rw [List.getElem?_range]; omega)
      rw [List.getElem?_eq_getElem hil] at ho'
      injection ho' with ho'
      rw [ho']
      exact h2

theorem own : ownKnob Try.prog.godebug = none := by kernel_rfl
theorem laidOut : laidOutB Try.prog = true := by kernel_rfl
end Go.Proofs.Ytjajnejijaoblaa
