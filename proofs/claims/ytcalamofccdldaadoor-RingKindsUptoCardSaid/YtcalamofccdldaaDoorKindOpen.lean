import Derived.Test.YtcalamofccdldaaDoorKindLaw
import Derived.Test.YtcalamofccdldaaDoorOpsB
import Derived.Test.YtcalamofccdldaaDoorDoor
import Derived.Test.YtcalamofccdldaaDoorBulk
import Derived.Lib.LaidTab
/- RingKinds' arguments are opened; a world that holds what its row lists. -/
namespace Go.Proofs.YtcalamofccdldaaDoor
open Go Go.RowKit Go.Cu Go.ChangeShapes Go.WideShapes Go.Deep Go.Proofs.YtcalamofccdldaaDoor.bulks

section
variable {H : Type} {enc : TypeId × Value → H} {W : World} {base : Nat} {sp : Nat → Bool} {held : Bool}
theorem open_ints3 {fuel : Nat} {v : Value} {y : DataW H × List MemPlace} (h : DataW.trod enc Tryd.prog W base sp held fuel 38 [v] = some y) :
    ∃ (A : Option Addr) (n c : Nat) (L : List Int), v = .slice A n c ∧ n ≤ c ∧ Reads W 1 (.slice A n c) n (ints L) ∧ n ≤ Rows.uptoBulk y.1 ∧ ∀ x ∈ L, wfi x := by
  rcases open_slice1 Tryd.underlying38 (by kernel_rfl) h with ⟨hcs, rfl⟩ | ⟨a, len, cap, m, n, V, D, Pl, hcs, _, hl, hm, hmm, rfl, hx⟩
  · injection hcs with hcs
    subst hcs
    exact ⟨none, 0, 0, [], rfl, Nat.le_refl _, ⟨rfl, none, 0, rfl, Nat.zero_le _, .inl rfl⟩, Nat.zero_le _, fun _ h => (by cases h)⟩
  · injection hcs with hcs _
    subst hcs
    have hlm : len ≤ m := by rw [hmm]; split <;> omega
    obtain ⟨L, hl2, hL⟩ := range_choose (R := fun i (x : Int) => W.cell? (a.add i) = some (.int .i64 x) ∧ wfi x) len (fun i hi => by
      obtain ⟨hc, ht⟩ := hx i (by omega)
      obtain ⟨k, e, _, hw⟩ := DataW.trod_int Tryd.underlying3 ht
      injection e with e
      exact ⟨k, by rw [hc, e], hw⟩)
    refine ⟨some a, len, cap, L, rfl, hl, ⟨by rw [ints_length, hl2, Nat.mul_one], _, _, rfl, by omega, .inr ⟨a, rfl, fun j u hu => ?_⟩⟩, ?_, fun x hx => ?_⟩
    · unfold ints at hu
      rw [List.getElem?_map] at hu
      cases hj : L[j]? with
      | none => rw [hj] at hu; cases hu
      | some x =>
        rw [hj] at hu
        injection hu with hu
        rw [← hu]
        exact (hL j x hj).1
    · have := slice_le ((List.range len).map D) ((List.range (m - len)).map fun j => D (len + j))
      simp only [List.length_map, List.length_range] at this
      show len ≤ Rows.uptoBulk (DataW.slice ((List.range len).map D) ((List.range (m - len)).map fun j => D (len + j)))
      omega
    · obtain ⟨i, hi⟩ := List.mem_iff_getElem?.1 hx
      exact (hL i x hi).2
theorem open_opsK {a0 : Option Addr} {len cap : Nat} {d : DataW H} {p : List MemPlace} (h : DataW.Trod enc Tryd.prog W base sp held 37 (.slice a0 len cap) d p) (hb : Rows.uptoBulk d ≤ 1048576) :
    ∃ ops, ringKinds.OpsK W (.slice a0 len cap) len ops := by
  obtain ⟨f0, f1, f2, f3, hf, t0, t1, t2, t3, hone⟩ := fields_op
  obtain ⟨fuel, hfu⟩ := h
  rcases open_slice_fields Tryd.underlying37 hf hone cells_op hfu with ⟨hcs, _⟩ | ⟨a, len', cap', m, D, Pl, hcs, _, hl, hm, hmm, hx, hi⟩
  · simp [Value.cells] at hcs
    obtain ⟨rfl, rfl, rfl⟩ := hcs
    exact ⟨[], ⟨⟨rfl, none, 0, rfl, Nat.zero_le _, .inl rfl⟩, rfl, fun o ho => (by cases ho)⟩, fun o ho => (by cases ho)⟩
  · simp [Value.cells] at hcs
    obtain ⟨rfl, rfl, rfl⟩ := hcs
    have hlm : len ≤ m := by rw [hmm]; split <;> omega
    have hd : d = .slice ((List.range len).map D) ((List.range (m - len)).map fun j => D (len + j)) := congrArg Prod.fst hx
    subst hd
    have hel := slice_elems ((List.range len).map D) ((List.range (m - len)).map fun j => D (len + j))
    obtain ⟨ops, hol, hops⟩ := range_choose (R := fun i (o : OpD) => (∀ (j : Nat) (u : Value), (opCell o)[j]? = some u → W.cell? (a.add (i * 4 + j)) = some u) ∧ (Reads W 1 (.slice o.A o.len o.c) o.len (ints o.items) ∧ o.len ≤ o.c ∧ (Lit.int .i64 o.kind).wf = true ∧ (Lit.int .i64 o.at_).wf = true ∧ (Lit.int .i64 o.n).wf = true) ∧ o.len ≤ 1048576 ∧ ∀ x ∈ o.items, wfi x) len (fun i hil => by
      obtain ⟨ys, n, hDi, _, _, hfield⟩ := hi i (by omega)
      obtain ⟨v0, y0, c0, _, r0⟩ := hfield 0 f0 rfl
      obtain ⟨v1, y1, c1, _, r1⟩ := hfield 1 f1 rfl
      obtain ⟨v2, y2, c2, _, r2⟩ := hfield 2 f2 rfl
      obtain ⟨v3, y3, c3, hy3, r3⟩ := hfield 3 f3 rfl
      rw [t0] at r0
      rw [t1] at r1
      rw [t2] at r2
      rw [t3] at r3
      obtain ⟨x0, e0, _, w0⟩ := DataW.trod_int Tryd.underlying3 r0
      obtain ⟨x1, e1, _, w1⟩ := DataW.trod_int Tryd.underlying3 r1
      obtain ⟨x2, e2, _, w2⟩ := DataW.trod_int Tryd.underlying3 r2
      obtain ⟨A, n0, c, L, rfl, hnc, hrd, hsz, hwL⟩ := open_ints3 r3
      simp at e0 e1 e2
      subst e0
      subst e1
      subst e2
      have hmem : D i ∈ (List.range len).map D := List.mem_map.2 ⟨i, List.mem_range.2 hil, rfl⟩
      have h1 := part_le hmem
      have h2 : y3.1 ∈ ys.map (·.1) := List.mem_map.2 ⟨y3, List.mem_of_getElem? hy3, rfl⟩
      have h3 := part_le h2
      have h4 : Rows.uptoBulk (D i) = Rows.uptoBulkAll (ys.map (·.1)) + 1 := by rw [hDi]; simp only [Rows.uptoBulk]
      refine ⟨⟨x0, x1, x2, A, n0, c, L⟩, fun j u hu => ?_, ⟨hrd, hnc, w0, w1, w2⟩, by show n0 ≤ 1048576; omega, hwL⟩
      match j, hu with
      | 0, hu => simp [opCell] at hu; subst hu; exact c0
      | 1, hu => simp [opCell] at hu; subst hu; exact c1
      | 2, hu => simp [opCell] at hu; subst hu; exact c2
      | 3, hu => simp [opCell] at hu; subst hu; exact c3
      | j + 4, hu => simp [opCell] at hu)
    refine ⟨ops, ⟨⟨by rw [flat_length opCell_length, hol], _, cap, rfl, by omega, .inr ⟨a, rfl, fun k u hk => ?_⟩⟩, hol, fun o ho => ?_⟩, fun o ho => ?_⟩
    · obtain ⟨i, j, o, rfl, _, hoi, hu⟩ := flat_at opCell_length hk
      exact (hops i o hoi).1 j u hu
    · obtain ⟨i, hio⟩ := List.mem_iff_getElem?.1 ho
      exact (hops i o hio).2.1
    · obtain ⟨i, hio⟩ := List.mem_iff_getElem?.1 ho
      exact (hops i o hio).2.2
end
end Go.Proofs.YtcalamofccdldaaDoor
namespace Go.Proofs.YtcalamofccdldaaDoor.kdoor
open Go Go.RowKit Go.Cu Go.ChangeShapes Go.WideShapes

theorem own : ownKnob Tryd.prog.godebug = none := door.own
theorem laidOut : laidOutB Tryd.prog = true := door.laidOut
def litOf : DataW Unit → Value
  | .lit (.int k z) => .int k z
  | _ => undef
def tabOf : DataW Unit → Array Value
  | .agg l => (l.map litOf).toArray
  | _ => #[]
def put (d : DataW Unit) : Obj → Obj
  | .cells _ t frozen => .cells (tabOf d) t frozen
  | o => o
/-- The settled world, api.ErrRange and the library's tables as their initialisers lay them. -/
noncomputable def laidWorld (os : Os) : World :=
  let w0 := door.laidWorld os
  { w0 with heap := ((w0.heap.modify 42 (put Rows.laid_internal_strconv_uint64pow10)).modify 43 (put Rows.laid_math_bits_deBruijn32tab)).modify 44 (put Rows.laid_math_bits_deBruijn64tab) }
theorem pow_is : (Rows.laid_internal_strconv_uint64pow10 : DataW Unit) = Lib.tabData .u64 Lib.pow10Tab := by rfl
theorem tab {r : List (String × DataW Unit)} {W : World} (h : laidMet Tryd.prog (("internal/strconv.uint64pow10", Rows.laid_internal_strconv_uint64pow10) :: r) W) : Tab W := by
  rw [pow_is] at h
  exact Lib.tabIs_of_head gTab (by kernel_rfl) Tryd.underlying119 Tryd.underlying113 (by kernel_rfl) (by kernel_rfl) h
end Go.Proofs.YtcalamofccdldaaDoor.kdoor
