import Derived.Test.YtipfjnjjfojdgaaDoorTFun5
import Derived.Test.YtipfjnjjfojdgaaDoorOpenP
import Derived.Test.YtipfjnjjfojdgaaDoorBulk
import Derived.Test.YtipfjnjjfojdgaaDoorFlat
import Derived.Lib.SmallJoins
/- A script of calls on a history that came in. -/
namespace Go.Proofs.YtipfjnjjfojdgaaDoor
open Go Go.RowKit Go.Cu Go.ChangeShapes Go.WideShapes Go.Deep Go.Proofs.YtipfjnjjfojdgaaDoor.bulks

theorem size_op : (Tryd.prog.info? 28).map (·.size) = some 5 := by kernel_rfl
theorem agg_op (w : World) : (isAgg 28).run Tryd.prog w = .ok true w := by kernel_rfl
theorem fields_op : ∃ f0 f1 f2 f3 f4 : Field, Tryd.prog.underlying 28 = some (.struct #[f0, f1, f2, f3, f4]) ∧ f0.type = 3 ∧ f1.type = 3 ∧ f2.type = 3 ∧ f3.type = 4 ∧ f4.type = 26 ∧ oneCellFields Tryd.prog #[f0, f1, f2, f3, f4] = true := ⟨_, _, _, _, _, Tryd.underlying28, rfl, rfl, rfl, rfl, rfl, by kernel_rfl⟩
theorem cells_op : Tryd.prog.cellsOf 28 = 5 := by kernel_rfl
structure OpD where
  kind : Int
  key : Int
  n : Int
  next : Bool
  A : Option Addr
  len : Nat
  c : Nat
  bs : List Int
def opCell (o : OpD) : List Value := [.int .i64 o.kind, .int .i64 o.key, .int .i64 o.n, .bool o.next, .slice o.A o.len o.c]
theorem opCell_length (o : OpD) : (opCell o).length = 5 := rfl
abbrev opA (o : OpD) : Array Value := #[.int .i64 o.kind, .int .i64 o.key, .int .i64 o.n, .bool o.next, .slice o.A o.len o.c]
/-- a call as it came in -/
structure OpOk (w : World) (o : OpD) : Prop where
  reads : Reads w 1 (.slice o.A o.len o.c) o.len (u8s o.bs)
  byte : ∀ x ∈ o.bs, 0 ≤ x ∧ x ≤ 255
  kind : (Lit.int .i64 o.kind).wf = true
  key : (Lit.int .i64 o.key).wf = true
  n : (Lit.int .i64 o.n).wf = true
  cap : o.len ≤ o.c
/-- The calls that came in. -/
structure Ops (w : World) (v : Value) (n : Nat) (ops : List OpD) : Prop where
  reads : Reads w 5 v n (ops.flatMap opCell)
  length : ops.length = n
  each : ∀ o ∈ ops, OpOk w o
  sum : (ops.map (·.len)).sum + ops.length ≤ 1048576
theorem OpOk.len {w : World} {o : OpD} (h : OpOk w o) : o.bs.length = o.len := by have := h.reads.1; rw [u8s_length] at this; omega
theorem OpOk.later {w w' : World} {o : OpD} (h : OpOk w o) (hc : ∀ a v, w.cell? a = some v → w'.cell? a = some v) : OpOk w' o := ⟨h.reads.kept hc, h.byte, h.kind, h.key, h.n, h.cap⟩
theorem bulks_sum {H α : Type} (f : α → Nat) : ∀ (l : List α) (ds : List (DataW H)), l.length = ds.length → (∀ (i : Nat) (o : α) (d : DataW H), l[i]? = some o → ds[i]? = some d → f o + 1 ≤ Rows.uptoBulk d) → (l.map f).sum + l.length ≤ Rows.uptoBulkAll ds
  | [], ds, _, _ => by simp
  | x :: l, [], h, _ => by simp at h
  | x :: l, d :: ds, h, hh => by
    have h1 := hh 0 x d rfl rfl
    have h2 := bulks_sum f l ds (by simpa using h) (fun i o d hi hd => hh (i + 1) o d (by simpa using hi) (by simpa using hd))
    simp only [List.map_cons, List.sum_cons, List.length_cons, Rows.uptoBulkAll]
    omega
section
variable {H : Type} {enc : TypeId × Value → H} {W : World} {base : Nat} {sp : Nat → Bool} {held : Bool}
theorem open_bs {fuel : Nat} {v : Value} {y : DataW H × List MemPlace} (h : DataW.trod enc Tryd.prog W base sp held fuel 26 [v] = some y) :
    ∃ (A : Option Addr) (n c : Nat) (L : List Int), v = .slice A n c ∧ n ≤ c ∧ Reads W 1 (.slice A n c) n (u8s L) ∧ n ≤ Rows.uptoBulk y.1 ∧ ∀ x ∈ L, 0 ≤ x ∧ x ≤ 255 := by
  rcases open_slice1 Tryd.underlying26 (by kernel_rfl) h with ⟨hcs, rfl⟩ | ⟨a, len, cap, m, n, V, D, Pl, hcs, _, hl, hm, hmm, rfl, hx⟩
  · injection hcs with hcs
    subst hcs
    exact ⟨none, 0, 0, [], rfl, Nat.le_refl _, ⟨rfl, none, 0, rfl, Nat.zero_le _, .inl rfl⟩, Nat.zero_le _, fun _ h => (by cases h)⟩
  · injection hcs with hcs _
    subst hcs
    have hlm : len ≤ m := by rw [hmm]; split <;> omega
    obtain ⟨L, hl2, hL⟩ := range_choose (R := fun i (x : Int) => W.cell? (a.add i) = some (.int .u8 x) ∧ 0 ≤ x ∧ x ≤ 255) len (fun i hi => by
      obtain ⟨hc, ht⟩ := hx i (by omega)
      obtain ⟨k, e, _, hw⟩ := DataW.trod_int Tryd.underlying5 ht
      injection e with e
      simp [Lit.wf, IntKind.min, IntKind.max, IntKind.signed, IntKind.bits] at hw
      exact ⟨k, by rw [hc, e], by omega, by omega⟩)
    refine ⟨some a, len, cap, L, rfl, hl, ⟨by rw [u8s_length, hl2, Nat.mul_one], _, _, rfl, by omega, .inr ⟨a, rfl, fun j u hu => ?_⟩⟩, ?_, fun x hx => ?_⟩
    · unfold u8s at hu
      rw [List.getElem?_map] at hu
      cases hj : L[j]? with
      | none => rw [hj] at hu; cases hu
      | some x =>
        rw [hj] at hu
        injection hu with hu
        rw [← hu]
        exact (hL j x hj).1
    · have := slice_le ((List.range len).map D) ((List.range (m - len)).map fun j => D (len + j))
      simp only [List.length_map, List.length_range] at this
      show len ≤ Rows.uptoBulk (DataW.slice ((List.range len).map D) ((List.range (m - len)).map fun j => D (len + j)))
      omega
    · obtain ⟨i, hi⟩ := List.mem_iff_getElem?.1 hx
      exact (hL i x hi).2
set_option maxRecDepth 10000 in
theorem open_ops {a0 : Option Addr} {len cap : Nat} {d : DataW H} {p : List MemPlace} (h : DataW.Trod enc Tryd.prog W base sp held 22 (.slice a0 len cap) d p) (hb : Rows.uptoBulk d ≤ 1048576) :
    ∃ ops, Ops W (.slice a0 len cap) len ops := by
  obtain ⟨f0, f1, f2, f3, f4, hf, t0, t1, t2, t3, t4, hone⟩ := fields_op
  obtain ⟨fuel, hfu⟩ := h
  rcases open_slice_fields Tryd.underlying22 hf hone cells_op hfu with ⟨hcs, _⟩ | ⟨a, len', cap', m, D, Pl, hcs, _, hl, hm, hmm, hx, hi⟩
  · simp [Value.cells] at hcs
    obtain ⟨rfl, rfl, rfl⟩ := hcs
    exact ⟨[], ⟨rfl, none, 0, rfl, Nat.zero_le _, .inl rfl⟩, rfl, fun o ho => (by cases ho), by simp⟩
  · simp [Value.cells] at hcs
    obtain ⟨rfl, rfl, rfl⟩ := hcs
    have hlm : len ≤ m := by rw [hmm]; split <;> omega
    have hd : d = .slice ((List.range len).map D) ((List.range (m - len)).map fun j => D (len + j)) := congrArg Prod.fst hx
    subst hd
    have hel := slice_elems ((List.range len).map D) ((List.range (m - len)).map fun j => D (len + j))
    obtain ⟨ops, hol, hops⟩ := range_choose (R := fun i (o : OpD) => (∀ (j : Nat) (u : Value), (opCell o)[j]? = some u → W.cell? (a.add (i * 5 + j)) = some u) ∧ OpOk W o ∧ o.len + 1 ≤ Rows.uptoBulk (D i)) len (fun i hil => by
      obtain ⟨ys, n, hDi, _, _, hfield⟩ := hi i (by omega)
      obtain ⟨v0, y0, c0, _, r0⟩ := hfield 0 f0 rfl
      obtain ⟨v1, y1, c1, _, r1⟩ := hfield 1 f1 rfl
      obtain ⟨v2, y2, c2, _, r2⟩ := hfield 2 f2 rfl
      obtain ⟨v3, y3, c3, _, r3⟩ := hfield 3 f3 rfl
      obtain ⟨v4, y4, c4, hy4, r4⟩ := hfield 4 f4 rfl
      rw [t0] at r0
      rw [t1] at r1
      rw [t2] at r2
      rw [t3] at r3
      rw [t4] at r4
      obtain ⟨x0, e0, _, w0⟩ := DataW.trod_int Tryd.underlying3 r0
      obtain ⟨x1, e1, _, w1⟩ := DataW.trod_int Tryd.underlying3 r1
      obtain ⟨x2, e2, _, w2⟩ := DataW.trod_int Tryd.underlying3 r2
      obtain ⟨x3, e3, _⟩ := DataW.trod_bool Tryd.underlying4 r3
      obtain ⟨A, n0, c, L, rfl, hnc, hrd, hsz, hwL⟩ := open_bs r4
      simp at e0 e1 e2 e3
      subst e0
      subst e1
      subst e2
      subst e3
      have h2 : y4.1 ∈ ys.map (·.1) := List.mem_map.2 ⟨y4, List.mem_of_getElem? hy4, rfl⟩
      have h3 := part_le h2
      have h4 : Rows.uptoBulk (D i) = Rows.uptoBulkAll (ys.map (·.1)) + 1 := by rw [hDi]; simp only [Rows.uptoBulk]
      refine ⟨⟨x0, x1, x2, x3, A, n0, c, L⟩, fun j u hu => ?_, ⟨hrd, hwL, w0, w1, w2, hnc⟩, by show n0 + 1 ≤ _; omega⟩
      match j, hu with
      | 0, hu => simp [opCell] at hu; subst hu; exact c0
      | 1, hu => simp [opCell] at hu; subst hu; exact c1
      | 2, hu => simp [opCell] at hu; subst hu; exact c2
      | 3, hu => simp [opCell] at hu; subst hu; exact c3
      | 4, hu => simp [opCell] at hu; subst hu; exact c4
      | j + 5, hu => simp [opCell] at hu)
    refine ⟨ops, ⟨by rw [flat_length opCell_length, hol], _, cap, rfl, by omega, .inr ⟨a, rfl, fun k u hk => ?_⟩⟩, hol, fun o ho => ?_, ?_⟩
    · obtain ⟨i, j, o, rfl, _, hoi, hu⟩ := flat_at opCell_length hk
      exact (hops i o hoi).1 j u hu
    · obtain ⟨i, hio⟩ := List.mem_iff_getElem?.1 ho
      exact (hops i o hio).2.1
    · have h5 := bulks_sum (H := H) (·.len) ops ((List.range len).map D) (by simp [hol]) (fun i o d hio hid => by
        have h6 := (hops i o hio).2.2
        have hil : i < len := by rw [← hol]; exact (List.getElem?_eq_some_iff.1 hio).1
        rw [List.getElem?_map, List.getElem?_range hil] at hid
        injection hid with hid
        rw [← hid]
        exact h6)
      omega
end
end Go.Proofs.YtipfjnjjfojdgaaDoor
