import Derived.Test.YtlnbgahfelcbiaaDoorLStep
import Derived.Test.YtlnbgahfelcbiaaDoorLStep2
import Derived.Test.YtlnbgahfelcbiaaDoorOpenI
/- A script of calls on a cache. -/
namespace Go.Proofs.YtlnbgahfelcbiaaDoor
open Go Go.RowKit Go.Cu Go.ChangeShapes Go.WideShapes Go.Deep Go.Proofs.YtlnbgahfelcbiaaDoor.errs

theorem step_any (w0 w : World) (p : Option Nat) (c m : Nat) (room : Int) (L : List LE) (A : Option Addr) (n cc : Nat) (h : CR w0 w p c m room L A n cc) (hn : n ≤ 4398046511102) (adr : Nat → Addr) (hSe : Sent w0 adr) (o : OpD) (hk : (Lit.int .i64 o.k).wf = true) :
    Calls Tryd.prog 22 #[pt p, cvv room A n cc, opV o] w (StepPost w0 p c m room L w) := by
  obtain ⟨kd, k, v, wt, un⟩ := o
  have hne : ∀ k : Int, kd ≠ k → (kd == k) = false := fun k h => by simp [h]
  by_cases h1 : kd = 1
  · subst h1
    rcases h.cn with ⟨rfl, hc⟩ | ⟨rfl, _, _⟩
    · by_cases g1 : wt < 0
      · exact step_put_bad w0 w c m room L A n cc h k v wt un adr hSe 2 (.inl ⟨g1, rfl⟩)
      · by_cases g2 : room < wt
        · exact step_put_bad w0 w c m room L A n cc h k v wt un adr hSe 6 (.inr ⟨g1, g2, rfl⟩)
        · exact step_put_ok w0 w c m room L A n cc h hn k v wt un hk (by omega) (by omega)
    · exact step_put_none w0 w c m room L A n cc h k v wt un adr hSe
  by_cases h2 : kd = 2
  · subst h2; exact step_get w0 w p c m room L A n cc h hn k v wt un hk
  by_cases h3 : kd = 3
  · subst h3; exact step_peek w0 w p c m room L A n cc h hn k v wt un hk
  by_cases h4 : kd = 4
  · subst h4; exact step_drop w0 w p c m room L A n cc h hn k v wt un hk
  by_cases h5 : kd = 5
  · subst h5; exact step_expire w0 w p c m room L A n cc h hn k v wt un
  exact step_else w0 w p c m room L A n cc h hn kd k v wt un (hne 1 h1) (hne 2 h2) (hne 3 h3) (hne 4 h4) (hne 5 h5)

/-- The calls that came in. -/
structure Ops (w : World) (v : Value) (n : Nat) (ops : List OpD) : Prop where
  reads : Reads w 5 v n (ops.flatMap opCell)
  length : ops.length = n
  each : ∀ o ∈ ops, (Lit.int .i64 o.kd).wf = true ∧ (Lit.int .i64 o.k).wf = true ∧ (Lit.int .i64 o.v).wf = true ∧ (Lit.int .i64 o.wt).wf = true ∧ (Lit.int .i64 o.un).wf = true
theorem ops_cells {w : World} {A : Option Addr} {n c : Nat} {ops : List OpD} (hr : Reads w 5 (.slice A n c) n (ops.flatMap opCell)) {i : Nat} {o : OpD} (ho : ops[i]? = some o) :
    ∃ ad, A = some ad ∧ w.cell? (ad.add (i * 5)) = some (.int .i64 o.kd) ∧ w.cell? ⟨(ad.add (i * 5)).block, (ad.add (i * 5)).off + 1, none⟩ = some (.int .i64 o.k) ∧ w.cell? ⟨(ad.add (i * 5)).block, (ad.add (i * 5)).off + 2, none⟩ = some (.int .i64 o.v) ∧
      w.cell? ⟨(ad.add (i * 5)).block, (ad.add (i * 5)).off + 3, none⟩ = some (.int .i64 o.wt) ∧ w.cell? ⟨(ad.add (i * 5)).block, (ad.add (i * 5)).off + 4, none⟩ = some (.int .i64 o.un) := by
  have hi : i < ops.length := (List.getElem?_eq_some_iff.1 ho).1
  have hg := flat_get opCell_length ho
  obtain ⟨h1, A', c', he, _, h3⟩ := hr
  rw [flat_length opCell_length] at h1
  injection he with he _ _
  rcases h3 with h3 | ⟨ad, hA, h4⟩
  · omega
  · have e : ∀ k, k ≠ 0 → ad.add (i * 5 + k) = ⟨(ad.add (i * 5)).block, (ad.add (i * 5)).off + k, none⟩ := fun k hk => by
      unfold Addr.add
      by_cases h : i * 5 = 0 <;> simp [h, hk, Nat.add_assoc]
    refine ⟨ad, by rw [he, hA], h4 _ _ (hg 0 _ rfl), ?_, ?_, ?_, ?_⟩
    · rw [← e 1 (by decide)]; exact h4 _ _ (hg 1 _ rfl)
    · rw [← e 2 (by decide)]; exact h4 _ _ (hg 2 _ rfl)
    · rw [← e 3 (by decide)]; exact h4 _ _ (hg 3 _ rfl)
    · rw [← e 4 (by decide)]; exact h4 _ _ (hg 4 _ rfl)
theorem fields_op : ∃ f0 f1 f2 f3 f4 : Field, Tryd.prog.underlying 31 = some (.struct #[f0, f1, f2, f3, f4]) ∧ f0.type = 3 ∧ f1.type = 3 ∧ f2.type = 3 ∧ f3.type = 3 ∧ f4.type = 3 ∧ oneCellFields Tryd.prog #[f0, f1, f2, f3, f4] = true := ⟨_, _, _, _, _, Tryd.underlying31, rfl, rfl, rfl, rfl, rfl, by kernel_rfl⟩
theorem cells_op : Tryd.prog.cellsOf 31 = 5 := by kernel_rfl
section
variable {H : Type} {enc : TypeId × Value → H} {W : World} {base : Nat} {sp : Nat → Bool} {held : Bool}
theorem open_ops {a0 : Option Addr} {len cap : Nat} {d : DataW H} {p : List MemPlace} (h : DataW.Trod enc Tryd.prog W base sp held 22 (.slice a0 len cap) d p)
    (hsz : ∀ elems spare, d = .slice elems spare → (elems.length + spare.length) * 40 ≤ 140737488351232) : ∃ ops, Ops W (.slice a0 len cap) len ops ∧ len ≤ 3518437208780 := by
  obtain ⟨f0, f1, f2, f3, f4, hf, t0, t1, t2, t3, t4, hone⟩ := fields_op
  obtain ⟨fuel, hfu⟩ := h
  rcases open_slice_fields Tryd.underlying22 hf hone cells_op hfu with ⟨hcs, _⟩ | ⟨a, len', cap', m, D, Pl, hcs, _, hl, hm, hmm, hx, hi⟩
  · simp [Value.cells] at hcs
    obtain ⟨rfl, rfl, rfl⟩ := hcs
    exact ⟨[], ⟨⟨rfl, none, 0, rfl, Nat.zero_le _, .inl rfl⟩, rfl, fun o ho => (by cases ho)⟩, by omega⟩
  · simp [Value.cells] at hcs
    obtain ⟨rfl, rfl, rfl⟩ := hcs
    simp only [Prod.mk.injEq] at hx
    have hroom := hsz _ _ hx.1
    simp only [List.length_map, List.length_range] at hroom
    have hlm : len ≤ m := by rw [hmm]; split <;> omega
    obtain ⟨ops, hol, hops⟩ := range_choose (R := fun i (o : OpD) => (∀ (j : Nat) (u : Value), (opCell o)[j]? = some u → W.cell? (a.add (i * 5 + j)) = some u) ∧ (Lit.int .i64 o.kd).wf = true ∧ (Lit.int .i64 o.k).wf = true ∧ (Lit.int .i64 o.v).wf = true ∧ (Lit.int .i64 o.wt).wf = true ∧ (Lit.int .i64 o.un).wf = true) len (fun i hil => by
      obtain ⟨ys, n, _, _, _, hfield⟩ := hi i (by omega)
      obtain ⟨v0, y0, c0, _, r0⟩ := hfield 0 f0 rfl
      obtain ⟨v1, y1, c1, _, r1⟩ := hfield 1 f1 rfl
      obtain ⟨v2, y2, c2, _, r2⟩ := hfield 2 f2 rfl
      obtain ⟨v3, y3, c3, _, r3⟩ := hfield 3 f3 rfl
      obtain ⟨v4, y4, c4, _, r4⟩ := hfield 4 f4 rfl
      rw [t0] at r0
      rw [t1] at r1
      rw [t2] at r2
      rw [t3] at r3
      rw [t4] at r4
      obtain ⟨x0, e0, _, g0⟩ := DataW.trod_int Tryd.underlying3 r0
      obtain ⟨x1, e1, _, g1⟩ := DataW.trod_int Tryd.underlying3 r1
      obtain ⟨x2, e2, _, g2⟩ := DataW.trod_int Tryd.underlying3 r2
      obtain ⟨x3, e3, _, g3⟩ := DataW.trod_int Tryd.underlying3 r3
      obtain ⟨x4, e4, _, g4⟩ := DataW.trod_int Tryd.underlying3 r4
      simp at e0 e1 e2 e3 e4
      subst e0
      subst e1
      subst e2
      subst e3
      subst e4
      refine ⟨⟨x0, x1, x2, x3, x4⟩, fun j u hu => ?_, g0, g1, g2, g3, g4⟩
      match j, hu with
      | 0, hu => simp [opCell] at hu; subst hu; exact c0
      | 1, hu => simp [opCell] at hu; subst hu; exact c1
      | 2, hu => simp [opCell] at hu; subst hu; exact c2
      | 3, hu => simp [opCell] at hu; subst hu; exact c3
      | 4, hu => simp [opCell] at hu; subst hu; exact c4
      | j + 5, hu => simp [opCell] at hu)
    refine ⟨ops, ⟨⟨by rw [flat_length opCell_length, hol], _, cap, rfl, by omega, .inr ⟨a, rfl, fun k u hk => ?_⟩⟩, hol, fun o ho => ?_⟩, by omega⟩
    · obtain ⟨i, j, o, rfl, _, hoi, hu⟩ := flat_at opCell_length hk
      exact (hops i o hoi).1 j u hu
    · obtain ⟨i, hio⟩ := List.mem_iff_getElem?.1 ho
      exact (hops i o hio).2
end
/-- a cell behind steps that leave it -/
theorem cell_new {w : World} {o : Obj} {a : Addr} {v : Value} (h : w.cell? a = some v) : (w.alloc o).cell? a = some v :=
  (((Below.refl w.heap.size w).alloc (Nat.le_refl _) o).cell (World.block_lt_of_cell? w a h)).trans h
theorem cell_newset {w : World} {o : Obj} {a : Addr} {v x y : Value} (h : w.cell? a = some v) : (((w.alloc o).setCell ⟨w.heap.size, 0, none⟩ x).setCell ⟨w.heap.size, 1, none⟩ y).cell? a = some v :=
  ((below_set2 ((Below.refl w.heap.size w).alloc (Nat.le_refl _) o) (Nat.le_refl _) x y).cell (World.block_lt_of_cell? w a h)).trans h
end Go.Proofs.YtlnbgahfelcbiaaDoor
