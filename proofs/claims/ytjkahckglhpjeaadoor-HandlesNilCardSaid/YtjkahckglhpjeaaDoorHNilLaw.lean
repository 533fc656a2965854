/-
  HandlesNil: for every call the law returns true. Condition: the sentinels' variables hold their errors.
-/
import Derived.Test.YtjkahckglhpjeaaDoorHWakes
namespace Go.Proofs.YtjkahckglhpjeaaDoor.handlesNil
open Go Go.RowKit Go.Cu Go.Proofs.YtjkahckglhpjeaaDoor Go.Proofs.YtjkahckglhpjeaaDoor.errs

theorem below_at {w w' : World} {b : Nat} {o : Obj} (hb : Below w.heap.size w w') (h : w.heap[b]? = some o) : w'.heap[b]? = some o := (hb.block _ (Array.getElem?_eq_some_iff.1 h).1).trans h
theorem box5 {w : World} {p : Nat} {x y z u v : Value} {t : TypeId} (h : w.heap[p]? = some (.cells #[x, y, z, u, v] t (0, 0))) :
    w.cell? ⟨p, 0, none⟩ = some x ∧ w.cell? ⟨p, 1, none⟩ = some y ∧ w.cell? ⟨p, 2, none⟩ = some z ∧ w.cell? ⟨p, 3, none⟩ = some u ∧ w.cell? ⟨p, 4, none⟩ = some v :=
  ⟨by rw [cell_of_row w p 0 _ _ _ h]; rfl, by rw [cell_of_row w p 1 _ _ _ h]; rfl, by rw [cell_of_row w p 2 _ _ _ h]; rfl, by rw [cell_of_row w p 3 _ _ _ h]; rfl, by rw [cell_of_row w p 4 _ _ _ h]; rfl⟩
set_option maxRecDepth 10000 in
set_option maxHeartbeats 2000000 in
theorem walk (w : World) (adr : Nat → Addr) (hS : Sent w adr) (kd conn life id hd : Int) :
    Calls Tryd.prog 6 #[.agg #[.int .i64 kd, .int .i64 conn, .int .i64 life, .int .u32 id, .int .i64 hd]] w fun e w' => e = .returned (.bool true) ∧ Below w.heap.size w w' := by
  have hal : Below w.heap.size w (w.alloc (.cells #[.int .i64 kd, .int .i64 conn, .int .i64 life, .int .u32 id, .int .i64 hd] 30)) := (Below.refl _ _).alloc (Nat.le_refl _) _
  have hbx := heap_alloc_new w (.cells #[.int .i64 kd, .int .i64 conn, .int .i64 life, .int .u32 id, .int .i64 hd] 30)
  go_enter Tryd.func6, Tryd.ntmps6
  go_upto_region 1 with fail
  obtain ⟨w1, hw1⟩ : ∃ w1, w.alloc (.cells #[.int .i64 kd, .int .i64 conn, .int .i64 life, .int .u32 id, .int .i64 hd] 30) = w1 := ⟨_, rfl⟩
  obtain ⟨q, hq⟩ : ∃ q, w.heap.size = q := ⟨_, rfl⟩
  rw [hw1] at hal hbx
  have HB1 := hide hal
  rw [hq] at hbx
  have HX1 := hide hbx
  have HS1 := hide (hS.below hal)
  rw [hw1, hq]
  clear hw1 hq hal hbx hS
  go_wp2_with fail
  refine (wakes_true w1 adr HS1.out).mono ?_
  rintro e w2 ⟨rfl, hb2⟩
  have HX2 := hide (below_at hb2 HX1.out)
  have HB2 := hide (HB1.out.trans (hb2.mono HB1.out.size))
  have HS2 := hide (HS1.out.below hb2)
  clear hb2
  obtain ⟨x0, x1, x2, x3, x4⟩ := box5 HX2.out
  have hE := hide (HS2.out.cell 1 (by decide) (by decide))
  go_wp2_with fail
  refine (bind_nil w2 ⟨conn, life, id⟩ _ hE.out).mono ?_
  rintro e w3 ⟨rfl, hb3⟩
  have HX3 := hide (below_at hb3 HX2.out)
  have HB3 := hide (HB2.out.trans (hb3.mono HB2.out.size))
  have HS3 := hide (HS2.out.below hb3)
  clear hb3 x0 x1 x2 x3 x4
  obtain ⟨x0, x1, x2, x3, x4⟩ := box5 HX3.out
  go_wp2_with fail
  refine (find_nil w3 hd).mono ?_
  unfold Pl.v Pl.zero
  rintro e w4 ⟨rfl, hb4⟩
  have hX4 := below_at hb4 HX3.out
  have hB4 := HB3.out.trans (hb4.mono HB3.out.size)
  have hS4 := HS3.out.below hb4
  have hal4 : Below w4.heap.size w4 (w4.alloc (.cells #[.int .i64 0, .int .i64 0, .int .u32 0] 28)) := (Below.refl _ _).alloc (Nat.le_refl _) _
  have hbz := heap_alloc_new w4 (.cells #[.int .i64 0, .int .i64 0, .int .u32 0] 28)
  have hX5 := below_at hal4 hX4
  clear hb4 x0 x1 x2 x3 x4
  go_upto_region 6 with fail
  obtain ⟨w5, hw5⟩ : ∃ w5, w4.alloc (.cells #[.int .i64 0, .int .i64 0, .int .u32 0] 28) = w5 := ⟨_, rfl⟩
  obtain ⟨q2, hq2⟩ : ∃ q, w4.heap.size = q := ⟨_, rfl⟩
  have hB5 : Below w.heap.size w w5 := by rw [← hw5]; exact hB4.trans (hal4.mono hB4.size)
  have hS5 : Sent w5 adr := by rw [← hw5]; exact hS4.below hal4
  rw [hw5] at hbz hX5
  rw [hq2] at hbz
  rw [hw5, hq2]
  have HZ5 := hide hbz
  have HX5 := hide hX5
  have HB5 := hide hB5
  have HS5 := hide hS5
  clear hw5 hq2 hbz hX5 hB5 hS5 hX4 hB4 hS4 hal4
  obtain ⟨x0, x1, x2, x3, x4⟩ := box5 HX5.out
  go_wp2_with fail
  refine (of_nil w5 ⟨conn, life, id⟩).mono ?_
  rintro e w6 ⟨rfl, hb6⟩
  have HX6 := hide (below_at hb6 HX5.out)
  have HZ6 := hide (below_at hb6 HZ5.out)
  have HB6 := hide (HB5.out.trans (hb6.mono HB5.out.size))
  have HS6 := hide (HS5.out.below hb6)
  clear hb6 x0 x1 x2 x3 x4
  obtain ⟨x0, x1, x2, x3, x4⟩ := box5 HX6.out
  obtain ⟨z0, z1, z2, _⟩ := box3 HZ6.out
  go_wp2_with fail
  refine (code_err w6 adr HS6.out 1 (by decide) (by decide) (by decide)).mono ?_
  rintro e w7 ⟨rfl, rfl⟩
  go_wp2_with fail
  refine (drop_nil w7 hd).mono ?_
  rintro e w8 ⟨rfl, hb8⟩
  have HX8 := hide (below_at hb8 HX6.out)
  have HB8 := hide (HB6.out.trans (hb8.mono HB6.out.size))
  clear hb8 x0 x1 x2 x3 x4 z0 z1 z2
  obtain ⟨x0, x1, x2, x3, x4⟩ := box5 HX8.out
  go_wp2_with fail
  refine (on_nil w8 conn life).mono ?_
  rintro e w9 ⟨rfl, rfl⟩
  go_wp2_with fail
  refine (len_nil w8).mono ?_
  rintro e w9 ⟨rfl, rfl⟩
  go_wp2
  go_ret
  exact ⟨rfl, HB8.out⟩
end Go.Proofs.YtjkahckglhpjeaaDoor.handlesNil
