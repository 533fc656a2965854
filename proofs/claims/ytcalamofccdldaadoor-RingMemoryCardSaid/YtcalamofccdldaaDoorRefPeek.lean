import Derived.Test.YtcalamofccdldaaDoorRefPush
import Derived.Deep.RegionHeld3
/- The document's Peek. -/
namespace Go.Proofs.YtcalamofccdldaaDoor.ref
open Go Go.RowKit Go.Cu Go.Proofs.YtcalamofccdldaaDoor
theorem cellN {w : World} {o : Obj} {a : Addr} {v : Value} (h : w.cell? a = some v) : (w.alloc o).cell? a = some v :=
  (((Below.refl w.heap.size w).alloc (Nat.le_refl _) o).cell (World.block_lt_of_cell? w a h)).trans h
theorem cut_reads {w : World} {A : Option Addr} {n c k : Nat} {M : List Int} (hnc : n ≤ c) (hk : k ≤ n) (h : Reads w 1 (.slice A n c) n (ints M)) : Reads w 1 (.slice A k c) k (ints (M.take k)) := by
  have h := h.cut hnc (lo := 0) (hi := k) (Nat.zero_le _) hk
  have e : cutV A c 0 k 1 = .slice A k c := cutV_zero A c k 1
  rw [e, Nat.zero_mul, List.drop_zero, Nat.sub_zero, Nat.mul_one, ints_take] at h
  exact h
set_option maxRecDepth 10000 in
set_option maxHeartbeats 2000000 in
/-- Peek -/
theorem peek_any (w : World) (cap n : Nat) (A : Option Addr) (c : Nat) (M : List Int) (hr : Reads w 1 (.slice A n c) n (ints M)) (hnc : n ≤ c) (m : Int) (k : Nat) (hk : min m.toNat n = k) (hs : n ≤ 2147483647) :
    Calls Tryd.prog 35 #[.agg #[.int .i64 cap, .slice A n c], .int .i64 m] w fun e w' => ∃ A' c', e = .returned (.slice A' k c') ∧ Row w' (RI.New w) 3 1 (.slice A' k c') k (ints (M.take k)) ∧ Below w.heap.size w w' := by
  have hkn : k ≤ n := by omega
  have HR := hide hr
  have HK := hide hk
  clear hr hk
  obtain ⟨i0, hi0, hz0, hz1, hz2⟩ := info_parts info_i
  go_enter Tryd.func35, Tryd.ntmps35
  go_upto_region 1 with fail
  have hal : Below w.heap.size w (w.alloc (.cells #[.int .i64 cap, .slice A n c] 58)) := (Below.refl _ _).alloc (Nat.le_refl _) _
  have b0 : (w.alloc (.cells #[.int .i64 cap, .slice A n c] 58)).heap[w.heap.size]? = some (.cells #[.int .i64 cap, .slice A n c] 58 (0, 0)) := heap_alloc_new w _
  obtain ⟨w1, hw1⟩ : ∃ w1, w.alloc (.cells #[.int .i64 cap, .slice A n c] 58) = w1 := ⟨_, rfl⟩
  obtain ⟨p, hp⟩ : ∃ p, w.heap.size = p := ⟨_, rfl⟩
  rw [hw1] at hal b0
  rw [hp] at b0
  rw [hw1, hp]
  obtain ⟨x0, x1, _, _⟩ := box2 b0
  have HAl := hide hal
  have HB0 := hide b0
  clear hw1 hal b0
  have hSd : w1.drew.cell? ⟨p, 0, none⟩ = some (.int .i64 cap) ∧ w1.drew.cell? ⟨p, 1, none⟩ = some (.slice A n c) := ⟨x0, x1⟩
  have HBd : Hid (Below w.heap.size w w1.drew) := hide HAl.out.drew
  have HBd0 : Hid (w1.drew.heap[p]? = some (.cells #[.int .i64 cap, .slice A n c] 58 (0, 0))) := hide HB0.out
  have HBa : Hid (Below w.heap.size w (w1.alloc (.cells #[] 3)).drew) := hide (HAl.out.alloc HAl.out.size (.cells #[] 3)).drew
  have HBa0 : Hid ((w1.alloc (.cells #[] 3)).drew.heap[p]? = some (.cells #[.int .i64 cap, .slice A n c] 58 (0, 0))) := hide ((Below.heap_alloc w1 (.cells #[] 3) p (Array.getElem?_eq_some_iff.1 HB0.out).1).trans HB0.out)
  have hSa : (w1.alloc (.cells #[] 3)).drew.cell? ⟨p, 0, none⟩ = some (.int .i64 cap) ∧ (w1.alloc (.cells #[] 3)).drew.cell? ⟨p, 1, none⟩ = some (.slice A n c) := ⟨(box2 HBa0.out).1, (box2 HBa0.out).2.1⟩
  have hkc : k ≤ c := by omega
  go_region_held3 (fun w' => w'.cell? ⟨p, 0, none⟩ = some (.int .i64 cap) ∧ w'.cell? ⟨p, 1, none⟩ = some (.slice A n c)) (first | assumption | with_reducible exact ⟨x0, x1⟩) (first
    | (go_at_call 55; with_reducible refine Calls.mono (w := w1.drew) (R := fun e w' => e = .returned (.int .i64 k) ∧ Below (w1.drew).heap.size (w1.drew) w') ?_ ?_
       exact count_any _ cap n A c m k HK.out
       rintro e w2 ⟨rfl, hb2⟩
       have e0 := (hb2.block _ (Array.getElem?_eq_some_iff.1 HBd0.out).1).trans HBd0.out
       obtain ⟨x0, x1, _, _⟩ := box2 e0
       have HB2 : Hid (Below w.heap.size w w2) := hide (HBd.out.trans (hb2.mono HBd.out.size))
       have hSb : (w2.alloc (.cells #[] 3)).cell? ⟨p, 0, none⟩ = some (.int .i64 cap) ∧ (w2.alloc (.cells #[] 3)).cell? ⟨p, 1, none⟩ = some (.slice A n c) := ⟨cellN x0, cellN x1⟩
       have HR2 := hide (Reads.below HR.out HB2.out)
       have HR2a := hide (Reads.below HR.out (HB2.out.alloc HB2.out.size (.cells #[] 3)))
       have HE2 := hide e0
       have HE2a : Hid ((w2.alloc (.cells #[] 3)).heap[p]? = some (.cells #[.int .i64 cap, .slice A n c] 58 (0, 0))) := hide ((Below.heap_alloc w2 (.cells #[] 3) p (Array.getElem?_eq_some_iff.1 e0).1).trans e0)
       clear hb2 e0)
    | (go_at_call 55; with_reducible refine Calls.mono (w := (w1.alloc (.cells #[] 3)).drew) (R := fun e w' => e = .returned (.int .i64 k) ∧ Below ((w1.alloc (.cells #[] 3)).drew).heap.size ((w1.alloc (.cells #[] 3)).drew) w') ?_ ?_
       exact count_any _ cap n A c m k HK.out
       rintro e w2 ⟨rfl, hb2⟩
       have e0 := (hb2.block _ (Array.getElem?_eq_some_iff.1 HBa0.out).1).trans HBa0.out
       obtain ⟨x0, x1, _, _⟩ := box2 e0
       have HB2 : Hid (Below w.heap.size w w2) := hide (HBa.out.trans (hb2.mono HBa.out.size))
       have hSb : (w2.alloc (.cells #[] 3)).cell? ⟨p, 0, none⟩ = some (.int .i64 cap) ∧ (w2.alloc (.cells #[] 3)).cell? ⟨p, 1, none⟩ = some (.slice A n c) := ⟨cellN x0, cellN x1⟩
       have HR2 := hide (Reads.below HR.out HB2.out)
       have HR2a := hide (Reads.below HR.out (HB2.out.alloc HB2.out.size (.cells #[] 3)))
       have HE2 := hide e0
       have HE2a : Hid ((w2.alloc (.cells #[] 3)).heap[p]? = some (.cells #[.int .i64 cap, .slice A n c] 58 (0, 0))) := hide ((Below.heap_alloc w2 (.cells #[] 3) p (Array.getElem?_eq_some_iff.1 e0).1).trans e0)
       clear hb2 e0)
    | (refine step_append_row rfl _ _ 38 rfl 3 i0 (.int .i64 0) 1 8 Tryd.underlying38 hi0 hz0 hz1 hz2 rfl (by decide) rfl (Row.empty _ (fun _ => False) 3 1 _) rfl (cut_reads hnc hkn HR2.out) (ints_one _) (by unfold maxLen; omega) (by omega) ?_
       intro A' c' w4 hr4 hm4
       have HR4 := hide hr4
       have HM4 := hide hm4
       have hm4b : Below w.heap.size w w4 := HB2.out.trans (hm4.below HB2.out.size (fun _ h => h.elim))
       have e4 := hm4.heap HE2.out (fun h => h)
       clear x0 x1
       obtain ⟨x0, x1, _, _⟩ := box2 e4
       clear hr4 hm4 e4)
    | (refine step_append_row rfl _ _ 38 rfl 3 i0 (.int .i64 0) 1 8 Tryd.underlying38 hi0 hz0 hz1 hz2 rfl (by decide) rfl (Row.empty _ (fun _ => False) 3 1 _) rfl (cut_reads hnc hkn HR2a.out) (ints_one _) (by unfold maxLen; omega) (by omega) ?_
       intro A' c' w4 hr4 hm4
       have HR4 := hide hr4
       have HM4 := hide hm4
       have hm4b : Below w.heap.size w w4 := (HB2.out.alloc HB2.out.size (.cells #[] 3)).trans (hm4.below (HB2.out.alloc HB2.out.size (.cells #[] 3)).size (fun _ h => h.elim))
       have e4 := hm4.heap HE2a.out (fun h => h)
       clear x0 x1
       obtain ⟨x0, x1, _, _⟩ := box2 e4
       clear hr4 hm4 e4))
  all_goals
    have hb4 := hm4b
    go_wp2
    go_ret
    have hr4 := HR4.out
    rw [Nat.zero_add, List.nil_append] at hr4
    refine ⟨A', c', rfl, hr4.mono (fun b hb _ => ?_), hb4⟩
    show w.heap.size ≤ b
    have := HB2.out.size
    rcases hb with hb | hb
    · exact hb.elim
    · first | omega | (rw [World.size_alloc] at hb; omega)
end Go.Proofs.YtcalamofccdldaaDoor.ref
