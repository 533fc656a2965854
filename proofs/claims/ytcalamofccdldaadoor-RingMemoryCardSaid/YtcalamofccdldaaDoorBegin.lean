import Derived.Test.YtcalamofccdldaaDoorRWStepT
import Derived.Deep.CutBlock
import Derived.Deep.RegionHeld3
/- Begin: four places, three with rings. -/
namespace Go.Proofs.YtcalamofccdldaaDoor
open Go Go.RowKit Go.Cu Go.Proofs.YtcalamofccdldaaDoor.RI

def place0 : Place := ⟨.pointer none, fun _ => False, 0, [], none, 0, fun _ => False⟩
theorem at_none (w : World) : At w place0 := ⟨.inr ⟨rfl, rfl, rfl, fun _ h => h⟩, Row.nil _ _ _ _, fun _ h => h.elim⟩
set_option maxRecDepth 10000 in
set_option maxHeartbeats 2000000 in
theorem begin_any (w : World) : Calls Tryd.prog 31 #[] w fun e w' => ∃ b P, e = .returned (.tuple #[.pointer (some ⟨b, 0, none⟩), .bool true]) ∧ RW w w' b P := by
  go_enter Tryd.func31, Tryd.ntmps31
  go_wp2_with fail
  have hal : Below w.heap.size w ((w.alloc (.cells #[.pointer none, .pointer none, .pointer none, .pointer none, .int .i64 0, .slice none 0 0, .int .i64 0, .slice none 0 0, .int .i64 0, .slice none 0 0, .int .i64 0, .slice none 0 0] 64)).alloc (.cells #[.int .i64 5, .int .i64 40, .int .i64 2147483647] 3)) := ((Below.refl _ _).alloc (Nat.le_refl _) _).alloc (by simp) _
  have b1 : ((w.alloc (.cells #[.pointer none, .pointer none, .pointer none, .pointer none, .int .i64 0, .slice none 0 0, .int .i64 0, .slice none 0 0, .int .i64 0, .slice none 0 0, .int .i64 0, .slice none 0 0] 64)).alloc (.cells #[.int .i64 5, .int .i64 40, .int .i64 2147483647] 3)).heap[w.heap.size + 1]? = some (.cells #[.int .i64 5, .int .i64 40, .int .i64 2147483647] 3 (0, 0)) := by
    simp only [ref.alloc_at, World.size_alloc]; rw [if_pos trivial]
  have b0 : ((w.alloc (.cells #[.pointer none, .pointer none, .pointer none, .pointer none, .int .i64 0, .slice none 0 0, .int .i64 0, .slice none 0 0, .int .i64 0, .slice none 0 0, .int .i64 0, .slice none 0 0] 64)).alloc (.cells #[.int .i64 5, .int .i64 40, .int .i64 2147483647] 3)).heap[w.heap.size]? = some (.cells (rwCells (fun _ => place0)) 64 (0, 0)) := by
    simp only [ref.alloc_at, World.size_alloc]; rw [if_neg (by omega), if_pos trivial]; rfl
  obtain ⟨w1, hw1⟩ : ∃ w1, (w.alloc (.cells #[.pointer none, .pointer none, .pointer none, .pointer none, .int .i64 0, .slice none 0 0, .int .i64 0, .slice none 0 0, .int .i64 0, .slice none 0 0, .int .i64 0, .slice none 0 0] 64)).alloc (.cells #[.int .i64 5, .int .i64 40, .int .i64 2147483647] 3) = w1 := ⟨_, rfl⟩
  rw [hw1] at hal b0 b1
  rw [hw1]
  obtain ⟨b, hb⟩ : ∃ b, w.heap.size = b := ⟨_, rfl⟩
  rw [hb] at b0 b1
  rw [hb]
  have HQ0 : Hid (RW w w1 b (fun _ => place0)) := hide ⟨b0, fun _ _ => at_none _, fun _ _ _ _ _ _ h => h.elim, fun _ _ _ _ _ h => h.elim, fun _ _ h => h, fun _ _ h => h, fun _ _ _ h => h.elim, by omega, hal⟩
  have HC0 := hide b1
  clear hal b0 b1 hw1
  go_loopw [13] (fun t wr => ∃ k : Nat, k ≤ 3 ∧ t = .int .i64 k ∧ Hid (∃ P, RW w wr b P) ∧ Hid (wr.heap[b + 1]? = some (.cells #[.int .i64 5, .int .i64 40, .int .i64 2147483647] 3 (0, 0)))) (fun t _ => 3 - (intOf t).toNat)
  case atStart => exact ⟨0, by omega, rfl, hide ⟨_, HQ0.out⟩, HC0⟩
  case round =>
    clear HQ0 HC0
    obtain ⟨i, hi, rfl, HQ, HC⟩ := hrel
    obtain ⟨P, hq⟩ := HQ.out
    have HQ1 := hide hq
    clear HQ hq
    by_cases hlt : i < 3
    · obtain ⟨nw, hnw, hcell⟩ : ∃ nw : Nat, nw ≤ 2147483647 ∧ wr.cell? ⟨b + 1, i, none⟩ = some (.int .i64 nw) := by
        have h := HC.out
        match i, hlt with
        | 0, _ => exact ⟨5, by decide, by rw [cell_of_row wr _ 0 _ _ _ h]; rfl⟩
        | 1, _ => exact ⟨40, by decide, by rw [cell_of_row wr _ 1 _ _ _ h]; rfl⟩
        | 2, _ => exact ⟨2147483647, by decide, by rw [cell_of_row wr _ 2 _ _ _ h]; rfl⟩
      have HNw := hide hnw
      clear hnw
      go_wp2_with fail
      refine (RI.new_any wr nw HNw.out).mono ?_
      rintro e w2 ⟨rb, rfl, hr2, hb2⟩
      have HRing2 := hide hr2
      have HQ2 := hide (HQ1.out.past hb2)
      have HB12 := hide hb2
      have HC2 := hide ((hb2.block _ (Array.getElem?_eq_some_iff.1 HC.out).1).trans HC.out)
      clear hb2 hr2 hcell
      go_wp2_with fail
      refine (ref.new_any w2 nw HNw.out).mono ?_
      rintro e w3 ⟨rfl, hb3⟩
      have HQ3 := hide (HQ2.out.past hb3)
      have HRing3 := hide (HRing2.out.below hb3)
      have HB13 := hide (HB12.out.trans (hb3.mono HB12.out.size))
      have HC3 := hide ((hb3.block _ (Array.getElem?_eq_some_iff.1 HC2.out).1).trans HC2.out)
      clear hb3
      have hal : Below w3.heap.size w3 (w3.alloc (.cells #[.int .i64 nw, .slice none 0 0] 58)) := (Below.refl _ _).alloc (Nat.le_refl _) _
      have b3 : (w3.alloc (.cells #[.int .i64 nw, .slice none 0 0] 58)).heap[w3.heap.size]? = some (.cells #[.int .i64 nw, .slice none 0 0] 58 (0, 0)) := heap_alloc_new w3 _
      have HQ4 := hide (HQ3.out.past hal)
      have HRing4 := hide (HRing3.out.below hal)
      have HB14 := hide (HB13.out.trans (hal.mono HB13.out.size))
      have HC4 := hide ((hal.block _ (Array.getElem?_eq_some_iff.1 HC3.out).1).trans HC3.out)
      have HB4 := hide b3
      clear b3 hal
      go_upto_region 9 with fail
      obtain ⟨w4, hw4⟩ : ∃ w4, w3.alloc (.cells #[.int .i64 nw, .slice none 0 0] 58) = w4 := ⟨_, rfl⟩
      obtain ⟨q, hq⟩ : ∃ q, w3.heap.size = q := ⟨_, rfl⟩
      rw [hw4] at HQ4 HRing4 HB14 HB4 HC4
      rw [hq] at HB4
      rw [hw4, hq]
      have hs13 := HB13.out.size
      have hbsz := HQ1.out.size
      have hbq : q ≠ b := by omega
      have hi4 : (i : Int) < (4 : Int) := by omega
      have hi0 : (0 : Int) ≤ (i : Int) := by omega
      obtain ⟨q0, q1, _, _⟩ := ref.box2 HB4.out
      obtain ⟨g0, g1, g2, f0, f1, f2⟩ := HQ4.out.facts i (by omega)
      clear hw4
      have hSd : w4.drew.cell? ⟨q, 0, none⟩ = some (.int .i64 nw) ∧ w4.drew.cell? ⟨q, 1, none⟩ = some (.slice none 0 0) := ⟨q0, q1⟩
      have hSt := far4 (i := i) (j := 4 + i * 2) (k := 4 + i * 2 + 1) (t := .pointer (some ⟨rb, 0, none⟩)) (u := .int .i64 nw) (v := .slice none 0 0) q0 q1 hbq
      go_region_held3 (fun w' => w'.cell? ⟨q, 0, none⟩ = some (.int .i64 nw) ∧ w'.cell? ⟨q, 1, none⟩ = some (.slice none 0 0)) (first | assumption | with_reducible exact hSt.1 | with_reducible exact hSt.2 | with_reducible exact ⟨q0, q1⟩) (first | fail)
      go_wp2
      have hR := HRing4.out
      have hm4 := ((((Mod.refl (fun k => k = b) w4).setCell (p := ⟨b, i, none⟩) (fun _ => rfl) (.pointer (some ⟨rb, 0, none⟩))).setCell (p := ⟨b, 4 + i * 2, none⟩) (fun _ => rfl) (.int .i64 nw)).setCell (p := ⟨b, 4 + i * 2 + 1, none⟩) (fun _ => rfl) (.slice none 0 0)).drew
      have hs12 := HB12.out.size
      have hs14 := HB14.out.size
      have hfin := HQ1.out.step i (by omega) ⟨.pointer (some ⟨rb, 0, none⟩), fun k => wr.heap.size ≤ k ∧ k < w2.heap.size, nw, [], none, 0, fun _ => False⟩ ((Mod.ofBelow HB14.out _).trans hm4 (fun k _ hk => .inl hk)) ⟨.inl ⟨rb, rfl, hR.kept hm4 (fun k hk e => by have := hk.1; omega)⟩, Row.nil _ _ _ _, fun k hk => hk.elim⟩ (fun k hk => .inr hk.1) (fun k hk => hk.elim) (fun k _ hk => hk) (store_all HQ4.out.cells i (by omega) ⟨.pointer (some ⟨rb, 0, none⟩), fun k => wr.heap.size ≤ k ∧ k < w2.heap.size, nw, [], none, 0, fun _ => False⟩)
      have hc5 := hm4.heap HC4.out (fun e => by omega)
      go_roundw
      case rel => exact ⟨i + 1, by omega, by go_num, hide ⟨_, hfin⟩, hide hc5⟩
      case measure => simp [intOf]; omega
    · obtain rfl : i = 3 := by omega
      go_wp2
      go_ret2
      exact ⟨b, P, rfl, HQ1.out⟩
end Go.Proofs.YtcalamofccdldaaDoor
