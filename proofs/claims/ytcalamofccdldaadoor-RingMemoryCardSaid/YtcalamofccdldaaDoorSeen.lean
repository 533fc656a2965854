import Derived.Test.YtcalamofccdldaaDoorRefPeek
import Derived.Test.YtcalamofccdldaaDoorRW
import Derived.Deep.CutBlock
/- seen: a place tells what the document says. -/
namespace Go.Proofs.YtcalamofccdldaaDoor
open Go Go.RowKit Go.Cu Go.Proofs.YtcalamofccdldaaDoor.RI

/-- what At answers -/
def AtIs (L : List Int) (i x : Int) (ok : Bool) : Prop := (∃ j : Nat, i = j ∧ L[j]? = some x ∧ ok = true) ∨ ((i < 0 ∨ (L.length : Int) ≤ i) ∧ x = 0 ∧ ok = false)

set_option maxRecDepth 10000 in
set_option maxHeartbeats 2000000 in
theorem seen_true (w0 w : World) (b : Nat) (P : Nat → Place) (h : RW w0 w b P) (i : Nat) (hi : i < 4) :
    Calls Tryd.prog 33 #[.pointer (some ⟨b, 0, none⟩), .int .i64 i] w fun e w' => e = .returned (.bool true) ∧ Below w.heap.size w w' := by
  obtain ⟨c0, c1, c2, _, _, _⟩ := h.facts i hi
  obtain ⟨a, ha⟩ := (h.at_ i hi).ring.ptr
  obtain ⟨x, hx⟩ : ∃ x, P i = x := ⟨_, rfl⟩
  have hA := h.at_ i hi
  rw [hx] at hA ha c0 c1 c2
  have hring := hA.ring
  rw [ha] at hring c0
  have hfit := hring.fits
  have HRow := hide hA.row
  have HRing := hide hring
  obtain ⟨fr, hfr⟩ : ∃ fr, x.cap - x.L.length = fr := ⟨_, rfl⟩
  have HFr := hide hfr
  have hw3 : IntKind.i64.wrap ((x.L.length : Int) + 3) = (x.L.length : Int) + 3 := by rw [IntKind.wrap_i64]; omega
  clear h hx hA ha hring hfr
  go_enter Tryd.func33, Tryd.ntmps33
  go_upto_region 1 with fail
  have hi4 : (i : Int) < (4 : Int) := by omega
  have hi0 : (0 : Int) ≤ (i : Int) := by omega
  have hSd : w.drew.cell? ⟨b, i, none⟩ = some (.pointer a) ∧ w.drew.cell? ⟨b, 4 + i * 2, none⟩ = some (.int .i64 x.cap) ∧ w.drew.cell? ⟨b, 4 + i * 2 + 1, none⟩ = some (.slice x.A x.L.length x.c) := ⟨c0, c1, c2⟩
  have hSa : (w.alloc (.cells #[.int .i64 0, .slice none 0 0] 58)).drew.cell? ⟨b, i, none⟩ = some (.pointer a) ∧ (w.alloc (.cells #[.int .i64 0, .slice none 0 0] 58)).drew.cell? ⟨b, 4 + i * 2, none⟩ = some (.int .i64 x.cap) ∧ (w.alloc (.cells #[.int .i64 0, .slice none 0 0] 58)).drew.cell? ⟨b, 4 + i * 2 + 1, none⟩ = some (.slice x.A x.L.length x.c) := ⟨ref.cellN c0, ref.cellN c1, ref.cellN c2⟩
  have hSc : (w.alloc (.cells #[.int .i64 x.cap, .slice x.A x.L.length x.c] 58)).drew.cell? ⟨b, i, none⟩ = some (.pointer a) ∧ (w.alloc (.cells #[.int .i64 x.cap, .slice x.A x.L.length x.c] 58)).drew.cell? ⟨b, 4 + i * 2, none⟩ = some (.int .i64 x.cap) ∧ (w.alloc (.cells #[.int .i64 x.cap, .slice x.A x.L.length x.c] 58)).drew.cell? ⟨b, 4 + i * 2 + 1, none⟩ = some (.slice x.A x.L.length x.c) := ⟨ref.cellN c0, ref.cellN c1, ref.cellN c2⟩
  go_region_held3 (fun w' => w'.cell? ⟨b, i, none⟩ = some (.pointer a) ∧ w'.cell? ⟨b, 4 + i * 2, none⟩ = some (.int .i64 x.cap) ∧ w'.cell? ⟨b, 4 + i * 2 + 1, none⟩ = some (.slice x.A x.L.length x.c)) (first | assumption) (first | fail)
  go_upto_region 3 with fail
  have hal : Below w.heap.size w (w.alloc (.cells #[.int .i64 x.cap, .slice x.A x.L.length x.c] 58)).drew := ((Below.refl _ _).alloc (Nat.le_refl _) _).drew
  have b0 : (w.alloc (.cells #[.int .i64 x.cap, .slice x.A x.L.length x.c] 58)).drew.heap[w.heap.size]? = some (.cells #[.int .i64 x.cap, .slice x.A x.L.length x.c] 58 (0, 0)) := heap_alloc_new w _
  obtain ⟨w1, hw1⟩ : ∃ w1, (w.alloc (.cells #[.int .i64 x.cap, .slice x.A x.L.length x.c] 58)).drew = w1 := ⟨_, rfl⟩
  obtain ⟨p, hp⟩ : ∃ p, w.heap.size = p := ⟨_, rfl⟩
  rw [hw1] at hal b0
  rw [hp] at b0
  rw [hw1, hp]
  obtain ⟨m0, m1, _, _⟩ := ref.box2 b0
  have hbd : Below w.heap.size w w1.drew := hal.drew
  have HBd := hide hbd
  have HRd := hide (HRing.out.below hbd)
  have HWd := hide (HRow.out.kept (Mod.ofBelow hbd (fun _ => False)) (fun _ _ _ h => h))
  have HB0 : Hid (w1.drew.heap[p]? = some (.cells #[.int .i64 x.cap, .slice x.A x.L.length x.c] 58 (0, 0))) := hide b0
  clear hSa hSc c0 c1 c2 hw1 hal b0 hbd hSd
  have hSd : w1.drew.cell? ⟨p, 0, none⟩ = some (.int .i64 x.cap) ∧ w1.drew.cell? ⟨p, 1, none⟩ = some (.slice x.A x.L.length x.c) := ⟨m0, m1⟩
  go_region_held3 (fun w' => w'.cell? ⟨p, 0, none⟩ = some (.int .i64 x.cap) ∧ w'.cell? ⟨p, 1, none⟩ = some (.slice x.A x.L.length x.c)) (first | assumption | with_reducible exact ⟨m0, m1⟩) (first
    | (go_at_call 22; refine (cap_n HRd.out).mono ?_; rintro e wz ⟨rfl, rfl⟩)
    | (go_at_call 28; refine (len_n HRd.out).mono ?_; rintro e wz ⟨rfl, rfl⟩)
    | (go_at_call 21; refine (free_n HRd.out fr HFr.out).mono ?_; rintro e wz ⟨rfl, rfl⟩)
    | (go_at_call 54; refine (ref.free_any _ x.cap x.L.length x.A x.c hfit.1 hfit.2 fr HFr.out).mono ?_
       rintro e w2 ⟨rfl, hb2⟩
       have e0 := (hb2.block _ (Array.getElem?_eq_some_iff.1 HB0.out).1).trans HB0.out
       have HB2 := hide (HBd.out.trans (hb2.mono HBd.out.size))
       have HR2 := hide (HRd.out.below hb2)
       have HW2 := hide (HWd.out.kept (Mod.ofBelow hb2 (fun _ => False)) (fun _ _ _ h => h))
       have HE2 := hide e0
       clear m0 m1 hb2
       obtain ⟨m0, m1, _, _⟩ := ref.box2 e0
       clear e0)
    | (go_at_call 19; refine (peek_n HR2.out _ x.L.length (by omega)).mono ?_
       rintro e w3 ⟨A3, c3, rfl, hr3, hb3⟩
       rw [List.take_length] at hr3
       have e0 := (hb3.block _ (Array.getElem?_eq_some_iff.1 HE2.out).1).trans HE2.out
       have HB3 := hide (HB2.out.trans (hb3.mono HB2.out.size))
       have HP3 := hide hr3.reads
       have HR3 := hide (HR2.out.below hb3)
       have HW3 := hide (HW2.out.kept (Mod.ofBelow hb3 (fun _ => False)) (fun _ _ _ h => h))
       have HE3 := hide e0
       clear m0 m1 hb3 hr3
       obtain ⟨m0, m1, _, _⟩ := ref.box2 e0
       clear e0)
    | (go_at_call 24; refine (same_any _ _ _ x.L.length x.L HP3.out HW3.out.reads).mono ?_
       rintro e w4 ⟨rfl, hd4⟩
       have e0 := (hd4.below.block _ (Array.getElem?_eq_some_iff.1 HE3.out).1).trans HE3.out
       have HB4 := hide (HB3.out.trans (hd4.below.mono HB3.out.size))
       have HR4 := hide (HR3.out.below hd4.below)
       have HW4 := hide (HW3.out.kept (Mod.ofBelow hd4.below (fun _ => False)) (fun _ _ _ h => h))
       have HE4 := hide e0
       clear m0 m1 hd4
       obtain ⟨m0, m1, _, _⟩ := ref.box2 e0
       clear e0))
  go_wp2_with fail
  go_loopw [8] (fun t wr => ∃ j : Nat, j ≤ x.L.length + 2 ∧ t = .int .i64 ((j : Int) - 1) ∧ Hid (RN wr x.F (.pointer a) x.cap x.L) ∧ Hid (Row wr x.G 3 1 (.slice x.A x.L.length x.c) x.L.length (ints x.L)) ∧ Hid (wr.heap[p]? = some (.cells #[.int .i64 x.cap, .slice x.A x.L.length x.c] 58 (0, 0))) ∧ Hid (Below w.heap.size w wr)) (fun t _ => x.L.length + 2 - (intOf t + 1).toNat)
  case atStart => exact ⟨0, by omega, rfl, HR4, HW4, HE4, HB4⟩
  case round =>
    clear HR4 HW4 HE4 HB4 HB3 HR3 HW3 HE3 HB2 HR2 HW2 HE2 HBd HRd HWd HB0 HP3 m0 m1
    obtain ⟨j, hj, rfl, HR, HW, HE, HB⟩ := hrel
    have e0 := HE.out
    obtain ⟨m0, m1, _, _⟩ := ref.box2 e0
    clear e0
    obtain ⟨at_, hat⟩ : ∃ z : Int, (j : Int) - 1 = z := ⟨_, rfl⟩
    by_cases hlt : j ≤ x.L.length + 1
    · have hle : at_ ≤ (x.L.length : Int) := by omega
      have hwr : IntKind.i64.wrap (at_ + 1) = at_ + 1 := by rw [IntKind.wrap_i64]; omega
      rw [hat]
      rcases (show (∃ k : Nat, at_ = k ∧ k < x.L.length) ∨ (at_ < 0 ∨ (x.L.length : Int) ≤ at_) from (Decidable.em (0 ≤ at_ ∧ at_ < (x.L.length : Int))).elim (fun h => .inl ⟨at_.toNat, by omega, by omega⟩) (fun h => .inr (by omega))) with ⟨k, hk, hkl⟩ | hout
      · obtain ⟨y, hy⟩ : ∃ y, x.L[k]? = some y := ⟨_, List.getElem?_eq_getElem hkl⟩
        have HIn := hide (show AtIs x.L at_ y true from Or.inl ⟨k, hk, hy, rfl⟩)
        have HY := hide hy
        have HHat := hide hat
        have HHk := hide hk
        clear hat hk hy hkl
        go_wp2_with fail
        refine (at_n HR.out at_ y true HIn.out).mono ?_
        rintro e w5 ⟨rfl, hb5⟩
        have e0 := (hb5.block _ (Array.getElem?_eq_some_iff.1 HE.out).1).trans HE.out
        have HB5 := hide (HB.out.trans (hb5.mono HB.out.size))
        have HR5 := hide (HR.out.below hb5)
        have HW5 := hide (HW.out.kept (Mod.ofBelow hb5 (fun _ => False)) (fun _ _ _ h => h))
        have HE5 := hide e0
        clear m0 m1 hb5
        obtain ⟨m0, m1, _, _⟩ := ref.box2 e0
        clear e0
        go_wp2_with fail
        rw [HHk.out]
        refine (ref.at_in w5 x.cap x.L.length x.A x.c x.L HW5.out.reads k y HY.out).mono ?_
        rintro e w6 ⟨rfl, hb6⟩
        have HB6 := hide (HB5.out.trans (hb6.mono HB5.out.size))
        have HR6 := hide (HR5.out.below hb6)
        have HW6 := hide (HW5.out.kept (Mod.ofBelow hb6 (fun _ => False)) (fun _ _ _ h => h))
        have HE6 := hide ((hb6.block _ (Array.getElem?_eq_some_iff.1 HE5.out).1).trans HE5.out)
        clear m0 m1 hb6
        rw [← HHk.out]
        go_wp2
        go_roundw
        case rel => exact ⟨j + 1, by omega, by congr 1; have := HHat.out; omega, HR6, HW6, HE6, HB6⟩
        case measure => simp [intOf]; have := HHat.out; omega
      · have HIn := hide (show AtIs x.L at_ 0 false from Or.inr (show (at_ < 0 ∨ (x.L.length : Int) ≤ at_) ∧ (0 : Int) = 0 ∧ false = false from ⟨hout, rfl, rfl⟩))
        have HOut := hide hout
        have HHat := hide hat
        clear hat hout
        go_wp2_with fail
        refine (at_n HR.out at_ 0 false HIn.out).mono ?_
        rintro e w5 ⟨rfl, hb5⟩
        have e0 := (hb5.block _ (Array.getElem?_eq_some_iff.1 HE.out).1).trans HE.out
        have HB5 := hide (HB.out.trans (hb5.mono HB.out.size))
        have HR5 := hide (HR.out.below hb5)
        have HW5 := hide (HW.out.kept (Mod.ofBelow hb5 (fun _ => False)) (fun _ _ _ h => h))
        have HE5 := hide e0
        clear m0 m1 hb5
        obtain ⟨m0, m1, _, _⟩ := ref.box2 e0
        clear e0
        go_wp2_with fail
        refine (ref.at_out w5 x.cap x.L.length x.A x.c at_ HOut.out).mono ?_
        rintro e w6 ⟨rfl, hb6⟩
        have HB6 := hide (HB5.out.trans (hb6.mono HB5.out.size))
        have HR6 := hide (HR5.out.below hb6)
        have HW6 := hide (HW5.out.kept (Mod.ofBelow hb6 (fun _ => False)) (fun _ _ _ h => h))
        have HE6 := hide ((hb6.block _ (Array.getElem?_eq_some_iff.1 HE5.out).1).trans HE5.out)
        clear m0 m1 hb6
        go_wp2
        go_roundw
        case rel => exact ⟨j + 1, by omega, by congr 1; have := HHat.out; omega, HR6, HW6, HE6, HB6⟩
        case measure => simp [intOf]; have := HHat.out; omega
    · have hgt : ¬ at_ ≤ (x.L.length : Int) := by omega
      rw [hat]
      clear hat m0 m1
      go_wp2
      go_ret
      exact ⟨rfl, hp ▸ HB.out⟩
end Go.Proofs.YtcalamofccdldaaDoor
