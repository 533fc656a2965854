/-
  RingAnswers: for every script the law returns true: the ring answers as the document's, and looks like it behind each call.
-/
import Derived.Test.YtcalamofccdldaaDoorBegin
import Derived.Test.YtcalamofccdldaaDoorOpsB
namespace Go.Proofs.YtcalamofccdldaaDoor.ringAnswers
open Go Go.RowKit Go.Cu Go.Proofs.YtcalamofccdldaaDoor

set_option maxRecDepth 10000 in
set_option maxHeartbeats 8000000 in
theorem walk (w : World) (adr : Nat → Addr) (hS : errs.Sent w adr) (v : Value) (n : Nat) (ops : List OpD) (h : Ops w v n ops) (hsz : ∀ o ∈ ops, o.len ≤ 17592186044415) :
    Calls Tryd.prog 6 #[v] w fun e w' => e = .returned (.bool true) ∧ Below w.heap.size w w' := by
  have HS := hide h
  have HSnt := hide hS
  have HSz := hide hsz
  obtain ⟨A, c, rfl⟩ := h.reads.shape
  have hn := maxLen_lt h.reads.size
  have HL := hide h.length
  clear h hsz hS
  go_enter Tryd.func6, Tryd.ntmps6
  go_wp2_with fail
  refine (fixed_true w).mono ?_
  rintro e w1 ⟨rfl, hb1⟩
  have HB1 := hide hb1
  clear hb1
  go_wp2_with fail
  refine (begin_any w1).mono ?_
  rintro e w2 ⟨b, P0, rfl, hq⟩
  have HB2 := hide (HB1.out.trans (hq.below.mono HB1.out.size))
  have HQ2 := hide (show RW w w2 b P0 from ⟨hq.cells, hq.at_, hq.ff, hq.fg, hq.nf, hq.ng, fun i hi k hk => Nat.le_trans HB1.out.size (hq.lowF i hi k hk), Nat.le_trans HB1.out.size hq.low, HB2.out⟩)
  clear hq
  go_wp2_with fail
  go_loopw [17] (fun t wr => ∃ i : Nat, i ≤ n ∧ t = .int .i64 i ∧ Hid (∃ P, RW w wr b P)) (fun t _ => n - (intOf t).toNat)
  case atStart => exact ⟨0, Nat.zero_le _, rfl, hide ⟨_, HQ2.out⟩⟩
  case round =>
    clear HQ2 HB2 HB1
    obtain ⟨i, hi, rfl, hst⟩ := hrel
    obtain ⟨P, hq⟩ := hst.out
    have HQ := hide hq
    clear hst hq
    by_cases hlt : i < n
    · obtain ⟨o, ho⟩ : ∃ o, ops[i]? = some o := ⟨_, List.getElem?_eq_getElem (by have := HL.out; omega)⟩
      have HU := hide (flat_get opCell_length ho)
      have hmem := List.mem_of_getElem? ho
      have hnc := (HS.out.each o hmem).2.1
      have hob := HSz.out o hmem
      have HRd := hide (HS.out.each o hmem).1
      have HScr := hide (Reads.below HS.out.reads HQ.out.below)
      clear ho hmem
      go_wp2_with (first
        | ((with_reducible refine at_index rfl ?_); refine wpList_atS rfl rfl _ _ 37 43 _ rfl rfl rfl (by simp) Tryd.underlying37 (by decide) size_op agg_op rfl HScr.out rfl (by omega) (by omega) (us := [.int .i64 o.kind, .int .i64 o.at_, .int .i64 o.n, .slice o.A o.len o.c]) rfl HU.out ?_; intro p)
        | fail)
      have hal : Below wr.heap.size wr (wr.alloc (.cells #[.int .i64 o.kind, .int .i64 o.at_, .int .i64 o.n, .slice o.A o.len o.c] 43)) := (Below.refl _ _).alloc (Nat.le_refl _) _
      have b0 : (wr.alloc (.cells #[.int .i64 o.kind, .int .i64 o.at_, .int .i64 o.n, .slice o.A o.len o.c] 43)).heap[wr.heap.size]? = some (.cells #[.int .i64 o.kind, .int .i64 o.at_, .int .i64 o.n, .slice o.A o.len o.c] 43 (0, 0)) := heap_alloc_new wr _
      obtain ⟨w4, hw4⟩ : ∃ w4, wr.alloc (.cells #[.int .i64 o.kind, .int .i64 o.at_, .int .i64 o.n, .slice o.A o.len o.c] 43) = w4 := ⟨_, rfl⟩
      rw [hw4] at hal b0
      rw [hw4]
      obtain ⟨i2, hi2, he2⟩ := place_of o.at_
      have hQ4 := HQ.out.past hal
      have hlt4 : ∀ j, j < 4 → ¬ (P j).F wr.heap.size := fun j hj hf => by have := (HQ.out.at_ j hj).ring.lt _ hf; omega
      have hbsz := HQ.out.size
      clear hw4
      refine (rwstep_any w w4 b P hQ4 adr HSnt.out o.kind o.at_ o.n o.A o.len o.c o.items HRd.out hnc hob).mono ?_
      rintro e w5 ⟨rfl, ⟨P5, hq5⟩, hm5⟩
      have e0 := hm5.heap b0 (fun hk => by rcases hk with hk | ⟨j, hj, hf⟩; · omega
                                           · exact hlt4 j hj hf)
      have HQ5 := hide hq5
      have o1 : w5.cell? ⟨wr.heap.size, 1, none⟩ = some (.int .i64 o.at_) := by rw [cell_of_row w5 _ 1 _ _ _ e0]; rfl
      clear hal b0 hQ4 hlt4 hbsz hq5 hm5 e0
      go_wp2_with fail
      refine (seen_true w w5 b P5 HQ5.out i2 hi2).mono ?_
      rintro e w6 ⟨rfl, hb6⟩
      have HQ6 := hide (HQ5.out.past hb6)
      clear o1 hb6
      go_wp2
      go_roundw
      case rel => exact ⟨i + 1, by omega, by go_num, hide ⟨_, HQ6.out⟩⟩
      case measure => simp [intOf]; omega
    · obtain rfl : i = n := by omega
      go_wp2_with fail
      refine (seen_true w wr b P HQ.out 0 (by decide)).mono ?_
      rintro e w6 ⟨rfl, hb6⟩
      have HQ6 := hide (HQ.out.past hb6)
      clear hb6
      go_wp2_with fail
      refine (seen_true w w6 b P HQ6.out 1 (by decide)).mono ?_
      rintro e w7 ⟨rfl, hb7⟩
      have HQ7 := hide (HQ6.out.past hb7)
      clear hb7
      go_wp2_with fail
      refine (seen_true w w7 b P HQ7.out 2 (by decide)).mono ?_
      rintro e w8 ⟨rfl, hb8⟩
      have HQ8 := hide (HQ7.out.past hb8)
      clear hb8
      go_wp2_with fail
      refine (seen_true w w8 b P HQ8.out 3 (by decide)).mono ?_
      rintro e w9 ⟨rfl, hb9⟩
      have HQ9 := hide (HQ8.out.past hb9)
      clear hb9
      go_wp2
      go_ret
      exact ⟨rfl, HQ9.out.below⟩
end Go.Proofs.YtcalamofccdldaaDoor.ringAnswers
