import Derived.Test.YtipbaffhlekpfaaDoorFifQ2
import Derived.Deep.RegionHeld3
import Derived.Deep.CutBlock
/- The document's queue: New, Get, Remove. -/
namespace Go.Proofs.YtipbaffhlekpfaaDoor
open Go Go.RowKit Go.Cu Go.Proofs.YtipbaffhlekpfaaDoor.errs

set_option maxRecDepth 10000 in
theorem refnew_bad (w : World) (things most : Int) (h : things < 0 ∨ most < 0) :
    Calls Tryd.prog 16 #[.int .i64 things, .int .i64 most] w fun e w' => e = .returned (.tuple #[qv 0 0 none 0 0, .int .i64 2]) ∧ Below w.heap.size w w' := by
  have h' : things < 0 ∨ (¬ things < 0 ∧ most < 0) := by omega
  clear h
  rcases h' with h1 | ⟨h1, h2⟩
  all_goals
    go_enter Tryd.func16, Tryd.ntmps16
    go_wp2
    refine bodyPost_ret (by simp [results, Tryd.results16, go_sem]; rfl) rfl ?_
    exact ⟨rfl, (Below.refl _ _).alloc (Nat.le_refl _) _⟩
set_option maxRecDepth 10000 in
theorem refnew_any (w : World) (things most : Int) (h1 : ¬ things < 0) (h2 : ¬ most < 0) :
    Calls Tryd.prog 16 #[.int .i64 things, .int .i64 most] w fun e w' => e = .returned (.tuple #[qv things most none 0 0, .int .i64 0]) ∧ Below w.heap.size w w' := by
  go_enter Tryd.func16, Tryd.ntmps16
  go_wp2
  refine bodyPost_ret (by simp [results, Tryd.results16, go_sem]; rfl) rfl ?_
  exact ⟨rfl, (Below.refl _ _).alloc (Nat.le_refl _) _⟩

set_option maxRecDepth 10000 in
theorem refget_none (w : World) (things most : Int) (A : Option Addr) (c : Nat) :
    Calls Tryd.prog 28 #[qv things most A 0 c] w fun e w' => e = .returned (.tuple #[qv things most A 0 c, .agg #[.int .i64 0, .int .i64 0], .bool false]) ∧ Below w.heap.size w w' := by
  go_enter Tryd.func28, Tryd.ntmps28
  go_wp2
  refine bodyPost_ret (by simp [results, Tryd.results28, go_sem]; rfl) rfl ?_
  exact ⟨rfl, ((below_a2 _ _ _).alloc (by simp; omega) _)⟩

set_option maxRecDepth 10000 in
set_option maxHeartbeats 1000000 in
theorem refget_some (w : World) (things most : Int) (A : Option Addr) (n c : Nat) (x : Int × Int) (L : List (Int × Int)) (hr : Reads w 2 (.slice A (n + 1) c) (n + 1) (pairs (x :: L))) (hnc : n + 1 ≤ c) (hn : n ≤ 4398046511103) :
    Calls Tryd.prog 28 #[qv things most A (n + 1) c] w fun e w' => ∃ A' c', e = .returned (.tuple #[qv things most A' n c', .agg #[.int .i64 x.1, .int .i64 x.2], .bool true]) ∧ Row w' (fun k => w.heap.size ≤ k) 55 2 (.slice A' n c') n (pairs L) ∧ Below w.heap.size w w' := by
  obtain ⟨w1, hw1⟩ : ∃ w1, ((w.alloc (.cells #[.int .i64 things, .int .i64 most, .slice A (n + 1) c] 41)).alloc (.cells #[.int .i64 0, .int .i64 0, .slice none 0 0] 41)).alloc (.cells #[.int .i64 0, .int .i64 0] 55) = w1 := ⟨_, rfl⟩
  obtain ⟨p, hp⟩ : ∃ p, w.heap.size = p := ⟨_, rfl⟩
  have hal : Below w.heap.size w w1 := by rw [← hw1]; exact (below_a2 _ _ _).alloc (by simp; omega) _
  have HR : Hid (Reads w1 2 (.slice A (n + 1) c) (n + 1) (pairs (x :: L))) := hide (Reads.kept hr (fun a _ hc => (hal.cell (World.block_lt_of_cell? w a hc)).trans hc))
  have b0 : w1.heap[p]? = some (.cells #[.int .i64 things, .int .i64 most, .slice A (n + 1) c] 41 (0, 0)) := by rw [← hw1, ← hp, Below.heap_alloc _ _ _ (by simp; omega), Below.heap_alloc _ _ _ (by simp)]; exact heap_alloc_new w _
  have b1 : w1.heap[p + 1]? = some (.cells #[.int .i64 0, .int .i64 0, .slice none 0 0] 41 (0, 0)) := by rw [← hw1, ← hp, Below.heap_alloc _ _ _ (by simp)]; exact (by rw [World.size_alloc] : w.heap.size + 1 = (w.alloc (.cells #[.int .i64 things, .int .i64 most, .slice A (n + 1) c] 41)).heap.size) ▸ heap_alloc_new _ _
  have b2 : w1.heap[p + 1 + 1]? = some (.cells #[.int .i64 0, .int .i64 0] 55 (0, 0)) := by rw [← hw1, ← hp]; exact (by rw [World.size_alloc, World.size_alloc] : w.heap.size + 1 + 1 = ((w.alloc (.cells #[.int .i64 things, .int .i64 most, .slice A (n + 1) c] 41)).alloc (.cells #[.int .i64 0, .int .i64 0, .slice none 0 0] 41)).heap.size) ▸ heap_alloc_new _ _
  have HB0 := hide b0
  have HB1 := hide b1
  have HB2 := hide b2
  have HAl := hide hal
  clear hr b0 b1 b2 hal
  obtain ⟨c0, c1, c2, _, _, _⟩ := box3 HB0.out
  obtain ⟨A1, c1', hcv⟩ : ∃ A1 c1, cutV A c 1 (n + 1) 2 = .slice A1 n c1 := ⟨_, _, rfl⟩
  have hcut : Reads w1 2 (.slice A1 n c1') n (pairs L) := by
    have h := HR.out.cut hnc (lo := 1) (hi := n + 1) (by omega) (Nat.le_refl _)
    have hl : L.length = n := by have := HR.out.1; rw [pairs_length, List.length_cons] at this; omega
    have e1 : ((pairs (x :: L)).drop (1 * 2)).take ((n + 1 - 1) * 2) = pairs L := by
      rw [pairs_cons]
      show (pairs L).take (n * 2) = pairs L
      exact List.take_of_length_le (by rw [pairs_length, hl]; exact Nat.le_refl _)
    rw [e1, hcv] at h
    exact h
  have HC := hide hcut
  clear hcut
  go_enter Tryd.func28, Tryd.ntmps28
  go_upto_region 4 with
    ((with_reducible refine at_index rfl ?_); refine wpList_atS rfl rfl _ _ 39 55 _ rfl rfl rfl (by simp) Tryd.underlying39 (by decide) size_thing agg_thing rfl HR.out rfl (by omega) (by omega) (us := [.int .i64 x.1, .int .i64 x.2]) rfl (pairs_us (L := x :: L) (i := 0) (x := x) rfl) ?_; intro q)
  have hal2 : Below w1.heap.size w1 (w1.alloc (.cells #[.int .i64 x.1, .int .i64 x.2] 55)) := (Below.refl _ _).alloc (Nat.le_refl _) _
  obtain ⟨w2, hw2⟩ : ∃ w2, w1.alloc (.cells #[.int .i64 x.1, .int .i64 x.2] 55) = w2 := ⟨_, rfl⟩
  obtain ⟨p2, hp2⟩ : ∃ p2, w1.heap.size = p2 := ⟨_, rfl⟩
  have hb3 : w2.heap[p2]? = some (.cells #[.int .i64 x.1, .int .i64 x.2] 55 (0, 0)) := by rw [← hw2, ← hp2]; exact heap_alloc_new w1 _
  rw [hw2] at hal2
  rw [hw2, hp2]
  obtain ⟨d0, d1, d2, _, _, _⟩ := box3 ((hal2.block _ (Array.getElem?_eq_some_iff.1 HB0.out).1).trans HB0.out)
  have HC2 : Hid (Reads w2 2 (.slice A1 n c1') n (pairs L)) := hide (Reads.kept HC.out (fun a _ hc => (hal2.cell (World.block_lt_of_cell? w1 a hc)).trans hc))
  have HAl2 := hide hal2
  have HB3 := hide hb3
  clear hal2 hb3 c0 c1 c2
  go_wp2_with (first
    | ((with_reducible refine at_slice rfl ?_); refine wpList_cut_lo rfl _ _ 39 55 rfl Tryd.underlying39 size_thing rfl rfl (l := 1) rfl (by omega) ?_; rw [hcv])
    | fail)
  refine (copied_any w2 A1 n c1' L HC2.out (by omega)).mono ?_
  rintro e w3 ⟨A3, c3, rfl, hr3, hb3⟩
  have hb13 := HAl2.out.trans (hb3.mono HAl2.out.size)
  have e0 := (hb13.block _ (Array.getElem?_eq_some_iff.1 HB0.out).1).trans HB0.out
  have e1 := (hb13.block _ (Array.getElem?_eq_some_iff.1 HB1.out).1).trans HB1.out
  have e2 := (hb13.block _ (Array.getElem?_eq_some_iff.1 HB2.out).1).trans HB2.out
  have e3 := (hb3.block _ (Array.getElem?_eq_some_iff.1 HB3.out).1).trans HB3.out
  have hrow := hr3
  obtain ⟨x0, x1, x2, y0, y1, y2⟩ := box3 e0
  have hs12 := HAl2.out.size
  have HRow3 := hide (hr3.farE (p := ⟨p, 2, none⟩) e0 (by decide) (.slice A3 n c3))
  have b0 := heap_setCell_same _ p 2 _ 41 (.slice A3 n c3) e0
  have b1 : (w3.setCell ⟨p, 2, none⟩ (.slice A3 n c3)).heap[p + 1]? = some (.cells #[.int .i64 0, .int .i64 0, .slice none 0 0] 41 (0, 0)) := by rw [Below.heap_setCell _ _ _ _ (show p + 1 ≠ p by omega)]; exact e1
  have b2 : (w3.setCell ⟨p, 2, none⟩ (.slice A3 n c3)).heap[p + 1 + 1]? = some (.cells #[.int .i64 0, .int .i64 0] 55 (0, 0)) := by rw [Below.heap_setCell _ _ _ _ (show p + 1 + 1 ≠ p by omega)]; exact e2
  have hpp2 : p + 1 + 1 < p2 := by have := (Array.getElem?_eq_some_iff.1 HB2.out).1; omega
  have b3 : (w3.setCell ⟨p, 2, none⟩ (.slice A3 n c3)).heap[p2]? = some (.cells #[.int .i64 x.1, .int .i64 x.2] 55 (0, 0)) := by rw [Below.heap_setCell _ _ _ _ (show p2 ≠ p by omega)]; exact e3
  have HB13 := hide hb13
  clear hr3 hb3 hb13 d0 d1 d2 hrow
  go_upto_region 5 with fail
  obtain ⟨w4, hw4⟩ : ∃ w4, w3.setCell ⟨p, 2, none⟩ (.slice A3 n c3) = w4 := ⟨_, rfl⟩
  rw [hw4] at HRow3 b0 b1 b2 b3
  rw [hw4]
  have b0' : w4.heap[p]? = some (.cells #[.int .i64 things, .int .i64 most, .slice A3 n c3] 41 (0, 0)) := by simpa using b0
  have HB4 : Hid (Below w.heap.size w w4) := by
    rw [← hw4]
    exact hide ((HAl.out.trans (HB13.out.mono HAl.out.size)).setCell (p := ⟨p, 2, none⟩) (show w.heap.size ≤ p by omega) _)
  obtain ⟨z0, z1, z2, _, _, _⟩ := box3 b0'
  obtain ⟨k0, k1, k2, f0, f1, f2⟩ := box3 b1
  have h0 : w4.cell? ⟨p + 1 + 1, 0, none⟩ = some (.int .i64 0) := by rw [cell_of_row w4 _ 0 _ _ _ b2]; rfl
  have h1 : w4.cell? ⟨p + 1 + 1, 1, none⟩ = some (.int .i64 0) := by rw [cell_of_row w4 _ 1 _ _ _ b2]; rfl
  have g0 := frozen_of_row w4 (p + 1 + 1) 0 _ _ b2
  have g1 := frozen_of_row w4 (p + 1 + 1) 1 _ _ b2
  have u0 : w4.cell? ⟨p2, 0, none⟩ = some (.int .i64 x.1) := by rw [cell_of_row w4 _ 0 _ _ _ b3]; rfl
  have u1 : w4.cell? ⟨p2, 1, none⟩ = some (.int .i64 x.2) := by rw [cell_of_row w4 _ 1 _ _ _ b3]; rfl
  have HB1' := hide b1
  have HB2' := hide b2
  clear e0 e1 e2 e3 x0 x1 x2 y0 y1 y2 b0 b0' b1 b2 b3 hw4
  go_region
  go_wp2
  have hp2s : p2 ≤ w2.heap.size := by omega
  have c1 := box3_set HB1'.out (.int .i64 things) (.int .i64 most) (.slice A3 n c3)
  have c2 : ((((w4.setCell ⟨p + 1, 0, none⟩ (.int .i64 things)).setCell ⟨p + 1, 1, none⟩ (.int .i64 most)).setCell ⟨p + 1, 2, none⟩ (.slice A3 n c3)).heap[p + 1 + 1]? = some (.cells #[.int .i64 0, .int .i64 0] 55 (0, 0))) := by
    rw [Below.heap_setCell _ _ _ _ (show p + 1 + 1 ≠ p + 1 by omega), Below.heap_setCell _ _ _ _ (show p + 1 + 1 ≠ p + 1 by omega), Below.heap_setCell _ _ _ _ (show p + 1 + 1 ≠ p + 1 by omega)]
    exact HB2'.out
  have r1 := row_set3 HRow3.out HB1'.out (by decide) (.int .i64 things) (.int .i64 most) (.slice A3 n c3)
  have bl := below_set3 HB4.out (p := p + 1) (by omega) (.int .i64 things) (.int .i64 most) (.slice A3 n c3)
  obtain ⟨w5, hw5⟩ : ∃ w5, ((w4.setCell ⟨p + 1, 0, none⟩ (.int .i64 things)).setCell ⟨p + 1, 1, none⟩ (.int .i64 most)).setCell ⟨p + 1, 2, none⟩ (.slice A3 n c3) = w5 := ⟨_, rfl⟩
  rw [hw5] at c1 c2 r1 bl
  rw [hw5]
  have c3' := heap_setCell_same _ (p + 1 + 1) 0 _ 55 (.int .i64 x.1) c2
  have c4 := heap_setCell_same _ (p + 1 + 1) 1 _ 55 (.int .i64 x.2) c3'
  have d1 : (((w5.setCell ⟨p + 1 + 1, 0, none⟩ (.int .i64 x.1)).setCell ⟨p + 1 + 1, 1, none⟩ (.int .i64 x.2)).drew.heap[p + 1]? = some (.cells #[.int .i64 things, .int .i64 most, .slice A3 n c3] 41 (0, 0))) := by
    show ((w5.setCell ⟨p + 1 + 1, 0, none⟩ (.int .i64 x.1)).setCell ⟨p + 1 + 1, 1, none⟩ (.int .i64 x.2)).heap[p + 1]? = _
    rw [Below.heap_setCell _ _ _ _ (show p + 1 ≠ p + 1 + 1 by omega), Below.heap_setCell _ _ _ _ (show p + 1 ≠ p + 1 + 1 by omega)]
    exact c1
  obtain ⟨m0, m1, m2, _, _, _⟩ := box3 d1
  have n0 : ((w5.setCell ⟨p + 1 + 1, 0, none⟩ (.int .i64 x.1)).setCell ⟨p + 1 + 1, 1, none⟩ (.int .i64 x.2)).drew.cell? ⟨p + 1 + 1, 0, none⟩ = some (.int .i64 x.1) := by
    rw [show ((w5.setCell ⟨p + 1 + 1, 0, none⟩ (.int .i64 x.1)).setCell ⟨p + 1 + 1, 1, none⟩ (.int .i64 x.2)).drew.cell? ⟨p + 1 + 1, 0, none⟩ = ((w5.setCell ⟨p + 1 + 1, 0, none⟩ (.int .i64 x.1)).setCell ⟨p + 1 + 1, 1, none⟩ (.int .i64 x.2)).cell? ⟨p + 1 + 1, 0, none⟩ from rfl, cell_of_row _ _ 0 _ _ _ c4]
    rfl
  have n1 : ((w5.setCell ⟨p + 1 + 1, 0, none⟩ (.int .i64 x.1)).setCell ⟨p + 1 + 1, 1, none⟩ (.int .i64 x.2)).drew.cell? ⟨p + 1 + 1, 1, none⟩ = some (.int .i64 x.2) := by
    rw [show ((w5.setCell ⟨p + 1 + 1, 0, none⟩ (.int .i64 x.1)).setCell ⟨p + 1 + 1, 1, none⟩ (.int .i64 x.2)).drew.cell? ⟨p + 1 + 1, 1, none⟩ = ((w5.setCell ⟨p + 1 + 1, 0, none⟩ (.int .i64 x.1)).setCell ⟨p + 1 + 1, 1, none⟩ (.int .i64 x.2)).cell? ⟨p + 1 + 1, 1, none⟩ from rfl, cell_of_row _ _ 1 _ _ _ c4]
    rfl
  refine bodyPost_ret (by simp [results, Tryd.results28, go_sem, m0, m1, m2, n0, n1]; rfl) rfl ?_
  refine ⟨A3, c3, rfl, ((((r1.far (p := ⟨p + 1 + 1, 0, none⟩) (by show ¬ w2.heap.size ≤ p + 1 + 1; omega) _).far (p := ⟨p + 1 + 1, 1, none⟩) (by show ¬ w2.heap.size ≤ p + 1 + 1; omega) _)).drew).mono (fun k hk _ => by have := HAl.out.size; omega), ?_⟩
  exact (((bl.setCell (p := ⟨p + 1 + 1, 0, none⟩) (show w.heap.size ≤ p + 1 + 1 by omega) _).setCell (p := ⟨p + 1 + 1, 1, none⟩) (show w.heap.size ≤ p + 1 + 1 by omega) _)).drew

/-- those that stay -/
def keepL (W : List Int) (L : List (Int × Int)) : List (Int × Int) := L.filter fun x => !decide (x.1 ∈ W)
theorem keepL_take {W : List Int} {L : List (Int × Int)} {i : Nat} {x : Int × Int} (hx : L[i]? = some x) : keepL W (L.take (i + 1)) = keepL W (L.take i) ++ (if x.1 ∈ W then [] else [x]) := by
  rw [List.take_add_one, hx]
  simp [keepL, List.filter_append]
  split <;> simp [*]
theorem keepL_le (W : List Int) (L : List (Int × Int)) : (keepL W L).length ≤ L.length := List.length_filter_le _ _

set_option maxRecDepth 10000 in
set_option maxHeartbeats 1000000 in
theorem refremove_any (w : World) (things most : Int) (A : Option Addr) (n c : Nat) (L : List (Int × Int)) (hr : Reads w 2 (.slice A n c) n (pairs L)) (hn : n ≤ 4398046511103) (O : Option Addr) (m co : Nat) (W : List Int) (ho : Reads w 1 (.slice O m co) m (W.map (Value.int .i64))) :
    Calls Tryd.prog 33 #[qv things most A n c, .slice O m co] w fun e w' => ∃ A' c', e = .returned (.tuple #[qv things most A' (keepL W L).length c', .int .i64 (n - (keepL W L).length : Nat)]) ∧ Row w' (fun k => w.heap.size ≤ k) 55 2 (.slice A' (keepL W L).length c') (keepL W L).length (pairs (keepL W L)) ∧ Below w.heap.size w w' := by
  obtain ⟨w1, hw1⟩ : ∃ w1, (w.alloc (.cells #[.int .i64 things, .int .i64 most, .slice A n c] 41)).alloc (.cells #[.int .i64 0, .int .i64 0, .slice none 0 0] 41) = w1 := ⟨_, rfl⟩
  obtain ⟨p, hp⟩ : ∃ p, w.heap.size = p := ⟨_, rfl⟩
  have hal : Below w.heap.size w w1 := by rw [← hw1]; exact below_a2 _ _ _
  have HR : Hid (Reads w1 2 (.slice A n c) n (pairs L)) := hide (Reads.kept hr (fun a _ hc => (hal.cell (World.block_lt_of_cell? w a hc)).trans hc))
  have HO : Hid (Reads w1 1 (.slice O m co) m (W.map (Value.int .i64))) := hide (Reads.kept ho (fun a _ hc => (hal.cell (World.block_lt_of_cell? w a hc)).trans hc))
  have b0 : w1.heap[p]? = some (.cells #[.int .i64 things, .int .i64 most, .slice A n c] 41 (0, 0)) := by rw [← hw1, ← hp, Below.heap_alloc _ _ _ (by simp)]; exact heap_alloc_new w _
  have b1 : w1.heap[p + 1]? = some (.cells #[.int .i64 0, .int .i64 0, .slice none 0 0] 41 (0, 0)) := by rw [← hw1, ← hp]; exact (by rw [World.size_alloc] : w.heap.size + 1 = (w.alloc (.cells #[.int .i64 things, .int .i64 most, .slice A n c] 41)).heap.size) ▸ heap_alloc_new _ _
  have HB0 := hide b0
  have HB1 := hide b1
  have HAl := hide hal
  have hnl : L.length = n := by have := hr.1; rw [pairs_length] at this; omega
  have HN := hide hnl
  obtain ⟨i0, hi0, hz0, hz1, hz2⟩ := info_parts info_thing
  clear hr ho b0 b1 hal hnl
  go_enter Tryd.func33, Tryd.ntmps33
  go_wp2
  go_loopw [6, 7, 8] (fun s g t wr => ∃ i : Nat, i ≤ n ∧ t = .int .i64 i ∧ ∃ M A' c', s = .slice A' M.length c' ∧ g = .int .i64 ((i - M.length : Nat) : Int) ∧ M.length ≤ i ∧ Hid (M = keepL W (L.take i)) ∧ Hid (Row wr (fun k => w1.heap.size ≤ k) 55 2 (.slice A' M.length c') M.length (pairs M)) ∧ Hid (Below w1.heap.size w1 wr)) (fun _ _ t _ => n - (intOf t).toNat)
  case atStart => exact ⟨0, Nat.zero_le _, rfl, [], none, 0, rfl, rfl, Nat.le_refl _, hide rfl, hide (Row.nil _ _ _ _), hide (Below.refl _ _)⟩
  case round =>
    obtain ⟨i, hi, rfl, M, A', c', rfl, rfl, hMi, HM, HRow, HB⟩ := hrel
    have e0 := (HB.out.block _ (Array.getElem?_eq_some_iff.1 HB0.out).1).trans HB0.out
    have e1 := (HB.out.block _ (Array.getElem?_eq_some_iff.1 HB1.out).1).trans HB1.out
    obtain ⟨x0, x1, x2, y0, y1, y2⟩ := box3 e0
    have HE0 := hide e0
    have HE1 := hide e1
    clear e0 e1
    by_cases hlt : i < n
    · obtain ⟨x, hx⟩ : ∃ x, L[i]? = some x := ⟨_, List.getElem?_eq_getElem (by rw [HN.out]; exact hlt)⟩
      have HX := hide hx
      have HR1 : Hid (Reads wr 2 (.slice A n c) n (pairs L)) := hide (Reads.kept HR.out (fun a _ hc => (HB.out.cell (World.block_lt_of_cell? w1 a hc)).trans hc))
      have HO1 : Hid (Reads wr 1 (.slice O m co) m (W.map (Value.int .i64))) := hide (Reads.kept HO.out (fun a _ hc => (HB.out.cell (World.block_lt_of_cell? w1 a hc)).trans hc))
      obtain ⟨ad, hA, q0, q1⟩ := pairs_cell HR1.out hx
      subst hA
      clear hx
      go_wp2_with fail
      refine (in_any wr O m co W HO1.out x.1).mono ?_
      rintro e wz ⟨rfl, rfl⟩
      have hk := keepL_take (W := W) HX.out
      by_cases hin : x.1 ∈ W
      · have hM2 : Hid (M = keepL W (L.take (i + 1))) := hide (by rw [hk, if_pos hin, List.append_nil]; exact HM.out)
        have hsub : ((i - M.length : Nat) : Int) + 1 = ((i + 1 - M.length : Nat) : Int) := by omega
        clear hk
        go_wp2
        go_roundw
        case rel => exact ⟨i + 1, by omega, by go_num, M, A', c', rfl, by rw [← hsub], by omega, hM2, HRow, HB⟩
        case measure => simp [intOf]; omega
      · have hM2 : Hid (M ++ [x] = keepL W (L.take (i + 1))) := hide (by rw [hk, if_neg hin, ← HM.out])
        have hlM : (M ++ [x]).length = M.length + 1 := by simp
        have HRow1 := hide (HRow.out.alloc (.cells #[.int .i64 x.1, .int .i64 x.2] 55))
        have HLit : Hid (Reads (wr.alloc (.cells #[.int .i64 x.1, .int .i64 x.2] 55)) 2 (.slice (some ⟨wr.heap.size, 0, none⟩) 1 1) 1 (pairs [x])) := by
          refine hide ⟨rfl, _, 1, rfl, by unfold maxLen; omega, .inr ⟨_, rfl, fun j u hj => ?_⟩⟩
          have hj' : [Value.int .i64 x.1, .int .i64 x.2][j]? = some u := hj
          rw [add_plain, Nat.zero_add]
          exact (cell_of_row (wr.alloc (.cells #[.int .i64 x.1, .int .i64 x.2] 55)) wr.heap.size j _ _ _ (heap_alloc_new wr _)).trans (by simpa using hj')
        clear hk
        go_wp2_with (first
          | ((with_reducible refine at_index rfl ?_); refine wpList_atS rfl rfl _ _ 39 55 _ rfl rfl rfl (by simp) Tryd.underlying39 (by decide) size_thing agg_thing rfl HR1.out rfl (by omega) (by omega) (us := [.int .i64 x.1, .int .i64 x.2]) rfl (pairs_us HX.out) ?_; intro q)
          | (at_builtin; refine wpList_append_row rfl _ _ 39 rfl 55 i0 (.agg #[.int .i64 0, .int .i64 0]) 2 16 Tryd.underlying39 hi0 hz0 hz1 hz2 rfl (by decide) rfl HRow1.out (news := pairs [x]) rfl HLit.out (pairs_one _) (by unfold maxLen; omega) (by omega) ?_
             intro A2 c2 w3 hr3 hm3
             have HR3 := hide hr3
             have HM3 := hide hm3
             clear hr3 hm3))
        have hB3 : Below w1.heap.size w1 w3 := HB.out.trans ((Below.alloc (Below.refl _ _) (by have := HB.out.size; exact this) _).trans (HM3.out.below (by have := HB.out.size; simp; omega) (fun _ h => h)))
        go_roundw
        case rel => exact ⟨i + 1, by omega, by go_num, M ++ [x], A2, c2, by rw [hlM], by rw [hlM, Nat.add_sub_add_right], by omega, hM2, hide (by rw [hlM, ← pairs_append]; exact HR3.out.mono (fun k hk _ => by rcases hk with hk | hk; exact hk; have := HB.out.size; rw [hk]; simp; omega)), hide hB3⟩
        case measure => simp [intOf]; omega
    · obtain rfl : i = n := by omega
      have he : L.take i = L := List.take_of_length_le (by rw [HN.out]; exact Nat.le_refl _)
      have hMe : M = keepL W L := by have := HM.out; rwa [he] at this
      subst hMe
      obtain ⟨k0, k1, k2, f0, f1, f2⟩ := box3 HE1.out
      clear he
      go_wp2
      have b1 : (wr.setCell ⟨p, 2, none⟩ (.slice A' (keepL W L).length c')).heap[p + 1]? = some (.cells #[.int .i64 0, .int .i64 0, .slice none 0 0] 41 (0, 0)) := by
        rw [Below.heap_setCell _ _ _ _ (show p + 1 ≠ p by omega)]
        exact HE1.out
      have b2 := box3_set b1 (.int .i64 things) (.int .i64 most) (.slice A' (keepL W L).length c')
      have r2 := row_set3 (HRow.out.farE (p := ⟨p, 2, none⟩) HE0.out (by decide) (.slice A' (keepL W L).length c')) b1 (by decide) (.int .i64 things) (.int .i64 most) (.slice A' (keepL W L).length c')
      obtain ⟨m0, m1, m2, _, _, _⟩ := box3 b2
      have hbel : Below w.heap.size w wr := HAl.out.trans (HB.out.mono HAl.out.size)
      refine bodyPost_ret (by simp [results, Tryd.results33, go_sem, m0, m1, m2]; rfl) rfl ?_
      refine ⟨A', c', rfl, r2.mono (fun k hk _ => by have := HAl.out.size; omega), below_set3 (hbel.setCell (p := ⟨p, 2, none⟩) (show w.heap.size ≤ p by omega) _) (by omega) _ _ _⟩
end Go.Proofs.YtipbaffhlekpfaaDoor
