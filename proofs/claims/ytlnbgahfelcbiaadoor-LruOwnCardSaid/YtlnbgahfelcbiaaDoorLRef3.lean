import Derived.Test.YtlnbgahfelcbiaaDoorLRef2
import Derived.Deep.RegionHeld3
/- The document's cache: Get. -/
namespace Go.Proofs.YtlnbgahfelcbiaaDoor
open Go Go.RowKit Go.Cu

theorem box4 {w : World} {p : Nat} {x y z u : Value} {t : TypeId} (h : w.heap[p]? = some (.cells #[x, y, z, u] t (0, 0))) :
    w.cell? ⟨p, 0, none⟩ = some x ∧ w.cell? ⟨p, 1, none⟩ = some y ∧ w.cell? ⟨p, 2, none⟩ = some z ∧ w.cell? ⟨p, 3, none⟩ = some u :=
  ⟨by rw [cell_of_row w p 0 _ _ _ h]; rfl, by rw [cell_of_row w p 1 _ _ _ h]; rfl, by rw [cell_of_row w p 2 _ _ _ h]; rfl, by rw [cell_of_row w p 3 _ _ _ h]; rfl⟩
/-- the two boxes: the cache as it came, and the result's -/
theorem boxes2 (w : World) (room : Int) (A : Option Addr) (n c : Nat) : ∃ w1 p, (w.alloc (.cells #[.int .i64 room, .slice A n c] 46)).alloc (.cells #[.int .i64 0, .slice none 0 0] 46) = w1 ∧ w.heap.size = p ∧ Below w.heap.size w w1 ∧ w1.heap.size = p + 2 ∧
    w1.heap[p]? = some (.cells #[.int .i64 room, .slice A n c] 46 (0, 0)) ∧ w1.heap[p + 1]? = some (.cells #[.int .i64 0, .slice none 0 0] 46 (0, 0)) := by
  refine ⟨_, _, rfl, rfl, below_a2 _ _ _, by simp, ?_, ?_⟩
  · rw [Below.heap_alloc _ _ _ (by simp)]
    exact heap_alloc_new w _
  · exact (by rw [World.size_alloc] : w.heap.size + 1 = (w.alloc (.cells #[.int .i64 room, .slice A n c] 46)).heap.size) ▸ heap_alloc_new _ _
theorem cell_far2 {w : World} {b : Nat} {a : Addr} {x y v : Value} (h : w.cell? a = some v) (hne : a.block ≠ b) : ((w.setCell ⟨b, 0, none⟩ x).setCell ⟨b, 1, none⟩ y).cell? a = some v := by
  refine (World.cell?_of_block (w := w) ?_).trans h
  rw [Below.heap_setCell _ _ _ _ hne, Below.heap_setCell _ _ _ _ hne]
theorem below_at {w w' : World} {b : Nat} {o : Obj} (hb : Below w.heap.size w w') (h : w.heap[b]? = some o) : w'.heap[b]? = some o := (hb.block _ (Array.getElem?_eq_some_iff.1 h).1).trans h

set_option maxRecDepth 10000 in
set_option maxHeartbeats 1000000 in
theorem refget_none (w : World) (room : Int) (A : Option Addr) (n c : Nat) (L : List LE) (hr : Reads w 4 (.slice A n c) n (rowsC L)) (k now : Int) (hk : ∀ e ∈ L, e.k ≠ k) :
    Calls Tryd.prog 53 #[cvv room A n c, .int .i64 k, .int .i64 now] w fun r w' => r = .returned (.tuple #[cvv room A n c, .int .i64 0, .bool false]) ∧ Below w.heap.size w w' := by
  obtain ⟨w1, p, hw1, hp, hal, hs1, b0, b1⟩ := boxes2 w room A n c
  have HR : Hid (Reads w1 4 (.slice A n c) n (rowsC L)) := hide (Reads.past hr hal)
  have HB0 := hide b0
  have HB1 := hide b1
  have HAl := hide hal
  have HK := hide hk
  obtain ⟨c0, c1, _, _⟩ := box2 b0
  clear hal hr b0 b1 hk
  go_enter Tryd.func53, Tryd.ntmps53
  go_wp2_with fail
  refine (refat_none w1 room A n c L HR.out k HK.out).mono ?_
  rintro r w2 ⟨rfl, hb2⟩
  obtain ⟨d0, d1, _, _⟩ := box2 (below_at hb2 HB0.out)
  have e1 := below_at hb2 HB1.out
  obtain ⟨k0, k1, f0, f1⟩ := box2 e1
  have HE1 := hide e1
  have HB2 := hide (HAl.out.trans (hb2.mono HAl.out.size))
  clear hb2 e1 c0 c1
  go_wp2
  have hb := box2_set HE1.out (.int .i64 room) (.slice A n c)
  obtain ⟨m0, m1, _, _⟩ := box2 hb
  refine bodyPost_ret (by simp [results, Tryd.results53, go_sem, m0, m1]; rfl) rfl ?_
  exact ⟨rfl, below_set2 HB2.out (by omega) _ _⟩
theorem rows_us {L : List LE} {i : Nat} {x : LE} (hx : L[i]? = some x) : ∀ (j : Nat) u, [Value.int .i64 x.k, .int .i64 x.v, .int .i64 x.wt, .int .i64 x.un][j]? = some u → (rowsC L)[i * 4 + j]? = some u := flat_get rowC_length hx
set_option maxRecDepth 10000 in
set_option maxHeartbeats 1000000 in
theorem refget_old (w : World) (room : Int) (A : Option Addr) (n c : Nat) (hnc : n ≤ c) (a b : List LE) (e : LE) (hr : Reads w 4 (.slice A n c) n (rowsC (a ++ e :: b))) (hk : ∀ x ∈ a, x.k ≠ e.k) (hn : n ≤ 4398046511103) (now : Int) (hold : e.un ≤ now) :
    Calls Tryd.prog 53 #[cvv room A n c, .int .i64 e.k, .int .i64 now] w fun r w' => ∃ v, r = .returned (.tuple #[v, .int .i64 0, .bool false]) ∧ RefIs w room (a ++ b) v w' := by
  obtain ⟨w1, p, hw1, hp, hal, hs1, b0, b1⟩ := boxes2 w room A n c
  have HR : Hid (Reads w1 4 (.slice A n c) n (rowsC (a ++ e :: b))) := hide (Reads.past hr hal)
  have HB0 := hide b0
  have HB1 := hide b1
  have HAl := hide hal
  have HK := hide hk
  have HNl := hide (rows_len hr)
  have han : a.length < n := by have := rows_len hr; simp at this; omega
  have HU := hide (rows_us (L := a ++ e :: b) (i := a.length) (x := e) (by simp))
  obtain ⟨c0, c1, _, _⟩ := box2 b0
  clear hal hr b0 b1 hk
  go_enter Tryd.func53, Tryd.ntmps53
  go_wp2_with fail
  refine (refat_mid w1 room A n c a b e HR.out HK.out).mono ?_
  rintro r w2 ⟨rfl, hb2⟩
  have g0 := below_at hb2 HB0.out
  obtain ⟨d0, d1, _, _⟩ := box2 g0
  have HE0 := hide g0
  have HE1 := hide (below_at hb2 HB1.out)
  have HB2 := hide (HAl.out.trans (hb2.mono HAl.out.size))
  have HR2 := hide (Reads.past HR.out hb2)
  have hs2 := hb2.size
  clear hb2 c0 c1 g0
  go_upto_region 5 with (first
    | ((with_reducible refine at_index rfl ?_); refine wpList_atS rfl rfl _ _ 44 105 _ rfl rfl rfl (by simp) Tryd.underlying44 (by decide) size_row agg_row rfl HR2.out rfl (by omega) (by omega) (us := [.int .i64 e.k, .int .i64 e.v, .int .i64 e.wt, .int .i64 e.un]) rfl HU.out ?_; intro q)
    | fail)
  obtain ⟨wa, hwa⟩ : ∃ wa, w2.alloc (.cells #[.int .i64 e.k, .int .i64 e.v, .int .i64 e.wt, .int .i64 e.un] 105) = wa := ⟨_, rfl⟩
  obtain ⟨qb, hqb⟩ : ∃ qb, w2.heap.size = qb := ⟨_, rfl⟩
  have hba : Below w2.heap.size w2 wa := by rw [← hwa]; exact (Below.refl _ _).alloc (Nat.le_refl _) _
  have hq0 : wa.heap[qb]? = some (.cells #[.int .i64 e.k, .int .i64 e.v, .int .i64 e.wt, .int .i64 e.un] 105 (0, 0)) := by rw [← hwa, ← hqb]; exact heap_alloc_new w2 _
  rw [hwa, hqb]
  have HQ := hide hq0
  have HA0 := hide (below_at hba HE0.out)
  have HA1 := hide (below_at hba HE1.out)
  have HBa := hide (HB2.out.trans (hba.mono HB2.out.size))
  have HRa := hide (Reads.past HR2.out hba)
  obtain ⟨c0, c1, _, _⟩ := box2 (below_at hba HE0.out)
  have hpq : p + 2 ≤ qb := by omega
  clear hwa hqb hba hq0 d0 d1
  go_wp2_with fail
  refine (without_ref wa room A n c hnc a b e HRa.out (by omega) a.length rfl).mono ?_
  rintro r w3 ⟨v3, rfl, B, m, cc, rfl, hm, hrow, hb3⟩
  have hmn : m ≤ 4398046511103 := by have := HNl.out; simp at this hm; omega
  have HM := hide hm
  clear hm
  have g0 := below_at hb3 HA0.out
  have g1 := below_at hb3 HA1.out
  have gq := below_at hb3 HQ.out
  obtain ⟨k0, k1, f0, f1⟩ := box2 g0
  have hbx := box2_set g0 (.int .i64 room) (.slice B m cc)
  have hbr := row_set2 hrow g0 (by decide) (.int .i64 room) (.slice B m cc)
  have hbl := below_set2 (HBa.out.trans (hb3.mono HBa.out.size)) (show w.heap.size ≤ p by omega) (.int .i64 room) (.slice B m cc)
  have hsa := HBa.out.size
  have hs3 := hb3.size
  have hq5 : ((w3.setCell ⟨p, 0, none⟩ (.int .i64 room)).setCell ⟨p, 1, none⟩ (.slice B m cc)).heap[qb]? = some (.cells #[.int .i64 e.k, .int .i64 e.v, .int .i64 e.wt, .int .i64 e.un] 105 (0, 0)) := by
    rw [Below.heap_setCell _ _ _ _ (show qb ≠ p by omega), Below.heap_setCell _ _ _ _ (show qb ≠ p by omega)]
    exact gq
  have hp5 : ((w3.setCell ⟨p, 0, none⟩ (.int .i64 room)).setCell ⟨p, 1, none⟩ (.slice B m cc)).heap[p + 1]? = some (.cells #[.int .i64 0, .slice none 0 0] 46 (0, 0)) := by
    rw [Below.heap_setCell _ _ _ _ (show p + 1 ≠ p by omega), Below.heap_setCell _ _ _ _ (show p + 1 ≠ p by omega)]
    exact g1
  go_upto_region 6 with fail
  obtain ⟨w5, hw5⟩ : ∃ w5, (w3.setCell ⟨p, 0, none⟩ (.int .i64 room)).setCell ⟨p, 1, none⟩ (.slice B m cc) = w5 := ⟨_, rfl⟩
  rw [hw5] at hbx hbr hbl hq5 hp5
  rw [hw5]
  have HX := hide hbx
  have HRow := hide hbr
  have HBl := hide hbl
  have HP5 := hide hp5
  obtain ⟨c0, c1, _, _⟩ := box2 hbx
  obtain ⟨q0, q1, q2, q3⟩ := box4 hq5
  have HQ5 := hide hq5
  obtain ⟨r0, r1, t0, t1⟩ := box2 hp5
  clear hbx hbr hbl hq5 hp5 hw5 g0 g1 gq k0 k1 f0 f1 hrow hb3
  go_wp2
  have hb := box2_set HP5.out (.int .i64 room) (.slice B m cc)
  obtain ⟨m0, m1, _, _⟩ := box2 hb
  refine bodyPost_ret (by simp [results, Tryd.results53, go_sem, m0, m1]; rfl) rfl ?_
  refine ⟨_, rfl, B, m, cc, rfl, HM.out, ?_, below_set2 HBl.out (by omega) _ _⟩
  exact (row_set2 HRow.out HP5.out (by decide) _ _).mono (fun k hk _ => by
    show w.heap.size ≤ k
    have : wa.heap.size ≤ k := hk
    omega)
set_option maxRecDepth 10000 in
set_option maxHeartbeats 1000000 in
theorem refget_good (w : World) (room : Int) (A : Option Addr) (n c : Nat) (hnc : n ≤ c) (a b : List LE) (e : LE) (hr : Reads w 4 (.slice A n c) n (rowsC (a ++ e :: b))) (hk : ∀ x ∈ a, x.k ≠ e.k) (hn : n ≤ 4398046511103) (now : Int) (hgood : now < e.un) :
    Calls Tryd.prog 53 #[cvv room A n c, .int .i64 e.k, .int .i64 now] w fun r w' => ∃ v, r = .returned (.tuple #[v, .int .i64 e.v, .bool true]) ∧ RefIs w room (e :: (a ++ b)) v w' := by
  obtain ⟨w1, p, hw1, hp, hal, hs1, b0, b1⟩ := boxes2 w room A n c
  have HR : Hid (Reads w1 4 (.slice A n c) n (rowsC (a ++ e :: b))) := hide (Reads.past hr hal)
  have HB0 := hide b0
  have HB1 := hide b1
  have HAl := hide hal
  have HK := hide hk
  have HNl := hide (rows_len hr)
  have han : a.length < n := by have := rows_len hr; simp at this; omega
  have HU := hide (rows_us (L := a ++ e :: b) (i := a.length) (x := e) (by simp))
  obtain ⟨c0, c1, _, _⟩ := box2 b0
  clear hal hr b0 b1 hk
  go_enter Tryd.func53, Tryd.ntmps53
  go_wp2_with fail
  refine (refat_mid w1 room A n c a b e HR.out HK.out).mono ?_
  rintro r w2 ⟨rfl, hb2⟩
  have g0 := below_at hb2 HB0.out
  obtain ⟨d0, d1, _, _⟩ := box2 g0
  have HE0 := hide g0
  have HE1 := hide (below_at hb2 HB1.out)
  have HB2 := hide (HAl.out.trans (hb2.mono HAl.out.size))
  have HR2 := hide (Reads.past HR.out hb2)
  have hs2 := hb2.size
  clear hb2 c0 c1 g0
  go_upto_region 5 with (first
    | ((with_reducible refine at_index rfl ?_); refine wpList_atS rfl rfl _ _ 44 105 _ rfl rfl rfl (by simp) Tryd.underlying44 (by decide) size_row agg_row rfl HR2.out rfl (by omega) (by omega) (us := [.int .i64 e.k, .int .i64 e.v, .int .i64 e.wt, .int .i64 e.un]) rfl HU.out ?_; intro q)
    | fail)
  obtain ⟨wa, hwa⟩ : ∃ wa, w2.alloc (.cells #[.int .i64 e.k, .int .i64 e.v, .int .i64 e.wt, .int .i64 e.un] 105) = wa := ⟨_, rfl⟩
  obtain ⟨qb, hqb⟩ : ∃ qb, w2.heap.size = qb := ⟨_, rfl⟩
  have hba : Below w2.heap.size w2 wa := by rw [← hwa]; exact (Below.refl _ _).alloc (Nat.le_refl _) _
  have hq0 : wa.heap[qb]? = some (.cells #[.int .i64 e.k, .int .i64 e.v, .int .i64 e.wt, .int .i64 e.un] 105 (0, 0)) := by rw [← hwa, ← hqb]; exact heap_alloc_new w2 _
  rw [hwa, hqb]
  have HQ := hide hq0
  have HA0 := hide (below_at hba HE0.out)
  have HA1 := hide (below_at hba HE1.out)
  have HBa := hide (HB2.out.trans (hba.mono HB2.out.size))
  have HRa := hide (Reads.past HR2.out hba)
  obtain ⟨c0, c1, _, _⟩ := box2 (below_at hba HE0.out)
  have hpq : p + 2 ≤ qb := by omega
  clear hwa hqb hba hq0 d0 d1
  go_wp2_with fail
  refine (without_ref wa room A n c hnc a b e HRa.out (by omega) a.length rfl).mono ?_
  rintro r w3 ⟨v3, rfl, B, m, cc, rfl, hm, hrow, hb3⟩
  have hmn : m ≤ 4398046511103 := by have := HNl.out; simp at this hm; omega
  have HM := hide hm
  clear hm
  have g0 := below_at hb3 HA0.out
  have g1 := below_at hb3 HA1.out
  have gq := below_at hb3 HQ.out
  obtain ⟨k0, k1, f0, f1⟩ := box2 g0
  have hbx := box2_set g0 (.int .i64 room) (.slice B m cc)
  have hbr := row_set2 hrow g0 (by decide) (.int .i64 room) (.slice B m cc)
  have hbl := below_set2 (HBa.out.trans (hb3.mono HBa.out.size)) (show w.heap.size ≤ p by omega) (.int .i64 room) (.slice B m cc)
  have hsa := HBa.out.size
  have hs3 := hb3.size
  have hq5 : ((w3.setCell ⟨p, 0, none⟩ (.int .i64 room)).setCell ⟨p, 1, none⟩ (.slice B m cc)).heap[qb]? = some (.cells #[.int .i64 e.k, .int .i64 e.v, .int .i64 e.wt, .int .i64 e.un] 105 (0, 0)) := by
    rw [Below.heap_setCell _ _ _ _ (show qb ≠ p by omega), Below.heap_setCell _ _ _ _ (show qb ≠ p by omega)]
    exact gq
  have hp5 : ((w3.setCell ⟨p, 0, none⟩ (.int .i64 room)).setCell ⟨p, 1, none⟩ (.slice B m cc)).heap[p + 1]? = some (.cells #[.int .i64 0, .slice none 0 0] 46 (0, 0)) := by
    rw [Below.heap_setCell _ _ _ _ (show p + 1 ≠ p by omega), Below.heap_setCell _ _ _ _ (show p + 1 ≠ p by omega)]
    exact g1
  go_upto_region 6 with fail
  obtain ⟨w5, hw5⟩ : ∃ w5, (w3.setCell ⟨p, 0, none⟩ (.int .i64 room)).setCell ⟨p, 1, none⟩ (.slice B m cc) = w5 := ⟨_, rfl⟩
  rw [hw5] at hbx hbr hbl hq5 hp5
  rw [hw5]
  have HX := hide hbx
  have HRow := hide hbr
  have HBl := hide hbl
  have HP5 := hide hp5
  obtain ⟨c0, c1, _, _⟩ := box2 hbx
  obtain ⟨q0, q1, q2, q3⟩ := box4 hq5
  have HQ5 := hide hq5
  obtain ⟨r0, r1, t0, t1⟩ := box2 hp5
  clear hbx hbr hbl hq5 hp5 hw5 g0 g1 gq k0 k1 f0 f1 hrow hb3
  have hng : ¬ e.un ≤ now := by omega
  go_upto_region 8 with fail
  have hSd : w5.drew.cell? ⟨p, 0, none⟩ = some (.int .i64 room) ∧ w5.drew.cell? ⟨p, 1, none⟩ = some (.slice B m cc) ∧ w5.drew.cell? ⟨qb, 0, none⟩ = some (.int .i64 e.k) ∧ w5.drew.cell? ⟨qb, 1, none⟩ = some (.int .i64 e.v) ∧ w5.drew.cell? ⟨qb, 2, none⟩ = some (.int .i64 e.wt) ∧ w5.drew.cell? ⟨qb, 3, none⟩ = some (.int .i64 e.un) := ⟨c0, c1, q0, q1, q2, q3⟩
  have HRd : Hid (Reads w5.drew 4 (.slice B m cc) m (rowsC (a ++ b))) := hide HRow.out.reads
  have HXd : Hid (w5.drew.heap[p]? = some (.cells #[.int .i64 room, .slice B m cc] 46 (0, 0))) := HX
  have HPd : Hid (w5.drew.heap[p + 1]? = some (.cells #[.int .i64 0, .slice none 0 0] 46 (0, 0))) := HP5
  have HQd : Hid (w5.drew.heap[qb]? = some (.cells #[.int .i64 e.k, .int .i64 e.v, .int .i64 e.wt, .int .i64 e.un] 105 (0, 0))) := HQ5
  have HBd : Hid (Below w.heap.size w w5.drew) := hide HBl.out.drew
  go_region_held3 (fun w' => w'.cell? ⟨p, 0, none⟩ = some (.int .i64 room) ∧ w'.cell? ⟨p, 1, none⟩ = some (.slice B m cc) ∧ w'.cell? ⟨qb, 0, none⟩ = some (.int .i64 e.k) ∧ w'.cell? ⟨qb, 1, none⟩ = some (.int .i64 e.v) ∧ w'.cell? ⟨qb, 2, none⟩ = some (.int .i64 e.wt) ∧ w'.cell? ⟨qb, 3, none⟩ = some (.int .i64 e.un)) (first | assumption | with_reducible exact ⟨c0, c1, q0, q1, q2, q3⟩ | with_reducible exact hSt) (first
    | (go_at_call 70; refine (first_ref w5.drew room B m cc (a ++ b) e HRd.out hmn).mono ?_
       rintro r6 w6 ⟨v6, rfl, C, k6, ck, rfl, hk6, hrow6, hb6⟩
       have g0 := below_at hb6 HXd.out
       have g1 := below_at hb6 HPd.out
       have gq := below_at hb6 HQd.out
       have HB6 := hide (HBd.out.trans (hb6.mono HBd.out.size))
       have HRow6 := hide hrow6
       have HK6 := hide hk6
       have HP6 := hide g1
       clear c0 c1 q0 q1 q2 q3 r0 r1 t0 t1 hSd hrow6 hk6 hb6
       obtain ⟨c0, c1, _, _⟩ := box2 g0
       obtain ⟨q0, q1, q2, q3⟩ := box4 gq
       obtain ⟨r0, r1, t0, t1⟩ := box2 g1
       clear g0 g1 gq
       have hp1 : p ≠ p + 1 := by omega
       have hq1 : qb ≠ p + 1 := by omega
       have hSt := And.intro (cell_far2 (x := .int .i64 room) (y := .slice C k6 ck) c0 hp1) (And.intro (cell_far2 (x := .int .i64 room) (y := .slice C k6 ck) c1 hp1) (And.intro (cell_far2 (x := .int .i64 room) (y := .slice C k6 ck) q0 hq1) (And.intro (cell_far2 (x := .int .i64 room) (y := .slice C k6 ck) q1 hq1) (And.intro (cell_far2 (x := .int .i64 room) (y := .slice C k6 ck) q2 hq1) (cell_far2 (x := .int .i64 room) (y := .slice C k6 ck) q3 hq1))))))
    | fail)
  go_wp2
  have hb := box2_set HP6.out (.int .i64 room) (.slice C k6 ck)
  obtain ⟨m0, m1, _, _⟩ := box2 hb
  refine bodyPost_ret (by simp [results, Tryd.results53, go_sem, m0, m1]; rfl) rfl ?_
  refine ⟨_, rfl, C, k6, ck, rfl, HK6.out, ?_, below_set2 HB6.out (by omega) _ _⟩
  exact (row_set2 HRow6.out HP6.out (by decide) _ _).mono (fun k hk _ => by
    show w.heap.size ≤ k
    have h1 : w5.heap.size ≤ k := hk
    have h2 := HBl.out.size
    omega)
end Go.Proofs.YtlnbgahfelcbiaaDoor
