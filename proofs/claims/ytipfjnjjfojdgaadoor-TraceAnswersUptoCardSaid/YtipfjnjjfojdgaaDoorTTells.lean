import Derived.Test.YtipfjnjjfojdgaaDoorTSame
import Derived.Test.YtipfjnjjfojdgaaDoorTNil
import Derived.Test.YtipfjnjjfojdgaaDoorTHeld2
/- The law's tells. Printed by gen_tt.py. -/
namespace Go.Proofs.YtipfjnjjfojdgaaDoor
open Go Go.RowKit Go.Cu

theorem ofR_none {E : List DR} {k : Int} (h : get DR.k E k = none) : ofR E k = dr0 k := by unfold ofR; rw [h]; rfl
set_option maxRecDepth 100000 in
set_option maxHeartbeats 4000000 in
theorem tells_any (w : World) {pv : Value} {D F : Nat → Prop} {v : Value} {R : List Rw} {N i : Nat} (h : HN w pv D R) (hd : Doc w F v R) (hw : Wl R N i) (hN : N ≤ 1048576) (hi : i ≤ 1048577) (k : Int) (hk : wfi k) :
    Calls Tryd.prog 22 #[pv, v, .int .i64 k] w fun r w' => r = .returned (.bool true) ∧ Below w.heap.size w w' := by
  obtain ⟨A, n, c, E, rfl, hrow, rfl, hsr, hby⟩ := hd.ex
  have hEl : E.length = n := drs_len hrow.reads
  have hn0 := hw.len
  rw [List.length_map] at hn0
  obtain ⟨w1, p, hw1, hp, hb1, b0⟩ := one_box w A n c
  have HOf := hide (of_r w1 A n c E (Reads.past hrow.reads hb1) (by omega) k)
  have HFill : ∀ w8, Below w1.heap.size w1 w8 → Hid _ := fun w8 hb8 => hide (row_filled1 hb8 (ofR E k))
  have HPast : ∀ wx, Below w.heap.size w wx → Hid _ := fun wx hb => hide (hn_past (h.past hb) k hk)
  have HRest1 : ∀ wx, Below w.heap.size w wx → Hid _ := fun wx hb => hide (hn_rest (h.past hb) hw hN k hk)
  have HRest2 : ∀ wx, Below w.heap.size w wx → Hid _ := fun wx hb => hide (rest_ref wx (hd.past hb) (by rw [List.length_map]; omega) k (hw.prd k) (Nat.le_trans (hw.pbig k) hN))
  have hpr : pastR (E.map DR.rw) k = (ofR E k).rw := (ofR_rw E k).symm
  have hok : (get Rw.k (E.map DR.rw) k).isSome = (get DR.k E k).isSome := by rw [get_drw]; cases get DR.k E k <;> rfl
  have HRb := hide (hw.rest_byte k)
  have HB1 := hide hb1
  have HB0 := hide b0
  have hzero : get DR.k E k = none → ofR E k = dr0 k := ofR_none
  have HZero := hide hzero
  obtain ⟨c0, _⟩ := box1 b0
  clear hrow hby hsr hb1 b0 hd h hw hzero
  go_enter Tryd.func22, Tryd.ntmps22
  go_upto_region 1 with fail
  try rw [hw1]
  try rw [hp]
  clear hw1 hp
  go_wp2_with fail
  refine HOf.out.mono ?_
  rintro r w8 ⟨rfl, hb8⟩
  obtain ⟨w9, q, wa, hw9, hq, hwa, hnew, hrb, hbl⟩ := (HFill w8 hb8).out
  obtain ⟨_, f0, f1, f2, f3, f4⟩ := box5 hnew
  have HRow := hide hrb
  have HBl := hide hbl
  have he : (get DR.k E k).getD (dr0 k) = ofR E k := rfl
  rw [he]
  clear HFill HOf hb8 hrb hnew he c0 hbl
  obtain ⟨e0, he0⟩ : ∃ e0, ofR E k = e0 := ⟨_, rfl⟩
  obtain ⟨ok, hoke⟩ : ∃ ok, (get DR.k E k).isSome = ok := ⟨_, rfl⟩
  rw [he0] at hwa HRow HZero hpr ⊢
  rw [hoke] at hok ⊢
  go_upto_region 2 with fail
  try rw [hwa]
  clear hw9 hq hwa f0 f1 f2 f3 f4
  have HBa := hide (HB1.out.trans (HBl.out.mono HB1.out.size))
  have hp1 : Calls Tryd.prog 16 #[pv, .int .i64 k] wa fun r w' => r = .returned (.tuple #[.agg #[.int .i64 e0.bs.length, .int .i64 e0.rd, .bool e0.cl, .bool e0.en], .bool ok]) ∧ Below wa.heap.size wa w' := by
    have h := (HPast wa HBa.out).out
    rw [hpr, hok] at h
    exact h
  clear HPast hpr
  go_wp2_with fail
  refine hp1.mono ?_
  rintro r w10 ⟨rfl, hb10⟩
  obtain ⟨w11, q1, wb, hw11, hq1, hwb, hnew, hset, hbl⟩ := past_filled hb10 e0.bs.length e0.rd e0.cl e0.en
  obtain ⟨_, f0, f1, f2, f3⟩ := box4 hnew
  have HSet1 := hide hset
  have HBl1 := hide hbl
  clear hp1 hb10 hnew hset hbl
  go_upto_region 3 with fail
  try rw [hwb]
  clear hw11 hq1 hwb f0 f1 f2 f3
  obtain ⟨w12, q2, wc, hw12, hq2, hwc, hnew, hset, hbl⟩ := past_filled (Below.refl wb.heap.size wb) 0 0 false false
  obtain ⟨_, f0, f1, f2, f3⟩ := box4 hnew
  have HSet2 := hide hset
  have HBl2 := hide hbl
  have HQ2 : Hid (wb.heap.size ≤ q2 ∧ q1 < wb.heap.size) := hide ⟨Nat.le_of_eq hq2, (Array.getElem?_eq_some_iff.1 HSet1.out).1⟩
  clear hnew hset hbl
  go_upto_region 4 with fail
  try rw [hwc]
  clear hw12 hq2 hwc f0 f1 f2 f3
  go_upto_if 25 with (fail)
  go_cut [10] (fun v wx => v = .bool ok ∧ Hid (wx.heap[q2]? = some (.cells #[.int .i64 e0.bs.length, .int .i64 e0.rd, .bool e0.cl, .bool e0.en] 36 (0, 0)) ∧ Below wb.heap.size wb wx))
  case first =>
    obtain ⟨⟨r0, r1, r2, r3, r4⟩, _⟩ := box5 (below_at (HBl1.out.trans (HBl2.out.mono HBl1.out.size)) HRow.out)
    obtain ⟨⟨k0, k1, k2, k3⟩, f0, f1, f2, f3⟩ := box4 HSet2.out
    cases ok with
    | true =>
      have HSet3 := hide (box4_set HSet2.out (.int .i64 e0.bs.length) (.int .i64 e0.rd) (.bool e0.cl) (.bool e0.en))
      have HBl3 := hide (below_set4 HBl2.out HQ2.out.1 (.int .i64 e0.bs.length) (.int .i64 e0.rd) (.bool e0.cl) (.bool e0.en))
      go_wp2
      go_meet
      case rel => exact ⟨rfl, hide ⟨HSet3.out, HBl3.out⟩⟩
    | false =>
      have hz : e0 = dr0 k := HZero.out (by cases hg : get DR.k E k with | none => rfl | some x => rw [hg] at hoke; cases hoke)
      have HZ : Hid (wc.heap[q2]? = some (.cells #[.int .i64 e0.bs.length, .int .i64 e0.rd, .bool e0.cl, .bool e0.en] 36 (0, 0))) := hide (by rw [hz]; exact HSet2.out)
      clear hz
      go_wp2
      go_meet
      case rel => exact ⟨rfl, hide ⟨HZ.out, HBl2.out⟩⟩
  case rest =>
    obtain ⟨rfl, hx⟩ := hcut
    obtain ⟨wd, hwd⟩ : ∃ wd, wc = wd := ⟨_, rfl⟩
    rw [hwd] at hx
    rw [hwd]
    obtain ⟨⟨a4, a5, a6, a7⟩, _⟩ := box4 (show wd.drew.heap[q2]? = _ from hx.out.1)
    have hbd := hx.out.2
    obtain ⟨⟨a0, a1, a2, a3⟩, _⟩ := box4 (show wd.drew.heap[q1]? = _ from below_at hbd.drew HSet1.out)
    have hb1d := HBl.out.trans ((HBl1.out.trans (hbd.mono HBl1.out.size)).mono HBl.out.size)
    obtain ⟨a8, _⟩ := box1 (show wd.drew.heap[p]? = _ from below_at hb1d.drew HB0.out)
    have HBd := hide (HB1.out.trans (hb1d.drew.mono HB1.out.size))
    have hr1 := (HRest1 wd.drew HBd.out).out
    have HHeld := hide (And.intro a0 (And.intro a1 (And.intro a2 (And.intro a3 (And.intro a4 (And.intro a5 (And.intro a6 (And.intro a7 a8))))))))
    clear hx hwd hbd hb1d
    go_upto_region 6 with fail
    have hHeld := HHeld.out
    refine wp_region_held_n (n := 20) (l := #[false, false, false, false, false, false, false, false, false, false, false, false, false, false, false, false, false, false, false, false]) (S := (fun w' => w'.cell? ⟨q1, 0, none⟩ = some (.int .i64 e0.bs.length) ∧ w'.cell? ⟨q1, 1, none⟩ = some (.int .i64 e0.rd) ∧ w'.cell? ⟨q1, 2, none⟩ = some (.bool e0.cl) ∧ w'.cell? ⟨q1, 3, none⟩ = some (.bool e0.en) ∧ w'.cell? ⟨q2, 0, none⟩ = some (.int .i64 e0.bs.length) ∧ w'.cell? ⟨q2, 1, none⟩ = some (.int .i64 e0.rd) ∧ w'.cell? ⟨q2, 2, none⟩ = some (.bool e0.cl) ∧ w'.cell? ⟨q2, 3, none⟩ = some (.bool e0.en) ∧ w'.cell? ⟨p, 0, none⟩ = some (.slice A n c))) rfl rfl (by kernel_rfl) ⟨a0, a1, a2, a3, a4, a5, a6, a7, a8⟩ ?_
    refine wpAnyH_yields (i := 0) (oi := ?_) (v := ?_) ?_ (by kernel_rfl) (by kernel_rfl) (by kernel_rfl) (by assumption) ?_ ?_ ?_ ?_
    rotate_left 2
    · (simp only [List.getElem?_toArray, List.getElem?_cons_zero] <;> exact rfl)
    · rfl
    · (intro w' hSw; obtain ⟨g0, g1, g2, g3, g4, g5, g6, g7, g8⟩ := hSw; go_simp <;> with_reducible rfl)
    · exact fun _ _ _ h => h
    simp only [Act.put, List.setIfInBounds_toArray, List.set]
    refine wpAnyH_yields (i := 1) (oi := ?_) (v := ?_) ?_ (by kernel_rfl) (by kernel_rfl) (by kernel_rfl) (by assumption) ?_ ?_ ?_ ?_
    rotate_left 2
    · (simp only [List.getElem?_toArray, List.getElem?_cons_succ, List.getElem?_cons_zero] <;> exact rfl)
    · rfl
    · (intro w' hSw; obtain ⟨g0, g1, g2, g3, g4, g5, g6, g7, g8⟩ := hSw; go_simp <;> with_reducible rfl)
    · exact fun _ _ _ h => h
    simp only [Act.put, List.setIfInBounds_toArray, List.set]
    refine wpAnyH_yields (i := 2) (oi := ?_) (v := ?_) ?_ (by kernel_rfl) (by kernel_rfl) (by kernel_rfl) (by assumption) ?_ ?_ ?_ ?_
    rotate_left 2
    · (simp only [List.getElem?_toArray, List.getElem?_cons_succ, List.getElem?_cons_zero] <;> exact rfl)
    · rfl
    · (intro w' hSw; obtain ⟨g0, g1, g2, g3, g4, g5, g6, g7, g8⟩ := hSw; go_simp <;> with_reducible rfl)
    · exact fun _ _ _ h => h
    simp only [Act.put, List.setIfInBounds_toArray, List.set]
    refine wpAnyH_yields (i := 3) (oi := ?_) (v := ?_) ?_ (by kernel_rfl) (by kernel_rfl) (by kernel_rfl) (by assumption) ?_ ?_ ?_ ?_
    rotate_left 2
    · (simp only [List.getElem?_toArray, List.getElem?_cons_succ, List.getElem?_cons_zero] <;> exact rfl)
    · rfl
    · (intro w' hSw; obtain ⟨g0, g1, g2, g3, g4, g5, g6, g7, g8⟩ := hSw; go_simp <;> with_reducible rfl)
    · exact fun _ _ _ h => h
    simp only [Act.put, List.setIfInBounds_toArray, List.set]
    refine wpAnyH_yields (i := 4) (oi := ?_) (v := ?_) ?_ (by kernel_rfl) (by kernel_rfl) (by kernel_rfl) (by assumption) ?_ ?_ ?_ ?_
    rotate_left 2
    · (simp only [List.getElem?_toArray, List.getElem?_cons_succ, List.getElem?_cons_zero] <;> exact rfl)
    · rfl
    · (intro w' hSw; obtain ⟨g0, g1, g2, g3, g4, g5, g6, g7, g8⟩ := hSw; go_simp <;> with_reducible rfl)
    · exact fun _ _ _ h => h
    simp only [Act.put, List.setIfInBounds_toArray, List.set]
    refine wpAnyH_yields (i := 5) (oi := ?_) (v := ?_) ?_ (by kernel_rfl) (by kernel_rfl) (by kernel_rfl) (by assumption) ?_ ?_ ?_ ?_
    rotate_left 2
    · (simp only [List.getElem?_toArray, List.getElem?_cons_succ, List.getElem?_cons_zero] <;> exact rfl)
    · rfl
    · (intro w' hSw; obtain ⟨g0, g1, g2, g3, g4, g5, g6, g7, g8⟩ := hSw; go_simp <;> with_reducible rfl)
    · exact fun _ _ _ h => h
    simp only [Act.put, List.setIfInBounds_toArray, List.set]
    refine wpAnyH_yields (i := 6) (oi := ?_) (v := ?_) ?_ (by kernel_rfl) (by kernel_rfl) (by kernel_rfl) (by assumption) ?_ ?_ ?_ ?_
    rotate_left 2
    · (simp only [List.getElem?_toArray, List.getElem?_cons_succ, List.getElem?_cons_zero] <;> exact rfl)
    · rfl
    · (intro w' hSw; obtain ⟨g0, g1, g2, g3, g4, g5, g6, g7, g8⟩ := hSw; go_simp <;> with_reducible rfl)
    · exact fun _ _ _ h => h
    simp only [Act.put, List.setIfInBounds_toArray, List.set]
    refine wpAnyH_yields (i := 7) (oi := ?_) (v := ?_) ?_ (by kernel_rfl) (by kernel_rfl) (by kernel_rfl) (by assumption) ?_ ?_ ?_ ?_
    rotate_left 2
    · (simp only [List.getElem?_toArray, List.getElem?_cons_succ, List.getElem?_cons_zero] <;> exact rfl)
    · rfl
    · (intro w' hSw; obtain ⟨g0, g1, g2, g3, g4, g5, g6, g7, g8⟩ := hSw; go_simp <;> with_reducible rfl)
    · exact fun _ _ _ h => h
    simp only [Act.put, List.setIfInBounds_toArray, List.set]
    refine wpAnyH_yields (i := 8) (oi := ?_) (v := ?_) ?_ (by kernel_rfl) (by kernel_rfl) (by kernel_rfl) (by assumption) ?_ ?_ ?_ ?_
    rotate_left 2
    · (simp only [List.getElem?_toArray, List.getElem?_cons_succ, List.getElem?_cons_zero] <;> exact rfl)
    · rfl
    · (intro w' hSw; obtain ⟨g0, g1, g2, g3, g4, g5, g6, g7, g8⟩ := hSw; go_simp <;> with_reducible rfl)
    · exact fun _ _ _ h => h
    simp only [Act.put, List.setIfInBounds_toArray, List.set]
    refine wpAnyH_yields (i := 9) (oi := ?_) (v := ?_) ?_ (by kernel_rfl) (by kernel_rfl) (by kernel_rfl) (by assumption) ?_ ?_ ?_ ?_
    rotate_left 2
    · (simp only [List.getElem?_toArray, List.getElem?_cons_succ, List.getElem?_cons_zero] <;> exact rfl)
    · rfl
    · (intro w' hSw; obtain ⟨g0, g1, g2, g3, g4, g5, g6, g7, g8⟩ := hSw; go_simp <;> with_reducible rfl)
    · exact fun _ _ _ h => h
    simp only [Act.put, List.setIfInBounds_toArray, List.set]
    refine wpAnyH_yields (i := 10) (oi := ?_) (v := ?_) ?_ (by kernel_rfl) (by kernel_rfl) (by kernel_rfl) (by assumption) ?_ ?_ ?_ ?_
    rotate_left 2
    · (simp only [List.getElem?_toArray, List.getElem?_cons_succ, List.getElem?_cons_zero] <;> exact rfl)
    · rfl
    · (intro w' hSw; obtain ⟨g0, g1, g2, g3, g4, g5, g6, g7, g8⟩ := hSw; go_simp <;> with_reducible rfl)
    · exact fun _ _ _ h => h
    simp only [Act.put, List.setIfInBounds_toArray, List.set]
    refine wpAnyH_yields (i := 13) (oi := ?_) (v := ?_) ?_ (by kernel_rfl) (by kernel_rfl) (by kernel_rfl) (by assumption) ?_ ?_ ?_ ?_
    rotate_left 2
    · (simp only [List.getElem?_toArray, List.getElem?_cons_succ, List.getElem?_cons_zero] <;> exact rfl)
    · rfl
    · (intro w' hSw; obtain ⟨g0, g1, g2, g3, g4, g5, g6, g7, g8⟩ := hSw; go_simp <;> with_reducible rfl)
    · exact fun _ _ _ h => h
    simp only [Act.put, List.setIfInBounds_toArray, List.set]
    refine wpAnyH_yields (i := 14) (oi := ?_) (v := ?_) ?_ (by kernel_rfl) (by kernel_rfl) (by kernel_rfl) (by assumption) ?_ ?_ ?_ ?_
    rotate_left 2
    · (simp only [List.getElem?_toArray, List.getElem?_cons_succ, List.getElem?_cons_zero] <;> exact rfl)
    · rfl
    · (intro w' hSw; obtain ⟨g0, g1, g2, g3, g4, g5, g6, g7, g8⟩ := hSw; go_simp <;> with_reducible rfl)
    · exact fun _ _ _ h => h
    simp only [Act.put, List.setIfInBounds_toArray, List.set]
    refine wpAnyH_ready (rs := [11]) (by kernel_rfl) (by simp) (AllReadyH.cons (o := ?_) ?_ (fun K hK => ?_) AllReadyH.nil)
    rotate_left 1
    · (simp only [List.getElem?_toArray, List.getElem?_cons_succ, List.getElem?_cons_zero] <;> exact rfl)
    go_simp
    go_at_call 11
    refine hr1.mono ?_
    rintro r wz ⟨Az, dz, rfl, _, hv, hbz⟩
    have cvA := run_str hv.reads HRb.out
    have HVA := hide hv.reads
    have HBz := hide (HBd.out.trans (hbz.mono HBd.out.size))
    have hr2 := (HRest2 wz HBz.out).out
    have z0 := cell_later hbz a0
    have z1 := cell_later hbz a1
    have z2 := cell_later hbz a2
    have z3 := cell_later hbz a3
    have z4 := cell_later hbz a4
    have z5 := cell_later hbz a5
    have z6 := cell_later hbz a6
    have z7 := cell_later hbz a7
    have z8 := cell_later hbz a8
    clear hv hbz hr1 a0 a1 a2 a3 a4 a5 a6 a7 a8 hHeld
    refine hK.out _ _ (⟨z0, z1, z2, z3, z4, z5, z6, z7, z8⟩) (fun hHeld => ?_)
    clear hK K
    try simp only [List.setIfInBounds_toArray, List.set_cons_zero, List.set_cons_succ]
    refine wpAnyH_more (S' := (fun w' => (w'.cell? ⟨q1, 0, none⟩ = some (.int .i64 e0.bs.length) ∧ w'.cell? ⟨q1, 1, none⟩ = some (.int .i64 e0.rd) ∧ w'.cell? ⟨q1, 2, none⟩ = some (.bool e0.cl) ∧ w'.cell? ⟨q1, 3, none⟩ = some (.bool e0.en) ∧ w'.cell? ⟨q2, 0, none⟩ = some (.int .i64 e0.bs.length) ∧ w'.cell? ⟨q2, 1, none⟩ = some (.int .i64 e0.rd) ∧ w'.cell? ⟨q2, 2, none⟩ = some (.bool e0.cl) ∧ w'.cell? ⟨q2, 3, none⟩ = some (.bool e0.en) ∧ w'.cell? ⟨p, 0, none⟩ = some (.slice A n c)) ∧ (convert 26 9 (.slice Az (restR (E.map DR.rw) k).length dz)).run Tryd.prog w' = .ok (.string ⟨(Lib.bytesOf (restR (E.map DR.rw) k)).toArray⟩) w')) (fun w h => h.1) _ _ _ _ ?_
    have hHeld := And.intro hHeld cvA
    refine wpAnyH_yields (i := 12) (oi := ?_) (v := ?_) ?_ (by kernel_rfl) (by kernel_rfl) (by kernel_rfl) (by assumption) ?_ ?_ ?_ ?_
    rotate_left 2
    · (simp only [List.getElem?_toArray, List.getElem?_cons_succ, List.getElem?_cons_zero] <;> exact rfl)
    · rfl
    · (intro w' hSw; obtain ⟨⟨g0, g1, g2, g3, g4, g5, g6, g7, g8⟩, g9⟩ := hSw; go_simp <;> with_reducible rfl)
    · exact fun _ _ _ h => h
    simp only [Act.put, List.setIfInBounds_toArray, List.set]
    refine wpAnyH_ready (rs := [15]) (by kernel_rfl) (by simp) (AllReadyH.cons (o := ?_) ?_ (fun K hK => ?_) AllReadyH.nil)
    rotate_left 1
    · (simp only [List.getElem?_toArray, List.getElem?_cons_succ, List.getElem?_cons_zero] <;> exact rfl)
    go_simp
    go_at_call 18
    refine hr2.mono ?_
    rintro r wy ⟨Ay, dy, rfl, _, hv, hby⟩
    have cvB := run_str hv.reads HRb.out
    have cvA2 := run_str (Reads.past HVA.out hby) HRb.out
    have HBy := hide (HBz.out.trans (hby.mono HBz.out.size))
    have y0 := cell_later hby z0
    have y1 := cell_later hby z1
    have y2 := cell_later hby z2
    have y3 := cell_later hby z3
    have y4 := cell_later hby z4
    have y5 := cell_later hby z5
    have y6 := cell_later hby z6
    have y7 := cell_later hby z7
    have y8 := cell_later hby z8
    clear hv hby hr2 z0 z1 z2 z3 z4 z5 z6 z7 z8 cvA hHeld
    refine hK.out _ _ (⟨⟨y0, y1, y2, y3, y4, y5, y6, y7, y8⟩, cvA2⟩) (fun hHeld => ?_)
    clear hK K
    try simp only [List.setIfInBounds_toArray, List.set_cons_zero, List.set_cons_succ]
    refine wpAnyH_ready (rs := [16]) (by kernel_rfl) (by simp) (AllReadyH.cons (o := ?_) ?_ (fun K hK => ?_) AllReadyH.nil)
    rotate_left 1
    · (simp only [List.getElem?_toArray, List.getElem?_cons_succ, List.getElem?_cons_zero] <;> exact rfl)
    go_simp
    refine hK.out _ _ (⟨⟨y0, y1, y2, y3, y4, y5, y6, y7, y8⟩, cvA2⟩) (fun hHeld => ?_)
    clear hK K
    try simp only [List.setIfInBounds_toArray, List.set_cons_zero, List.set_cons_succ]
    refine wpAnyH_yields (i := 17) (oi := ?_) (v := ?_) ?_ (by kernel_rfl) (by kernel_rfl) (by kernel_rfl) (by assumption) ?_ ?_ ?_ ?_
    rotate_left 2
    · (simp only [List.getElem?_toArray, List.getElem?_cons_succ, List.getElem?_cons_zero] <;> exact rfl)
    · rfl
    · (intro w' hSw; obtain ⟨⟨g0, g1, g2, g3, g4, g5, g6, g7, g8⟩, g9⟩ := hSw; go_simp <;> with_reducible rfl)
    · exact fun _ _ _ h => h
    simp only [Act.put, List.setIfInBounds_toArray, List.set]
    refine wpAnyH_yields (i := 18) (oi := ?_) (v := ?_) ?_ (by kernel_rfl) (by kernel_rfl) (by kernel_rfl) (by assumption) ?_ ?_ ?_ ?_
    rotate_left 2
    · (simp only [List.getElem?_toArray, List.getElem?_cons_succ, List.getElem?_cons_zero] <;> exact rfl)
    · rfl
    · (intro w' hSw; obtain ⟨⟨g0, g1, g2, g3, g4, g5, g6, g7, g8⟩, g9⟩ := hSw; go_simp <;> with_reducible rfl)
    · exact fun _ _ _ h => h
    simp only [Act.put, List.setIfInBounds_toArray, List.set]
    refine wpAnyH_yields (i := 19) (oi := ?_) (v := ?_) ?_ (by kernel_rfl) (by kernel_rfl) (by kernel_rfl) (by assumption) ?_ ?_ ?_ ?_
    rotate_left 2
    · (simp only [List.getElem?_toArray, List.getElem?_cons_succ, List.getElem?_cons_zero] <;> exact rfl)
    · rfl
    · (intro w' hSw; obtain ⟨⟨g0, g1, g2, g3, g4, g5, g6, g7, g8⟩, g9⟩ := hSw; go_simp <;> with_reducible rfl)
    · exact fun _ _ _ h => h
    simp only [Act.put, List.setIfInBounds_toArray, List.set]
    refine wpAnyH_done (by kernel_rfl) ?_ _
    go_wp2
    go_ret
    exact ⟨rfl, HBy.out⟩
end Go.Proofs.YtipfjnjjfojdgaaDoor
