import Derived.Test.YtipfjnjjfojdgaaDoorTSame
import Derived.Test.YtipfjnjjfojdgaaDoorTText
import Derived.Test.YtipfjnjjfojdgaaDoorTHeld2
import Derived.Deep.DeepCutAuto
/- The document's Text. Printed by gen_rt.py. -/
namespace Go.Proofs.YtipfjnjjfojdgaaDoor
open Go Go.RowKit Go.Cu

theorem head_cat (O : List UInt8) (k n rd : Int) : (⟨O.toArray⟩ : ByteArray) ++ (⟨(Lib.itoa k).toArray⟩ ++ ⟨wri.toArray⟩ ++ ⟨(Lib.itoa n).toArray⟩ ++ ⟨rea.toArray⟩ ++ ⟨(Lib.itoa rd).toArray⟩) = ⟨(O ++ headL k n rd).toArray⟩ := by
  rw [str_cat, str_cat, str_cat, str_cat, str_cat]
  rfl
set_option maxRecDepth 100000 in
set_option maxHeartbeats 4000000 in
theorem text_ref (w : World) {F : Nat → Prop} {v : Value} {R : List Rw} (hd : Doc w F v R) (hn : R.length ≤ 1048577) (hT : Tab w) (hTo : Told R) :
    Calls Tryd.prog 26 #[v] w fun r w' => r = .returned (.string ⟨(textL R).toArray⟩) ∧ Below w.heap.size w w' := by
  obtain ⟨A, n, c, E, rfl, hrow, rfl, hsr, hby⟩ := hd.ex
  have hEl : E.length = n := drs_len hrow.reads
  rw [List.length_map] at hn
  obtain ⟨w1, p, hw1, hp, hb1, b0⟩ := one_box w A n c
  have HR := hide (Reads.past hrow.reads hb1)
  have HB1 := hide hb1
  have HT := hide (hT.past hb1)
  have HTo := hide hTo
  have HEl := hide hEl
  have hn2 : n ≤ 1048577 := by omega
  obtain ⟨c0, _⟩ := box1 b0
  clear hrow hby hsr hb1 b0 hd hEl hT hTo hn
  go_enter Tryd.func26, Tryd.ntmps26
  go_upto_region 1 with fail
  try rw [hw1]
  try rw [hp]
  clear hw1 hp
  go_wp2_with fail
  go_loopw [3, 4] (fun v t wr => ∃ i : Nat, i ≤ n ∧ t = .int .i64 i ∧ ∃ O, v = .string ⟨O.toArray⟩ ∧ Hid (O = textL ((E.map DR.rw).take i) ∧ Below w1.heap.size w1 wr)) (fun _ t _ => n - (intOf t).toNat)
  case atStart => exact ⟨0, Nat.zero_le _, rfl, [], rfl, hide ⟨rfl, Below.refl _ _⟩⟩
  case round =>
    obtain ⟨i, hi, rfl, O, rfl, HG⟩ := hrel
    by_cases hlt : i < n
    · obtain ⟨e, he⟩ : ∃ e, E[i]? = some e := ⟨_, List.getElem?_eq_getElem (by have := HEl.out; omega)⟩
      have HR2 : Hid ((E.map DR.rw)[i]? = some e.rw) := hide (by rw [List.getElem?_map, he]; rfl)
      have hto := HTo.out e.rw (List.mem_of_getElem? HR2.out)
      have hOl : O.length ≤ 92 * i := by
        have a2 : Told ((E.map DR.rw).take i) := fun x hx => HTo.out x (List.mem_of_mem_take hx)
        have h := textL_len a2
        rw [← HG.out.1, List.length_take] at h
        have : min i (E.map DR.rw).length ≤ i := Nat.min_le_left _ _
        exact Nat.le_trans h (Nat.mul_le_mul_left 92 this)
      have hhl : (headL e.k e.bs.length e.rd).length ≤ 78 := (lineR_len hto).1
      have HTo1 := hide hto
      have HU := hide (drs_us he)
      have HRr := hide (Reads.past HR.out HG.out.2)
      have HHl := hide hhl
      have HOl := hide hOl
      have z0 := cell_later HG.out.2 c0
      obtain ⟨w4, hw4⟩ : ∃ w4, wr.alloc (.cells (drA e) 54) = w4 := ⟨_, rfl⟩
      obtain ⟨q, hq⟩ : ∃ q, wr.heap.size = q := ⟨_, rfl⟩
      have HBox : Hid (w4.heap[q]? = some (.cells (drA e) 54 (0, 0))) := hide (by rw [← hw4, ← hq]; exact heap_alloc_new wr _)
      have HB4 : Hid (Below w1.heap.size w1 w4) := hide (by rw [← hw4]; exact HG.out.2.alloc HG.out.2.size _)
      clear he hto hhl hOl
      go_upto_region 6 with (first
        | ((with_reducible refine at_index rfl ?_); refine wpList_atS rfl rfl _ _ 42 54 _ rfl rfl rfl (by simp) Tryd.underlying42 (by decide) size_dr agg_dr rfl HRr.out rfl (by omega) (by omega) (us := [.int .i64 e.k, .slice e.A e.bs.length e.c, .int .i64 e.rd, .bool e.cl, .bool e.en]) rfl HU.out ?_; intro zz)
        | fail)
      try rw [hw4]
      try rw [hq]
      clear hw4 hq z0
      go_cut [3] (fun v wx => ∃ P, v = .string ⟨P.toArray⟩ ∧ Hid (P = O ++ headL e.k e.bs.length e.rd ∧ Below w4.heap.size w4 wx))
      case first =>
        obtain ⟨⟨a0, a1, a2, a3, a4⟩, _⟩ := box5 (show w4.drew.heap[q]? = _ from HBox.out)
        have hhl := HHl.out
        have hol := HOl.out
        simp only [headL, List.length_append, wri, rea, List.length_cons, List.length_nil] at hhl
        have l1 : ¬ (9223372036854775807 < (Lib.itoa e.k).length + 9) := by omega
        have l2 : ¬ (9223372036854775807 < (Lib.itoa e.k).length + 9 + (Lib.itoa e.bs.length).length) := by omega
        have l3 : ¬ (9223372036854775807 < (Lib.itoa e.k).length + 9 + (Lib.itoa e.bs.length).length + 6) := by omega
        have l4 : ¬ (9223372036854775807 < (Lib.itoa e.k).length + 9 + (Lib.itoa e.bs.length).length + 6 + (Lib.itoa e.rd).length) := by omega
        have l5 : ¬ (9223372036854775807 < O.length + ((Lib.itoa e.k).length + 9 + (Lib.itoa e.bs.length).length + 6 + (Lib.itoa e.rd).length)) := by omega
        have HTd := hide (HT.out.past HB4.out.drew)
        have hHeld := And.intro a0 (And.intro a1 a2)
        clear hhl hol a3 a4
        have HB4x : Hid (Below w4.heap.size w4 w4.drew) := hide ((Below.refl _ _).drew)
        refine wp_region_held_n (n := 17) (l := #[false, false, false, false, false, false, false, false, false, false, false, false, false, false, false, false, false]) (S := (fun w' => w'.cell? ⟨q, 0, none⟩ = some (.int .i64 e.k) ∧ w'.cell? ⟨q, 1, none⟩ = some (.slice e.A e.bs.length e.c) ∧ w'.cell? ⟨q, 2, none⟩ = some (.int .i64 e.rd))) rfl rfl (by kernel_rfl) ⟨a0, a1, a2⟩ ?_
        refine wpAnyH_yields (i := 0) (oi := ?_) (v := ?_) ?_ (by kernel_rfl) (by kernel_rfl) (by kernel_rfl) (by assumption) ?_ ?_ ?_ ?_
        rotate_left 2
        · (simp only [List.getElem?_toArray, List.getElem?_cons_zero] <;> exact rfl)
        · rfl
        · (intro w' hSw; obtain ⟨g0, g1, g2⟩ := hSw; go_simp <;> with_reducible rfl)
        · exact fun _ _ _ h => h
        simp only [Act.put, List.setIfInBounds_toArray, List.set]
        refine wpAnyH_yields (i := 1) (oi := ?_) (v := ?_) ?_ (by kernel_rfl) (by kernel_rfl) (by kernel_rfl) (by assumption) ?_ ?_ ?_ ?_
        rotate_left 2
        · (simp only [List.getElem?_toArray, List.getElem?_cons_succ, List.getElem?_cons_zero] <;> exact rfl)
        · rfl
        · (intro w' hSw; obtain ⟨g0, g1, g2⟩ := hSw; go_simp <;> with_reducible rfl)
        · exact fun _ _ _ h => h
        simp only [Act.put, List.setIfInBounds_toArray, List.set]
        refine wpAnyH_yields (i := 2) (oi := ?_) (v := ?_) ?_ (by kernel_rfl) (by kernel_rfl) (by kernel_rfl) (by assumption) ?_ ?_ ?_ ?_
        rotate_left 2
        · (simp only [List.getElem?_toArray, List.getElem?_cons_succ, List.getElem?_cons_zero] <;> exact rfl)
        · rfl
        · (intro w' hSw; obtain ⟨g0, g1, g2⟩ := hSw; go_simp <;> with_reducible rfl)
        · exact fun _ _ _ h => h
        simp only [Act.put, List.setIfInBounds_toArray, List.set]
        refine wpAnyH_yields (i := 5) (oi := ?_) (v := ?_) ?_ (by kernel_rfl) (by kernel_rfl) (by kernel_rfl) (by assumption) ?_ ?_ ?_ ?_
        rotate_left 2
        · (simp only [List.getElem?_toArray, List.getElem?_cons_succ, List.getElem?_cons_zero] <;> exact rfl)
        · rfl
        · (intro w' hSw; obtain ⟨g0, g1, g2⟩ := hSw; go_simp <;> with_reducible rfl)
        · exact fun _ _ _ h => h
        simp only [Act.put, List.setIfInBounds_toArray, List.set]
        refine wpAnyH_yields (i := 6) (oi := ?_) (v := ?_) ?_ (by kernel_rfl) (by kernel_rfl) (by kernel_rfl) (by assumption) ?_ ?_ ?_ ?_
        rotate_left 2
        · (simp only [List.getElem?_toArray, List.getElem?_cons_succ, List.getElem?_cons_zero] <;> exact rfl)
        · rfl
        · (intro w' hSw; obtain ⟨g0, g1, g2⟩ := hSw; go_simp <;> with_reducible rfl)
        · exact fun _ _ _ h => h
        simp only [Act.put, List.setIfInBounds_toArray, List.set]
        refine wpAnyH_yields (i := 7) (oi := ?_) (v := ?_) ?_ (by kernel_rfl) (by kernel_rfl) (by kernel_rfl) (by assumption) ?_ ?_ ?_ ?_
        rotate_left 2
        · (simp only [List.getElem?_toArray, List.getElem?_cons_succ, List.getElem?_cons_zero] <;> exact rfl)
        · rfl
        · (intro w' hSw; obtain ⟨g0, g1, g2⟩ := hSw; go_simp <;> with_reducible rfl)
        · exact fun _ _ _ h => h
        simp only [Act.put, List.setIfInBounds_toArray, List.set]
        refine wpAnyH_yields (i := 11) (oi := ?_) (v := ?_) ?_ (by kernel_rfl) (by kernel_rfl) (by kernel_rfl) (by assumption) ?_ ?_ ?_ ?_
        rotate_left 2
        · (simp only [List.getElem?_toArray, List.getElem?_cons_succ, List.getElem?_cons_zero] <;> exact rfl)
        · rfl
        · (intro w' hSw; obtain ⟨g0, g1, g2⟩ := hSw; go_simp <;> with_reducible rfl)
        · exact fun _ _ _ h => h
        simp only [Act.put, List.setIfInBounds_toArray, List.set]
        refine wpAnyH_yields (i := 12) (oi := ?_) (v := ?_) ?_ (by kernel_rfl) (by kernel_rfl) (by kernel_rfl) (by assumption) ?_ ?_ ?_ ?_
        rotate_left 2
        · (simp only [List.getElem?_toArray, List.getElem?_cons_succ, List.getElem?_cons_zero] <;> exact rfl)
        · rfl
        · (intro w' hSw; obtain ⟨g0, g1, g2⟩ := hSw; go_simp <;> with_reducible rfl)
        · exact fun _ _ _ h => h
        simp only [Act.put, List.setIfInBounds_toArray, List.set]
        refine wpAnyH_ready (rs := [3]) (by kernel_rfl) (by simp) (AllReadyH.cons (o := ?_) ?_ (fun K hK => ?_) AllReadyH.nil)
        rotate_left 1
        · (simp only [List.getElem?_toArray, List.getElem?_cons_succ, List.getElem?_cons_zero] <;> exact rfl)
        go_simp
        go_at_call 39
        refine (itoa_any w4.drew e.k HTo1.out.1 HTd.out).mono ?_
        rintro r wx1 ⟨rfl, hb⟩
        have HTd1 := hide (HTd.out.past hb)
        have HBd1 := hide (HB4x.out.trans (hb.mono HB4x.out.size))
        have b0 := cell_later hb a0
        have b1 := cell_later hb a1
        have b2 := cell_later hb a2
        clear hb hHeld a0 a1 a2
        refine hK.out _ _ (⟨b0, b1, b2⟩) (fun hHeld => ?_)
        clear hK K
        try simp only [List.setIfInBounds_toArray, List.set_cons_zero, List.set_cons_succ]
        refine wpAnyH_yields (i := 4) (oi := ?_) (v := ?_) ?_ (by kernel_rfl) (by kernel_rfl) (by kernel_rfl) (by assumption) ?_ ?_ ?_ ?_
        rotate_left 2
        · (simp only [List.getElem?_toArray, List.getElem?_cons_succ, List.getElem?_cons_zero] <;> exact rfl)
        · rfl
        · (intro w' hSw; obtain ⟨g0, g1, g2⟩ := hSw; go_simp <;> with_reducible rfl)
        · exact fun _ _ _ h => h
        simp only [Act.put, List.setIfInBounds_toArray, List.set]
        refine wpAnyH_ready (rs := [8]) (by kernel_rfl) (by simp) (AllReadyH.cons (o := ?_) ?_ (fun K hK => ?_) AllReadyH.nil)
        rotate_left 1
        · (simp only [List.getElem?_toArray, List.getElem?_cons_succ, List.getElem?_cons_zero] <;> exact rfl)
        go_simp
        go_at_call 39
        refine (itoa_any wx1 e.bs.length (wfi_nat HTo1.out.2.1) HTd1.out).mono ?_
        rintro r wx2 ⟨rfl, hb⟩
        have HTd2 := hide (HTd1.out.past hb)
        have HBd2 := hide (HBd1.out.trans (hb.mono HBd1.out.size))
        have c0 := cell_later hb b0
        have c1 := cell_later hb b1
        have c2 := cell_later hb b2
        clear hb hHeld b0 b1 b2
        refine hK.out _ _ (⟨c0, c1, c2⟩) (fun hHeld => ?_)
        clear hK K
        try simp only [List.setIfInBounds_toArray, List.set_cons_zero, List.set_cons_succ]
        refine wpAnyH_yields (i := 9) (oi := ?_) (v := ?_) ?_ (by kernel_rfl) (by kernel_rfl) (by kernel_rfl) (by assumption) ?_ ?_ ?_ ?_
        rotate_left 2
        · (simp only [List.getElem?_toArray, List.getElem?_cons_succ, List.getElem?_cons_zero] <;> exact rfl)
        · rfl
        · (intro w' hSw; obtain ⟨g0, g1, g2⟩ := hSw; go_simp <;> with_reducible rfl)
        · exact fun _ _ _ h => h
        simp only [Act.put, List.setIfInBounds_toArray, List.set]
        refine wpAnyH_yields (i := 10) (oi := ?_) (v := ?_) ?_ (by kernel_rfl) (by kernel_rfl) (by kernel_rfl) (by assumption) ?_ ?_ ?_ ?_
        rotate_left 2
        · (simp only [List.getElem?_toArray, List.getElem?_cons_succ, List.getElem?_cons_zero] <;> exact rfl)
        · rfl
        · (intro w' hSw; obtain ⟨g0, g1, g2⟩ := hSw; go_simp <;> with_reducible rfl)
        · exact fun _ _ _ h => h
        simp only [Act.put, List.setIfInBounds_toArray, List.set]
        refine wpAnyH_ready (rs := [13]) (by kernel_rfl) (by simp) (AllReadyH.cons (o := ?_) ?_ (fun K hK => ?_) AllReadyH.nil)
        rotate_left 1
        · (simp only [List.getElem?_toArray, List.getElem?_cons_succ, List.getElem?_cons_zero] <;> exact rfl)
        go_simp
        go_at_call 39
        refine (itoa_any wx2 e.rd (wfi_nat (Nat.le_trans HTo1.out.2.2 HTo1.out.2.1)) HTd2.out).mono ?_
        rintro r wx3 ⟨rfl, hb⟩
        have HTd3 := hide (HTd2.out.past hb)
        have HBd3 := hide (HBd2.out.trans (hb.mono HBd2.out.size))
        have d0 := cell_later hb c0
        have d1 := cell_later hb c1
        have d2 := cell_later hb c2
        clear hb hHeld c0 c1 c2
        refine hK.out _ _ (⟨d0, d1, d2⟩) (fun hHeld => ?_)
        clear hK K
        try simp only [List.setIfInBounds_toArray, List.set_cons_zero, List.set_cons_succ]
        refine wpAnyH_yields (i := 14) (oi := ?_) (v := ?_) ?_ (by kernel_rfl) (by kernel_rfl) (by kernel_rfl) (by assumption) ?_ ?_ ?_ ?_
        rotate_left 2
        · (simp only [List.getElem?_toArray, List.getElem?_cons_succ, List.getElem?_cons_zero] <;> exact rfl)
        · rfl
        · (intro w' hSw; obtain ⟨g0, g1, g2⟩ := hSw; go_simp <;> with_reducible rfl)
        · exact fun _ _ _ h => h
        simp only [Act.put, List.setIfInBounds_toArray, List.set]
        refine wpAnyH_yields (i := 15) (oi := ?_) (v := ?_) ?_ (by kernel_rfl) (by kernel_rfl) (by kernel_rfl) (by assumption) ?_ ?_ ?_ ?_
        rotate_left 2
        · (simp only [List.getElem?_toArray, List.getElem?_cons_succ, List.getElem?_cons_zero] <;> exact rfl)
        · rfl
        · (intro w' hSw; obtain ⟨g0, g1, g2⟩ := hSw; go_simp <;> with_reducible rfl)
        · exact fun _ _ _ h => h
        simp only [Act.put, List.setIfInBounds_toArray, List.set]
        refine wpAnyH_yields (i := 16) (oi := ?_) (v := ?_) ?_ (by kernel_rfl) (by kernel_rfl) (by kernel_rfl) (by assumption) ?_ ?_ ?_ ?_
        rotate_left 2
        · (simp only [List.getElem?_toArray, List.getElem?_cons_succ, List.getElem?_cons_zero] <;> exact rfl)
        · rfl
        · (intro w' hSw; obtain ⟨g0, g1, g2⟩ := hSw; go_simp <;> with_reducible rfl)
        · exact fun _ _ _ h => h
        simp only [Act.put, List.setIfInBounds_toArray, List.set]
        refine wpAnyH_done (by kernel_rfl) ?_ _
        go_wp2
        go_meet
        case rel => exact ⟨_, congrArg Value.string (head_cat O e.k e.bs.length e.rd), hide ⟨rfl, HBd3.out⟩⟩
      case rest =>
        obtain ⟨P, rfl, hx⟩ := hcut
        obtain ⟨wx, hwx⟩ : ∃ wx, wc = wx := ⟨_, rfl⟩
        rw [hwx] at hx
        rw [hwx]
        have HBx := hide (HB4.out.trans (hx.out.2.mono HB4.out.size))
        obtain ⟨⟨a0, a1, a2, a3, a4⟩, _⟩ := box5 (below_at hx.out.2 HBox.out)
        have hpl : P.length ≤ 92 * 1048577 + 78 := by
          rw [hx.out.1, List.length_append]
          have := HOl.out
          have := HHl.out
          omega
        have l7 : ¬ (9223372036854775807 < P.length + 7) := by omega
        have l76 : ¬ (9223372036854775807 < P.length + 7 + 6) := by omega
        have l761 : ¬ (9223372036854775807 < P.length + 7 + 6 + 1) := by omega
        have l71 : ¬ (9223372036854775807 < P.length + 7 + 1) := by omega
        have l6 : ¬ (9223372036854775807 < P.length + 6) := by omega
        have l61 : ¬ (9223372036854775807 < P.length + 6 + 1) := by omega
        have l1 : ¬ (9223372036854775807 < P.length + 1) := by omega
        have HPe := hide hx.out.1
        have HTk : Hid (textL ((E.map DR.rw).take (i + 1)) = P ++ ((if e.cl then clo else []) ++ (if e.en then enl else []) ++ [10])) := hide (by
          rw [textL_take HR2.out, HPe.out, ← HG.out.1]
          show O ++ lineL e.k e.bs.length e.rd e.cl e.en = _
          unfold lineL
          simp [List.append_assoc])
        obtain ⟨bc, hbc⟩ : ∃ bc, e.cl = bc := ⟨_, rfl⟩
        obtain ⟨be, hbe⟩ : ∃ be, e.en = be := ⟨_, rfl⟩
        rw [hbc] at a3 HTk
        rw [hbe] at a4 HTk
        clear hx hwx hpl a0 a1 a2 hbc hbe
        cases bc <;> cases be
        · have HV : Hid ((⟨P.toArray⟩ : ByteArray) ++ ⟨([10] : List UInt8).toArray⟩ = ⟨(textL ((E.map DR.rw).take (i + 1))).toArray⟩) := hide (by rw [str_cat, HTk.out]; simp)
          go_wp2
          go_round
          case rel => exact ⟨i + 1, by omega, by go_num, _, congrArg Value.string HV.out, hide ⟨rfl, HBx.out⟩⟩
          case measure => simp [intOf]; omega
        · have HV : Hid ((⟨P.toArray⟩ : ByteArray) ++ ⟨(enl : List UInt8).toArray⟩ ++ ⟨([10] : List UInt8).toArray⟩ = ⟨(textL ((E.map DR.rw).take (i + 1))).toArray⟩) := hide (by rw [str_cat, str_cat, HTk.out]; simp [List.append_assoc])
          go_wp2
          go_round
          case rel => exact ⟨i + 1, by omega, by go_num, _, congrArg Value.string HV.out, hide ⟨rfl, HBx.out⟩⟩
          case measure => simp [intOf]; omega
        · have HV : Hid ((⟨P.toArray⟩ : ByteArray) ++ ⟨(clo : List UInt8).toArray⟩ ++ ⟨([10] : List UInt8).toArray⟩ = ⟨(textL ((E.map DR.rw).take (i + 1))).toArray⟩) := hide (by rw [str_cat, str_cat, HTk.out]; simp [List.append_assoc])
          go_wp2
          go_round
          case rel => exact ⟨i + 1, by omega, by go_num, _, congrArg Value.string HV.out, hide ⟨rfl, HBx.out⟩⟩
          case measure => simp [intOf]; omega
        · have HV : Hid ((⟨P.toArray⟩ : ByteArray) ++ ⟨(clo : List UInt8).toArray⟩ ++ ⟨(enl : List UInt8).toArray⟩ ++ ⟨([10] : List UInt8).toArray⟩ = ⟨(textL ((E.map DR.rw).take (i + 1))).toArray⟩) := hide (by rw [str_cat, str_cat, str_cat, HTk.out]; simp [List.append_assoc])
          go_wp2
          go_round
          case rel => exact ⟨i + 1, by omega, by go_num, _, congrArg Value.string HV.out, hide ⟨rfl, HBx.out⟩⟩
          case measure => simp [intOf]; omega
    · obtain rfl : i = n := by omega
      have hO : O = textL (E.map DR.rw) := by rw [HG.out.1, List.take_of_length_le (by rw [List.length_map]; have := HEl.out; omega)]
      subst hO
      have z0 := cell_later HG.out.2 c0
      go_wp2
      go_ret
      exact ⟨rfl, HB1.out.trans (HG.out.2.mono HB1.out.size)⟩
end Go.Proofs.YtipfjnjjfojdgaaDoor
