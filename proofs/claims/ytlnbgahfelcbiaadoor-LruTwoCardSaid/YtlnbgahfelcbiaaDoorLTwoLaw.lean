/-
  LruTwo: for every room and two scripts the law returns true: two caches, called in turns, don't hear of one another.
-/
import Derived.Test.YtlnbgahfelcbiaaDoorLDisj
import Derived.Deep.CutBlock
namespace Go.Proofs.YtlnbgahfelcbiaaDoor.lruTwo
open Go Go.RowKit Go.Cu Go.Proofs.YtlnbgahfelcbiaaDoor Go.Proofs.YtlnbgahfelcbiaaDoor.errs

/-- three caches -/
structure T3 (w0 w : World) (a ma b mb c mc : Nat) (room : Int) (La Lb Lc : List LE) : Prop where
  ha : C1 w0 w a ma room La
  hb : C1 w0 w b mb room Lb
  hc : C1 w0 w c mc room Lc
  ab : Disj a ma La b mb Lb
  ac : Disj a ma La c mc Lc
  bc : Disj b mb Lb c mc Lc
  z : zs La = zs Lc
section
variable {w0 w w' : World} {a ma b mb c mc : Nat} {room : Int} {La Lb Lc L' : List LE}
theorem T3.past (h : T3 w0 w a ma b mb c mc room La Lb Lc) (hw : Below w.heap.size w w') : T3 w0 w' a ma b mb c mc room La Lb Lc := ⟨h.ha.past hw, h.hb.past hw, h.hc.past hw, h.ab, h.ac, h.bc, h.z⟩
end

set_option maxRecDepth 10000 in
set_option maxHeartbeats 8000000 in
theorem walk_good (w : World) (adr : Nat → Addr) (hS : Sent w adr) (wg : Int) (hge : 0 ≤ wg) (hwt : wg ≤ 9223372036854775807) (sv sv2 : Value) (n n2 : Nat) (ops ops2 : List OpD) (ho : Ops w sv n ops) (ho2 : Ops w sv2 n2 ops2) (hn : n ≤ 3518437208780) (hn2 : n2 ≤ 3518437208780) :
    Calls Tryd.prog 9 #[.int .i64 wg, sv, sv2] w fun e w' => e = .returned (.bool true) ∧ Below w.heap.size w w' := by
  have HOp := hide ho
  have HOp2 := hide ho2
  have HS := hide hS
  obtain ⟨SA, sc, rfl⟩ := ho.reads.shape
  obtain ⟨SB2, sc2, rfl⟩ := ho2.reads.shape
  clear ho ho2 hS
  go_enter Tryd.func9, Tryd.ntmps9
  go_wp2_with fail
  refine (awake_true w adr HS.out).mono ?_
  rintro e w1 ⟨rfl, hb1⟩
  have HB1 := hide hb1
  clear hb1
  go_wp2_with fail
  refine (new_ok w1 wg hge hwt).mono ?_
  rintro e w2 ⟨a, rfl, ma, hc2, hm2, hcl2, hb2⟩
  have HA2 := hide (C1.made HB1.out hc2 hm2 hcl2 hb2)
  clear hb2 hc2 hm2 hcl2
  go_wp2_with fail
  refine (new_ok w2 wg hge hwt).mono ?_
  rintro e w3 ⟨b, rfl, mb, hc3, hm3, hcl3, hb3⟩
  have HA3 := hide (HA2.out.past hb3)
  have HB3 := hide (C1.made HA2.out.below hc3 hm3 hcl3 hb3)
  have HD3 := hide (disj_made HA2.out hm3 hcl3)
  clear hb3 hc3 hm3 hcl3
  go_wp2_with fail
  refine (new_ok w3 wg hge hwt).mono ?_
  rintro e w4 ⟨c, rfl, mc, hc4, hm4, hcl4, hb4⟩
  have HT4 : Hid (T3 w w4 a ma b mb c mc wg [] [] []) := hide ⟨HA3.out.past hb4, HB3.out.past hb4, C1.made HA3.out.below hc4 hm4 hcl4 hb4, HD3.out, disj_made HA3.out hm4 hcl4, disj_made HB3.out hm4 hcl4, rfl⟩
  clear hb4 hc4 hm4 hcl4
  go_wp2_with fail
  go_loopw [13] (fun v13 wr => ∃ i : Nat, i ≤ 3518437208780 ∧ v13 = .int .i64 i ∧ Hid (∃ La Lb Lc, La.length ≤ i ∧ Lb.length ≤ i ∧ Lc.length ≤ i ∧ T3 w wr a ma b mb c mc wg La Lb Lc)) (fun v13 _ => 3518437208780 - (intOf v13).toNat)
  case atStart => exact ⟨0, Nat.zero_le _, rfl, hide ⟨[], [], [], Nat.le_refl _, Nat.le_refl _, Nat.le_refl _, HT4.out⟩⟩
  case round =>
    clear HT4 HA2 HA3 HB3 HD3
    obtain ⟨i, hi2, rfl, hst⟩ := hrel
    obtain ⟨La, Lb, Lc, hla, hlb, hlc, hT⟩ := hst.out
    have HT := hide hT
    clear hst hT
    by_cases h1 : i < n
    · by_cases h2 : i < n2
      · obtain ⟨o, hoi⟩ : ∃ o, ops[i]? = some o := ⟨_, List.getElem?_eq_getElem (by rw [HOp.out.length]; exact h1)⟩
        have hwf := (HOp.out.each o (List.mem_of_getElem? hoi)).2.1
        have HU := hide (flat_get opCell_length hoi)
        have HRd := hide (Reads.past HOp.out.reads HT.out.ha.below)
        clear hoi
        go_wp2_with (first
          | ((with_reducible refine at_index rfl ?_); refine wpList_atS rfl rfl _ _ 22 31 _ rfl rfl rfl (by simp) Tryd.underlying22 (by decide) size_op agg_op rfl HRd.out rfl (by omega) (by omega) (us := [.int .i64 o.kd, .int .i64 o.k, .int .i64 o.v, .int .i64 o.wt, .int .i64 o.un]) rfl HU.out ?_; intro zz)
          | fail)
        refine (act_any _ a ma wg La HT.out.ha.lc (by omega) adr (HS.out.below HT.out.ha.below) o hwf).mono ?_
        rintro e w5 ⟨rfl, La5, hl5, hz5, hm5, hf5, hle5⟩
        have q1 := HT.out.hb.beside HT.out.ha HT.out.ab hm5 hf5
        have q2 := HT.out.hc.beside HT.out.ha HT.out.ac hm5 hf5
        have HP5 := hide (show _ ∧ _ ∧ _ ∧ _ ∧ _ ∧ _ from ⟨HT.out.ha.step hl5 hm5 hf5, q1.1, q2.1, q1.2, q2.2, hz5⟩)
        have HRd5 := hide (Reads.past HOp.out.reads HP5.out.1.below)
        have hla5 : La5.length ≤ i + 1 := by omega
        clear hl5 hz5 hm5 hf5 hle5 q1 q2
        go_wp2_with (first
          | ((with_reducible refine at_index rfl ?_); refine wpList_atS rfl rfl _ _ 22 31 _ rfl rfl rfl (by simp) Tryd.underlying22 (by decide) size_op agg_op rfl HRd5.out rfl (by omega) (by omega) (us := [.int .i64 o.kd, .int .i64 o.k, .int .i64 o.v, .int .i64 o.wt, .int .i64 o.un]) rfl HU.out ?_; intro zz)
          | fail)
        refine (act_any _ c mc wg Lc HP5.out.2.2.1.lc (by omega) adr (HS.out.below HP5.out.1.below) o hwf).mono ?_
        rintro e w6 ⟨rfl, Lc6, hl6, hz6, hm6, hf6, hle6⟩
        have q1 := HP5.out.1.beside HP5.out.2.2.1 HP5.out.2.2.2.2.1.symm hm6 hf6
        have q2 := HP5.out.2.1.beside HP5.out.2.2.1 HT.out.bc.symm hm6 hf6
        have HT6 : Hid (T3 w w6 a ma b mb c mc wg La5 Lb Lc6) := hide ⟨q1.1, q2.1, HP5.out.2.2.1.step hl6 hm6 hf6, HP5.out.2.2.2.1, q1.2.symm, q2.2.symm, by rw [HP5.out.2.2.2.2.2, hz6, HT.out.z]⟩
        have hlc6 : Lc6.length ≤ i + 1 := by omega
        clear hl6 hz6 hm6 hf6 hle6 q1 q2
        obtain ⟨o2, hoi2⟩ : ∃ o, ops2[i]? = some o := ⟨_, List.getElem?_eq_getElem (by rw [HOp2.out.length]; exact h2)⟩
        have hwf2 := (HOp2.out.each o2 (List.mem_of_getElem? hoi2)).2.1
        have HU2 := hide (flat_get opCell_length hoi2)
        have HRd2 := hide (Reads.past HOp2.out.reads HT6.out.ha.below)
        clear hoi2
        go_wp2_with (first
          | ((with_reducible refine at_index rfl ?_); refine wpList_atS rfl rfl _ _ 22 31 _ rfl rfl rfl (by simp) Tryd.underlying22 (by decide) size_op agg_op rfl HRd2.out rfl (by omega) (by omega) (us := [.int .i64 o2.kd, .int .i64 o2.k, .int .i64 o2.v, .int .i64 o2.wt, .int .i64 o2.un]) rfl HU2.out ?_; intro zz)
          | fail)
        refine (act_any _ b mb wg Lb HT6.out.hb.lc (by omega) adr (HS.out.below HT6.out.ha.below) o2 hwf2).mono ?_
        rintro e w7 ⟨rfl, Lb7, hl7, hz7, hm7, hf7, hle7⟩
        have q1 := HT6.out.ha.beside HT6.out.hb HT6.out.ab.symm hm7 hf7
        have q2 := HT6.out.hc.beside HT6.out.hb HT6.out.bc hm7 hf7
        have HT7 : Hid (T3 w w7 a ma b mb c mc wg La5 Lb7 Lc6) := hide ⟨q1.1, HT6.out.hb.step hl7 hm7 hf7, q2.1, q1.2.symm, HT6.out.ac, q2.2, HT6.out.z⟩
        have hlb7 : Lb7.length ≤ i + 1 := by omega
        clear hl7 hz7 hm7 hf7 hle7 q1 q2
        go_wp2
        go_roundw
        case rel => exact ⟨i + 1, by omega, by go_num, hide ⟨La5, Lb7, Lc6, by omega, by omega, by omega, HT7.out⟩⟩
        case measure => simp [intOf]; omega
      · obtain ⟨o, hoi⟩ : ∃ o, ops[i]? = some o := ⟨_, List.getElem?_eq_getElem (by rw [HOp.out.length]; exact h1)⟩
        have hwf := (HOp.out.each o (List.mem_of_getElem? hoi)).2.1
        have HU := hide (flat_get opCell_length hoi)
        have HRd := hide (Reads.past HOp.out.reads HT.out.ha.below)
        clear hoi
        go_wp2_with (first
          | ((with_reducible refine at_index rfl ?_); refine wpList_atS rfl rfl _ _ 22 31 _ rfl rfl rfl (by simp) Tryd.underlying22 (by decide) size_op agg_op rfl HRd.out rfl (by omega) (by omega) (us := [.int .i64 o.kd, .int .i64 o.k, .int .i64 o.v, .int .i64 o.wt, .int .i64 o.un]) rfl HU.out ?_; intro zz)
          | fail)
        refine (act_any _ a ma wg La HT.out.ha.lc (by omega) adr (HS.out.below HT.out.ha.below) o hwf).mono ?_
        rintro e w5 ⟨rfl, La5, hl5, hz5, hm5, hf5, hle5⟩
        have q1 := HT.out.hb.beside HT.out.ha HT.out.ab hm5 hf5
        have q2 := HT.out.hc.beside HT.out.ha HT.out.ac hm5 hf5
        have HP5 := hide (show _ ∧ _ ∧ _ ∧ _ ∧ _ ∧ _ from ⟨HT.out.ha.step hl5 hm5 hf5, q1.1, q2.1, q1.2, q2.2, hz5⟩)
        have HRd5 := hide (Reads.past HOp.out.reads HP5.out.1.below)
        have hla5 : La5.length ≤ i + 1 := by omega
        clear hl5 hz5 hm5 hf5 hle5 q1 q2
        go_wp2_with (first
          | ((with_reducible refine at_index rfl ?_); refine wpList_atS rfl rfl _ _ 22 31 _ rfl rfl rfl (by simp) Tryd.underlying22 (by decide) size_op agg_op rfl HRd5.out rfl (by omega) (by omega) (us := [.int .i64 o.kd, .int .i64 o.k, .int .i64 o.v, .int .i64 o.wt, .int .i64 o.un]) rfl HU.out ?_; intro zz)
          | fail)
        refine (act_any _ c mc wg Lc HP5.out.2.2.1.lc (by omega) adr (HS.out.below HP5.out.1.below) o hwf).mono ?_
        rintro e w6 ⟨rfl, Lc6, hl6, hz6, hm6, hf6, hle6⟩
        have q1 := HP5.out.1.beside HP5.out.2.2.1 HP5.out.2.2.2.2.1.symm hm6 hf6
        have q2 := HP5.out.2.1.beside HP5.out.2.2.1 HT.out.bc.symm hm6 hf6
        have HT6 : Hid (T3 w w6 a ma b mb c mc wg La5 Lb Lc6) := hide ⟨q1.1, q2.1, HP5.out.2.2.1.step hl6 hm6 hf6, HP5.out.2.2.2.1, q1.2.symm, q2.2.symm, by rw [HP5.out.2.2.2.2.2, hz6, HT.out.z]⟩
        have hlc6 : Lc6.length ≤ i + 1 := by omega
        clear hl6 hz6 hm6 hf6 hle6 q1 q2
        go_wp2
        go_roundw
        case rel => exact ⟨i + 1, by omega, by go_num, hide ⟨La5, Lb, Lc6, by omega, by omega, by omega, HT6.out⟩⟩
        case measure => simp [intOf]; omega
    · by_cases h2 : i < n2
      · obtain ⟨o2, hoi2⟩ : ∃ o, ops2[i]? = some o := ⟨_, List.getElem?_eq_getElem (by rw [HOp2.out.length]; exact h2)⟩
        have hwf2 := (HOp2.out.each o2 (List.mem_of_getElem? hoi2)).2.1
        have HU2 := hide (flat_get opCell_length hoi2)
        have HRd2 := hide (Reads.past HOp2.out.reads HT.out.ha.below)
        clear hoi2
        go_wp2_with (first
          | ((with_reducible refine at_index rfl ?_); refine wpList_atS rfl rfl _ _ 22 31 _ rfl rfl rfl (by simp) Tryd.underlying22 (by decide) size_op agg_op rfl HRd2.out rfl (by omega) (by omega) (us := [.int .i64 o2.kd, .int .i64 o2.k, .int .i64 o2.v, .int .i64 o2.wt, .int .i64 o2.un]) rfl HU2.out ?_; intro zz)
          | fail)
        refine (act_any _ b mb wg Lb HT.out.hb.lc (by omega) adr (HS.out.below HT.out.ha.below) o2 hwf2).mono ?_
        rintro e w7 ⟨rfl, Lb7, hl7, hz7, hm7, hf7, hle7⟩
        have q1 := HT.out.ha.beside HT.out.hb HT.out.ab.symm hm7 hf7
        have q2 := HT.out.hc.beside HT.out.hb HT.out.bc hm7 hf7
        have HT7 : Hid (T3 w w7 a ma b mb c mc wg La Lb7 Lc) := hide ⟨q1.1, HT.out.hb.step hl7 hm7 hf7, q2.1, q1.2.symm, HT.out.ac, q2.2, HT.out.z⟩
        have hlb7 : Lb7.length ≤ i + 1 := by omega
        clear hl7 hz7 hm7 hf7 hle7 q1 q2
        go_wp2
        go_roundw
        case rel => exact ⟨i + 1, by omega, by go_num, hide ⟨La, Lb7, Lc, by omega, by omega, by omega, HT7.out⟩⟩
        case measure => simp [intOf]; omega
      · go_wp2_with fail
        refine (rows_any _ a ma wg La HT.out.ha.lc (by omega)).mono ?_
        rintro e w5 ⟨A5, n5, c5, rfl, hn5, hr5, hb5⟩
        have HT5 := hide (HT.out.past hb5)
        have HR5 := hide hr5
        have HN5 := hide hn5
        clear hb5 hr5 hn5
        go_wp2_with fail
        refine (rows_any _ c mc wg Lc HT5.out.hc.lc (by omega)).mono ?_
        rintro e w6 ⟨A6, n6, c6, rfl, hn6, hr6, hb6⟩
        have HT6 := hide (HT5.out.past hb6)
        have HR6 := hide (show Row w6 (New w5) 62 3 (.slice A6 n6 c6) n6 (trisC La) by rw [← trisC_zs, HT.out.z, trisC_zs]; exact hr6).reads
        have HR5' := hide (HR5.out.kept (Mod.ofBelow hb6 (fun _ => False)) (fun _ _ _ h => h)).reads
        have HN6 := hide (show n5 = n6 by rw [HN5.out, hn6, ← zs_length, HT.out.z, zs_length])
        clear hb6 hr6 hn6
        go_wp2_with fail
        refine (alike_true w6 A5 A6 n5 n6 c5 c6 HN6.out La HR5'.out HR6.out).mono ?_
        rintro e w7 ⟨rfl, hb7⟩
        have HT7 := hide (HT6.out.past hb7)
        clear hb7
        go_wp2_with fail
        refine (weight_any w7 a ma wg La HT7.out.ha.lc).mono ?_
        rintro e w8 ⟨rfl, rfl⟩
        have hwc : Calls Tryd.prog 31 #[ptr c] w7 fun r w' => r = .returned (.int .i64 (wsum La)) ∧ w7 = w' := (weight_any w7 c mc wg Lc HT7.out.hc.lc).mono (fun _ _ h => ⟨by rw [h.1, ← wsum_zs Lc, ← HT7.out.z, wsum_zs], h.2⟩)
        have HWc := hide hwc
        clear hwc
        go_wp2_with fail
        refine HWc.out.mono ?_
        rintro e w9 ⟨rfl, rfl⟩
        go_wp2
        go_ret
        exact ⟨rfl, HT7.out.ha.below⟩

theorem walk (w : World) (adr : Nat → Addr) (hS : Sent w adr) (wg : Int) (hwt : wg ≤ 9223372036854775807) (sv sv2 : Value) (n n2 : Nat) (ops ops2 : List OpD) (ho : Ops w sv n ops) (ho2 : Ops w sv2 n2 ops2) (hn : n ≤ 3518437208780) (hn2 : n2 ≤ 3518437208780) :
    Calls Tryd.prog 9 #[.int .i64 wg, sv, sv2] w fun e w' => e = .returned (.bool true) ∧ Below w.heap.size w w' := by
  by_cases h0 : wg < 0
  · have HS := hide hS
    clear hS
    go_enter Tryd.func9, Tryd.ntmps9
    go_wp2_with fail
    refine (awake_true w adr HS.out).mono ?_
    rintro e w1 ⟨rfl, hb1⟩
    have HB1 := hide hb1
    have hE := hide ((HS.out.below hb1).cell 2 (by decide) (by decide))
    clear hb1
    go_wp2_with fail
    refine (new_bad w1 wg h0 _ hE.out).mono ?_
    rintro e w2 ⟨rfl, hb2⟩
    have HB2 := hide (HB1.out.trans (hb2.mono HB1.out.size))
    have hE2 := hide ((HS.out.below HB2.out).cell 2 (by decide) (by decide))
    clear hb2
    go_wp2_with fail
    refine (new_bad w2 wg h0 _ hE2.out).mono ?_
    rintro e w3 ⟨rfl, hb3⟩
    have HB3 := hide (HB2.out.trans (hb3.mono HB2.out.size))
    have hE3 := hide ((HS.out.below HB3.out).cell 2 (by decide) (by decide))
    clear hb3
    go_wp2_with fail
    refine (new_bad w3 wg h0 _ hE3.out).mono ?_
    rintro e w4 ⟨rfl, hb4⟩
    have HB4 := hide (HB3.out.trans (hb4.mono HB3.out.size))
    clear hb4
    go_wp2
    go_ret
    exact ⟨rfl, HB4.out⟩
  · exact walk_good w adr hS wg (by omega) hwt sv sv2 n n2 ops ops2 ho ho2 hn hn2
end Go.Proofs.YtlnbgahfelcbiaaDoor.lruTwo
