/-
  LruBlind: for every room, script and looks the law returns true: looking on changes nothing.
-/
import Derived.Test.YtlnbgahfelcbiaaDoorLDisj
import Derived.Deep.CutBlock
namespace Go.Proofs.YtlnbgahfelcbiaaDoor.lruBlind
open Go Go.RowKit Go.Cu Go.Proofs.YtlnbgahfelcbiaaDoor Go.Proofs.YtlnbgahfelcbiaaDoor.errs

/-- two caches that hold the same -/
structure T2 (w0 w : World) (a ma b mb : Nat) (room : Int) (La Lb : List LE) : Prop where
  ha : C1 w0 w a ma room La
  hb : C1 w0 w b mb room Lb
  ab : Disj a ma La b mb Lb
  z : zs La = zs Lb
section
variable {w0 w w' : World} {a ma b mb : Nat} {room : Int} {La Lb L' : List LE}
theorem T2.past (h : T2 w0 w a ma b mb room La Lb) (hw : Below w.heap.size w w') : T2 w0 w' a ma b mb room La Lb := ⟨h.ha.past hw, h.hb.past hw, h.ab, h.z⟩
theorem T2.len (h : T2 w0 w a ma b mb room La Lb) : Lb.length = La.length := by rw [← zs_length Lb, ← h.z, zs_length]
end
/-- a Get on both -/
theorem gets {La Lb La' Lb' : List LE} {k now v v' : Int} {ok ok' : Bool} (hz : zs La = zs Lb) (ha : La.Pairwise (fun x y => x.k ≠ y.k)) (hb : Lb.Pairwise (fun x y => x.k ≠ y.k)) (h1 : GetR La k now La' v ok) (h2 : GetR Lb k now Lb' v' ok') : v = v' ∧ ok = ok' ∧ zs La' = zs Lb' := by
  have e1 := getF_zs La k now
  have e2 := getF_zs Lb k now
  rw [h1.eq ha] at e1
  rw [h2.eq hb, ← hz, e1] at e2
  simp only [Prod.mk.injEq] at e2
  exact ⟨e2.2.1, e2.2.2, e2.1⟩
theorem putZ {La Lb : List LE} {b b' : Nat} {room k v wt un : Int} (hz : zs La = zs Lb) : zs (⟨b, k, v, wt, un⟩ :: stay (room - wt) (without La k)) = zs (⟨b', k, v, wt, un⟩ :: stay (room - wt) (without Lb k)) := by
  rw [zs_cons, zs_cons, ← stay_zs, ← stay_zs, ← without_zs, ← without_zs, hz]
  rfl
theorem goneZ {La Lb : List LE} {room k wt : Int} (hz : zs La = zs Lb) : goneKeys (without La k) (stay (room - wt) (without La k)).length = goneKeys (without Lb k) (stay (room - wt) (without Lb k)).length := by
  rw [← goneKeys_zs (without La k), ← goneKeys_zs (without Lb k), ← zs_length (stay _ (without La k)), ← zs_length (stay _ (without Lb k)), ← stay_zs, ← stay_zs, ← without_zs, ← without_zs, hz]

set_option maxRecDepth 10000 in
set_option maxHeartbeats 8000000 in
theorem walk_good (w : World) (adr : Nat → Addr) (hS : Sent w adr) (wg : Int) (hge : 0 ≤ wg) (hwt : wg ≤ 9223372036854775807) (sv lv : Value) (n ln : Nat) (ops : List OpD) (ho : Ops w sv n ops) (xs : List Int) (hxs : Reads w 1 lv ln (ints xs)) (hwx : ∀ x ∈ xs, (Lit.int .i64 x).wf = true) :
    Calls Tryd.prog 8 #[.int .i64 wg, sv, lv] w fun e w' => e = .returned (.bool true) ∧ Below w.heap.size w w' := by
  have HOp := hide ho
  have HS := hide hS
  have HXs := hide hxs
  have HWx := hide hwx
  have HXl := hide (show xs.length = ln by have := hxs.1; rw [ints_length] at this; omega)
  obtain ⟨SA, sc, rfl⟩ := ho.reads.shape
  obtain ⟨XA, xc, rfl⟩ := hxs.shape
  have hlm := maxLen_lt hxs.size
  clear ho hS hxs hwx
  go_enter Tryd.func8, Tryd.ntmps8
  go_wp2_with fail
  refine (awake_true w adr HS.out).mono ?_
  rintro e w1 ⟨rfl, hb1⟩
  have HB1 := hide hb1
  clear hb1
  go_wp2_with fail
  refine (new_ok w1 wg hge hwt).mono ?_
  rintro e w2 ⟨a, rfl, ma, hc2, hm2, hcl2, hb2⟩
  have HA2 := hide (C1.made HB1.out hc2 hm2 hcl2 hb2)
  clear hb2 hc2 hm2 hcl2
  go_wp2_with fail
  refine (new_ok w2 wg hge hwt).mono ?_
  rintro e w3 ⟨b, rfl, mb, hc3, hm3, hcl3, hb3⟩
  have HT3 : Hid (T2 w w3 a ma b mb wg [] []) := hide ⟨HA2.out.past hb3, C1.made HA2.out.below hc3 hm3 hcl3 hb3, disj_made HA2.out hm3 hcl3, rfl⟩
  clear hb3 hc3 hm3 hcl3
  go_wp2_with fail
  go_loopw [11] (fun v11 wr => ∃ i : Nat, i ≤ n ∧ i ≤ 500 ∧ v11 = .int .i64 i ∧ Hid (∃ La Lb, La.length ≤ i ∧ T2 w wr a ma b mb wg La Lb)) (fun v11 _ => n - (intOf v11).toNat)
  case atStart => exact ⟨0, Nat.zero_le _, Nat.zero_le _, rfl, hide ⟨[], [], Nat.le_refl _, HT3.out⟩⟩
  case round =>
    clear HT3 HA2
    obtain ⟨i, hi, hi2, rfl, hst⟩ := hrel
    obtain ⟨La, Lb, hla, hT⟩ := hst.out
    have HT := hide hT
    have hlb : Lb.length ≤ i := by have := hT.len; omega
    clear hst hT
    have hcs : (i < n ∧ i < 500) ∨ (¬ i < n) ∨ (i < n ∧ ¬ i < 500) := by omega
    rcases hcs with ⟨hlt, hlt2⟩ | hout | ⟨hlt, hout⟩
    · have hd5 : decide ((i : Int) < 500) = true := decide_eq_true (by omega)
      go_wp2_with fail
      go_loopw [12] (fun v12 wx => ∃ j : Nat, j ≤ ln ∧ j ≤ 20 ∧ v12 = .int .i64 j ∧ Hid (T2 w wx a ma b mb wg La Lb)) (fun v12 _ => ln - (intOf v12).toNat)
      case atStart => exact ⟨0, Nat.zero_le _, Nat.zero_le _, rfl, HT⟩
      case round =>
        clear HT
        obtain ⟨j, hj, hj2, rfl, HT⟩ := hrel
        have hcj : (j < ln ∧ j < 20) ∨ (¬ j < ln) ∨ (j < ln ∧ ¬ j < 20) := by omega
        rcases hcj with ⟨hjl, hjl2⟩ | hjo | ⟨hjl, hjo⟩
        · obtain ⟨x, hx⟩ : ∃ x, xs[j]? = some x := ⟨_, List.getElem?_eq_getElem (by have := HXl.out; omega)⟩
          have hwf := HWx.out x (List.mem_of_getElem? hx)
          have HX := hide (ints_get hx)
          have HRd := hide (Reads.past HXs.out HT.out.ha.below)
          obtain ⟨pv, pu, pk, pi, hp⟩ := peekR_ex HT.out.ha.lc.keys x
          have HP := hide hp
          clear hx hp
          go_wp2_with (first
            | ((with_reducible refine at_index rfl ?_); refine wpList_at1 rfl rfl _ _ 32 3 _ rfl rfl rfl (by simp) Tryd.underlying32 size_int agg_int rfl HRd.out rfl (by omega) (by omega) HX.out ?_; intro zz)
            | fail)
          refine (peek_n (p := some a) (.inl ⟨rfl, HT.out.ha.lc⟩) hwf HP.out).mono ?_
          rintro e w5 ⟨rfl, hb5⟩
          have HT5 := hide (HT.out.past hb5)
          clear hb5
          go_wp2_with fail
          refine (keys_any w5 a ma wg La HT5.out.ha.lc (by omega)).mono ?_
          rintro e w6 ⟨KA, kn, kc, rfl, _, _, hb6⟩
          have HT6 := hide (HT5.out.past hb6)
          clear hb6
          go_wp2_with fail
          refine (len_any w6 a ma wg La HT6.out.ha.lc).mono ?_
          rintro e w7 ⟨rfl, rfl⟩
          go_wp2_with fail
          refine (weight_any w6 a ma wg La HT6.out.ha.lc).mono ?_
          rintro e w7 ⟨rfl, rfl⟩
          go_wp2
          go_roundw
          case rel => exact ⟨j + 1, by omega, by omega, by go_num, HT6⟩
          case measure => simp [intOf]; omega
        all_goals
          obtain ⟨⟨kd, k, v, wt, un⟩, hoi⟩ : ∃ o, ops[i]? = some o := ⟨_, List.getElem?_eq_getElem (by rw [HOp.out.length]; exact hlt)⟩
          have hwf : (Lit.int .i64 k).wf = true := (HOp.out.each _ (List.mem_of_getElem? hoi)).2.1
          have HU := hide (flat_get opCell_length hoi)
          have HRd := hide (Reads.past HOp.out.reads HT.out.ha.below)
          have hal : Below wr.heap.size wr (wr.alloc (.cells #[.int .i64 kd, .int .i64 k, .int .i64 v, .int .i64 wt, .int .i64 un] 31)) := (Below.refl _ _).alloc (Nat.le_refl _) _
          have HBx := hide (heap_alloc_new wr (.cells #[.int .i64 kd, .int .i64 k, .int .i64 v, .int .i64 wt, .int .i64 un] 31))
          have HT1 := hide (HT.out.past hal)
          clear hoi hal
          go_upto_region 18 with (first
            | ((with_reducible refine at_index rfl ?_); refine wpList_atS rfl rfl _ _ 22 31 _ rfl rfl rfl (by simp) Tryd.underlying22 (by decide) size_op agg_op rfl HRd.out rfl (by omega) (by omega) (us := [.int .i64 kd, .int .i64 k, .int .i64 v, .int .i64 wt, .int .i64 un]) rfl HU.out ?_; intro zz)
            | fail)
          obtain ⟨wa, hwa⟩ : ∃ wa, wr.alloc (.cells #[.int .i64 kd, .int .i64 k, .int .i64 v, .int .i64 wt, .int .i64 un] 31) = wa := ⟨_, rfl⟩
          obtain ⟨q, hq⟩ : ∃ q, wr.heap.size = q := ⟨_, rfl⟩
          rw [hwa] at HBx HT1
          rw [hq] at HBx
          rw [hwa, hq]
          clear hwa hq
          obtain ⟨o0, o1, o2, o3, o4⟩ := box5 HBx.out
          have hne : ∀ j : Int, kd ≠ j → (kd == j) = false := fun j h => by simp [h]
          by_cases h1 : kd = 1
          · subst h1
            clear hne
            rcases put_any wa a ma wg La HT1.out.ha.lc (by omega) adr (HS.out.below HT1.out.ha.below) k v wt un hwf with ⟨code, hbad, hc⟩ | ⟨g1, g2, hc⟩
            · have HBad := hide hbad
              have HC := hide hc
              clear hbad hc
              go_wp2_with fail
              refine HC.out.mono ?_
              rintro e w5 ⟨rfl, hb5⟩
              have HT5 := hide (HT1.out.past hb5)
              have HBx5 := hide (below_at hb5 HBx.out)
              clear hb5 o0 o1 o2 o3 o4
              obtain ⟨o0, o1, o2, o3, o4⟩ := box5 HBx5.out
              go_wp2_with fail
              refine (putbad_n w5 b mb wg Lb HT5.out.hb.lc adr (HS.out.below HT5.out.ha.below) k v wt un code HBad.out).mono ?_
              rintro e w6 ⟨rfl, hb6⟩
              have HT6 := hide (HT5.out.past hb6)
              have HBx6 := hide (below_at hb6 HBx5.out)
              clear hb6 o0 o1 o2 o3 o4
              obtain ⟨o0, o1, o2, o3, o4⟩ := box5 HBx6.out
              go_wp2_with fail
              refine (same_true w6 _ _ 0 0 rfl [] (reads_none _) (reads_none _)).mono ?_
              rintro e w7 ⟨rfl, hb7⟩
              have HT7 := hide (HT6.out.past hb7)
              have HBx7 := hide (below_at hb7 HBx6.out)
              clear hb7 o0 o1 o2 o3 o4
              obtain ⟨o0, o1, o2, o3, o4⟩ := box5 HBx7.out
              go_wp2_with fail
              refine (code_err w7 adr (HS.out.below HT7.out.ha.below) code HBad.out.le.1 HBad.out.le.2.1 HBad.out.le.2.2).mono ?_
              rintro e w8 ⟨rfl, rfl⟩
              go_wp2_with fail
              refine (code_err w8 adr (HS.out.below HT7.out.ha.below) code HBad.out.le.1 HBad.out.le.2.1 HBad.out.le.2.2).mono ?_
              rintro e w9 ⟨rfl, rfl⟩
              have hcc : (((code : Int)) != (code : Int)) = false := by simp
              go_wp2
              go_roundw
              case rel => exact ⟨i + 1, by omega, by omega, by go_num, hide ⟨La, Lb, by omega, HT7.out⟩⟩
              case measure => simp [intOf]; omega
            · have HC := hide hc
              clear hc
              go_wp2_with fail
              refine HC.out.mono ?_
              rintro e w5 ⟨b5, A5, n5, c5, rfl, hb5, hn5, hr5, hl5, hm5⟩
              have hf5 : From wa a ma La (⟨b5, k, v, wt, un⟩ :: stay (wg - wt) (without La k)) := from_put hb5
              have q1 := HT1.out.hb.beside HT1.out.ha HT1.out.ab hm5 hf5
              have HP5 := hide (show _ ∧ _ ∧ _ from ⟨HT1.out.ha.step hl5 hm5 hf5, q1.1, q1.2⟩)
              have HR5 := hide hr5
              have HN5 := hide hn5
              have hb5' := hm5.heap HBx.out (fun hk => HT1.out.ha.lc.not_row (by decide) (by decide) _ hk ⟨_, HBx.out⟩)
              have HBx5 := hide hb5'
              clear hb5 hn5 hr5 hl5 hm5 hf5 q1 hb5' o0 o1 o2 o3 o4
              obtain ⟨o0, o1, o2, o3, o4⟩ := box5 HBx5.out
              have hlb2 : Lb.length ≤ 500 := by omega
              go_wp2_with fail
              refine (put_ok w5 b mb wg Lb HP5.out.2.1.lc (by omega) k v wt un hwf g1 g2).mono ?_
              rintro e w6 ⟨b6, A6, n6, c6, rfl, hb6, hn6, hr6, hl6, hm6⟩
              have hf6 : From w5 b mb Lb (⟨b6, k, v, wt, un⟩ :: stay (wg - wt) (without Lb k)) := from_put hb6
              have q1 := HP5.out.1.beside HP5.out.2.1 HP5.out.2.2.symm hm6 hf6
              have HT6 : Hid (T2 w w6 a ma b mb wg (⟨b5, k, v, wt, un⟩ :: stay (wg - wt) (without La k)) (⟨b6, k, v, wt, un⟩ :: stay (wg - wt) (without Lb k))) := hide ⟨q1.1, HP5.out.2.1.step hl6 hm6 hf6, q1.2.symm, putZ HT1.out.z⟩
              have HR6 := hide (show Row w6 (New w5) 3 1 (.slice A6 n6 c6) n6 (ints (goneKeys (without La k) (stay (wg - wt) (without La k)).length)) by rw [goneZ HT1.out.z]; exact hr6).reads
              have HR5' := hide (HP5.out.2.1.lc.row (by decide) (by decide) hm6 HR5.out).reads
              have HN6 := hide (show n5 = n6 by rw [HN5.out, hn6, goneZ HT1.out.z])
              have hb6' := hm6.heap HBx5.out (fun hk => HP5.out.2.1.lc.not_row (by decide) (by decide) _ hk ⟨_, HBx5.out⟩)
              have HBx6 := hide hb6'
              clear hb6 hn6 hr6 hl6 hm6 hf6 q1 hb6' o0 o1 o2 o3 o4
              obtain ⟨o0, o1, o2, o3, o4⟩ := box5 HBx6.out
              go_wp2_with fail
              refine (same_true w6 _ _ n5 n6 HN6.out _ HR5'.out HR6.out).mono ?_
              rintro e w7 ⟨rfl, hb7⟩
              have HT7 := hide (HT6.out.past hb7)
              have HBx7 := hide (below_at hb7 HBx6.out)
              clear hb7 o0 o1 o2 o3 o4
              obtain ⟨o0, o1, o2, o3, o4⟩ := box5 HBx7.out
              go_wp2_with fail
              refine (code_nil w7).mono ?_
              rintro e w8 ⟨rfl, rfl⟩
              go_wp2_with fail
              refine (code_nil w8).mono ?_
              rintro e w9 ⟨rfl, rfl⟩
              have hpl : (⟨b5, k, v, wt, un⟩ :: stay (wg - wt) (without La k)).length ≤ i + 1 := by have := put_le wg k wt ⟨b5, k, v, wt, un⟩ La; omega
              go_wp2
              go_roundw
              case rel => exact ⟨i + 1, by omega, by omega, by go_num, hide ⟨_, _, hpl, HT7.out⟩⟩
              case measure => simp [intOf]; omega
          · have e1 := hne 1 h1
            by_cases h2 : kd = 2
            · subst h2
              clear hne
              obtain ⟨La5, v5, ok5, hg5⟩ := getR_ex La k un
              obtain ⟨Lb6, v6, ok6, hg6⟩ := getR_ex Lb k un
              obtain ⟨hv, hk, hz⟩ := gets HT1.out.z HT1.out.ha.lc.keys HT1.out.hb.lc.keys hg5 hg6
              subst hv; subst hk
              have HG5 := hide hg5
              have HG6 := hide hg6
              have HZ := hide hz
              clear hg5 hg6 hz
              go_wp2_with fail
              refine (get_n (p := some a) (.inl ⟨rfl, HT1.out.ha.lc⟩) hwf HG5.out).mono ?_
              rintro e w5 ⟨rfl, hc5, hm5⟩
              have hl5 : LCP w5 a ma wg La5 := by rcases hc5 with ⟨_, h⟩ | ⟨h, _⟩; exact h; cases h
              have hm5' : Mod (InC a ma La) wa w5 := hm5.mono (fun _ _ h => h.2)
              have hf5 : From wa a ma La La5 := From.sub HG5.out.le.2
              have q1 := HT1.out.hb.beside HT1.out.ha HT1.out.ab hm5' hf5
              have HP5 := hide (show _ ∧ _ ∧ _ from ⟨HT1.out.ha.step hl5 hm5' hf5, q1.1, q1.2⟩)
              have hb5' := hm5'.heap HBx.out (fun hk => HT1.out.ha.lc.not_row (by decide) (by decide) _ hk ⟨_, HBx.out⟩)
              have HBx5 := hide hb5'
              clear hc5 hl5 hm5 hm5' hf5 q1 hb5' o0 o1 o2 o3 o4
              obtain ⟨o0, o1, o2, o3, o4⟩ := box5 HBx5.out
              go_wp2_with fail
              refine (get_n (p := some b) (.inl ⟨rfl, HP5.out.2.1.lc⟩) hwf HG6.out).mono ?_
              rintro e w6 ⟨rfl, hc6, hm6⟩
              have hl6 : LCP w6 b mb wg Lb6 := by rcases hc6 with ⟨_, h⟩ | ⟨h, _⟩; exact h; cases h
              have hm6' : Mod (InC b mb Lb) w5 w6 := hm6.mono (fun _ _ h => h.2)
              have hf6 : From w5 b mb Lb Lb6 := From.sub HG6.out.le.2
              have q1 := HP5.out.1.beside HP5.out.2.1 HP5.out.2.2.symm hm6' hf6
              have HT6 : Hid (T2 w w6 a ma b mb wg La5 Lb6) := hide ⟨q1.1, HP5.out.2.1.step hl6 hm6' hf6, q1.2.symm, HZ.out⟩
              have hla5 : La5.length ≤ i + 1 := by have := HG5.out.le.1; omega
              clear hc6 hl6 hm6 hm6' hf6 q1
              have hvv : (v5 != v5) = false := by simp
              have hkk : (ok5 != ok5) = false := by simp
              go_wp2
              go_roundw
              case rel => exact ⟨i + 1, by omega, by omega, by go_num, hide ⟨La5, Lb6, hla5, HT6.out⟩⟩
              case measure => simp [intOf]; omega
            · have e2 := hne 2 h2
              clear hne
              go_wp2_with fail
              refine (act_any wa a ma wg La HT1.out.ha.lc (by omega) adr (HS.out.below HT1.out.ha.below) ⟨kd, k, v, wt, un⟩ hwf).mono ?_
              rintro e w5 ⟨rfl, La5, hl5, hz5, hm5, hf5, hle5⟩
              have q1 := HT1.out.hb.beside HT1.out.ha HT1.out.ab hm5 hf5
              have HP5 := hide (show _ ∧ _ ∧ _ from ⟨HT1.out.ha.step hl5 hm5 hf5, q1.1, q1.2⟩)
              have HZ5 := hide hz5
              have hb5' := hm5.heap HBx.out (fun hk => HT1.out.ha.lc.not_row (by decide) (by decide) _ hk ⟨_, HBx.out⟩)
              have HBx5 := hide hb5'
              have hla5 : La5.length ≤ i + 1 := by omega
              clear hl5 hz5 hm5 hf5 hle5 q1 hb5' o0 o1 o2 o3 o4
              obtain ⟨o0, o1, o2, o3, o4⟩ := box5 HBx5.out
              go_wp2_with fail
              refine (act_any w5 b mb wg Lb HP5.out.2.1.lc (by omega) adr (HS.out.below HP5.out.1.below) ⟨kd, k, v, wt, un⟩ hwf).mono ?_
              rintro e w6 ⟨rfl, Lb6, hl6, hz6, hm6, hf6, hle6⟩
              have q1 := HP5.out.1.beside HP5.out.2.1 HP5.out.2.2.symm hm6 hf6
              have HT6 : Hid (T2 w w6 a ma b mb wg La5 Lb6) := hide ⟨q1.1, HP5.out.2.1.step hl6 hm6 hf6, q1.2.symm, by rw [HZ5.out, hz6, HT1.out.z]⟩
              clear hl6 hz6 hm6 hf6 hle6 q1 o0 o1 o2 o3 o4
              go_wp2
              go_roundw
              case rel => exact ⟨i + 1, by omega, by omega, by go_num, hide ⟨La5, Lb6, hla5, HT6.out⟩⟩
              case measure => simp [intOf]; omega
    all_goals
      go_wp2_with fail
      refine (keys_any wr a ma wg La HT.out.ha.lc (by omega)).mono ?_
      rintro e w5 ⟨A5, n5, c5, rfl, hn5, hr5, hb5⟩
      have HT5 := hide (HT.out.past hb5)
      have HR5 := hide hr5
      have HN5 := hide hn5
      clear hb5 hr5 hn5
      have hlb2 : Lb.length ≤ 500 := by omega
      go_wp2_with fail
      refine (keys_any w5 b mb wg Lb HT5.out.hb.lc (by omega)).mono ?_
      rintro e w6 ⟨A6, n6, c6, rfl, hn6, hr6, hb6⟩
      have HT6 := hide (HT5.out.past hb6)
      have HKe := hide (show keysOf Lb = keysOf La by rw [← keysOf_zs, ← HT.out.z, keysOf_zs])
      have HR6 := hide (show Row w6 (New w5) 3 1 (.slice A6 n6 c6) n6 (ints (keysOf La)) by rw [← HKe.out]; exact hr6).reads
      have HR5' := hide (HR5.out.kept (Mod.ofBelow hb6 (fun _ => False)) (fun _ _ _ h => h)).reads
      have HN6 := hide (show n5 = n6 by rw [HN5.out, hn6, HT.out.len])
      clear hb6 hr6 hn6
      go_wp2_with fail
      refine (same_true w6 _ _ n5 n6 HN6.out _ HR5'.out HR6.out).mono ?_
      rintro e w7 ⟨rfl, hb7⟩
      have HT7 := hide (HT6.out.past hb7)
      clear hb7
      go_wp2_with fail
      refine (weight_any w7 a ma wg La HT7.out.ha.lc).mono ?_
      rintro e w8 ⟨rfl, rfl⟩
      have hwc : Calls Tryd.prog 31 #[ptr b] w7 fun r w' => r = .returned (.int .i64 (wsum La)) ∧ w7 = w' := (weight_any w7 b mb wg Lb HT7.out.hb.lc).mono (fun _ _ h => ⟨by rw [h.1, ← wsum_zs Lb, ← HT7.out.z, wsum_zs], h.2⟩)
      have HWc := hide hwc
      clear hwc
      go_wp2_with fail
      refine HWc.out.mono ?_
      rintro e w9 ⟨rfl, rfl⟩
      go_wp2
      go_ret
      exact ⟨rfl, HT7.out.ha.below⟩

set_option maxRecDepth 10000 in
set_option maxHeartbeats 2000000 in
theorem walk (w : World) (adr : Nat → Addr) (hS : Sent w adr) (wg : Int) (hwt : wg ≤ 9223372036854775807) (sv lv : Value) (n ln : Nat) (ops : List OpD) (ho : Ops w sv n ops) (xs : List Int) (hxs : Reads w 1 lv ln (ints xs)) (hwx : ∀ x ∈ xs, (Lit.int .i64 x).wf = true) :
    Calls Tryd.prog 8 #[.int .i64 wg, sv, lv] w fun e w' => e = .returned (.bool true) ∧ Below w.heap.size w w' := by
  by_cases h0 : wg < 0
  · have HS := hide hS
    clear hS
    go_enter Tryd.func8, Tryd.ntmps8
    go_wp2_with fail
    refine (awake_true w adr HS.out).mono ?_
    rintro e w1 ⟨rfl, hb1⟩
    have HB1 := hide hb1
    have hE := hide ((HS.out.below hb1).cell 2 (by decide) (by decide))
    clear hb1
    go_wp2_with fail
    refine (new_bad w1 wg h0 _ hE.out).mono ?_
    rintro e w2 ⟨rfl, hb2⟩
    have HB2 := hide (HB1.out.trans (hb2.mono HB1.out.size))
    have hE2 := hide ((HS.out.below HB2.out).cell 2 (by decide) (by decide))
    clear hb2
    go_wp2_with fail
    refine (new_bad w2 wg h0 _ hE2.out).mono ?_
    rintro e w3 ⟨rfl, hb3⟩
    have HB3 := hide (HB2.out.trans (hb3.mono HB2.out.size))
    clear hb3
    go_wp2
    go_ret
    exact ⟨rfl, HB3.out⟩
  · exact walk_good w adr hS wg (by omega) hwt sv lv n ln ops ho xs hxs hwx
end Go.Proofs.YtlnbgahfelcbiaaDoor.lruBlind
