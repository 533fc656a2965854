/-
  LruOnce: for every room and script the law returns true: no key stands in the order twice; a key is there just if Peek says so.
-/
import Derived.Test.YtlnbgahfelcbiaaDoorLC1
namespace Go.Proofs.YtlnbgahfelcbiaaDoor.lruOnce
open Go Go.RowKit Go.Cu Go.Proofs.YtlnbgahfelcbiaaDoor Go.Proofs.YtlnbgahfelcbiaaDoor.errs

set_option maxRecDepth 10000 in
set_option maxHeartbeats 8000000 in
theorem walk_good (w : World) (adr : Nat → Addr) (hS : Sent w adr) (wg : Int) (hge : 0 ≤ wg) (hwt : wg ≤ 9223372036854775807) (sv : Value) (n : Nat) (ops : List OpD) (ho : Ops w sv n ops) :
    Calls Tryd.prog 4 #[.int .i64 wg, sv] w fun e w' => e = .returned (.bool true) ∧ Below w.heap.size w w' := by
  have HOp := hide ho
  have HS := hide hS
  obtain ⟨SA, sc, rfl⟩ := ho.reads.shape
  have hsn := maxLen_lt ho.reads.size
  clear ho hS
  have hmm := @run_makeMap Tryd.prog
  go_enter Tryd.func4, Tryd.ntmps4
  go_wp2_with fail
  refine (awake_true w adr HS.out).mono ?_
  rintro e w1 ⟨rfl, hb1⟩
  have HB1 := hide hb1
  clear hb1
  go_wp2_with fail
  refine (new_ok w1 wg hge hwt).mono ?_
  rintro e w2 ⟨c, rfl, m, hc2, hm2, hcl2, hb2⟩
  have HC2 := hide (C1.made HB1.out hc2 hm2 hcl2 hb2)
  clear hb2 hc2 hm2 hcl2
  go_wp2_with fail
  go_loopw [7] (fun v9 wr => ∃ i : Nat, i ≤ n ∧ i ≤ 1000 ∧ v9 = .int .i64 i ∧ Hid (∃ L, L.length ≤ i ∧ C1 w wr c m wg L)) (fun v9 _ => n - (intOf v9).toNat)
  case atStart => exact ⟨0, Nat.zero_le _, Nat.zero_le _, rfl, hide ⟨[], Nat.le_refl _, HC2.out⟩⟩
  case round =>
    clear HC2
    obtain ⟨i, hi, hi2, rfl, hst⟩ := hrel
    obtain ⟨L, hL, hT⟩ := hst.out
    have HT := hide hT
    clear hst hT
    have hcs : (i < n ∧ i < 1000) ∨ (¬ i < n) ∨ (i < n ∧ ¬ i < 1000) := by omega
    rcases hcs with ⟨hlt, hlt2⟩ | hout | ⟨hlt, hout⟩
    · obtain ⟨o, hoi⟩ : ∃ o, ops[i]? = some o := ⟨_, List.getElem?_eq_getElem (by rw [HOp.out.length]; exact hlt)⟩
      have hwf := (HOp.out.each o (List.mem_of_getElem? hoi)).2.1
      have HU := hide (flat_get opCell_length hoi)
      have HRd := hide (Reads.past HOp.out.reads HT.out.below)
      have hal : Below wr.heap.size wr (wr.alloc (.cells (opA o) 31)) := (Below.refl _ _).alloc (Nat.le_refl _) _
      have HBx := hide (heap_alloc_new wr (.cells (opA o) 31))
      have HT1 := hide (HT.out.past hal)
      clear hoi hal
      go_upto_region 10 with (first
        | ((with_reducible refine at_index rfl ?_); refine wpList_atS rfl rfl _ _ 22 31 _ rfl rfl rfl (by simp) Tryd.underlying22 (by decide) size_op agg_op rfl HRd.out rfl (by omega) (by omega) (us := [.int .i64 o.kd, .int .i64 o.k, .int .i64 o.v, .int .i64 o.wt, .int .i64 o.un]) rfl HU.out ?_; intro zz)
        | fail)
      obtain ⟨wa, hwa⟩ : ∃ wa, wr.alloc (.cells (opA o) 31) = wa := ⟨_, rfl⟩
      obtain ⟨q, hq⟩ : ∃ q, wr.heap.size = q := ⟨_, rfl⟩
      have hwa2 : wr.alloc (.cells #[.int .i64 o.kd, .int .i64 o.k, .int .i64 o.v, .int .i64 o.wt, .int .i64 o.un] 31) = wa := hwa
      rw [hwa] at HBx HT1
      rw [hq] at HBx
      rw [hwa2, hq]
      have hqw : w.heap.size ≤ q := by have := HT.out.below.size; omega
      clear hwa hwa2 hq
      obtain ⟨o0, o1, o2, o3, o4⟩ := box5 HBx.out
      go_wp2_with fail
      refine (act_any wa c m wg L HT1.out.lc (by omega) adr (HS.out.below HT1.out.below) o hwf).mono ?_
      rintro e w3 ⟨rfl, L', hl3, hz3, hm3, hf3, hle3⟩
      have hb3 := hm3.heap HBx.out (fun hk => HT1.out.lc.not_row (by decide) (by decide) _ hk ⟨_, HBx.out⟩)
      have HBx3 := hide hb3
      have HT3 := hide (HT1.out.step hl3 hm3 hf3)
      have hln : L'.length ≤ i + 1 := by omega
      clear hl3 hz3 hm3 hf3 hle3 hb3 o0 o1 o2 o3 o4
      go_upto_region 12 with fail
      have hmp := Mp.made w3 Tryd.prog 3
      have hal4 : Below w3.heap.size w3 (w3.alloc (.map #[] 0)) := (Below.refl _ _).alloc (Nat.le_refl _) _
      obtain ⟨w4, hw4⟩ : ∃ w4, w3.alloc (.map #[] 0) = w4 := ⟨_, rfl⟩
      obtain ⟨sm, hsm⟩ : ∃ sm, w3.heap.size = sm := ⟨_, rfl⟩
      rw [hw4] at hmp hal4
      rw [hsm] at hmp
      rw [hw4, hsm]
      have HMp4 := hide hmp
      have HT4 := hide (HT3.out.past hal4)
      have HBx4 := hide (below_at hal4 HBx3.out)
      have hsmlow : w.heap.size ≤ sm := by have := HT3.out.below.size; omega
      have HLt4 : Hid (∀ k, InC c m L' k → k ≠ sm) := hide (fun k hk e => by have := HT3.out.lc.lt k hk; omega)
      clear hmp hal4 hw4 hsm
      go_wp2_with fail
      refine (keys_any w4 c m wg L' HT4.out.lc (by omega)).mono ?_
      rintro e w5 ⟨KA, kn, kc, rfl, hkn, hrow5, hb5⟩
      have HT5 := hide (HT4.out.past hb5)
      have HBx5 := hide (below_at hb5 HBx4.out)
      have HMp5 := hide (HMp4.out.block (hb5.block _ HMp4.out.lt))
      have HRow5 := hide hrow5
      have HKn := hide hkn
      have hkn2 : kn ≤ 1000 := by omega
      have HKs := hide HT3.out.lc.keys
      have HWf := hide HT3.out.lc.wf
      clear hb5 hrow5 hkn
      go_wp2_with fail
      go_loopw [11] (fun v11 wx => ∃ j : Nat, j ≤ kn ∧ v11 = .int .i64 j ∧ Hid (C1 w wx c m wg L') ∧ Hid (wx.heap[q]? = some (.cells (opA o) 31 (0, 0))) ∧ Hid (Mp wx Tryd.prog 3 sm (seenM ((keysOf L').take j)) j) ∧ Hid (Row wx (fun _ => True) 3 1 (.slice KA kn kc) kn (ints (keysOf L')))) (fun v11 _ => kn - (intOf v11).toNat)
      case atStart => exact ⟨0, Nat.zero_le _, rfl, HT5, HBx5, hide (HMp5.out.ext (fun l => seenM_nil l)), hide (HRow5.out.mono (fun _ _ _ => trivial))⟩
      case round =>
        clear HT5 HBx5 HMp5 HRow5 HMp4 HT4 HBx4 HT3 HBx3 HT1 HBx HT
        obtain ⟨j, hj, rfl, HTx, HBx, HMp, HRow⟩ := hrel
        by_cases hjl : j < kn
        · obtain ⟨x, hx⟩ : ∃ x, (keysOf L')[j]? = some x := ⟨_, List.getElem?_eq_getElem (by rw [keysOf_length]; have := HKn.out; omega)⟩
          have hxn : ¬ x ∈ (keysOf L').take j := by
            intro hin
            have hnd : (keysOf L').Nodup := by unfold keysOf; rw [List.nodup_iff_pairwise_ne, List.pairwise_map]; exact HKs.out
            have ht : (keysOf L').take (j + 1) = (keysOf L').take j ++ [x] := by rw [List.take_add_one, hx]; rfl
            have := (List.take_sublist (j + 1) (keysOf L')).nodup hnd
            rw [ht, List.nodup_append] at this
            exact this.2.2 x hin x (by simp) rfl
          have hxwf : (Lit.int .i64 x).wf = true := by
            obtain ⟨e, he, rfl⟩ := mem_keysOf.1 (List.mem_of_getElem? hx)
            exact HWf.out e he
          have HTk : Hid ((keysOf L').take (j + 1) = (keysOf L').take j ++ [x]) := hide (by rw [List.take_add_one, hx]; rfl)
          have HX := hide (ints_get hx)
          have hl1 := look40 HMp.out hxwf
          rw [seenM_out hxn] at hl1
          simp only [Option.getD_none] at hl1
          have HXn := hide hxn
          have HRd2 := hide HRow.out.reads
          clear hx hxn
          go_wp2_with (first
            | ((with_reducible refine at_index rfl ?_); refine wpList_at1 rfl rfl _ _ 32 3 _ rfl rfl rfl (by simp) Tryd.underlying32 size_int agg_int rfl HRd2.out rfl (by omega) (by omega) HX.out ?_; intro zz)
            | (at_mapUpdate; refine wpList_store_mp rfl _ _ _ 40 rfl int_law Tryd.underlying40 rfl HMp.out (by unfold maxLen; omega) (val := .int .i64 1) rfl rfl (key_int hxwf) ?_
               intro w6 hmp6 hg6
               have hmp6' : Mp w6 Tryd.prog 3 sm (seenM ((keysOf L').take (j + 1))) (j + 1) := by
                 rw [seenM_out HXn.out] at hmp6
                 rw [HTk.out]
                 exact hmp6.ext (fun l => seenM_add l)
               have hl2 := look40 hmp6' hxwf
               rw [HTk.out, seenM_in (by simp)] at hl2
               simp only [Option.getD_some] at hl2
               have HMp6 := hide hmp6'
               have HRow6 := hide (HRow.out.overMap HMp.out hg6)
               have HRd6 := hide HRow6.out.reads
               have HBx6 := hide (grown_heap hg6 HBx.out (fun e => by injection e with e; exact map_ne HBx.out HMp.out e))
               have HT6 := hide (HTx.out.other (Mod.ofGrown hg6 (F := fun k => k = sm) (fun k e => by injection e with e; exact e.symm)) (fun k hk e => HLt4.out k hk e) (fun k e => by omega))
               clear hmp6 hmp6' hg6 hl1)
            | ((with_reducible refine at_index rfl ?_); refine wpList_at1 rfl rfl _ _ 32 3 _ rfl rfl rfl (by simp) Tryd.underlying32 size_int agg_int rfl HRd6.out rfl (by omega) (by omega) HX.out ?_; intro zz2)
            | fail)
          go_roundw
          case rel => exact ⟨j + 1, by omega, by go_num, HT6, HBx6, HMp6, HRow6⟩
          case measure => simp [intOf]; omega
        · obtain rfl : j = kn := by omega
          obtain ⟨x, u, ok, ii, hp⟩ := peekR_ex HTx.out.lc.keys o.k
          have hl := hp.seen
          have HPk := hide hp
          have HMp2 : Hid (Mp _ Tryd.prog 3 sm (seenM (keysOf L')) j) := hide (by
            have h := HMp.out
            rw [List.take_of_length_le (by rw [keysOf_length]; have := HKn.out; omega)] at h
            exact h)
          obtain ⟨o0, o1, o2, o3, o4⟩ := box5 HBx.out
          have HSeen := hide hl
          clear hp hl
          go_wp2_with fail
          refine (peek_n (p := some c) (.inl ⟨rfl, HTx.out.lc⟩) hwf HPk.out).mono ?_
          rintro e w7 ⟨rfl, hb7⟩
          have HT7 := hide (HTx.out.past hb7)
          have hmp7 := HMp2.out.block (hb7.block _ HMp2.out.lt)
          have hl := look40 hmp7 hwf
          rw [HSeen.out] at hl
          obtain ⟨o0, o1', o2, o3, o4⟩ := box5 (below_at hb7 HBx.out)
          have hlen : Calls Tryd.prog 19 #[ptr c] w7 fun r w' => r = .returned (.int .i64 j) ∧ w7 = w' := (len_any w7 c m wg L' HT7.out.lc).mono (fun _ _ h => ⟨by rw [h.1, HKn.out], h.2⟩)
          have HLen := hide hlen
          clear hmp7 hb7 hlen o0 o2 o3 o4
          cases ok
          all_goals
            simp only [if_true, if_false, Bool.false_eq_true] at hl
            go_wp2_with fail
            refine HLen.out.mono ?_
            rintro e w8 ⟨rfl, rfl⟩
            go_wp2
            go_roundw
            case rel => exact ⟨i + 1, by omega, by omega, by go_num, hide ⟨L', hln, HT7.out⟩⟩
            case measure => simp [intOf]; omega
    all_goals
      go_wp2
      go_ret
      exact ⟨rfl, HT.out.below⟩
theorem walk (w : World) (adr : Nat → Addr) (hS : Sent w adr) (wg : Int) (hwt : wg ≤ 9223372036854775807) (sv : Value) (n : Nat) (ops : List OpD) (ho : Ops w sv n ops) :
    Calls Tryd.prog 4 #[.int .i64 wg, sv] w fun e w' => e = .returned (.bool true) ∧ Below w.heap.size w w' := by
  by_cases h0 : wg < 0
  · have HS := hide hS
    clear hS
    go_enter Tryd.func4, Tryd.ntmps4
    go_wp2_with fail
    refine (awake_true w adr HS.out).mono ?_
    rintro e w1 ⟨rfl, hb1⟩
    have HB1 := hide hb1
    have hE := hide ((HS.out.below hb1).cell 2 (by decide) (by decide))
    clear hb1
    go_wp2_with fail
    refine (new_bad w1 wg h0 _ hE.out).mono ?_
    rintro e w2 ⟨rfl, hb2⟩
    have HB2 := hide (HB1.out.trans (hb2.mono HB1.out.size))
    clear hb2
    go_wp2
    go_ret
    exact ⟨rfl, HB2.out⟩
  · exact walk_good w adr hS wg (by omega) hwt sv n ops ho
end Go.Proofs.YtlnbgahfelcbiaaDoor.lruOnce
