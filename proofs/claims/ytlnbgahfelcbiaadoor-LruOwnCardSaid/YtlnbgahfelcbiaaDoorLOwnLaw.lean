/-
  LruOwn: for every room and script the law returns true: lists told are new memory and stay as they are. Conditions: room at most the greatest int; the sentinels' variables hold their errors; the script can be read.
-/
import Derived.Test.YtlnbgahfelcbiaaDoorLOwn4
import Derived.Test.YtlnbgahfelcbiaaDoorPut
import Derived.Deep.CutBlock
namespace Go.Proofs.YtlnbgahfelcbiaaDoor.lruOwn
open Go Go.RowKit Go.Cu Go.Proofs.YtlnbgahfelcbiaaDoor Go.Proofs.YtlnbgahfelcbiaaDoor.errs

/-- what loop 1 carries, i lists told -/
def OSt (w0 w : World) (c m : Nat) (room : Int) (i : Nat) (kv tv : Value) : Prop :=
  ∃ L KA kc TA tc K T PK PT FK FT, L.length ≤ i ∧ (∀ x ∈ K, x.n ≤ 300) ∧ kv = .slice KA i kc ∧ tv = .slice TA i tc ∧ OS w0 w c m room L (.slice KA i kc) (.slice TA i tc) i K T PK PT FK FT

set_option maxRecDepth 10000 in
set_option maxHeartbeats 16000000 in
theorem walk_good (w : World) (adr : Nat → Addr) (hS : Sent w adr) (wg : Int) (hge : 0 ≤ wg) (hwt : wg ≤ 9223372036854775807) (sv : Value) (n : Nat) (ops : List OpD) (ho : Ops w sv n ops) :
    Calls Tryd.prog 3 #[.int .i64 wg, sv] w fun e w' => e = .returned (.bool true) ∧ Below w.heap.size w w' := by
  have HOp := hide ho
  have HS := hide hS
  obtain ⟨SA, sc, rfl⟩ := ho.reads.shape
  have hsn := maxLen_lt ho.reads.size
  obtain ⟨i0, hi0, hz0, hz1, hz2⟩ := info_parts info_list
  obtain ⟨j0, hj0, hy0, hy1, hy2⟩ := info_parts info_int
  clear ho hS
  go_enter Tryd.func3, Tryd.ntmps3
  go_wp2_with fail
  refine (awake_true w adr HS.out).mono ?_
  rintro e w1 ⟨rfl, hb1⟩
  have HB1 := hide hb1
  clear hb1
  go_wp2_with fail
  refine (new_ok w1 wg hge hwt).mono ?_
  rintro e w2 ⟨c, rfl, m, hc2, hm2, hcl2, hb2⟩
  have HC2 := hide (C1.made HB1.out hc2 hm2 hcl2 hb2)
  clear hb2 hc2 hm2 hcl2
  have HT2 : Hid (OSt w w2 c m wg 0 (.slice none 0 0) (.slice none 0 0)) := hide ⟨[], none, 0, none, 0, [], [], [], [], fun _ => False, fun _ => False, Nat.le_refl _, fun _ h => (List.not_mem_nil h).elim, rfl, rfl,
    ⟨HC2.out, ⟨Row.nil _ _ _ _, Fam.nil _ _ _, rfl⟩, ⟨Row.nil _ _ _ _, Fam.nil _ _ _, rfl⟩, rfl, fun _ h => h.elim, fun _ h => h.elim, fun _ h => h.elim, fun _ h => (List.not_mem_nil h).elim⟩⟩
  go_wp2_with fail
  go_loopw [7, 8, 9] (fun kv tv v9 wr => ∃ i : Nat, i ≤ n ∧ i ≤ 200 ∧ v9 = .int .i64 i ∧ Hid (OSt w wr c m wg i kv tv)) (fun _ _ v9 _ => n - (intOf v9).toNat)
  case atStart => exact ⟨0, Nat.zero_le _, Nat.zero_le _, rfl, HT2⟩
  case round =>
    clear HT2 HC2
    obtain ⟨i, hi, hi2, rfl, hst⟩ := hrel
    obtain ⟨L, KA, kc, TA, tc, K, T, PK, PT, FK, FT, hL, hKn, rfl, rfl, hT⟩ := hst.out
    have HKn := hide hKn
    clear hKn
    have HT := hide hT
    clear hst hT
    have hcs : (i < n ∧ i < 200) ∨ (¬ i < n) ∨ (i < n ∧ ¬ i < 200) := by omega
    rcases hcs with ⟨hlt, hlt2⟩ | hout | ⟨hlt, hout⟩
    · obtain ⟨⟨kd, k, v, wt, un⟩, hoi⟩ : ∃ o, ops[i]? = some o := ⟨_, List.getElem?_eq_getElem (by rw [HOp.out.length]; exact hlt)⟩
      have hwf : (Lit.int .i64 k).wf = true := (HOp.out.each _ (List.mem_of_getElem? hoi)).2.1
      have HU := hide (flat_get opCell_length hoi)
      have HRd := hide (Reads.past HOp.out.reads HT.out.c1.below)
      have hal : Below wr.heap.size wr (wr.alloc (.cells #[.int .i64 kd, .int .i64 k, .int .i64 v, .int .i64 wt, .int .i64 un] 31)) := (Below.refl _ _).alloc (Nat.le_refl _) _
      have HBx := hide (heap_alloc_new wr (.cells #[.int .i64 kd, .int .i64 k, .int .i64 v, .int .i64 wt, .int .i64 un] 31))
      have HT1 := hide (HT.out.past hal)
      clear hoi hal
      go_upto_block 2 with (first
        | ((with_reducible refine at_index rfl ?_); refine wpList_atS rfl rfl _ _ 22 31 _ rfl rfl rfl (by simp) Tryd.underlying22 (by decide) size_op agg_op rfl HRd.out rfl (by omega) (by omega) (us := [.int .i64 kd, .int .i64 k, .int .i64 v, .int .i64 wt, .int .i64 un]) rfl HU.out ?_; intro zz)
        | fail)
      obtain ⟨wa, hwa⟩ : ∃ wa, wr.alloc (.cells #[.int .i64 kd, .int .i64 k, .int .i64 v, .int .i64 wt, .int .i64 un] 31) = wa := ⟨_, rfl⟩
      obtain ⟨q, hq⟩ : ∃ q, wr.heap.size = q := ⟨_, rfl⟩
      rw [hwa] at HBx HT1
      rw [hq] at HBx
      rw [hwa, hq]
      have hsa : wr.heap.size ≤ wa.heap.size := by rw [← hwa]; simp
      clear hwa hq
      go_cut [11] from 52 to 79 (fun s11 wc => ∃ LA ln lc xs L', s11 = .slice LA ln lc ∧ L'.length ≤ i + 1 ∧ ln ≤ i + 1 ∧ Hid (OS w wc c m wg L' (.slice KA i kc) (.slice TA i tc) i K T PK PT FK FT) ∧ Hid (Row wc (New wr) 3 1 (.slice LA ln lc) ln (ints xs)))
      case first => as_aux_lemma =>
        obtain ⟨o0, o1, o2, o3, o4⟩ := box5 HBx.out
        have hne : ∀ j : Int, kd ≠ j → (kd == j) = false := fun j h => by simp [h]
        by_cases h1 : kd = 1
        · subst h1
          rcases put_any wa c m wg L HT1.out.c1.lc (by omega) adr (HS.out.below HT1.out.c1.below) k v wt un hwf with ⟨code, hbad, hc⟩ | ⟨g1, g2, hc⟩
          · have HC := hide hc
            clear hc hbad hne
            go_wp2_with fail
            refine HC.out.mono ?_
            rintro r w3 ⟨rfl, hb3⟩
            have HT3 := hide (HT1.out.past hb3)
            clear hb3
            go_wp2
            go_meet
            case rel => exact ⟨none, 0, 0, [], L, rfl, by omega, by omega, HT3, hide (Row.nil _ _ _ _)⟩
          · have HC := hide hc
            clear hc hne
            go_wp2_with fail
            refine HC.out.mono ?_
            rintro r w3 ⟨b, A, n3, cc, rfl, hb, hn3, hr3, hl3, hm3⟩
            have HT3 := hide (HT1.out.cache hl3 hm3 (from_put hb))
            have HR3 := hide (hr3.mono (G := New wr) (fun k hk _ => Nat.le_trans hsa hk))
            have hle := put_le wg k wt ⟨b, k, v, wt, un⟩ L
            have hn33 : n3 ≤ i + 1 := by
              have h1 := without_le L k
              have h2 : (goneKeys (without L k) (stay (wg - wt) (without L k)).length).length ≤ (without L k).length := by unfold goneKeys; simp
              omega
            clear hb hn3 hr3 hl3 hm3
            go_wp2
            go_meet
            case rel => exact ⟨A, n3, cc, _, _, rfl, by omega, hn33, HT3, HR3⟩
        · have e1 := hne 1 h1
          by_cases h5 : kd = 5
          · subst h5
            clear hne
            go_wp2_with fail
            refine (expire_n (p := some c) (.inl ⟨rfl, HT1.out.c1.lc⟩) (by omega) un).mono ?_
            rintro r w3 ⟨G, g, gc, rfl, hg, hr3, hc3, hm3⟩
            have hl3 : LCP w3 c m wg (keepT un L) := by rcases hc3 with ⟨_, h⟩ | ⟨h, _⟩; exact h; cases h
            have hm3' : Mod (InC c m L) wa w3 := hm3.mono (fun _ _ h => h.2)
            have HT3 := hide (HT1.out.cache hl3 hm3' (From.sub (fun _ h => (List.mem_filter.1 h).1)))
            have HR3 := hide (hr3.mono (G := New wr) (fun k hk _ => Nat.le_trans hsa hk))
            have hgl : g ≤ i + 1 := by have : (goneT un L).length ≤ L.length := List.length_filter_le _ _; omega
            have hkl : (keepT un L).length ≤ i + 1 := by have : (keepT un L).length ≤ L.length := List.length_filter_le _ _; omega
            clear hg hr3 hc3 hm3 hl3 hm3'
            go_wp2
            go_meet
            case rel => exact ⟨G, g, gc, _, _, rfl, hkl, hgl, HT3, HR3⟩
          · have e5 := hne 5 h5
            clear hne
            go_wp2_with fail
            refine (act_any wa c m wg L HT1.out.c1.lc (by omega) adr (HS.out.below HT1.out.c1.below) ⟨kd, k, v, wt, un⟩ hwf).mono ?_
            rintro r w3 ⟨rfl, L3, hl3, hz3, hm3, hf3, hle3⟩
            have HT3 := hide (HT1.out.cache hl3 hm3 hf3)
            have hs3 := hm3.size
            clear hl3 hz3 hm3 hf3
            go_wp2_with fail
            refine (keys_any w3 c m wg L3 HT3.out.c1.lc (by omega)).mono ?_
            rintro r w4 ⟨A, n4, cc, rfl, hn4, hr4, hb4⟩
            have HT4 := hide (HT3.out.past hb4)
            have HR4 : Hid (Row w4 (New wr) 3 1 (.slice A n4 cc) n4 (ints (keysOf L3))) := hide (hr4.mono (fun k hk _ => Nat.le_trans hsa (Nat.le_trans hs3 hk)))
            have hn44 : n4 ≤ i + 1 := by omega
            clear hn4 hr4 hb4
            go_wp2
            go_meet
            case rel => exact ⟨A, n4, cc, _, L3, rfl, by omega, hn44, HT4, HR4⟩
      case rest => as_aux_lemma =>
        obtain ⟨LA, ln, lc, xs, L', rfl, hL', hln, HT2, HRl⟩ := hcut
        have hal : Below wc.heap.size wc (wc.alloc (.cells #[.slice LA ln lc] 32)) := (Below.refl _ _).alloc (Nat.le_refl _) _
        have HAl := hide hal
        have HRk := hide (HT2.out.past hal).k.row.narrow
        clear hal
        go_upto_region 20 with (first
          | (at_builtin; refine wpList_append_row rfl _ _ 29 rfl 32 i0 (.slice none 0 0) 1 24 Tryd.underlying29 hi0 hz0 hz1 hz2 rfl (by decide) rfl HRk.out rfl (reads_one _ _ _ _) (by simp [Value.oneCell']) (by unfold maxLen; omega) (by omega) ?_
             intro A3 c3 w3 hr3 hm3
             have HKK := hide (OS.keepK HT.out HT2.out HRl.out HAl.out hm3 hr3)
             clear hr3 hm3)
          | fail)
        have hK3 := HKK.out.2.1
        have hlen3 := hK3.len
        obtain ⟨ad3, q3, he3, -⟩ := reads_pos hK3.row.reads (by omega)
        injection he3 with he3 _ hc3
        subst he3
        subst hc3
        have hal4 : Below w3.heap.size w3 (w3.alloc (.cells #[] 3)) := (Below.refl _ _).alloc (Nat.le_refl _) _
        have hl3 : Reads w3 1 (.slice LA ln lc) ln (ints xs) := hK3.reads (i := K.length) (x := ⟨.slice LA ln lc, ln, xs⟩) (by simp)
        have HAl4 := hide hal4
        have HRl3 := hide (Reads.past hl3 hal4)
        have HRt3 := hide (HKK.out.2.2.1)
        clear hK3 hlen3 hal4 hl3
        go_upto_region 21 with (first
          | (at_builtin; refine wpList_append_row rfl _ _ 32 rfl 3 j0 (.int .i64 0) 1 8 Tryd.underlying32 hj0 hy0 hy1 hy2 rfl (by decide) rfl (Row.empty _ (fun _ => False) 3 1 _) rfl HRl3.out (ints_one _) (by unfold maxLen; omega) (by omega) ?_
             intro A4 c4 w4 hr4 hm4
             rw [Nat.zero_add, List.nil_append] at hr4
             rw [Nat.zero_add]
             have hb4 : Below w3.heap.size w3 w4 := HAl4.out.trans (hm4.below (by simp) (fun _ h => h.elim))
             have hr4' : Row w4 (New w3) 3 1 (.slice A4 ln c4) ln (ints xs) := hr4.mono (fun k hk _ => by
               rcases hk with hk | hk
               · exact hk.elim
               · show w3.heap.size ≤ k
                 rw [hk]; simp)
             have hal5 : Below w4.heap.size w4 (w4.alloc (.cells #[.slice A4 ln c4] 32)) := (Below.refl _ _).alloc (Nat.le_refl _) _
             have HRt5 := hide ((HRt3.out.past hb4).past hal5).row.narrow
             have HB4 := hide hb4
             have HR4 := hide hr4'
             have HB5 := hide hal5
             clear hr4 hr4' hm4 hb4 hal5)
          | (at_builtin; refine wpList_append_row rfl _ _ 29 rfl 32 i0 (.slice none 0 0) 1 24 Tryd.underlying29 hi0 hz0 hz1 hz2 rfl (by decide) rfl HRt5.out rfl (reads_one _ _ _ _) (by simp [Value.oneCell']) (by unfold maxLen; omega) (by omega) ?_
             intro A6 c6 w6 hr6 hm6
             have HN := hide (OS.keepT HKK.out.1 HKK.out.2.1 HKK.out.2.2.1 (by rw [List.map_append, HT2.out.eq]; rfl) HKK.out.2.2.2.1 HKK.out.2.2.2.2.1 HKK.out.2.2.2.2.2.1 HKK.out.2.2.2.2.2.2 HR4.out HB4.out HB5.out hm6 hr6)
             clear hr6 hm6)
          | fail)
        obtain ⟨K2, T2, PK2, PT2, FK2, FT2, hN, hKn2⟩ : ∃ K2 T2 PK2 PT2 FK2 FT2, OS w w6 c m wg L' (.slice (some ad3) (i + 1) c3) (.slice A6 (i + 1) c6) (i + 1) K2 T2 PK2 PT2 FK2 FT2 ∧ ∀ x ∈ K2, x.n ≤ 300 :=
          ⟨_, _, _, _, _, _, HN.out, fun x hx => by
            rcases List.mem_append.1 hx with hx | hx
            · exact HKn.out x hx
            · rw [List.mem_singleton] at hx
              subst hx
              show ln ≤ 300
              omega⟩
        obtain ⟨ad6, q6, he6, -⟩ := reads_pos hN.t.row.reads (by omega)
        injection he6 with he6 _ hc6
        subst he6
        subst hc6
        have HN2 := hide hN
        have HKn2 := hide hKn2
        clear hN hKn2 HN HRt5 HB4 HR4 HB5 HAl4 HRl3 HRt3 HKK HRk HAl HRl HT2 HT1
        go_wp2_with fail
        go_loopw [12] (fun t wr2 => ∃ j : Nat, j ≤ i + 1 ∧ t = .int .i64 j ∧ Hid (OS w wr2 c m wg L' (.slice (some ad3) (i + 1) c3) (.slice (some ad6) (i + 1) c6) (i + 1) K2 T2 PK2 PT2 FK2 FT2)) (fun t _ => i + 1 - (intOf t).toNat)
        case atStart => exact ⟨0, Nat.zero_le _, rfl, HN2⟩
        case round =>
          obtain ⟨j, hj, rfl, HQ⟩ := hrel
          by_cases hjl : j < i + 1
          · obtain ⟨⟨xv, xn, xx⟩, ⟨yv, yn, yy⟩, hx, hy, hxy, hxy2⟩ := HQ.out.at hjl
            have hxy : xn = yn := hxy
            have hxy2 : xx = yy := hxy2
            subst hxy
            subst hxy2
            obtain ⟨ad, he, k1⟩ := HQ.out.k.cell hx
            obtain ⟨ad', he', k2⟩ := HQ.out.t.cell hy
            injection he with he
            injection he' with he'
            subst he
            subst he'
            have k1 : wr.cell? (ad3.add j) = some xv := k1
            have k2 : wr.cell? (ad6.add j) = some yv := k2
            have HRx := hide (HQ.out.k.reads hx)
            have HRy := hide (HQ.out.t.reads hy)
            have HC : ∀ nn, Hid (Calls Tryd.prog 17 #[xv, yv] (wr.drewN nn) fun e w' => e = .returned (.bool true) ∧ ∃ m, w' = (wr.drewN nn).drewN m) := fun nn =>
              hide (same_quiet _ xv yv xn xn rfl xx (HRx.out.kept (fun _ _ h => h)) (HRy.out.kept (fun _ _ h => h)))
            clear hx hy
            go_wp2
            go_quiet ((go_at_call 17; exact Calls.quiet_of (HC _).out))
            go_wp2
            go_roundw
            case rel => exact ⟨j + 1, by omega, by go_num, hide (HQ.out.past (below_drewN _ _))⟩
            case measure => simp [intOf]; omega
          · obtain rfl : j = i + 1 := by omega
            go_wp2
            go_roundw
            case rel => exact ⟨i + 1, by omega, by omega, by go_num, hide ⟨L', _, _, _, _, K2, T2, PK2, PT2, FK2, FT2, hL', HKn2.out, rfl, rfl, HQ.out⟩⟩
            case measure => simp [intOf]; omega
    all_goals
      as_aux_lemma =>
      have HG0 := hide HT.out.g3
      have hKl : K.length = i := HT.out.k.len
      have HKl := hide hKl
      clear hKl
      go_wp2_with fail
      refine (keys_any wr c m wg L HG0.out.c1.lc (by omega)).mono ?_
      rintro r w2 ⟨A1, n1, cc1, rfl, hn1, hr1, hb1⟩
      have HG1 := hide (HG0.out.add hb1 hr1 (by have := HKl.out; omega))
      have hn1' : n1 ≤ 300 := by omega
      clear hn1 hr1 hb1
      go_wp2_with fail
      refine (keys_any w2 c m wg L HG1.out.c1.lc (by omega)).mono ?_
      rintro r w3 ⟨A2, n2, cc2, rfl, hn2, hr2, hb2⟩
      have HG2 := hide (HG1.out.add hb2 hr2 (by have := HKl.out; simp; omega))
      have HN2 := hide hn2
      have hn2' : n2 ≤ 300 := by omega
      clear hn2 hr2 hb2
      have hal3 : Below w3.heap.size w3 (w3.alloc (.cells #[] 3)) := (Below.refl _ _).alloc (Nat.le_refl _) _
      have HAl3 := hide hal3
      have HRb := hide (Reads.past (HG2.out.reads (i := i + 1) (x := ⟨.slice A2 n2 cc2, n2, keysOf L⟩) (get2 HKl.out _ _)) hal3)
      clear hal3
      go_upto_region 28 with (first
        | (at_builtin; refine wpList_append_row rfl _ _ 32 rfl 3 j0 (.int .i64 0) 1 8 Tryd.underlying32 hj0 hy0 hy1 hy2 rfl (by decide) rfl (Row.empty _ (fun _ => False) 3 1 _) rfl HRb.out (ints_one _) (by unfold maxLen; omega) (by omega) ?_
           intro A3 c3 w4 hr4 hm4
           rw [Nat.zero_add, List.nil_append] at hr4
           rw [Nat.zero_add]
           have hb4 : Below w3.heap.size w3 w4 := HAl3.out.trans (hm4.below (by simp) (fun _ h => h.elim))
           have hr4' : Row w4 (New w3) 3 1 (.slice A3 n2 c3) n2 (ints (keysOf L)) := hr4.mono (fun k hk _ => by
             rcases hk with hk | hk
             · exact hk.elim
             · show w3.heap.size ≤ k
               rw [hk]; simp)
           have HG3 := hide (HG2.out.add hb4 hr4' (by have := HKl.out; simp; omega))
           clear hr4 hr4' hm4 hb4)
        | fail)
      have hpn : Pnt (((K ++ [⟨.slice A1 n1 cc1, n1, keysOf L⟩]) ++ [⟨.slice A2 n2 cc2, n2, keysOf L⟩]) ++ [⟨.slice A3 n2 c3, n2, keysOf L⟩]) 0 (i + 1) (keysOf L) (.slice A2 n2 cc2) (.slice A3 n2 c3) n2 := pnt_start HKl.out HKn.out hn1' hn2'
      have hxa : (((K ++ [(⟨.slice A1 n1 cc1, n1, keysOf L⟩ : Lst)]) ++ [⟨.slice A2 n2 cc2, n2, keysOf L⟩]) ++ [⟨.slice A3 n2 c3, n2, keysOf L⟩])[i]? = some ⟨.slice A1 n1 cc1, n1, keysOf L⟩ := get3a HKl.out _ _ _
      obtain ⟨K3, hK3⟩ : ∃ K3, (((K ++ [(⟨.slice A1 n1 cc1, n1, keysOf L⟩ : Lst)]) ++ [⟨.slice A2 n2 cc2, n2, keysOf L⟩]) ++ [⟨.slice A3 n2 c3, n2, keysOf L⟩]) = K3 := ⟨_, rfl⟩
      rw [hK3] at hpn hxa HG3
      have hal4 : Below w4.heap.size w4 (w4.alloc (.cells #[.slice A1 n1 cc1] 32)) := (Below.refl _ _).alloc (Nat.le_refl _) _
      obtain ⟨F4, hrow4, hnext4⟩ := (HG3.out.past hal4).take hxa
      have HRow4 := hide hrow4
      have HNext4 := hide hnext4
      have HPn := hide hpn
      clear hpn hxa hK3 hal4 hrow4 hnext4 HRb HG2 HG1 HG0 HKl
      go_upto_region 29 with (first
        | (at_builtin; refine wpList_append_row rfl _ _ 29 rfl 32 i0 (.slice none 0 0) 1 24 Tryd.underlying29 hi0 hz0 hz1 hz2 rfl (by decide) rfl HRow4.out rfl (reads_one _ _ _ _) (by simp [Value.oneCell']) (by unfold maxLen; omega) (by omega) ?_
           intro A5 c5 w5 hr5 hm5
           have HG5 := hide (HNext4.out _ _ hr5 hm5)
           clear hr5 hm5)
        | fail)
      obtain ⟨ad, q5, he5, -⟩ := reads_pos HG5.out.krow (by omega)
      injection he5 with he5 _ hc5
      subst he5
      subst hc5
      clear HRow4 HNext4 HG3 HAl3
      go_wp2_with fail
      go_loopw [16] (fun t wr => ∃ j : Nat, j ≤ i + 1 ∧ t = .int .i64 j ∧ Hid (∃ K', G3 w wr c m wg L (.slice (some ad) (i + 1) c5) (i + 1) K' ∧ Pnt K' j (i + 1) (keysOf L) (.slice A2 n2 cc2) (.slice A3 n2 c3) n2)) (fun t _ => i + 1 - (intOf t).toNat)
      case atStart => exact ⟨0, Nat.zero_le _, rfl, hide ⟨K3, HG5.out, HPn.out⟩⟩
      case round =>
        obtain ⟨j, hj, rfl, hQ⟩ := hrel
        obtain ⟨K', hG, hP⟩ := hQ.out
        have HG := hide hG
        have HP := hide hP
        clear hQ hG hP HG5 HPn
        by_cases hjl : j < i + 1
        · as_aux_lemma =>
          obtain ⟨x, hx⟩ : ∃ x, K'[j]? = some x := ⟨_, List.getElem?_eq_getElem (by have := HP.out.len; omega)⟩
          obtain ⟨⟨Ax, cx, hxv⟩, hxl⟩ := HG.out.shape hx
          obtain ⟨xv, xn, xx⟩ := x
          have hxv : xv = .slice Ax xn cx := hxv
          subst hxv
          have hxl : xx.length = xn := hxl
          have hxn : xn ≤ 300 := HP.out.le j _ hx
          have HX := hide hx
          have HXl := hide hxl
          obtain ⟨ad', he, k1⟩ := HG.out.cell hjl hx
          injection he with he
          subst he
          have k1 : wr.cell? (ad.add j) = some (.slice Ax xn cx) := k1
          clear hx hxl
          go_wp2_with fail
          go_loopw [17] (fun t wr => ∃ q : Nat, q ≤ xn ∧ t = .int .i64 q ∧ Hid (G3 w wr c m wg L (.slice (some ad) (i + 1) c5) (i + 1) (K'.set j ⟨.slice Ax xn cx, xn, pnt xx j q⟩))) (fun t _ => xn - (intOf t).toNat)
          case atStart => exact ⟨0, Nat.zero_le _, rfl, hide (by rw [pnt_zero, set_get_same HX.out]; exact HG.out)⟩
          case round =>
            obtain ⟨q, hq, rfl, HQ⟩ := hrel
            clear k1
            obtain ⟨ad', he, k1⟩ := HQ.out.cell hjl (get_set_same HX.out)
            injection he with he
            subst he
            have k1 : wr.cell? (ad.add j) = some (.slice Ax xn cx) := k1
            by_cases hql : q < xn
            · obtain ⟨G, hrow, hnext⟩ := HQ.out.paint (x := ⟨.slice Ax xn cx, xn, xx⟩) HX.out hql HXl.out
              have hrow : Row wr G 3 1 (.slice Ax xn cx) xn (ints (pnt xx j q)) := hrow
              have HRow := hide hrow
              have HNext := hide hnext
              clear hrow hnext
              go_wp2_with (first
                | ((with_reducible refine at_index rfl ?_); refine wpList_put1 rfl rfl _ _ _ 32 3 _ rfl rfl rfl rfl (by simp) Tryd.underlying32 size_int rfl HRow.out rfl (by omega) (by omega) (fun _ => rfl) rfl ?_; intro p w2 hr2 hm2; have HR2 := hide hr2; have HM2 := hide hm2; clear hr2 hm2)
                | fail)
              go_roundw
              case rel =>
                have h := HR2.out
                rw [Int.toNat_natCast] at h
                exact ⟨q + 1, by omega, by go_num, hide (HNext.out _ _ (by omega) h HM2.out)⟩
              case measure => simp [intOf]; omega
            · obtain rfl : q = xn := by omega
              go_wp2
              go_roundw
              case rel => exact ⟨j + 1, by omega, by go_num, hide ⟨_, HQ.out, by rw [pnt_full HXl.out]; exact HP.out.next HX.out hjl⟩⟩
              case measure => simp [intOf]; omega
        · as_aux_lemma =>
          obtain rfl : j = i + 1 := by omega
          have HRb := hide (HG.out.reads HP.out.b)
          have HRw := hide (HG.out.reads HP.out.want)
          go_wp2_with fail
          refine (same_quiet wr _ _ n2 n2 rfl (keysOf L) HRb.out HRw.out).mono ?_
          rintro r w7 ⟨rfl, jn, hw7⟩
          have hb7 : Below wr.heap.size wr w7 := by rw [hw7]; exact below_drewN _ _
          have HG7 := hide (HG.out.past hb7)
          clear hw7 hb7
          go_wp2_with fail
          refine (keys_any w7 c m wg L HG7.out.c1.lc (by omega)).mono ?_
          rintro r w8 ⟨A8, n8, cc8, rfl, hn8, hr8, hb8⟩
          have HG8 := hide (HG7.out.past hb8)
          have HR8 := hide hr8.reads
          have HN8 := hide hn8
          clear hn8 hr8 hb8
          go_wp2_with fail
          refine (same_quiet w8 _ _ n8 n2 (HN8.out.trans HN2.out.symm) (keysOf L) HR8.out (HG8.out.reads HP.out.want)).mono ?_
          rintro r w9 ⟨rfl, jn, hw9⟩
          have hb9 : Below w8.heap.size w8 w9 := by rw [hw9]; exact below_drewN _ _
          have HG9 := hide (HG8.out.past hb9)
          clear hw9 hb9
          have hal9 : Below w9.heap.size w9 (w9.alloc (.cells #[.slice A2 n2 cc2] 32)) := (Below.refl _ _).alloc (Nat.le_refl _) _
          obtain ⟨F9, hrow9, hnext9⟩ := (HG9.out.past hal9).take HP.out.b
          have HRow9 := hide hrow9
          have HNext9 := hide hnext9
          clear hal9 hrow9 hnext9 HG8 HR8 HG7 HRb HRw HG
          go_upto_region 39 with (first
            | (at_builtin; refine wpList_append_row rfl _ _ 29 rfl 32 i0 (.slice none 0 0) 1 24 Tryd.underlying29 hi0 hz0 hz1 hz2 rfl (by decide) rfl HRow9.out rfl (reads_one _ _ _ _) (by simp [Value.oneCell']) (by unfold maxLen; omega) (by omega) ?_
               intro A10 c10 w10 hr10 hm10
               have HG10 := hide (HNext9.out _ _ hr10 hm10)
               clear hr10 hm10)
            | fail)
          obtain ⟨ak, q10, he10, -⟩ := reads_pos HG10.out.krow (by omega)
          injection he10 with he10 _ hc10
          subst he10
          subst hc10
          clear HRow9 HNext9 HG9
          have HKs := hide (by have := HG10.out.shape HP.out.b; exact this.2 : (keysOf L).length = n2)
          go_wp2_with fail
          go_loopw [18] (fun t wr => ∃ q : Nat, q ≤ n2 ∧ t = .int .i64 q ∧ Hid (G3 w wr c m wg L (.slice (some ak) (i + 1 + 1) c10) (i + 1 + 1) (K'.set (i + 1) ⟨.slice A2 n2 cc2, n2, pnt (keysOf L) (i + 1) q⟩))) (fun t _ => n2 - (intOf t).toNat)
          case atStart => exact ⟨0, Nat.zero_le _, rfl, hide (by rw [pnt_zero, set_get_same HP.out.b]; exact HG10.out)⟩
          case round =>
            obtain ⟨q, hq, rfl, HQ⟩ := hrel
            by_cases hql : q < n2
            · obtain ⟨G, hrow, hnext⟩ := HQ.out.paint (x := ⟨.slice A2 n2 cc2, n2, keysOf L⟩) HP.out.b hql HKs.out
              have hrow : Row wr G 3 1 (.slice A2 n2 cc2) n2 (ints (pnt (keysOf L) (i + 1) q)) := hrow
              have HRow := hide hrow
              have HNext := hide hnext
              clear hrow hnext HG10
              go_wp2_with (first
                | ((with_reducible refine at_index rfl ?_); refine wpList_put1 rfl rfl _ _ _ 32 3 _ rfl rfl rfl rfl (by simp) Tryd.underlying32 size_int rfl HRow.out rfl (by omega) (by omega) (fun _ => rfl) rfl ?_; intro p w2 hr2 hm2; have HR2 := hide hr2; have HM2 := hide hm2; clear hr2 hm2)
                | fail)
              go_roundw
              case rel =>
                have h := HR2.out
                rw [Int.toNat_natCast] at h
                exact ⟨q + 1, by omega, by go_num, hide (HNext.out _ _ (by omega) h HM2.out)⟩
              case measure => simp [intOf]; omega
            · obtain rfl : q = n2 := by omega
              obtain ⟨K4, hK4⟩ : ∃ K4, K'.set (i + 1) ⟨.slice A2 q cc2, q, List.replicate q (-1000 - ((i + 1 : Nat) : Int))⟩ = K4 := ⟨_, rfl⟩
              have hpt := HP.out.last
              have hg4 := HQ.out
              rw [pnt_full HKs.out, hK4] at hg4
              rw [hK4] at hpt
              have HPt := hide hpt
              have HH := hide hg4.h4
              clear hpt hg4 hK4 HP HQ HG10
              go_wp2_with fail
              go_loopw [19, 20] (fun gv t wr => ∃ j : Nat, j ≤ i + 1 + 1 ∧ t = .int .i64 j ∧ ∃ GA gc, gv = .slice GA j gc ∧ Hid (∃ Gs, H4 w wr c m wg L (.slice (some ak) (i + 1 + 1) c10) (i + 1 + 1) K4 (.slice GA j gc) j Gs)) (fun _ t _ => i + 1 + 1 - (intOf t).toNat)
              case atStart => exact ⟨0, Nat.zero_le _, rfl, none, 0, rfl, hide ⟨[], HH.out⟩⟩
              case round =>
                obtain ⟨j, hj, rfl, GA, gc, rfl, hQ⟩ := hrel
                clear HH
                by_cases hjl : j < i + 1 + 1
                · as_aux_lemma =>
                  obtain ⟨Gs, hH⟩ := hQ.out
                  have HH := hide hH
                  clear hQ hH
                  obtain ⟨⟨xv, xn, xx⟩, hx⟩ : ∃ x, K4[j]? = some x := ⟨_, List.getElem?_eq_getElem (by have := HPt.out.len; omega)⟩
                  obtain ⟨Ax, cx, hxv⟩ := (HH.out.kept hx).shape
                  have hxv : xv = .slice Ax xn cx := hxv
                  subst hxv
                  have hxn : xn ≤ 300 := HPt.out.le j _ hx
                  obtain ⟨ad', he, k1⟩ := HH.out.kcell hjl hx
                  injection he with he
                  subst he
                  have k1 : wr.cell? (ak.add j) = some (.slice Ax xn cx) := k1
                  have HX := hide hx
                  have HI := hide (HH.out.begin hx)
                  clear hx HH
                  go_wp2_with fail
                  go_loopw [21, 22] (fun g t wr => ∃ q : Nat, q ≤ 40 ∧ t = .int .i64 q ∧ ∃ A cc, g = .slice A (xn + q) cc ∧ Hid (I4 w wr c m wg L (.slice (some ak) (i + 1 + 1) c10) (i + 1 + 1) K4 (.slice GA j gc) j Gs ⟨.slice Ax xn cx, xn, xx⟩ q (.slice A (xn + q) cc))) (fun _ t _ => 40 - (intOf t).toNat)
                  case atStart => exact ⟨0, Nat.zero_le _, rfl, Ax, cx, rfl, HI⟩
                  case round =>
                    obtain ⟨q, hq, rfl, A, cc, rfl, HQ⟩ := hrel
                    clear k1 HI
                    by_cases hql : q < 40
                    · have hal : Below wr.heap.size wr (wr.alloc (.cells #[.int .i64 (-9 - (j : Int))] 3)) := (Below.refl _ _).alloc (Nat.le_refl _) _
                      obtain ⟨G, hrow, hin, hnw⟩ := (HQ.out.past hal).step
                      have HRow := hide hrow
                      have HIn := hide hin
                      have HNw := hide hnw
                      clear hrow hin hnw hal
                      go_wp2_with (first
                        | (at_builtin; refine wpList_append_two rfl _ _ 32 rfl 3 j0 (.int .i64 0) 1 8 Tryd.underlying32 hj0 hy0 hy1 hy2 rfl rfl HRow.out rfl (reads_one _ _ _ _) (by simp [Value.oneCell']) (by unfold maxLen; omega) (by omega)
                             (fun A' c' w' => Hid (I4 w w' c m wg L (.slice (some ak) (i + 1 + 1) c10) (i + 1 + 1) K4 (.slice GA j gc) j Gs ⟨.slice Ax xn cx, xn, xx⟩ (q + 1) (.slice A' (xn + q + 1) c'))) (fun _ w' hr hm => HIn.out w' hr hm) (fun A' c' w' hr hb => HNw.out A' c' w' hr hb) ?_
                           intro A7 c7 w7 HI7)
                        | fail)
                      go_roundw
                      case rel => exact ⟨q + 1, by omega, by go_num, A7, c7, rfl, HI7⟩
                      case measure => simp [intOf]; omega
                    · obtain rfl : q = 40 := by omega
                      have hal : Below wr.heap.size wr (wr.alloc (.cells #[.slice A (xn + 40) cc] 32)) := (Below.refl _ _).alloc (Nat.le_refl _) _
                      obtain ⟨FG, hrow, hnext⟩ := (HQ.out.past hal).take HX.out
                      have HRow := hide hrow
                      have HNext := hide hnext
                      clear hrow hnext hal
                      go_wp2_with (first
                        | (at_builtin; refine wpList_append_row rfl _ _ 29 rfl 32 i0 (.slice none 0 0) 1 24 Tryd.underlying29 hi0 hz0 hz1 hz2 rfl (by decide) rfl HRow.out rfl (reads_one _ _ _ _) (by simp [Value.oneCell']) (by unfold maxLen; omega) (by omega) ?_
                           intro A8 c8 w8 hr8 hm8
                           have HH8 := hide (HNext.out _ _ hr8 hm8)
                           clear hr8 hm8)
                        | fail)
                      go_roundw
                      case rel => exact ⟨j + 1, by omega, by go_num, A8, c8, rfl, hide ⟨_, HH8.out⟩⟩
                      case measure => simp [intOf]; omega
                · as_aux_lemma =>
                  obtain rfl : j = i + 1 + 1 := by omega
                  obtain ⟨Gs, hH⟩ := hQ.out
                  have HH := hide hH
                  have HKr := hide hH.krow
                  have HGr := hide hH.grow
                  clear hQ hH
                  go_wp2_with fail
                  go_loop [23] (fun t => ∃ j : Nat, j ≤ i + 1 + 1 ∧ t = .int .i64 j) (fun t => i + 1 + 1 - (intOf t).toNat)
                  case atStart => exact ⟨0, Nat.zero_le _, rfl⟩
                  case round =>
                    obtain ⟨j, hj, rfl⟩ := hrel
                    by_cases hjl : j < i + 1 + 1
                    · obtain ⟨⟨xv, xn, xx⟩, hx⟩ : ∃ x, K4[j]? = some x := ⟨_, List.getElem?_eq_getElem (by have := HPt.out.len; omega)⟩
                      have HRx := hide (HH.out.kept hx)
                      obtain ⟨Ax, cx, hxv⟩ := HRx.out.shape
                      have hxv : xv = .slice Ax xn cx := hxv
                      subst hxv
                      have hxn : xn ≤ 300 := HPt.out.le j _ hx
                      obtain ⟨⟨gv, gn, gx⟩, hg, -, hgr⟩ := HH.out.grown hjl hx
                      have hxx : xx = List.replicate xn (-1000 - (j : Int)) := HPt.out.done j _ hjl hx
                      have HVx := hide (vs_get hx hjl)
                      have HVg : Hid ((Gs.map (·.v))[j]? = some gv) := hide (by rw [List.getElem?_map, hg]; rfl)
                      have HRg : Hid (Reads wr 1 gv (xn + 40) (ints (xx ++ List.replicate 40 (-9 - (j : Int))))) := hide hgr
                      have HEx : ∀ q, q < xn → Hid ((ints xx)[q]? = some (.int .i64 (-1000 - (j : Int)))) := fun q hq => hide (by rw [hxx]; simp [ints, hq])
                      have HEg : ∀ q, xn ≤ q → q < xn + 40 → Hid ((ints (xx ++ List.replicate 40 (-9 - (j : Int))))[q]? = some (.int .i64 (-9 - (j : Int)))) := fun q hq hq2 => hide (by
                        rw [hxx]
                        unfold ints
                        rw [List.map_append, List.getElem?_append_right (by simpa using hq), List.map_replicate, List.map_replicate, List.length_replicate, List.getElem?_replicate, if_pos (by omega)])
                      clear hx hg hgr hxx
                      go_wp2_with (first
                        | ((with_reducible refine at_index rfl ?_); refine wpList_at1 rfl rfl _ _ 29 32 _ rfl rfl rfl (by simp) Tryd.underlying29 size_list agg_list rfl HKr.out rfl (by omega) (by omega) HVx.out ?_; intro zz)
                        | fail)
                      go_loop [25] (fun t => ∃ q : Nat, q ≤ xn ∧ t = .int .i64 q) (fun t => xn - (intOf t).toNat)
                      case atStart => exact ⟨0, Nat.zero_le _, rfl⟩
                      case round =>
                        obtain ⟨q2, hq2, rfl⟩ := hrel
                        by_cases hql : q2 < xn
                        · have HU := HEx q2 hql
                          go_wp2_with (first
                            | ((with_reducible refine at_index rfl ?_); refine wpList_at1 rfl rfl _ _ 29 32 _ rfl rfl rfl (by simp) Tryd.underlying29 size_list agg_list rfl HKr.out rfl (by omega) (by omega) HVx.out ?_; intro zz)
                            | ((with_reducible refine at_index rfl ?_); refine wpList_at1 rfl rfl _ _ 32 3 _ rfl rfl rfl (by simp) Tryd.underlying32 size_int agg_int rfl HRx.out rfl (by omega) (by omega) HU.out ?_; intro zz)
                            | fail)
                          go_round
                          case rel => exact ⟨q2 + 1, by omega, by go_num⟩
                          case measure => simp [intOf]; omega
                        · obtain rfl : q2 = xn := by omega
                          go_wp2_with fail
                          go_loop [26] (fun t => ∃ q : Nat, q2 ≤ q ∧ q ≤ q2 + 40 ∧ t = .int .i64 q) (fun t => q2 + 40 - (intOf t).toNat)
                          case atStart => exact ⟨q2, Nat.le_refl _, by omega, rfl⟩
                          case round =>
                            obtain ⟨q3, hq3, hq4, rfl⟩ := hrel
                            by_cases hql3 : q3 < q2 + 40
                            · have HU := HEg q3 hq3 hql3
                              go_wp2_with (first
                                | ((with_reducible refine at_index rfl ?_); refine wpList_at1 rfl rfl _ _ 29 32 _ rfl rfl rfl (by simp) Tryd.underlying29 size_list agg_list rfl HGr.out rfl (by omega) (by omega) HVg.out ?_; intro zz)
                                | ((with_reducible refine at_index rfl ?_); refine wpList_at1 rfl rfl _ _ 32 3 _ rfl rfl rfl (by simp) Tryd.underlying32 size_int agg_int rfl HRg.out rfl (by omega) (by omega) HU.out ?_; intro zz)
                                | fail)
                              go_round
                              case rel => exact ⟨q3 + 1, by omega, by omega, by go_num⟩
                              case measure => simp [intOf]; omega
                            · obtain rfl : q3 = q2 + 40 := by omega
                              go_wp2
                              go_round
                              case rel => exact ⟨j + 1, by omega, by go_num⟩
                              case measure => simp [intOf]; omega
                    · obtain rfl : j = i + 1 + 1 := by omega
                      go_wp2_with fail
                      refine (keys_any wr c m wg L HH.out.c1.lc (by omega)).mono ?_
                      rintro r w8 ⟨A8, n8, cc8, rfl, hn8, hr8, hb8⟩
                      have HH8 := hide (HH.out.past hb8)
                      have HR8 := hide hr8.reads
                      have HN8 := hide hn8
                      clear hn8 hr8 hb8
                      go_wp2_with fail
                      refine (same_quiet w8 _ _ n8 q (HN8.out.trans HN2.out.symm) (keysOf L) HR8.out (HH8.out.kept HPt.out.want)).mono ?_
                      rintro r w9 ⟨rfl, jn, hw9⟩
                      have hb9 : Below w8.heap.size w8 w9 := by rw [hw9]; exact below_drewN _ _
                      have HH9 := hide (HH8.out.past hb9)
                      clear hw9 hb9
                      go_wp2
                      go_ret
                      exact ⟨rfl, HH9.out.c1.below⟩

set_option maxRecDepth 10000 in
set_option maxHeartbeats 2000000 in
theorem walk (w : World) (adr : Nat → Addr) (hS : Sent w adr) (wg : Int) (hwt : wg ≤ 9223372036854775807) (sv : Value) (n : Nat) (ops : List OpD) (ho : Ops w sv n ops) :
    Calls Tryd.prog 3 #[.int .i64 wg, sv] w fun e w' => e = .returned (.bool true) ∧ Below w.heap.size w w' := by
  by_cases h0 : wg < 0
  · have HS := hide hS
    have hd : decide (wg < 0) = true := decide_eq_true h0
    clear hS
    go_enter Tryd.func3, Tryd.ntmps3
    go_wp2_with fail
    refine (awake_true w adr HS.out).mono ?_
    rintro e w1 ⟨rfl, hb1⟩
    have HB1 := hide hb1
    have hE := hide ((HS.out.below hb1).cell 2 (by decide) (by decide))
    clear hb1
    go_wp2_with fail
    refine (new_bad w1 wg h0 _ hE.out).mono ?_
    rintro e w2 ⟨rfl, hb2⟩
    have HB2 := hide (HB1.out.trans (hb2.mono HB1.out.size))
    clear hb2
    go_wp2
    go_ret
    exact ⟨rfl, HB2.out⟩
  · exact walk_good w adr hS wg (by omega) hwt sv n ops ho
end Go.Proofs.YtlnbgahfelcbiaaDoor.lruOwn
