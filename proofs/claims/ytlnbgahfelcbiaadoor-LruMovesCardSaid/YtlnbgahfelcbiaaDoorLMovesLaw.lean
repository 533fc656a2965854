/-
  LruMoves: for every room and script the law returns true: each call against the rows ahead of it.
-/
import Derived.Test.YtlnbgahfelcbiaaDoorLMPut
import Derived.Deep.CutBlock
namespace Go.Proofs.YtlnbgahfelcbiaaDoor.lruMoves
open Go Go.RowKit Go.Cu Go.Proofs.YtlnbgahfelcbiaaDoor Go.Proofs.YtlnbgahfelcbiaaDoor.errs

/-- a cache, and a map that knows its weights -/
structure MV (w0 w : World) (c m : Nat) (room : Int) (L : List LE) (sm i : Nat) : Prop where
  c1 : C1 w0 w c m room L
  mp : ∃ f nm, Mp w Tryd.prog 3 sm f nm ∧ nm ≤ i ∧ Wts f L
  ns : ∀ k, InC c m L k → k ≠ sm
  lo : w0.heap.size ≤ sm
section
variable {w0 w w' : World} {c m sm i : Nat} {room : Int} {L L' : List LE}
theorem MV.up (h : MV w0 w c m room L sm i) : MV w0 w c m room L sm (i + 1) := by
  obtain ⟨f, nm, h1, h2, h3⟩ := h.mp
  exact ⟨h.c1, ⟨f, nm, h1, by omega, h3⟩, h.ns, h.lo⟩
theorem MV.past (h : MV w0 w c m room L sm i) (hb : Below w.heap.size w w') : MV w0 w' c m room L sm i := by
  obtain ⟨f, nm, h1, h2, h3⟩ := h.mp
  exact ⟨h.c1.past hb, ⟨f, nm, h1.block (hb.block _ h1.lt), h2, h3⟩, h.ns, h.lo⟩
theorem MV.step (h : MV w0 w c m room L sm i) (hl : LCP w' c m room L') (hm : Mod (InC c m L) w w') (hs : ∀ e ∈ L', e ∈ L) : MV w0 w' c m room L' sm i := by
  obtain ⟨f, nm, h1, h2, h3⟩ := h.mp
  exact ⟨h.c1.step hl hm (From.sub hs), ⟨f, nm, h1.block (hm.block _ h1.lt (fun hk => h.ns _ hk rfl)), h2, h3.sub hs⟩, fun k hk => h.ns k (InC.sub hs k hk), h.lo⟩
theorem MV.put {nm : Nat} {f : Lit → Option Value} (h : MV w0 w c m room L sm i) (h1 : Mp w Tryd.prog 3 sm f nm) (h2 : nm ≤ i) {r : Ending} (hp : MPost w c m room L sm nm r w') : r = .returned (.bool true) ∧ ∃ L', L'.length ≤ L.length + 1 ∧ MV w0 w' c m room L' sm (i + 1) := by
  obtain ⟨hr, L', f', n', hl, hm, hf, hle, hmp, hn, hw⟩ := hp
  have hlt := h1.lt
  exact ⟨hr, L', hle, ⟨⟨hl, fun k hk => (hf k hk).elim (h.c1.low k) (fun h2 => by have := h.c1.below.size; omega), h.c1.below.trans (hm.below h.c1.below.size (fun k hk => hk.elim (h.c1.low k) (fun e => by have := h.lo; omega)))⟩,
    ⟨f', n', hmp, by omega, hw⟩, fun k hk => (hf k hk).elim (h.ns k) (fun h2 => by omega), h.lo⟩⟩
end
theorem mput_any (w : World) (c m : Nat) (room : Int) (L : List LE) (h : LCP w c m room L) (hn : L.length ≤ 600) (adr : Nat → Addr) (hS : Sent w adr) (A : Option Addr) (n cc : Nat) (hr : Row w (fun _ => True) 62 3 (.slice A n cc) n (trisC L)) (sm nm : Nat) (f : Lit → Option Value) (hm : Mp w Tryd.prog 3 sm f nm) (hnm : nm ≤ 600) (hns : ∀ k, InC c m L k → k ≠ sm) (hw : Wts f L) (k v wt un : Int) (hk : (Lit.int .i64 k).wf = true) :
    Calls Tryd.prog 26 #[ptr c, .slice A n cc, .map (some sm), .int .i64 room, opV ⟨1, k, v, wt, un⟩] w (MPost w c m room L sm nm) := by
  by_cases g1 : wt < 0
  · exact mput_bad w c m room L h hn adr hS A n cc hr sm nm f hm hw k v wt un 2 (.inl ⟨g1, rfl⟩)
  · by_cases g2 : room < wt
    · exact mput_bad w c m room L h hn adr hS A n cc hr sm nm f hm hw k v wt un 6 (.inr ⟨g1, g2, rfl⟩)
    · exact mput_ok w c m room L h hn A n cc hr sm nm f hm hnm hns hw k v wt un hk (by omega) (by omega)
theorem goneT_get {now : Int} {L : List LE} {j : Nat} {x : LE} (hx : L[j]? = some x) (h : x.un ≤ now) : (keysOf (goneT now L))[(goneT now (L.take j)).length]? = some x.k := by
  have hj := (List.getElem?_eq_some_iff.1 hx).1
  have hs : L = L.take j ++ x :: L.drop (j + 1) := by
    conv => lhs; rw [← List.take_append_drop j L]
    rw [List.drop_eq_getElem_cons hj]
    rw [List.getElem?_eq_getElem hj] at hx
    injection hx with hx
    rw [hx]
  have e : goneT now L = goneT now (L.take j) ++ x :: goneT now (L.drop (j + 1)) := by
    conv => lhs; rw [hs]
    unfold goneT
    rw [List.filter_append, List.filter_cons_of_pos (by simpa using h)]
  unfold keysOf
  rw [e, List.map_append, List.getElem?_append_right (by simp)]
  simp

set_option maxRecDepth 10000 in
set_option maxHeartbeats 16000000 in
theorem walk_good (w : World) (adr : Nat → Addr) (hS : Sent w adr) (wg : Int) (hge : 0 ≤ wg) (hwt : wg ≤ 9223372036854775807) (sv : Value) (n : Nat) (ops : List OpD) (ho : Ops w sv n ops) :
    Calls Tryd.prog 7 #[.int .i64 wg, sv] w fun e w' => e = .returned (.bool true) ∧ Below w.heap.size w w' := by
  have HOp := hide ho
  have HS := hide hS
  obtain ⟨SA, sc, rfl⟩ := ho.reads.shape
  have hsn := maxLen_lt ho.reads.size
  obtain ⟨i0, hi0, hz0, hz1, hz2⟩ := info_parts info_tri
  clear ho hS
  have hmm := @run_makeMap Tryd.prog
  go_enter Tryd.func7, Tryd.ntmps7
  go_wp2_with fail
  refine (awake_true w adr HS.out).mono ?_
  rintro e w1 ⟨rfl, hb1⟩
  have HB1 := hide hb1
  clear hb1
  go_wp2_with fail
  refine (new_ok w1 wg hge hwt).mono ?_
  rintro e w2 ⟨c, rfl, m, hc2, hm2, hcl2, hb2⟩
  have HC2 := hide (C1.made HB1.out hc2 hm2 hcl2 hb2)
  clear hb2 hc2 hm2 hcl2
  go_upto_region 7 with fail
  have hmp := Mp.made w2 Tryd.prog 3
  have hal2 : Below w2.heap.size w2 (w2.alloc (.map #[] 0)) := (Below.refl _ _).alloc (Nat.le_refl _) _
  obtain ⟨w3, hw3⟩ : ∃ w3, w2.alloc (.map #[] 0) = w3 := ⟨_, rfl⟩
  obtain ⟨sm, hsm⟩ : ∃ sm, w2.heap.size = sm := ⟨_, rfl⟩
  rw [hw3] at hmp hal2
  rw [hsm] at hmp
  rw [hw3, hsm]
  have HT3 : Hid (MV w w3 c m wg [] sm 0) := hide ⟨HC2.out.past hal2, ⟨_, _, hmp, Nat.le_refl _, fun e he => (by cases he)⟩, fun k hk e => by have := HC2.out.lc.lt k hk; omega, by have := HC2.out.below.size; omega⟩
  clear hmp hal2 hw3 hsm
  go_wp2_with fail
  go_loopw [8] (fun v8 wr => ∃ i : Nat, i ≤ n ∧ i ≤ 600 ∧ v8 = .int .i64 i ∧ Hid (∃ L, L.length ≤ i ∧ MV w wr c m wg L sm i)) (fun v8 _ => n - (intOf v8).toNat)
  case atStart => exact ⟨0, Nat.zero_le _, Nat.zero_le _, rfl, hide ⟨[], Nat.le_refl _, HT3.out⟩⟩
  case round =>
    clear HT3 HC2
    obtain ⟨i, hi, hi2, rfl, hst⟩ := hrel
    obtain ⟨L, hL, hT⟩ := hst.out
    have HT := hide hT
    clear hst hT
    have hcs : (i < n ∧ i < 600) ∨ (¬ i < n) ∨ (i < n ∧ ¬ i < 600) := by omega
    rcases hcs with ⟨hlt, hlt2⟩ | hout | ⟨hlt, hout⟩
    · obtain ⟨⟨kd, k, v, wt, un⟩, hoi⟩ : ∃ o, ops[i]? = some o := ⟨_, List.getElem?_eq_getElem (by rw [HOp.out.length]; exact hlt)⟩
      have hwf : (Lit.int .i64 k).wf = true := (HOp.out.each _ (List.mem_of_getElem? hoi)).2.1
      have HU := hide (flat_get opCell_length hoi)
      have HRd := hide (Reads.past HOp.out.reads HT.out.c1.below)
      have hal : Below wr.heap.size wr (wr.alloc (.cells #[.int .i64 kd, .int .i64 k, .int .i64 v, .int .i64 wt, .int .i64 un] 31)) := (Below.refl _ _).alloc (Nat.le_refl _) _
      have HBx := hide (heap_alloc_new wr (.cells #[.int .i64 kd, .int .i64 k, .int .i64 v, .int .i64 wt, .int .i64 un] 31))
      have HT1 := hide (HT.out.past hal)
      clear hoi hal
      go_upto_region 11 with (first
        | ((with_reducible refine at_index rfl ?_); refine wpList_atS rfl rfl _ _ 22 31 _ rfl rfl rfl (by simp) Tryd.underlying22 (by decide) size_op agg_op rfl HRd.out rfl (by omega) (by omega) (us := [.int .i64 kd, .int .i64 k, .int .i64 v, .int .i64 wt, .int .i64 un]) rfl HU.out ?_; intro zz)
        | fail)
      obtain ⟨wa, hwa⟩ : ∃ wa, wr.alloc (.cells #[.int .i64 kd, .int .i64 k, .int .i64 v, .int .i64 wt, .int .i64 un] 31) = wa := ⟨_, rfl⟩
      obtain ⟨q, hq⟩ : ∃ q, wr.heap.size = q := ⟨_, rfl⟩
      rw [hwa] at HBx HT1
      rw [hq] at HBx
      rw [hwa, hq]
      clear hwa hq
      go_wp2_with fail
      refine (rows_any wa c m wg L HT1.out.c1.lc (by omega)).mono ?_
      rintro r w1 ⟨A, n1, cc, rfl, hn1, hr1, hb1⟩
      have HT2 := hide (HT1.out.past hb1)
      have HBx2 := hide (below_at hb1 HBx.out)
      have HWas := hide (hr1.mono (G := fun _ => True) (fun _ _ _ => trivial))
      have HN1 := hide hn1
      have hn12 : n1 ≤ 600 := by omega
      obtain ⟨o0, o1, o2, o3, o4⟩ := box5 HBx2.out
      obtain ⟨p, hp⟩ := posR_ex L k
      have HP := hide hp
      clear hb1 hr1 hn1 hp
      go_wp2_with fail
      refine (find_any w1 A n1 cc L HWas.out.reads k p HP.out).mono ?_
      rintro r w2 ⟨rfl, hb2⟩
      have HT3 := hide (HT2.out.past hb2)
      have HBx3 := hide (below_at hb2 HBx2.out)
      have HWas3 := hide (HWas.out.kept (Mod.ofBelow hb2 (fun _ => False)) (fun _ _ _ h => h))
      clear hb2 o0 o1 o2 o3 o4
      obtain ⟨o0, o1, o2, o3, o4⟩ := box5 HBx3.out
      have hne : ∀ j : Int, kd ≠ j → (kd == j) = false := fun j h => by simp [h]
      by_cases h1 : kd = 1
      · as_aux_lemma =>
        subst h1
        clear hne
        obtain ⟨f, nm, hmp, hnm, hwts⟩ := HT3.out.mp
        have HMp := hide hmp
        have HWts := hide hwts
        clear hmp hwts
        go_wp2_with fail
        refine (mput_any w2 c m wg L HT3.out.c1.lc (by omega) adr (HS.out.below HT3.out.c1.below) A n1 cc HWas3.out sm nm f HMp.out (by omega) HT3.out.ns HWts.out k v wt un hwf).mono ?_
        rintro r w3 hpost
        obtain ⟨rfl, L', hle, hT4⟩ := HT3.out.put HMp.out hnm hpost
        have HT4 := hide hT4
        clear hpost hT4
        go_wp2
        go_roundw
        case rel => exact ⟨i + 1, by omega, by omega, by go_num, hide ⟨L', by omega, HT4.out⟩⟩
        case measure => simp [intOf]; omega
      have e1 := hne 1 h1

      by_cases h2 : kd = 2
      · subst h2
        clear hne
        cases HP.out with
        | no hno =>
          as_aux_lemma =>
          have HNo := hide hno
          clear hno
          go_wp2_with fail
          refine (get_n (p := some c) (.inl ⟨rfl, HT3.out.c1.lc⟩) hwf (GetR.no HNo.out)).mono ?_
          rintro r w3 ⟨rfl, hc3, hm3⟩
          have hl3 : LCP w3 c m wg L := by rcases hc3 with ⟨_, h⟩ | ⟨h, _⟩; exact h; cases h
          have hm3' : Mod (InC c m _) w2 w3 := hm3.mono (fun _ _ h => h.2)
          have HT4 := hide (HT3.out.step hl3 hm3' (fun _ h => h))
          have HBx4 := hide (hm3'.heap HBx3.out (fun hk => HT3.out.c1.lc.not_row (by decide) (by decide) _ hk ⟨_, HBx3.out⟩))
          have HWas4 := hide (HT3.out.c1.lc.row (by decide) (by decide) hm3' HWas3.out)
          clear hc3 hm3 hl3 hm3' o0 o1 o2 o3 o4
          obtain ⟨o0, o1, o2, o3, o4⟩ := box5 HBx4.out
          go_upto_region 22 with fail
          go_quiet (fail)
          obtain ⟨w4, hw4⟩ : ∃ w4, w3.drewN nq = w4 := ⟨_, rfl⟩
          have hb4 : Below w3.heap.size w3 w4 := by rw [← hw4]; exact below_drewN _ _
          rw [hw4]
          have HT4' := hide (HT4.out.past hb4)
          have HBx4' := hide (below_at hb4 HBx4.out)
          have HWas4' := hide (HWas4.out.kept (Mod.ofBelow hb4 (fun _ => False)) (fun _ _ _ h => h))
          clear hb4 hw4
          clear o0 o1 o2 o3 o4
          obtain ⟨o0, o1, o2, o3, o4⟩ := box5 HBx4'.out
          go_wp2_with fail
          refine (without_any w4 A n1 cc L HWas4'.out.reads (by omega) _).mono ?_
          rintro r w5 ⟨B, m5, c5, rfl, hm5, hr5, hb5⟩
          rw [without_none HNo.out] at hm5 hr5
          have HT5 := hide (HT4'.out.past hb5)
          have HW5 := hide hr5.reads
          have HM5 := hide hm5
          have HBelow5 := hide hb5
          clear hm5 hr5 hb5
          go_wp2_with fail
          refine (rows_any _ c m wg _ HT5.out.c1.lc (by have := (show L.length ≤ i + 1 by omega); omega)).mono ?_
          rintro r wA ⟨NA, nA, cA, rfl, hnA, hrA, hbA⟩
          have HTA := hide (HT5.out.past hbA)
          have HNA := hide hnA
          have HRA := hide hrA.reads
          have HWA := hide (Reads.past HW5.out hbA)
          have HEq := hide (show nA = m5 by rw [hnA]; exact (HM5.out).symm)
          clear hnA hrA hbA
          go_wp2_with fail
          refine (alike_true wA NA B nA m5 cA c5 HEq.out _ HRA.out HWA.out).mono ?_
          rintro r wB ⟨rfl, hbB⟩
          have HTB := hide (HTA.out.past hbB)
          clear hbB
          have hlen : Calls Tryd.prog 19 #[ptr c] wB fun r w' => r = .returned (.int .i64 nA) ∧ wB = w' := (len_any wB c m wg _ HTB.out.c1.lc).mono (fun _ _ h => ⟨by rw [h.1, HNA.out], h.2⟩)
          have HLen := hide hlen
          clear hlen
          go_wp2_with fail
          refine HLen.out.mono ?_
          rintro r wC ⟨rfl, rfl⟩
          obtain ⟨tot, htot⟩ : ∃ tot, wsum L = tot := ⟨_, rfl⟩
          have htop : tot ≤ wg := by rw [← htot]; exact HTB.out.c1.lc.fits
          have hwe : Calls Tryd.prog 31 #[ptr c] wB fun r w' => r = .returned (.int .i64 tot) ∧ wB = w' := (weight_any wB c m wg _ HTB.out.c1.lc).mono (fun _ _ h => ⟨by rw [h.1, htot], h.2⟩)
          have HWe := hide hwe
          clear hwe htot
          have hnn : (((nA : Nat) : Int) != ((nA : Nat) : Int)) = false := by simp
          go_wp2_with fail
          refine HWe.out.mono ?_
          rintro r wD ⟨rfl, rfl⟩
          have hdw : decide (wg < tot) = false := decide_eq_false (by omega)
          go_wp2
          go_roundw
          case rel => exact ⟨i + 1, by omega, by omega, by go_num, hide ⟨_, (show L.length ≤ i + 1 by omega), HTB.out.up⟩⟩
          case measure => simp [intOf]; omega
        | yes a b e hLe hek hna =>
          subst hLe
          subst hek
          have HKs := hide HT3.out.c1.lc.keys
          have HWm := hide (without_mid (a := a) (b := b) (e := e) (sub_keys HKs.out).2)
          have HNa := hide hna
          have hab : a.length + b.length + 1 ≤ i := by simpa [Nat.add_assoc] using hL
          have haln : a.length < n1 := by have := HN1.out; simp at this; omega
          clear hna
          have hxa : (a ++ e :: b)[a.length]? = some e := by simp
          by_cases hl : e.un ≤ un
          · as_aux_lemma =>
            go_wp2_with fail
            refine (get_n (p := some c) (.inl ⟨rfl, HT3.out.c1.lc⟩) hwf (GetR.old a b e rfl rfl hl)).mono ?_
            rintro r w3 ⟨rfl, hc3, hm3⟩
            have hl3 : LCP w3 c m wg (a ++ b) := by rcases hc3 with ⟨_, h⟩ | ⟨h, _⟩; exact h; cases h
            have hm3' : Mod (InC c m _) w2 w3 := hm3.mono (fun _ _ h => h.2)
            have HT4 := hide (HT3.out.step hl3 hm3' (fun _ h => mem_mid h))
            have HBx4 := hide (hm3'.heap HBx3.out (fun hk => HT3.out.c1.lc.not_row (by decide) (by decide) _ hk ⟨_, HBx3.out⟩))
            have HWas4 := hide (HT3.out.c1.lc.row (by decide) (by decide) hm3' HWas3.out)
            clear hc3 hm3 hl3 hm3' o0 o1 o2 o3 o4
            obtain ⟨o0, o1, o2, o3, o4⟩ := box5 HBx4.out
            obtain ⟨ad, hA, s0, s1, s2⟩ := tris_cell HWas4.out.reads hxa
            subst hA
            have hd0 : decide ((0 : Int) ≤ (a.length : Int)) = true := decide_eq_true (by omega)
            have hd1 : decide (un < e.un) = false := decide_eq_false (by omega)
            have hb1 : (a.length : Int) < (n1 : Int) := by omega
            have hmx : max (a.length : Int) 0 = (a.length : Int) := by omega
            have hvv : (e.v != e.v) = false := by simp
            go_upto_region 22 with fail
            go_quiet (fail)
            obtain ⟨w4, hw4⟩ : ∃ w4, w3.drewN nq = w4 := ⟨_, rfl⟩
            have hb4 : Below w3.heap.size w3 w4 := by rw [← hw4]; exact below_drewN _ _
            rw [hw4]
            have HT4' := hide (HT4.out.past hb4)
            have HBx4' := hide (below_at hb4 HBx4.out)
            have HWas4' := hide (HWas4.out.kept (Mod.ofBelow hb4 (fun _ => False)) (fun _ _ _ h => h))
            clear hb4 hw4
            clear o0 o1 o2 o3 o4 s0 s1 s2 hd0 hd1 hb1 hmx hvv
            obtain ⟨o0, o1, o2, o3, o4⟩ := box5 HBx4'.out
            go_wp2_with fail
            refine (without_any w4 (some ad) n1 cc (a ++ e :: b) HWas4'.out.reads (by omega) _).mono ?_
            rintro r w5 ⟨B, m5, c5, rfl, hm5, hr5, hb5⟩
            rw [HWm.out] at hm5 hr5
            have HT5 := hide (HT4'.out.past hb5)
            have HW5 := hide hr5.reads
            have HM5 := hide hm5
            have HBelow5 := hide hb5
            clear hm5 hr5 hb5
            go_wp2_with fail
            refine (rows_any _ c m wg _ HT5.out.c1.lc (by have := (show (a ++ b).length ≤ i + 1 by simp; omega); omega)).mono ?_
            rintro r wA ⟨NA, nA, cA, rfl, hnA, hrA, hbA⟩
            have HTA := hide (HT5.out.past hbA)
            have HNA := hide hnA
            have HRA := hide hrA.reads
            have HWA := hide (Reads.past HW5.out hbA)
            have HEq := hide (show nA = m5 by rw [hnA]; exact (HM5.out).symm)
            clear hnA hrA hbA
            go_wp2_with fail
            refine (alike_true wA NA B nA m5 cA c5 HEq.out _ HRA.out HWA.out).mono ?_
            rintro r wB ⟨rfl, hbB⟩
            have HTB := hide (HTA.out.past hbB)
            clear hbB
            have hlen : Calls Tryd.prog 19 #[ptr c] wB fun r w' => r = .returned (.int .i64 nA) ∧ wB = w' := (len_any wB c m wg _ HTB.out.c1.lc).mono (fun _ _ h => ⟨by rw [h.1, HNA.out], h.2⟩)
            have HLen := hide hlen
            clear hlen
            go_wp2_with fail
            refine HLen.out.mono ?_
            rintro r wC ⟨rfl, rfl⟩
            obtain ⟨tot, htot⟩ : ∃ tot, wsum (a ++ b) = tot := ⟨_, rfl⟩
            have htop : tot ≤ wg := by rw [← htot]; exact HTB.out.c1.lc.fits
            have hwe : Calls Tryd.prog 31 #[ptr c] wB fun r w' => r = .returned (.int .i64 tot) ∧ wB = w' := (weight_any wB c m wg _ HTB.out.c1.lc).mono (fun _ _ h => ⟨by rw [h.1, htot], h.2⟩)
            have HWe := hide hwe
            clear hwe htot
            have hnn : (((nA : Nat) : Int) != ((nA : Nat) : Int)) = false := by simp
            go_wp2_with fail
            refine HWe.out.mono ?_
            rintro r wD ⟨rfl, rfl⟩
            have hdw : decide (wg < tot) = false := decide_eq_false (by omega)
            go_wp2
            go_roundw
            case rel => exact ⟨i + 1, by omega, by omega, by go_num, hide ⟨_, (show (a ++ b).length ≤ i + 1 by simp; omega), HTB.out.up⟩⟩
            case measure => simp [intOf]; omega
          · as_aux_lemma =>
            have hl2 : un < e.un := by omega
            go_wp2_with fail
            refine (get_n (p := some c) (.inl ⟨rfl, HT3.out.c1.lc⟩) hwf (GetR.good a b e rfl rfl hl2)).mono ?_
            rintro r w3 ⟨rfl, hc3, hm3⟩
            have hl3 : LCP w3 c m wg (e :: (a ++ b)) := by rcases hc3 with ⟨_, h⟩ | ⟨h, _⟩; exact h; cases h
            have hm3' : Mod (InC c m _) w2 w3 := hm3.mono (fun _ _ h => h.2)
            have HT4 := hide (HT3.out.step hl3 hm3' (fun x hx => by rcases List.mem_cons.1 hx with rfl | hx; simp; exact mem_mid hx))
            have HBx4 := hide (hm3'.heap HBx3.out (fun hk => HT3.out.c1.lc.not_row (by decide) (by decide) _ hk ⟨_, HBx3.out⟩))
            have HWas4 := hide (HT3.out.c1.lc.row (by decide) (by decide) hm3' HWas3.out)
            clear hc3 hm3 hl3 hm3' o0 o1 o2 o3 o4
            obtain ⟨o0, o1, o2, o3, o4⟩ := box5 HBx4.out
            obtain ⟨ad, hA, s0, s1, s2⟩ := tris_cell HWas4.out.reads hxa
            subst hA
            have hd0 : decide ((0 : Int) ≤ (a.length : Int)) = true := decide_eq_true (by omega)
            have hd1 : decide (un < e.un) = true := decide_eq_true (by omega)
            have hb1 : (a.length : Int) < (n1 : Int) := by omega
            have hmx : max (a.length : Int) 0 = (a.length : Int) := by omega
            have hvv : (e.v != e.v) = false := by simp
            go_upto_region 22 with fail
            go_quiet (fail)
            obtain ⟨w4, hw4⟩ : ∃ w4, w3.drewN nq = w4 := ⟨_, rfl⟩
            have hb4 : Below w3.heap.size w3 w4 := by rw [← hw4]; exact below_drewN _ _
            rw [hw4]
            have HT4' := hide (HT4.out.past hb4)
            have HBx4' := hide (below_at hb4 HBx4.out)
            have HWas4' := hide (HWas4.out.kept (Mod.ofBelow hb4 (fun _ => False)) (fun _ _ _ h => h))
            clear hb4 hw4
            clear o0 o1 o2 o3 o4 s0 s1 s2 hd0 hd1 hb1 hmx hvv
            obtain ⟨o0, o1, o2, o3, o4⟩ := box5 HBx4'.out
            go_wp2_with fail
            refine (without_any w4 (some ad) n1 cc (a ++ e :: b) HWas4'.out.reads (by omega) _).mono ?_
            rintro r w5 ⟨B, m5, c5, rfl, hm5, hr5, hb5⟩
            rw [HWm.out] at hm5 hr5
            have HT5 := hide (HT4'.out.past hb5)
            have HW5 := hide hr5.reads
            have HM5 := hide hm5
            have HBelow5 := hide hb5
            clear hm5 hr5 hb5
            have HWas5 := hide (HWas4'.out.kept (Mod.ofBelow HBelow5.out (fun _ => False)) (fun _ _ _ h => h))
            have HRw5 := hide HWas5.out.reads
            have HUe := hide (tris_us hxa)
            have hal5 : Below w5.heap.size w5 (w5.alloc (.cells #[.int .i64 e.k, .int .i64 e.v, .int .i64 e.un] 62)) := (Below.refl _ _).alloc (Nat.le_refl _) _
            have HOne := hide (tri_one e (heap_alloc_new w5 (.cells #[.int .i64 e.k, .int .i64 e.v, .int .i64 e.un] 62)))
            have HNw := hide (Reads.past HW5.out hal5)
            have HAl5 := hide hal5
            have hm52 : m5 ≤ 600 := by have := HM5.out; simp at this; omega
            clear hal5
            go_upto_region 45 with (first
              | ((with_reducible refine at_index rfl ?_); refine wpList_atS rfl rfl _ _ 54 62 _ rfl rfl rfl (by simp) Tryd.underlying54 (by decide) size_tri agg_tri rfl HRw5.out rfl (by omega) (by omega) (us := [.int .i64 e.k, .int .i64 e.v, .int .i64 e.un]) rfl HUe.out ?_; intro zz)
              | (at_builtin; refine wpList_append_row rfl _ _ 54 rfl 62 i0 (.agg #[.int .i64 0, .int .i64 0, .int .i64 0]) 3 24 Tryd.underlying54 hi0 hz0 hz1 hz2 rfl (by decide) rfl HOne.out rfl HNw.out (trisC_one _) (by unfold maxLen; omega) (by omega) ?_
                 intro B6 c6 w6 hrow6 hmod6
                 have HW6 : Hid (Reads w6 3 (.slice B6 (1 + m5) c6) (1 + m5) (trisC (e :: (a ++ b)))) := hide hrow6.reads
                 have HT6 := hide (HT5.out.past (HAl5.out.trans (hmod6.below (B := w5.heap.size) (by simp) (fun k hk => by rw [hk]; exact Nat.le_refl _))))
                 clear hrow6 hmod6)
              | fail)
            go_wp2_with fail
            refine (rows_any _ c m wg _ HT6.out.c1.lc (by have := (show (e :: (a ++ b)).length ≤ i + 1 by simp; omega); omega)).mono ?_
            rintro r wA ⟨NA, nA, cA, rfl, hnA, hrA, hbA⟩
            have HTA := hide (HT6.out.past hbA)
            have HNA := hide hnA
            have HRA := hide hrA.reads
            have HWA := hide (Reads.past HW6.out hbA)
            have HEq := hide (show nA = (1 + m5) by rw [hnA]; exact ((show (1 + m5) = (e :: (a ++ b)).length by have := HM5.out; simp at this; simp; omega)).symm)
            clear hnA hrA hbA
            go_wp2_with fail
            refine (alike_true wA NA B6 nA (1 + m5) cA c6 HEq.out _ HRA.out HWA.out).mono ?_
            rintro r wB ⟨rfl, hbB⟩
            have HTB := hide (HTA.out.past hbB)
            clear hbB
            have hlen : Calls Tryd.prog 19 #[ptr c] wB fun r w' => r = .returned (.int .i64 nA) ∧ wB = w' := (len_any wB c m wg _ HTB.out.c1.lc).mono (fun _ _ h => ⟨by rw [h.1, HNA.out], h.2⟩)
            have HLen := hide hlen
            clear hlen
            go_wp2_with fail
            refine HLen.out.mono ?_
            rintro r wC ⟨rfl, rfl⟩
            obtain ⟨tot, htot⟩ : ∃ tot, wsum (e :: (a ++ b)) = tot := ⟨_, rfl⟩
            have htop : tot ≤ wg := by rw [← htot]; exact HTB.out.c1.lc.fits
            have hwe : Calls Tryd.prog 31 #[ptr c] wB fun r w' => r = .returned (.int .i64 tot) ∧ wB = w' := (weight_any wB c m wg _ HTB.out.c1.lc).mono (fun _ _ h => ⟨by rw [h.1, htot], h.2⟩)
            have HWe := hide hwe
            clear hwe htot
            have hnn : (((nA : Nat) : Int) != ((nA : Nat) : Int)) = false := by simp
            go_wp2_with fail
            refine HWe.out.mono ?_
            rintro r wD ⟨rfl, rfl⟩
            have hdw : decide (wg < tot) = false := decide_eq_false (by omega)
            go_wp2
            go_roundw
            case rel => exact ⟨i + 1, by omega, by omega, by go_num, hide ⟨_, (show (e :: (a ++ b)).length ≤ i + 1 by simp; omega), HTB.out.up⟩⟩
            case measure => simp [intOf]; omega
      have e2 := hne 2 h2
      by_cases h4 : kd = 4
      · subst h4
        clear hne e1 e2
        cases HP.out with
        | no hno =>
          as_aux_lemma =>
          have HNo := hide hno
          clear hno
          go_wp2_with fail
          refine (drop_n (p := some c) (.inl ⟨rfl, HT3.out.c1.lc⟩) hwf (DropR.no HNo.out)).mono ?_
          rintro r w3 ⟨rfl, hc3, hm3⟩
          have hl3 : LCP w3 c m wg L := by rcases hc3 with ⟨_, h⟩ | ⟨h, _⟩; exact h; cases h
          have hm3' : Mod (InC c m _) w2 w3 := hm3.mono (fun _ _ h => h.2)
          have HT4 := hide (HT3.out.step hl3 hm3' (fun _ h => h))
          have HBx4 := hide (hm3'.heap HBx3.out (fun hk => HT3.out.c1.lc.not_row (by decide) (by decide) _ hk ⟨_, HBx3.out⟩))
          have HWas4 := hide (HT3.out.c1.lc.row (by decide) (by decide) hm3' HWas3.out)
          clear hc3 hm3 hl3 hm3' o0 o1 o2 o3 o4
          obtain ⟨o0, o1, o2, o3, o4⟩ := box5 HBx4.out
          go_wp2_with fail
          refine (without_any w3 A n1 cc L HWas4.out.reads (by omega) _).mono ?_
          rintro r w5 ⟨B, m5, c5, rfl, hm5, hr5, hb5⟩
          rw [without_none HNo.out] at hm5 hr5
          have HT5 := hide (HT4.out.past hb5)
          have HW5 := hide hr5.reads
          have HM5 := hide hm5
          have HBelow5 := hide hb5
          clear hm5 hr5 hb5
          go_wp2_with fail
          refine (rows_any _ c m wg _ HT5.out.c1.lc (by have := (show L.length ≤ i + 1 by omega); omega)).mono ?_
          rintro r wA ⟨NA, nA, cA, rfl, hnA, hrA, hbA⟩
          have HTA := hide (HT5.out.past hbA)
          have HNA := hide hnA
          have HRA := hide hrA.reads
          have HWA := hide (Reads.past HW5.out hbA)
          have HEq := hide (show nA = m5 by rw [hnA]; exact (HM5.out).symm)
          clear hnA hrA hbA
          go_wp2_with fail
          refine (alike_true wA NA B nA m5 cA c5 HEq.out _ HRA.out HWA.out).mono ?_
          rintro r wB ⟨rfl, hbB⟩
          have HTB := hide (HTA.out.past hbB)
          clear hbB
          have hlen : Calls Tryd.prog 19 #[ptr c] wB fun r w' => r = .returned (.int .i64 nA) ∧ wB = w' := (len_any wB c m wg _ HTB.out.c1.lc).mono (fun _ _ h => ⟨by rw [h.1, HNA.out], h.2⟩)
          have HLen := hide hlen
          clear hlen
          go_wp2_with fail
          refine HLen.out.mono ?_
          rintro r wC ⟨rfl, rfl⟩
          obtain ⟨tot, htot⟩ : ∃ tot, wsum L = tot := ⟨_, rfl⟩
          have htop : tot ≤ wg := by rw [← htot]; exact HTB.out.c1.lc.fits
          have hwe : Calls Tryd.prog 31 #[ptr c] wB fun r w' => r = .returned (.int .i64 tot) ∧ wB = w' := (weight_any wB c m wg _ HTB.out.c1.lc).mono (fun _ _ h => ⟨by rw [h.1, htot], h.2⟩)
          have HWe := hide hwe
          clear hwe htot
          have hnn : (((nA : Nat) : Int) != ((nA : Nat) : Int)) = false := by simp
          go_wp2_with fail
          refine HWe.out.mono ?_
          rintro r wD ⟨rfl, rfl⟩
          have hdw : decide (wg < tot) = false := decide_eq_false (by omega)
          go_wp2
          go_roundw
          case rel => exact ⟨i + 1, by omega, by omega, by go_num, hide ⟨_, (show L.length ≤ i + 1 by omega), HTB.out.up⟩⟩
          case measure => simp [intOf]; omega
        | yes a b e hLe hek hna =>
          as_aux_lemma =>
          subst hLe
          subst hek
          have HKs := hide HT3.out.c1.lc.keys
          have HWm := hide (without_mid (a := a) (b := b) (e := e) (sub_keys HKs.out).2)
          have hab : a.length + b.length + 1 ≤ i := by simpa [Nat.add_assoc] using hL
          clear hna
          go_wp2_with fail
          refine (drop_n (p := some c) (.inl ⟨rfl, HT3.out.c1.lc⟩) hwf (DropR.yes a b e rfl rfl)).mono ?_
          rintro r w3 ⟨rfl, hc3, hm3⟩
          have hl3 : LCP w3 c m wg (a ++ b) := by rcases hc3 with ⟨_, h⟩ | ⟨h, _⟩; exact h; cases h
          have hm3' : Mod (InC c m _) w2 w3 := hm3.mono (fun _ _ h => h.2)
          have HT4 := hide (HT3.out.step hl3 hm3' (fun _ h => mem_mid h))
          have HBx4 := hide (hm3'.heap HBx3.out (fun hk => HT3.out.c1.lc.not_row (by decide) (by decide) _ hk ⟨_, HBx3.out⟩))
          have HWas4 := hide (HT3.out.c1.lc.row (by decide) (by decide) hm3' HWas3.out)
          clear hc3 hm3 hl3 hm3' o0 o1 o2 o3 o4
          obtain ⟨o0, o1, o2, o3, o4⟩ := box5 HBx4.out
          have hd0 : decide ((0 : Int) ≤ (a.length : Int)) = true := decide_eq_true (by omega)
          go_wp2_with fail
          refine (without_any w3 A n1 cc (a ++ e :: b) HWas4.out.reads (by omega) _).mono ?_
          rintro r w5 ⟨B, m5, c5, rfl, hm5, hr5, hb5⟩
          rw [HWm.out] at hm5 hr5
          have HT5 := hide (HT4.out.past hb5)
          have HW5 := hide hr5.reads
          have HM5 := hide hm5
          have HBelow5 := hide hb5
          clear hm5 hr5 hb5
          clear hd0
          go_wp2_with fail
          refine (rows_any _ c m wg _ HT5.out.c1.lc (by have := (show (a ++ b).length ≤ i + 1 by simp; omega); omega)).mono ?_
          rintro r wA ⟨NA, nA, cA, rfl, hnA, hrA, hbA⟩
          have HTA := hide (HT5.out.past hbA)
          have HNA := hide hnA
          have HRA := hide hrA.reads
          have HWA := hide (Reads.past HW5.out hbA)
          have HEq := hide (show nA = m5 by rw [hnA]; exact (HM5.out).symm)
          clear hnA hrA hbA
          go_wp2_with fail
          refine (alike_true wA NA B nA m5 cA c5 HEq.out _ HRA.out HWA.out).mono ?_
          rintro r wB ⟨rfl, hbB⟩
          have HTB := hide (HTA.out.past hbB)
          clear hbB
          have hlen : Calls Tryd.prog 19 #[ptr c] wB fun r w' => r = .returned (.int .i64 nA) ∧ wB = w' := (len_any wB c m wg _ HTB.out.c1.lc).mono (fun _ _ h => ⟨by rw [h.1, HNA.out], h.2⟩)
          have HLen := hide hlen
          clear hlen
          go_wp2_with fail
          refine HLen.out.mono ?_
          rintro r wC ⟨rfl, rfl⟩
          obtain ⟨tot, htot⟩ : ∃ tot, wsum (a ++ b) = tot := ⟨_, rfl⟩
          have htop : tot ≤ wg := by rw [← htot]; exact HTB.out.c1.lc.fits
          have hwe : Calls Tryd.prog 31 #[ptr c] wB fun r w' => r = .returned (.int .i64 tot) ∧ wB = w' := (weight_any wB c m wg _ HTB.out.c1.lc).mono (fun _ _ h => ⟨by rw [h.1, htot], h.2⟩)
          have HWe := hide hwe
          clear hwe htot
          have hnn : (((nA : Nat) : Int) != ((nA : Nat) : Int)) = false := by simp
          go_wp2_with fail
          refine HWe.out.mono ?_
          rintro r wD ⟨rfl, rfl⟩
          have hdw : decide (wg < tot) = false := decide_eq_false (by omega)
          go_wp2
          go_roundw
          case rel => exact ⟨i + 1, by omega, by omega, by go_num, hide ⟨_, (show (a ++ b).length ≤ i + 1 by simp; omega), HTB.out.up⟩⟩
          case measure => simp [intOf]; omega
      have e4 := hne 4 h4
      by_cases h5 : kd = 5
      · as_aux_lemma =>
        subst h5
        clear hne e1 e2 e4
        go_wp2_with fail
        refine (expire_n (p := some c) (.inl ⟨rfl, HT3.out.c1.lc⟩) (by omega) un).mono ?_
        rintro r w3 ⟨G, g, gc, rfl, hg, hr3, hc3, hm3⟩
        have hl3 : LCP w3 c m wg (keepT un L) := by rcases hc3 with ⟨_, h⟩ | ⟨h, _⟩; exact h; cases h
        have hm3' : Mod (InC c m _) w2 w3 := hm3.mono (fun _ _ h => h.2)
        have HT4 := hide (HT3.out.step hl3 hm3' (fun _ h => (List.mem_filter.1 h).1))
        have HBx4 := hide (hm3'.heap HBx3.out (fun hk => HT3.out.c1.lc.not_row (by decide) (by decide) _ hk ⟨_, HBx3.out⟩))
        have HWas4 := hide (HT3.out.c1.lc.row (by decide) (by decide) hm3' HWas3.out)
        have HGo := hide hr3.reads
        have HG := hide hg
        have hg2 : g ≤ 600 := by have : (goneT un L).length ≤ L.length := List.length_filter_le _ _; omega
        have hkl : (keepT un L).length ≤ i + 1 := by have : (keepT un L).length ≤ L.length := List.length_filter_le _ _; omega
        have hw3 := hm3'.size
        clear hc3 hm3 hl3 hm3' hr3 hg o0 o1 o2 o3 o4
        go_wp2_with fail
        go_loopw [13, 17, 18] (fun s t u wx => ∃ j : Nat, j ≤ n1 ∧ u = .int .i64 j ∧ ∃ kk : Nat, t = .int .i64 kk ∧ kk ≤ j ∧ ∃ B mB cB, s = .slice B mB cB ∧ mB ≤ j ∧ Hid (kk = (goneT un (L.take j)).length) ∧ Hid (mB = (keepT un (L.take j)).length) ∧ Hid (Row wx (New w3) 62 3 (.slice B mB cB) mB (trisC (keepT un (L.take j)))) ∧ Hid (Below w3.heap.size w3 wx)) (fun _ _ u _ => n1 - (intOf u).toNat)
        case atStart => exact ⟨0, Nat.zero_le _, rfl, 0, rfl, Nat.le_refl _, none, 0, 0, rfl, Nat.le_refl _, hide rfl, hide rfl, hide (Row.nil _ _ _ _), hide (Below.refl _ _)⟩
        case round =>
          obtain ⟨j, hj, rfl, kk, rfl, hkj, B, mB, cB, rfl, hmj, HKk, HMb, HRow, HB⟩ := hrel
          have hws := HB.out.size
          by_cases hjl : j < n1
          · have hjL : j < L.length := by have := HN1.out; omega
            obtain ⟨x, he, hd, ht⟩ := step_on L j hjL
            have hx : L[j]? = some x := by rw [List.getElem?_eq_getElem hjL]; rw [List.drop_eq_getElem_cons hjL] at hd; injection hd with hd _; rw [hd]
            obtain ⟨ad, hA, s0, s1, s2⟩ := tris_cell (Reads.past HWas4.out.reads HB.out) hx
            subst hA
            obtain ⟨o0, o1, o2, o3, o4⟩ := box5 (below_at HB.out HBx4.out)
            have hjj : (j : Int) < (n1 : Int) := by omega
            have HTk := hide ht
            clear he hd ht
            by_cases hl : un < x.un
            · have hd1 : decide (un < x.un) = true := decide_eq_true hl
              have HKe := hide (show keepT un (L.take (j + 1)) = keepT un (L.take j) ++ [x] by rw [HTk.out]; exact keepT_yes _ hl)
              have HGe := hide (show goneT un (L.take (j + 1)) = goneT un (L.take j) by rw [HTk.out]; unfold goneT; rw [List.filter_append, List.filter_cons_of_neg (by simpa using hl)]; simp)
              have HU2 := hide (tris_us hx)
              clear hx
              go_wp2
              go_quiet (fail)
              obtain ⟨w4, hw4⟩ : ∃ w4, wr.drewN nq = w4 := ⟨_, rfl⟩
              have hb4 : Below wr.heap.size wr w4 := by rw [← hw4]; exact below_drewN _ _
              rw [hw4]
              have HB4 := hide (HB.out.trans (hb4.mono HB.out.size))
              have hws4 := HB4.out.size
              have HRd4 := hide (Reads.past HWas4.out.reads HB4.out)
              have HRow4 := hide (HRow.out.kept (Mod.ofBelow hb4 (fun _ => False)) (fun _ _ _ h => h))
              have HRow5 := hide (HRow4.out.alloc (.cells #[.int .i64 x.k, .int .i64 x.v, .int .i64 x.un] 62)).narrow
              have HOne := hide (tri_one x (heap_alloc_new w4 (.cells #[.int .i64 x.k, .int .i64 x.v, .int .i64 x.un] 62))).reads
              clear hb4 hw4 s0 s1 s2 o0 o1 o2 o3 o4 hd1 hjj hl
              go_wp2_with (first
                | ((with_reducible refine at_index rfl ?_); refine wpList_atS rfl rfl _ _ 54 62 _ rfl rfl rfl (by simp) Tryd.underlying54 (by decide) size_tri agg_tri rfl HRd4.out rfl (by omega) (by omega) (us := [.int .i64 x.k, .int .i64 x.v, .int .i64 x.un]) rfl HU2.out ?_; intro zz)
                | (at_builtin; refine wpList_append_row rfl _ _ 54 rfl 62 i0 (.agg #[.int .i64 0, .int .i64 0, .int .i64 0]) 3 24 Tryd.underlying54 hi0 hz0 hz1 hz2 rfl (by decide) rfl HRow5.out rfl HOne.out (trisC_one _) (by unfold maxLen; omega) (by omega) ?_
                   intro B4 b4 w6 hrow4 hmod4
                   have HR6 := hide hrow4
                   have HB6 := hide ((HB4.out.alloc hws4 (.cells #[.int .i64 x.k, .int .i64 x.v, .int .i64 x.un] 62)).trans (hmod4.below (B := w3.heap.size) (by simp; omega) (fun k hk => hk.1)))
                   clear hrow4 hmod4)
                | fail)
              go_roundw
              case rel =>
                refine ⟨j + 1, by omega, by go_num, kk, rfl, by omega, B4, mB + 1, b4, rfl, by omega, hide (by rw [HGe.out]; exact HKk.out), hide (by rw [HKe.out, List.length_append, ← HMb.out]; rfl), hide ?_, HB6⟩
                rw [HKe.out, ← trisC_app]
                exact HR6.out.mono (fun k hk _ => by
                  rcases hk with hk | hk
                  · exact hk.1
                  · show w3.heap.size ≤ k
                    rw [hk]; simp; omega)
              case measure => simp [intOf]; omega
            · have hd1 : decide (un < x.un) = false := decide_eq_false hl
              have HKe := hide (show keepT un (L.take (j + 1)) = keepT un (L.take j) by rw [HTk.out]; exact keepT_no _ (by omega))
              have HGe := hide (show goneT un (L.take (j + 1)) = goneT un (L.take j) ++ [x] by rw [HTk.out]; unfold goneT; rw [List.filter_append, List.filter_cons_of_pos (by simp; omega)]; simp)
              have hgx := goneT_get hx (show x.un ≤ un by omega)
              rw [← HKk.out] at hgx
              have hkg : kk < g := by
                have := (List.getElem?_eq_some_iff.1 hgx).1
                rw [keysOf_length] at this
                have := HG.out
                omega
              obtain ⟨gd, gc2, hgd, hgcell⟩ := reads_pos (Reads.past HGo.out HB.out) (by omega : 0 < g)
              injection hgd with hgd _ hgc
              subst hgc
              subst hgd
              have g0 := hgcell kk _ (ints_get hgx)
              have hd2 : decide ((g : Int) ≤ (kk : Int)) = false := decide_eq_false (by omega)
              have hkk2 : (kk : Int) < (g : Int) := by omega
              have hne : (x.k != x.k) = false := by simp
              clear hx hgx hgcell
              go_wp2
              go_quiet (fail)
              go_wp2
              go_quiet (fail)
              go_wp2
              go_roundw
              case rel => exact ⟨j + 1, by omega, by go_num, kk + 1, by go_num, by omega, B, mB, cB, rfl, by omega, hide (by rw [HGe.out, List.length_append, ← HKk.out]; rfl), hide (by rw [HKe.out]; exact HMb.out), hide (by rw [HKe.out]; exact HRow.out), hide (HB.out.trans ((below_drewN _ _).mono HB.out.size))⟩
              case measure => simp [intOf]; omega
          · obtain rfl : n1 = j := by omega
            have HTk := hide (show L.take n1 = L by rw [HN1.out, List.take_length])
            have hkg : kk = g := by rw [HKk.out, HTk.out, HG.out]
            subst hkg
            have HT5 := hide (HT4.out.past HB.out)
            have HW5 : Hid (Reads wr 3 (.slice B mB cB) mB (trisC (keepT un L))) := hide (by have h := HRow.out.reads; rw [HTk.out] at h; exact h)
            have HM5 : Hid (mB = (keepT un L).length) := hide (by have h := HMb.out; rw [HTk.out] at h; exact h)
            have hkk : (((kk : Nat) : Int) != ((kk : Nat) : Int)) = false := by simp
            clear HRow HMb HKk
            go_wp2_with fail
            refine (rows_any _ c m wg _ HT5.out.c1.lc (by have := hkl; omega)).mono ?_
            rintro r wA ⟨NA, nA, cA, rfl, hnA, hrA, hbA⟩
            have HTA := hide (HT5.out.past hbA)
            have HNA := hide hnA
            have HRA := hide hrA.reads
            have HWA := hide (Reads.past HW5.out hbA)
            have HEq := hide (show nA = mB by rw [hnA]; exact (HM5.out).symm)
            clear hnA hrA hbA
            go_wp2_with fail
            refine (alike_true wA NA B nA mB cA cB HEq.out _ HRA.out HWA.out).mono ?_
            rintro r wB ⟨rfl, hbB⟩
            have HTB := hide (HTA.out.past hbB)
            clear hbB
            have hlen : Calls Tryd.prog 19 #[ptr c] wB fun r w' => r = .returned (.int .i64 nA) ∧ wB = w' := (len_any wB c m wg _ HTB.out.c1.lc).mono (fun _ _ h => ⟨by rw [h.1, HNA.out], h.2⟩)
            have HLen := hide hlen
            clear hlen
            go_wp2_with fail
            refine HLen.out.mono ?_
            rintro r wC ⟨rfl, rfl⟩
            obtain ⟨tot, htot⟩ : ∃ tot, wsum (keepT un L) = tot := ⟨_, rfl⟩
            have htop : tot ≤ wg := by rw [← htot]; exact HTB.out.c1.lc.fits
            have hwe : Calls Tryd.prog 31 #[ptr c] wB fun r w' => r = .returned (.int .i64 tot) ∧ wB = w' := (weight_any wB c m wg _ HTB.out.c1.lc).mono (fun _ _ h => ⟨by rw [h.1, htot], h.2⟩)
            have HWe := hide hwe
            clear hwe htot
            have hnn : (((nA : Nat) : Int) != ((nA : Nat) : Int)) = false := by simp
            go_wp2_with fail
            refine HWe.out.mono ?_
            rintro r wD ⟨rfl, rfl⟩
            have hdw : decide (wg < tot) = false := decide_eq_false (by omega)
            go_wp2
            go_roundw
            case rel => exact ⟨i + 1, by omega, by omega, by go_num, hide ⟨_, hkl, HTB.out.up⟩⟩
            case measure => simp [intOf]; omega
      have e5 := hne 5 h5
      clear hne
      have HW5 := hide HWas3.out.reads
      go_wp2_with fail
      refine (rows_any _ c m wg _ HT3.out.c1.lc (by have := (show L.length ≤ i + 1 by omega); omega)).mono ?_
      rintro r wA ⟨NA, nA, cA, rfl, hnA, hrA, hbA⟩
      have HTA := hide (HT3.out.past hbA)
      have HNA := hide hnA
      have HRA := hide hrA.reads
      have HWA := hide (Reads.past HW5.out hbA)
      have HEq := hide (show nA = n1 by rw [hnA]; exact (HN1.out).symm)
      clear hnA hrA hbA
      go_wp2_with fail
      refine (alike_true wA NA A nA n1 cA cc HEq.out _ HRA.out HWA.out).mono ?_
      rintro r wB ⟨rfl, hbB⟩
      have HTB := hide (HTA.out.past hbB)
      clear hbB
      have hlen : Calls Tryd.prog 19 #[ptr c] wB fun r w' => r = .returned (.int .i64 nA) ∧ wB = w' := (len_any wB c m wg _ HTB.out.c1.lc).mono (fun _ _ h => ⟨by rw [h.1, HNA.out], h.2⟩)
      have HLen := hide hlen
      clear hlen
      go_wp2_with fail
      refine HLen.out.mono ?_
      rintro r wC ⟨rfl, rfl⟩
      obtain ⟨tot, htot⟩ : ∃ tot, wsum L = tot := ⟨_, rfl⟩
      have htop : tot ≤ wg := by rw [← htot]; exact HTB.out.c1.lc.fits
      have hwe : Calls Tryd.prog 31 #[ptr c] wB fun r w' => r = .returned (.int .i64 tot) ∧ wB = w' := (weight_any wB c m wg _ HTB.out.c1.lc).mono (fun _ _ h => ⟨by rw [h.1, htot], h.2⟩)
      have HWe := hide hwe
      clear hwe htot
      have hnn : (((nA : Nat) : Int) != ((nA : Nat) : Int)) = false := by simp
      go_wp2_with fail
      refine HWe.out.mono ?_
      rintro r wD ⟨rfl, rfl⟩
      have hdw : decide (wg < tot) = false := decide_eq_false (by omega)
      go_wp2
      go_roundw
      case rel => exact ⟨i + 1, by omega, by omega, by go_num, hide ⟨_, (show L.length ≤ i + 1 by omega), HTB.out.up⟩⟩
      case measure => simp [intOf]; omega
    all_goals
      go_wp2
      go_ret
      exact ⟨rfl, HT.out.c1.below⟩

set_option maxRecDepth 10000 in
set_option maxHeartbeats 2000000 in
theorem walk (w : World) (adr : Nat → Addr) (hS : Sent w adr) (wg : Int) (hwt : wg ≤ 9223372036854775807) (sv : Value) (n : Nat) (ops : List OpD) (ho : Ops w sv n ops) :
    Calls Tryd.prog 7 #[.int .i64 wg, sv] w fun e w' => e = .returned (.bool true) ∧ Below w.heap.size w w' := by
  by_cases h0 : wg < 0
  · have HS := hide hS
    have hd : decide (wg < 0) = true := decide_eq_true h0
    clear hS
    go_enter Tryd.func7, Tryd.ntmps7
    go_wp2_with fail
    refine (awake_true w adr HS.out).mono ?_
    rintro e w1 ⟨rfl, hb1⟩
    have HB1 := hide hb1
    have hE := hide ((HS.out.below hb1).cell 2 (by decide) (by decide))
    clear hb1
    go_wp2_with fail
    refine (new_bad w1 wg h0 _ hE.out).mono ?_
    rintro e w2 ⟨rfl, hb2⟩
    have HB2 := hide (HB1.out.trans (hb2.mono HB1.out.size))
    have HS2 := hide (HS.out.below HB2.out)
    clear hb2
    go_wp2_with fail
    refine (code_err w2 adr HS2.out 2 (by decide) (by decide) (by decide)).mono ?_
    rintro e w3 ⟨rfl, rfl⟩
    go_wp2
    go_ret
    exact ⟨rfl, HB2.out⟩
  · exact walk_good w adr hS wg (by omega) hwt sv n ops ho
end Go.Proofs.YtlnbgahfelcbiaaDoor.lruMoves

