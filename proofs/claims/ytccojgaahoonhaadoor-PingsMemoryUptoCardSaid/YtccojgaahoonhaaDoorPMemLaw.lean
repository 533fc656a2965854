import Derived.Test.YtccojgaahoonhaaDoorPStep
import Derived.Test.YtccojgaahoonhaaDoorPMem
import Derived.Test.YtccojgaahoonhaaDoorPOwOpen
/- PingsMemory. -/
namespace Go.Proofs.YtccojgaahoonhaaDoor
open Go Go.RowKit Go.Shelf Go.Cu Go.Proofs.YtccojgaahoonhaaDoor.errs
namespace pingsMemory
set_option maxRecDepth 10000 in
set_option maxHeartbeats 4000000 in
theorem walk_small (w : World) (adr : Nat → Addr) (hS : Sent w adr) (most : Int) (hn : most < 1 ∨ 1024 < most) (SA : Option Addr) (ns sc : Nat) :
    Calls Tryd.prog 6 #[.int .i64 most, .slice SA ns sc] w fun e w' => e = .returned (.bool true) ∧ Below w.heap.size w w' := by
  have HS := hide hS
  have hd : decide (most < 1) = true ∨ decide (most < 1) = false ∧ decide (1024 < most) = true := by
    by_cases h : most < 1
    · exact .inl (by simp [h])
    · refine .inr ⟨by simp [h], ?_⟩
      simp; omega
  clear hS
  go_enter Tryd.func6, Tryd.ntmps6
  go_wp2_with fail
  refine (fixed_true w adr HS.out).mono ?_
  rintro e w1 ⟨rfl, hb1⟩
  have HB1 := hide hb1
  clear hb1
  go_wp2_with fail
  refine (new_bad w1 most hn _ ((HS.out.below HB1.out).cell 2 (by decide) (by decide))).mono ?_
  rintro e w2 ⟨rfl, hb2⟩
  have HB2 := hide (HB1.out.trans (hb2.mono HB1.out.size))
  clear hb2
  go_wp2_with fail
  refine (refnew_bad w2 most hn).mono ?_
  rintro e w3 ⟨rfl, hb3⟩
  have HB3 := hide (HB2.out.trans (hb3.mono HB2.out.size))
  clear hb3
  rcases hd with hd | ⟨hd, hd2⟩
  · go_wp2
    go_ret
    exact ⟨rfl, HB3.out.alloc HB3.out.size _⟩
  · go_wp2
    go_ret
    exact ⟨rfl, HB3.out.alloc HB3.out.size _⟩
/-- between two rounds -/
def Rel (w0 w : World) (c m q most i b7 n : Nat) (A1 : Option Addr) (n1 c1 : Nat) (A2 : Option Addr) (n2 c2 : Nat) (A3 : Option Addr) (n3 c3 : Nat) (v : Value) (nl : Nat) : Prop :=
  (∃ FT FO D W T O K F P, PD w0.heap.size w c m q FT FO D most n W T O W T O A1 n1 c1 A2 n2 c2 A3 n3 c3 ∧ n ≤ i ∧ n2 ≤ i ∧ ¬ PF c m FT FO b7 ∧ ¬ D b7 ∧ MS w0.heap.size w b7 c m FT FO D v nl K F P) ∧ w.heap[b7]? = some (.cells #[.int .i64 most, .int .i64 n, .slice A1 n1 c1, .slice A2 n2 c2, .slice A3 n3 c3] 40 (0, 0)) ∧ Below w0.heap.size w0 w
set_option maxRecDepth 10000 in
set_option maxHeartbeats 8000000 in
theorem walk_big (w : World) (adr : Nat → Addr) (hS : Sent w adr) (most : Nat) (hm1 : 1 ≤ most) (hm2 : most ≤ 1024) (sv : Value) (ns : Nat) (ops : List (Int × Int)) (hO : Reads w 2 sv ns (opC ops)) (hOw : ∀ o ∈ ops, (Lit.int .i64 o.1).wf = true ∧ (Lit.int .u32 o.2).wf = true) (hns : ns ≤ 1048576) :
    Calls Tryd.prog 6 #[.int .i64 most, sv] w fun e w' => e = .returned (.bool true) ∧ Below w.heap.size w w' := by
  have HS := hide hS
  have HO := hide hO
  have HOw := hide hOw
  obtain ⟨SA, sc, rfl⟩ := hO.shape
  have hOl : ops.length = ns := by have := hO.1; rw [opC_length] at this; omega
  have HOl := hide hOl
  obtain ⟨i0, hi0, hz0, hz1, hz2⟩ := info_parts info_list
  obtain ⟨j0, hj0, hy0, hy1, hy2⟩ := info_parts info_u
  clear hS hO hOl hOw
  go_enter Tryd.func6, Tryd.ntmps6
  go_wp2_with fail
  refine (fixed_true w adr HS.out).mono ?_
  rintro e w1 ⟨rfl, hb1⟩
  have HB1 := hide hb1
  clear hb1
  go_wp2_with fail
  refine (new_ok w1 most hm1 hm2).mono ?_
  rintro e w2 ⟨c, m, q, FT, FO, rfl, h2, hl2, hb2⟩
  have HB2 := hide (HB1.out.trans (hb2.mono HB1.out.size))
  have HP2 := hide (show PD w.heap.size w2 c m q FT FO (fun _ => False) most 0 [] [] [] [] [] [] none 0 0 none 0 0 none 0 0 from ⟨h2, Row.nil _ _ _ _, Row.nil _ _ _ _, Row.nil _ _ _ _, fun _ h => h.elim, fun _ _ h => h, fun k hk => Nat.le_trans HB1.out.size (hl2 k hk), HB2.out.size⟩)
  clear hb2 h2 hl2
  go_wp2_with fail
  refine (refnew_ok w2 most hm1 hm2).mono ?_
  rintro e w3 ⟨rfl, hb3⟩
  have HB3 := hide (HB2.out.trans (hb3.mono HB2.out.size))
  have HP3 := hide (HP2.out.past hb3)
  clear hb3
  go_upto_region 5 with fail
  obtain ⟨b7, hb7⟩ : ∃ b7, w3.heap.size = b7 := ⟨_, rfl⟩
  obtain ⟨w4, hw4⟩ : ∃ w4, w3.alloc (.cells #[.int .i64 most, .int .i64 0, .slice none 0 0, .slice none 0 0, .slice none 0 0] 40) = w4 := ⟨_, rfl⟩
  have h4 : w4.heap[b7]? = some (.cells #[.int .i64 most, .int .i64 0, .slice none 0 0, .slice none 0 0, .slice none 0 0] 40 (0, 0)) := by rw [← hw4, ← hb7]; exact heap_alloc_new w3 _
  have HB4 : Hid (Below w.heap.size w w4) := by rw [← hw4]; exact HB3.out.alloc HB3.out.size _
  have HR0 : Hid (Rel w w4 c m q most 0 b7 0 none 0 0 none 0 0 none 0 0 (.slice none 0 0) 0) := hide ⟨⟨FT, FO, _, [], [], [], [], fun _ => False, [], HP3.out.past (by rw [← hw4]; exact (Below.refl _ _).alloc (Nat.le_refl _) _), Nat.le_refl _, Nat.le_refl _, fun hf => by have := HP3.out.pg.low _ hf; omega, fun h => h, ⟨⟨Row.nil _ _ _ _, Fam.nil _ _ _, rfl⟩, fun _ h => h.elim, fun k hk => (by obtain ⟨_, h, _⟩ := hk; cases h), fun _ h => (by cases h)⟩⟩, h4, HB4.out⟩
  have HBl : Hid (w.heap.size ≤ b7) := hide (by have := HB3.out.size; omega)
  rw [hb7, hw4]
  clear h4 hb7 hw4
  have HQ : Hid True := hide trivial
  go_wp2
  go_loopw [9, 54] (fun va s wr => ∃ i : Nat, i ≤ ns ∧ s = .int .i64 i ∧ ∃ n A1 n1 c1 A2 n2 c2 A3 n3 c3 LA nl lc, va = .slice LA nl lc ∧ nl ≤ i ∧ Hid (Rel w wr c m q most i b7 n A1 n1 c1 A2 n2 c2 A3 n3 c3 (.slice LA nl lc) nl)) (fun _ s _ => ns - (intOf s).toNat)
  case atStart => exact ⟨0, Nat.zero_le _, rfl, 0, none, 0, 0, none, 0, 0, none, 0, 0, none, 0, 0, rfl, Nat.zero_le _, HR0⟩
  case round =>
    clear HR0
    obtain ⟨i, hi, rfl, n, A1, n1, c1, A2, n2, c2, A3, n3, c3, LA, nl, lc, rfl, hnl, HR⟩ := hrel
    by_cases hlt : i < ns
    · as_aux_lemma =>
      obtain ⟨⟨FT, FO, D, W, T, O, K, F, P, hpd, hn, hn2, hb7n, hb7d, hms⟩, hb7, hbel⟩ := HR.out
      obtain ⟨o, ho⟩ : ∃ o, ops[i]? = some o := ⟨_, List.getElem?_eq_getElem (by have := HOl.out; omega)⟩
      obtain ⟨sd, he, sk, st⟩ := opc_cells (HO.out.later hbel) ho
      subst he
      have HWf := hide (HOw.out o (List.mem_of_getElem? ho)).2
      obtain ⟨kd, tk⟩ := o
      simp only at sk st HWf
      have hal : Below wr.heap.size wr (wr.alloc (.cells #[.int .i64 kd, .int .u32 tk] 32)) := (Below.refl _ _).alloc (Nat.le_refl _) _
      obtain ⟨⟨k0, k1, k2, k3, k4⟩, f0, f1, f2, f3, f4⟩ := box5 (below_at hal hb7)
      have HB7 := hide (below_at hal hb7)
      have HBa := hide (hbel.trans (hal.mono hbel.size))
      have HPa := hide (hpd.past hal)
      have HMa := hide (hms.past hal)
      have HNb := hide hb7n
      have HNd := hide hb7d
      have HLb : Hid (b7 < wr.heap.size) := hide (Array.getElem?_eq_some_iff.1 hb7).1
      clear hal hb7 hbel ho hpd hb7n hb7d hms HR
      by_cases kk : kd = 2
      · subst kk
        go_upto_region 14 with fail
        obtain ⟨wa, hwa⟩ : ∃ wa, wr.alloc (.cells #[.int .i64 2, .int .u32 tk] 32) = wa := ⟨_, rfl⟩
        rw [hwa] at HB7 HBa HPa HMa
        rw [hwa]
        clear hwa k0 k1 k2 k3 k4 f0 f1 f2 f3 f4 sk st
        have h73 : ((wa.setCell ⟨b7, 3, none⟩ (.slice none 0 0)).heap[b7]? = some (.cells #[.int .i64 most, .int .i64 n, .slice A1 n1 c1, .slice none 0 0, .slice A3 n3 c3] 40 (0, 0))) := heap_setCell_same _ b7 3 _ 40 _ HB7.out
        have hm : Mod (fun k => k = b7) wa (wa.setCell ⟨b7, 3, none⟩ (.slice none 0 0)) := (Mod.refl (fun k => k = b7) wa).setCell (p := ⟨b7, 3, none⟩) (fun _ => rfl) _
        have HPb := hide (HPa.out.kept hm (fun k hk e => HNb.out (e ▸ hk)) (fun k hk e => HNd.out (e ▸ hk)))
        have HMb := hide (HMa.out.kept hm (fun k hk => hk.nb) (fun _ h => .inl h) (fun _ h => .inl h))
        have HBb := hide (HBa.out.setCell (p := ⟨b7, 3, none⟩) HBl.out (.slice none 0 0))
        have H73 := hide h73
        clear hm h73
        obtain ⟨wb, hwb⟩ : ∃ wb, wa.setCell ⟨b7, 3, none⟩ (.slice none 0 0) = wb := ⟨_, rfl⟩
        rw [hwb] at HPb HMb HBb H73
        rw [hwb]
        clear hwb
        have HLt : Hid (T.length = n2) := hide (row_len HPb.out.r2)
        have HCn : Hid (c ≠ b7 ∧ w.heap.size ≤ c) := hide ⟨fun e => HNb.out (.inl e.symm), HPb.out.lo c (.inl rfl)⟩
        go_wp2_with fail
        refine (answered_any _ HPb.out.pg).mono ?_
        rintro e w5 ⟨A5, c5, rfl, hr5, hp5, hm5⟩
        rw [HLt.out] at hr5
        rw [HLt.out]
        have hm5' : Mod (PF c m FT FO) wb w5 := hm5.mono (fun _ _ e => .inl e)
        have hF5 : ∀ j, PF c m (fun _ => False) FO j → PF c m FT FO j := fun j hf => by
          rcases hf with hf | hf | hf | hf
          · exact .inl hf
          · exact .inr (.inl hf)
          · exact hf.elim
          · exact .inr (.inr (.inr hf))
        have hs5 := hm5.heap H73.out (fun e => HCn.out.1 e.symm)
        have HS5 := hide hs5
        have HB5 := hide (HBb.out.trans (hm5.below HBb.out.size (fun j hj => by subst hj; exact HCn.out.2)))
        have HP5 := hide (HPb.out.prog hp5 hm5' (fun j hf => .inl (hF5 j hf)))
        have HM5 := hide (HMb.out.kept (FT' := fun _ => False) (FO' := FO) (D' := D) hm5' (fun k hk => hk.np) (fun j hf => .inl (hF5 j hf)) (fun _ h => .inl h))
        have HR5 := hide hr5
        have HFt : Hid (∀ k, FT k → k < w5.heap.size ∧ Out w.heap.size b7 c m (fun _ => False) FO D k ∧ ∀ j, Foot P j → j ≠ k) := hide fun k hk => ⟨Nat.lt_of_lt_of_le (HPb.out.pg.lt k hk) hm5.size, ⟨HPb.out.lo k (.inr (.inr (.inl hk))), fun e => HNb.out (.inr (.inr (.inl (e ▸ hk)))), fun hf => by
          rcases hf with hf | hf | hf | hf
          · exact HPb.out.pg.cT (hf ▸ hk)
          · exact HPb.out.pg.mT (hf ▸ hk)
          · exact hf
          · exact HPb.out.pg.tO k hk hf, HPb.out.sep k (.inr (.inr (.inl hk)))⟩, fun j hj e => (HMb.out.lo j hj).np (.inr (.inr (.inl (e ▸ hk))))⟩
        clear hr5 hp5 hm5 hm5' hF5 hs5
        go_wp2_with fail
        refine (same_true _ _ _ n2 n2 rfl T HR5.out.reads HP5.out.r2.reads).mono ?_
        rintro e w10 ⟨rfl, hd10⟩
        have hb10 := hd10.below
        have hal : Below w10.heap.size w10 (w10.alloc (.cells #[.slice A5 n2 c5] 29)) := (Below.refl _ _).alloc (Nat.le_refl _) _
        have hs11 := below_at hal (below_at hb10 HS5.out)
        have HS11 := hide hs11
        have HB11 := hide ((HB5.out.trans (hb10.mono HB5.out.size)).trans (hal.mono (Nat.le_trans HB5.out.size hb10.size)))
        have HP11 := hide (((HP5.out.past hb10).past hal).told)
        have HM11 := hide ((HM5.out.past hb10).past hal)
        have HR11 := hide ((HR5.out.kept (Mod.ofBelow hb10 (fun _ => False)) (fun _ _ _ h => h)).alloc (.cells #[.slice A5 n2 c5] 29))
        have hsz : w5.heap.size ≤ (w10.alloc (.cells #[.slice A5 n2 c5] 29)).heap.size := Nat.le_trans hb10.size hal.size
        obtain ⟨hrow, hnext⟩ := HM11.out.take (Array.getElem?_eq_some_iff.1 hs11).1 HP11.out.le HP11.out.pg.low HP11.out.dl HR11.out (fun k hk hg => (HFt.out k hg).2.2 k hk rfl) (fun k hk => Nat.lt_of_lt_of_le (HFt.out k hk).1 hsz) (fun k hk => (HFt.out k hk).2.1) (by omega)
        have HRow := hide hrow
        have HNext := hide hnext
        clear hb10 hd10 hal hs11 hsz hrow hnext
        go_wp2_with (first
          | (at_builtin; refine wpList_append_row rfl _ _ 50 rfl 29 i0 (.slice none 0 0) 1 24 Tryd.underlying50 hi0 hz0 hz1 hz2 rfl (by decide) rfl HRow.out rfl (reads_one _ _ _ _) (by simp [Value.oneCell']) (by unfold maxLen; omega) (by omega) ?_
             intro A12 c12 w12 hr12 hm12
             have HR12 := hide hr12
             have HM12 := hide hm12
             clear hr12 hm12)
          | fail)
        go_roundw
        case rel =>
          obtain ⟨F2, P2, hms⟩ := HNext.out _ _ HR12.out HM12.out
          have hm' : Mod (fun k => F k ∧ OfE (w10.alloc (.cells #[.slice A5 n2 c5] 29)) 29 k) (w10.alloc (.cells #[.slice A5 n2 c5] 29)) w12 := HM12.out
          exact ⟨i + 1, by omega, by go_num, n, A1, n1, c1, none, 0, 0, A3, n3, c3, A12, nl + 1, c12, rfl, by omega, hide ⟨⟨fun _ => False, FO, D, W, [], O, _, F2, P2, HP11.out.kept hm' (fun k hk hg => (HM11.out.fo k hg.1).1.np hk) (fun k hk hg => (HM11.out.fo k hg.1).1.nd hk), by omega, by omega, fun hf => HNb.out (by
            rcases hf with hf | hf | hf | hf
            · exact .inl hf
            · exact .inr (.inl hf)
            · exact hf.elim
            · exact .inr (.inr (.inr hf))), HNd.out, hms⟩, hm'.heap HS11.out (fun hg => (HM11.out.fo b7 hg.1).1.nb rfl), HB11.out.trans (hm'.below HB11.out.size (fun k hg => (HM11.out.fo k hg.1).1.low))⟩⟩
        case measure => simp [intOf]; omega
      · have g2 : (kd == 2) = false := by simpa using kk
        clear kk
        go_wp2_with fail
        refine (step_any w.heap.size _ c m q FT FO D most n W T O A1 n1 c1 A2 n2 c2 A3 n3 c3 i HPa.out (by omega) hn hn2 adr (HS.out.below HBa.out) kd tk HWf.out).mono ?_
        clear k0 k1 k2 k3 k4 f0 f1 f2 f3 f4 hn hn2
        rintro e w6 ⟨n', A1', n1', c1', A2', n2', c2', A3', n3', c3', rfl, ⟨FT', FO', D', W', T', O', hp6, hn, hn2, hsub, hsubD⟩, hm6⟩
        have hsz6 : (wr.alloc (.cells #[.int .i64 kd, .int .u32 tk] 32)).heap.size = wr.heap.size + 1 := by simp
        have HB6 := hide (HBa.out.trans (hm6.below HBa.out.size HPa.out.lo))
        have h67 := hm6.heap HB7.out HNb.out
        have HC6 := hide h67
        have HP6 := hide hp6
        have HN6 : Hid (¬ PF c m FT' FO' b7) := hide (fun hf => (hsub _ hf).elim HNb.out (fun h => by have := HLb.out; omega))
        have HE6 : Hid (¬ D' b7) := hide (fun hf => (hsubD _ hf).elim HNd.out (fun h => by have := HLb.out; omega))
        have HM6 := hide (HMa.out.kept (FT' := FT') (FO' := FO') (D' := D') hm6 (fun k hk => hk.np) hsub hsubD)
        clear hm6 hsub hsubD hp6 hsz6
        go_upto_region 19 with fail
        obtain ⟨b11, hb11⟩ : ∃ b11, w6.heap.size = b11 := ⟨_, rfl⟩
        have hlt11 : b7 < b11 := by rw [← hb11]; exact (Array.getElem?_eq_some_iff.1 h67).1
        obtain ⟨w7, hw7⟩ : ∃ w7, w6.alloc (.cells #[.int .i64 most, .int .i64 n', .slice A1' n1' c1', .slice A2' n2' c2', .slice A3' n3' c3'] 40) = w7 := ⟨_, rfl⟩
        have hal : Below w6.heap.size w6 w7 := by rw [← hw7]; exact (Below.refl _ _).alloc (Nat.le_refl _) _
        have h711 : w7.heap[b11]? = some (.cells #[.int .i64 most, .int .i64 n', .slice A1' n1' c1', .slice A2' n2' c2', .slice A3' n3' c3'] 40 (0, 0)) := by rw [← hw7, ← hb11]; exact heap_alloc_new w6 _
        have h77 := below_at hal h67
        have HB7' := hide (HB6.out.trans (hal.mono HB6.out.size))
        have HP7 := hide (HP6.out.past hal)
        have HM7 := hide (HM6.out.past hal)
        obtain ⟨⟨k0, k1, k2, k3, k4⟩, _⟩ := box5 h711
        obtain ⟨_, f0, f1, f2, f3, f4⟩ := box5 h77
        have HC7 := hide h77
        clear h67 h711 h77 hal
        rw [hb11, hw7]
        clear hb11 hw7
        have hset := box5_set HC7.out (.int .i64 most) (.int .i64 n') (.slice A1' n1' c1') (.slice A2' n2' c2') (.slice A3' n3' c3')
        have HSet := hide hset
        have HB8 := hide (below_set5 HB7'.out HBl.out (.int .i64 most) (.int .i64 n') (.slice A1' n1' c1') (.slice A2' n2' c2') (.slice A3' n3' c3'))
        have HP8 := hide (HP7.out.set5 HC7.out HN6.out (.int .i64 most) (.int .i64 n') (.slice A1' n1' c1') (.slice A2' n2' c2') (.slice A3' n3' c3'))
        have HM8 := hide (HM7.out.set5 (.int .i64 most) (.int .i64 n') (.slice A1' n1' c1') (.slice A2' n2' c2') (.slice A3' n3' c3'))
        go_upto_region 20 with fail
        obtain ⟨w8, hw8⟩ : ∃ w8, (((((w7.setCell ⟨b7, 0, none⟩ (.int .i64 most)).setCell ⟨b7, 1, none⟩ (.int .i64 n')).setCell ⟨b7, 2, none⟩ (.slice A1' n1' c1')).setCell ⟨b7, 3, none⟩ (.slice A2' n2' c2')).setCell ⟨b7, 4, none⟩ (.slice A3' n3' c3')) = w8 := ⟨_, rfl⟩
        rw [hw8] at HSet HB8 hset HP8 HM8
        rw [hw8]
        clear hw8 k0 k1 k2 k3 k4 f0 f1 f2 f3 f4
        obtain ⟨⟨k0, k1, k2, k3, k4⟩, _⟩ := box5 hset
        clear hset
        have HLw : Hid (W'.length = n1') := hide (row_len HP8.out.r1)
        go_wp2_with fail
        refine (waiting_any _ HP8.out.pg).mono ?_
        rintro e w9 ⟨v9, rfl, hr9, _, hb9⟩
        rw [HLw.out] at hr9
        obtain ⟨A9, c9, rfl, _⟩ := hr9.shape
        have hs9 := below_at hb9 HSet.out
        have HS9 := hide hs9
        have HB9 := hide (HB8.out.trans (hb9.mono HB8.out.size))
        have HP9 := hide (HP8.out.past hb9)
        have HM9 := hide (HM8.out.past hb9)
        have HR9 := hide (hr9.mono (G := fun k => w8.heap.size ≤ k ∧ k < w9.heap.size) (fun k hk hl => ⟨hk, hl⟩))
        have HZ9 : Hid (b7 < w8.heap.size) := hide (Array.getElem?_eq_some_iff.1 HSet.out).1
        clear k0 k1 k2 k3 k4 hb9 hr9
        obtain ⟨⟨k0, k1, k2, k3, k4⟩, _⟩ := box5 hs9
        clear hs9
        go_wp2_with fail
        refine (same_true _ _ _ n1' n1' rfl W' HR9.out.reads HP9.out.r1.reads).mono ?_
        rintro e w10 ⟨rfl, hd10⟩
        have hb10 := hd10.below
        have hal : Below w10.heap.size w10 (w10.alloc (.cells #[.slice A9 n1' c9] 29)) := (Below.refl _ _).alloc (Nat.le_refl _) _
        have hs11 := below_at hal (below_at hb10 HS9.out)
        have HS11 := hide hs11
        have HB11 := hide ((HB9.out.trans (hb10.mono HB9.out.size)).trans (hal.mono (Nat.le_trans HB9.out.size hb10.size)))
        have HP11 := hide ((HP9.out.past hb10).past hal)
        have HM11 := hide ((HM9.out.past hb10).past hal)
        have HR11 := hide ((HR9.out.kept (Mod.ofBelow hb10 (fun _ => False)) (fun _ _ _ h => h)).alloc (.cells #[.slice A9 n1' c9] 29))
        have hsz := hb10.size
        have HSz := hide hsz
        obtain ⟨hrow, hnext⟩ := HM11.out.take (Array.getElem?_eq_some_iff.1 hs11).1 HP11.out.le HP11.out.pg.low HP11.out.dl HR11.out (fun k hk hg => by have := foot_low HM8.out.ap hk; have := hg.1; omega) (fun k hk => by have := hk.2; rw [World.size_alloc]; omega) (fun k hk => HP8.out.out HZ9.out hk.1) (by have := HP8.out.pg.room; have := HLw.out; omega)
        have HRow := hide hrow
        have HNext := hide hnext
        clear k0 k1 k2 k3 k4 hb10 hd10 hal hs11 hsz hrow hnext
        go_wp2_with (first
          | (at_builtin; refine wpList_append_row rfl _ _ 50 rfl 29 i0 (.slice none 0 0) 1 24 Tryd.underlying50 hi0 hz0 hz1 hz2 rfl (by decide) rfl HRow.out rfl (reads_one _ _ _ _) (by simp [Value.oneCell']) (by unfold maxLen; omega) (by omega) ?_
             intro A12 c12 w12 hr12 hm12
             have HR12 := hide hr12
             have HM12 := hide hm12
             clear hr12 hm12)
          | fail)
        go_roundw
        case rel =>
          obtain ⟨F2, P2, hms⟩ := HNext.out _ _ HR12.out HM12.out
          have hm' : Mod (fun k => F k ∧ OfE (w10.alloc (.cells #[.slice A9 n1' c9] 29)) 29 k) (w10.alloc (.cells #[.slice A9 n1' c9] 29)) w12 := HM12.out
          exact ⟨i + 1, by omega, by go_num, n', A1', n1', c1', A2', n2', c2', A3', n3', c3', A12, nl + 1, c12, rfl, by omega, hide ⟨⟨FT', FO', D', W', T', O', _, F2, P2, HP11.out.kept hm' (fun k hk hg => (HM11.out.fo k hg.1).1.np hk) (fun k hk hg => (HM11.out.fo k hg.1).1.nd hk), hn, hn2, HN6.out, HE6.out, hms⟩, hm'.heap HS11.out (fun hg => (HM11.out.fo b7 hg.1).1.nb rfl), HB11.out.trans (hm'.below HB11.out.size (fun k hg => (HM11.out.fo k hg.1).1.low))⟩⟩
        case measure => simp [intOf]; omega
    · obtain rfl : i = ns := by omega
      obtain ⟨⟨FT, FO, D, W, T, O, K0, F, P0, hpd, hn, hn2, hb7n, hb7d, hms⟩, hb7, hbel⟩ := HR.out
      obtain ⟨wt, hwt⟩ : ∃ x : World, x = wr := ⟨_, rfl⟩
      rw [← hwt] at hpd hms hb7 hbel
      rw [← hwt]
      have HPt := hide hpd
      have HMt := hide hms
      have HBt := hide hbel
      have H7t := hide hb7
      have HNb := hide (And.intro hb7n hb7d)
      have H0 : Hid (P1 wt wt (.slice LA nl lc) nl K0 F P0 0) := hide ⟨K0, P0, hms.ap, fun _ => Iff.rfl, Mod.refl _ _, rfl, rfl, fun q _ hq => absurd hq (Nat.not_lt_zero _)⟩
      have HF : Hid (∀ k, F k → k < wt.heap.size) := hide fun k hk => (hms.fo k hk).2
      have HLe : Hid (∀ x ∈ K0, x.n ≤ 2147483647) := hide hms.ln
      clear hwt hpd hn hn2 hb7n hb7d hms hb7 hbel HR
      have hnlb : nl ≤ 1048576 := by omega
      clear hnl
      go_wp2_with fail
      go_loopw [98] (fun t wr => ∃ k : Nat, k ≤ nl ∧ t = .int .i64 k ∧ Hid (P1 wt wr (.slice LA nl lc) nl K0 F P0 k)) (fun t _ => nl - (intOf t).toNat)
      case atStart => exact ⟨0, Nat.zero_le _, rfl, H0⟩
      case round =>
        clear H0
        obtain ⟨k, hk, rfl, hQ⟩ := hrel
        by_cases hkl : k < nl
        · as_aux_lemma =>
          obtain ⟨K, P, hA, hFo, hM, hPd⟩ := hQ.out
          have hKl := hA.len
          obtain ⟨⟨xv, xn, xx⟩, hx⟩ : ∃ x, K[k]? = some x := ⟨_, List.getElem?_eq_getElem (by omega)⟩
          obtain ⟨p, hp, hv, hrow⟩ := hA.row_at hx
          obtain ⟨Ax, cx, hxv, _⟩ := hrow.shape
          have hxv : xv = .slice Ax xn cx := hxv
          subst hxv
          have hxn : xn ≤ 2147483647 := by
            have h1 := get_vs (f := fun x : Lx => x.n) hx
            rw [hPd.ns] at h1
            rw [List.getElem?_map] at h1
            cases hk0 : K0[k]? with
            | none => rw [hk0] at h1; cases h1
            | some y =>
              rw [hk0] at h1
              injection h1 with h1
              have := HLe.out y (List.mem_of_getElem? hk0)
              have h1 : y.n = xn := h1
              omega
          obtain ⟨ad, hAd, k1⟩ := ap_cell hA.row hkl hx
          have k1 : wr.cell? (ad.add k) = some (.slice Ax xn cx) := k1
          have hxl : xx.length = xn := by have := hrow.1; simpa using this
          have HX := hide hx
          have HXl := hide hxl
          have HPd := hide hPd
          have HI : Hid (∃ xs P, AP 30 29 wr (.slice LA nl lc) nl (K.set k ⟨.slice Ax xn cx, xn, xs⟩) F P ∧ (∀ b, Foot P b ↔ Foot P0 b) ∧ Mod (Foot P0) wt wr ∧ ∀ q, q < 0 → xs[q]? = some (cellOf k)) := hide ⟨xx, P, by
            have e : K.set k ⟨.slice Ax xn cx, xn, xx⟩ = K := by
              obtain ⟨hj, he⟩ := List.getElem?_eq_some_iff.1 hx
              conv => lhs; rw [← he]
              rw [List.set_getElem_self]
            rw [e]; exact hA, hFo, hM, fun q hq => absurd hq (Nat.not_lt_zero _)⟩
          subst hAd
          clear hQ hA hFo hM hPd hx hp hv hrow hxl hKl
          go_wp2_with fail
          go_loopw [105] (fun t wr => ∃ i : Nat, i ≤ xn ∧ t = .int .i64 i ∧ Hid (∃ xs P, AP 30 29 wr (.slice (some ad) nl lc) nl (K.set k ⟨.slice Ax xn cx, xn, xs⟩) F P ∧ (∀ b, Foot P b ↔ Foot P0 b) ∧ Mod (Foot P0) wt wr ∧ ∀ q, q < i → xs[q]? = some (cellOf k))) (fun t _ => xn - (intOf t).toNat)
          case atStart => exact ⟨0, Nat.zero_le _, rfl, HI⟩
          case round =>
            clear HI k1
            obtain ⟨i, hi, rfl, hQ⟩ := hrel
            by_cases hil : i < xn
            · have hu : IntKind.u32.wrap (900000 + (k : Int)) = 900000 + (k : Int) := by simp [IntKind.wrap, IntKind.signed, IntKind.bits]; omega
              obtain ⟨xs, P2, hA, hFo, hM, hD⟩ := hQ.out
              obtain ⟨p, hp, hrow, hnext⟩ := hA.set (by decide) (get_set_same HX.out)
              have hrow : Row wr (fun b => p.F b ∧ OfE wr 30 b) 30 1 (.slice Ax xn cx) xn xs := hrow
              have HRow := hide hrow
              have HNext := hide hnext
              have HFo := hide hFo
              have HM := hide hM
              have HD := hide hD
              have HPf : Hid (∀ b, p.F b → Foot P2 b) := hide fun b hb => ⟨p, List.mem_of_getElem? hp, hb⟩
              have hxs : xs.length = xn := by have := hrow.1; simpa using this
              have HXs := hide hxs
              clear hQ hA hFo hM hD hp hrow hnext hxs
              go_wp2_with (first
                | ((with_reducible refine at_index rfl ?_); refine wpList_put1 rfl rfl _ _ _ 29 30 _ rfl rfl rfl rfl (by simp) Tryd.underlying29 size_tok rfl HRow.out rfl (by omega) (by omega) (fun _ => rfl) rfl ?_; intro p2 w2 hr2 hm2; have HR2 := hide hr2; have HM2 := hide hm2; clear hr2 hm2)
                | fail)
              go_roundw
              case rel =>
                have h := HR2.out
                rw [Int.toNat_natCast] at h
                obtain ⟨P', hf', hA'⟩ := HNext.out _ _ h HM2.out
                refine ⟨i + 1, by omega, by go_num, hide ⟨_, P', by rw [List.set_set] at hA'; exact hA', fun b => (hf' b).trans (HFo.out b), HM.out.trans HM2.out (fun b _ hb => (HFo.out b).1 (HPf.out b hb.1)), fun q hq => ?_⟩⟩
                by_cases hqi : i = q
                · subst hqi
                  rw [List.getElem?_set_self (by rw [HXs.out]; omega)]
                · rw [List.getElem?_set_ne hqi]
                  exact HD.out q (by omega)
              case measure => simp [intOf]; omega
            · obtain rfl : i = xn := by omega
              have hst : Hid (P1 wt wr (.slice (some ad) nl lc) nl K0 F P0 (k + 1)) := by
                obtain ⟨xs, P2, hA, hFo, hM, hD⟩ := hQ.out
                have hxs : xs = List.replicate i (cellOf k) := by
                  obtain ⟨p, hp, _, hrow⟩ := hA.row_at (get_set_same HX.out)
                  have hl : xs.length = i := by have := hrow.1; simpa using this
                  apply List.ext_getElem?
                  intro q
                  by_cases hq : q < i
                  · rw [hD q hq, List.getElem?_replicate, if_pos hq]
                  · rw [List.getElem?_eq_none (by omega), List.getElem?_eq_none (by simp; omega)]
                rw [hxs] at hA
                exact hide ⟨_, P2, hA, hFo, hM, HPd.out.nxt HX.out⟩
              clear hQ
              go_wp2
              go_roundw
              case rel => exact ⟨k + 1, by omega, by go_num, hst⟩
              case measure => simp [intOf]; omega
        · obtain rfl : k = nl := by omega
          obtain ⟨K, P, hA, hFo, hM, hPd⟩ := hQ.out
          have HPd := hide hPd
          have HFo := hide hFo
          have HKl := hide hA.len
          have HG : Hid (P2 wt wr (.slice LA k lc) k K F P (.slice none 0 0) 0) := hide ⟨[], _, P, hA.grow (hM.mono (fun b _ hb => (hFo b).2 hb)) HF.out tipOf⟩
          have HKn : Hid (∀ x ∈ K, x.n ≤ 2147483647) := hide fun x hx => by
            obtain ⟨q, hq⟩ := List.mem_iff_getElem?.1 hx
            have h1 := get_vs (f := fun x : Lx => x.n) hq
            rw [hPd.ns, List.getElem?_map] at h1
            cases hk0 : K0[q]? with
            | none => rw [hk0] at h1; cases h1
            | some y =>
              rw [hk0] at h1
              injection h1 with h1
              have := HLe.out y (List.mem_of_getElem? hk0)
              have h1 : y.n = x.n := h1
              omega
          clear hQ hA hFo hM hPd
          go_wp2_with fail
          go_loopw [20, 118] (fun gv t wr => ∃ j : Nat, j ≤ k ∧ t = .int .i64 j ∧ ∃ GA gc, gv = .slice GA j gc ∧ Hid (P2 wt wr (.slice LA k lc) k K F P (.slice GA j gc) j)) (fun _ t _ => k - (intOf t).toNat)
          case atStart => exact ⟨0, Nat.zero_le _, rfl, none, 0, rfl, HG⟩
          case round =>
            clear HG
            obtain ⟨j, hj, rfl, GA, gc, rfl, hQ⟩ := hrel
            by_cases hjl : j < k
            · as_aux_lemma =>
              obtain ⟨Gs, FG, P3, hg⟩ := hQ.out
              obtain ⟨⟨xv, xn, xx⟩, hx⟩ : ∃ x, K[j]? = some x := ⟨_, List.getElem?_eq_getElem (by have := HKl.out; omega)⟩
              obtain ⟨Ax, cx, hxv⟩ := (hg.reads hx).shape
              have hxv : xv = .slice Ax xn cx := hxv
              subst hxv
              have hxn : xn ≤ 2147483647 := HKn.out _ (List.mem_of_getElem? hx)
              obtain ⟨ad, hAd, k1⟩ := ap_cell hg.row hjl hx
              have k1 : wr.cell? (ad.add j) = some (.slice Ax xn cx) := k1
              subst hAd
              obtain ⟨G, hlow, hrow, hstep⟩ := hg.spot (by decide) hx
              have hrow : Row wr G 30 1 (.slice Ax xn cx) xn xx := hrow
              have HX := hide hx
              have HLow := hide hlow
              have HStep := hide hstep
              have HI : Hid (In2 wr wr G Ax cx xn xx 0 Ax cx) := hide ⟨Mod.refl _ _, hrow, .inl ⟨rfl, rfl, [], by rw [List.append_nil, Nat.add_zero]; exact hrow⟩⟩
              have hxl : xx.length = xn := by have := hrow.1; simpa using this
              have HXl := hide hxl
              clear hQ hg hx hlow hrow hstep hxl
              obtain ⟨w1, hw1⟩ : ∃ w1, wr = w1 := ⟨_, rfl⟩
              have HI : Hid (In2 w1 wr G Ax cx xn xx 0 Ax cx) := by rw [← hw1]; exact HI
              have HLow : Hid (∀ b, G b → b < w1.heap.size) := by rw [← hw1]; exact HLow
              have HStep := HStep
              rw [hw1] at HStep
              clear hw1
              go_wp2_with fail
              go_loopw [23, 24] (fun g t wr => ∃ q : Nat, q ≤ 64 ∧ t = .int .i64 q ∧ ∃ A2 c2, g = .slice A2 (xn + q) c2 ∧ Hid (In2 w1 wr G Ax cx xn xx q A2 c2)) (fun _ t _ => 64 - (intOf t).toNat)
              case atStart => exact ⟨0, Nat.zero_le _, rfl, Ax, cx, rfl, HI⟩
              case round =>
                clear HI k1
                obtain ⟨q, hq, rfl, A2, c2, rfl, hI⟩ := hrel
                by_cases hql : q < 64
                · have HI := hide hI.out
                  rcases hI.out.tip with ⟨rfl, rfl, zs, hr⟩ | ⟨zs, hr⟩
                  · have HR := hide (hr.alloc (.cells #[.int .u32 800000] 30))
                    clear hI hr
                    go_wp2_with (first
                      | (at_builtin; refine wpList_append_two rfl _ _ 29 rfl 30 j0 (.int .u32 0) 1 4 Tryd.underlying29 hj0 hy0 hy1 hy2 rfl rfl HR.out rfl (reads_one _ _ _ _) (by simp [Value.oneCell']) (by unfold maxLen; omega) (by omega)
                           (fun A' c' w' => Hid (In2 w1 w' G A2 c2 xn xx (q + 1) A' c')) (fun _ w' hr hm => hide ⟨(HI.out.mod.alloc _).trans hm (fun _ _ h => h), by
                              have := hr.ahead (m := xn) (by omega)
                              rw [Nat.mul_one, List.append_assoc, List.take_append_of_le_length (by have := HXl.out; omega), List.take_of_length_le (by have := HXl.out; omega)] at this
                              exact this, .inl ⟨rfl, rfl, _, by rw [List.append_assoc] at hr; exact hr⟩⟩)
                           (fun A' c' w' hr hb => hide ⟨(HI.out.mod.alloc _).trans (Mod.ofBelow hb (fun _ => False)) (fun _ _ h => h.elim), (HI.out.row.alloc _).kept (Mod.ofBelow hb (fun _ => False)) (fun _ _ _ h => h), .inr ⟨_, hr.mono (fun b hb _ => by have := hb.1; have := HI.out.mod.size; simp at *; omega)⟩⟩) ?_
                         intro A7 c7 w7 HI7)
                      | fail)
                    go_roundw
                    case rel => exact ⟨q + 1, by omega, by go_num, A7, c7, rfl, HI7⟩
                    case measure => simp [intOf]; omega
                  · have HR := hide (hr.alloc (.cells #[.int .u32 800000] 30))
                    clear hI hr
                    go_wp2_with (first
                      | (at_builtin; refine wpList_append_row rfl _ _ 29 rfl 30 j0 (.int .u32 0) 1 4 Tryd.underlying29 hj0 hy0 hy1 hy2 rfl (by decide) rfl HR.out rfl (reads_one _ _ _ _) (by simp [Value.oneCell']) (by unfold maxLen; omega) (by omega) ?_
                         intro A7 c7 w7 hr7 hm7
                         have HI7 : Hid (In2 w1 w7 G Ax cx xn xx (q + 1) A7 c7) := hide ⟨(HI.out.mod.alloc _).trans hm7 (fun b hb hg => absurd hg (by omega)), (HI.out.row.alloc _).kept hm7 (fun b hb _ hg => by have := HLow.out b hb; omega), .inr ⟨_, hr7.mono (fun b hb _ => hb.elim id (fun e => by have := HI.out.mod.size; simp at e; omega))⟩⟩
                         clear hr7 hm7)
                      | fail)
                    go_roundw
                    case rel => exact ⟨q + 1, by omega, by go_num, A7, c7, rfl, HI7⟩
                    case measure => simp [intOf]; omega
                · obtain rfl : q = 64 := by omega
                  have hu : IntKind.u32.wrap (700000 + (j : Int)) = 700000 + (j : Int) := by simp [IntKind.wrap, IntKind.signed, IntKind.bits]; omega
                  have HG := hide (HStep.out wr hI.out.row hI.out.mod)
                  clear hI
                  have hal : Below wr.heap.size wr (wr.alloc (.cells #[tipOf j] 30)) := (Below.refl _ _).alloc (Nat.le_refl _) _
                  obtain ⟨G2, hrow2, hin2, hnw2⟩ := (HG.out.past hal).more (by decide) HX.out
                  have HRow2 := hide hrow2
                  have HIn2 := hide hin2
                  have HNw2 := hide hnw2
                  clear hal hrow2 hin2 hnw2
                  go_wp2_with (first
                    | (at_builtin; refine wpList_append_two rfl _ _ 29 rfl 30 j0 (.int .u32 0) 1 4 Tryd.underlying29 hj0 hy0 hy1 hy2 rfl rfl HRow2.out rfl (reads_one _ _ _ _) (by simp [Value.oneCell']) (by unfold maxLen; omega) (by omega)
                         (fun A' c' w' => Hid (∃ P', AG 30 29 wt w' (.slice (some ad) k lc) k K F tipOf (j + 1) (.slice GA j gc) j Gs FG P P' ∧ Seen P' (.slice A' (xn + 1) c', xn + 1, xx ++ [tipOf j]))) (fun _ w' hr hm => hide (HIn2.out w' hr hm)) (fun A' c' w' hr hb => hide (HNw2.out A' c' w' hr hb)) ?_
                       intro A7 c7 w7 HS7
                       obtain ⟨P7, hg7, hs7⟩ := HS7.out
                       have hal7 : Below w7.heap.size w7 (w7.alloc (.cells #[.slice A7 (xn + 1) c7] 29)) := (Below.refl _ _).alloc (Nat.le_refl _) _
                       obtain ⟨FG7, hrow7, hnext7⟩ := (hg7.past hal7).take (by decide) (y := ⟨.slice A7 (xn + 1) c7, xn + 1, xx ++ [tipOf j]⟩) hs7 HX.out rfl rfl
                       have HRow7 := hide hrow7
                       have HNext7 := hide hnext7
                       clear HS7 hg7 hs7 hal7 hrow7 hnext7)
                    | (at_builtin; refine wpList_append_row rfl _ _ 50 rfl 29 i0 (.slice none 0 0) 1 24 Tryd.underlying50 hi0 hz0 hz1 hz2 rfl (by decide) rfl HRow7.out rfl (reads_one _ _ _ _) (by simp [Value.oneCell']) (by unfold maxLen; omega) (by omega) ?_
                       intro A8 c8 w8 hr8 hm8
                       have HG8 := hide (HNext7.out _ _ hr8 hm8)
                       clear hr8 hm8)
                    | fail)
                  go_roundw
                  case rel => exact ⟨j + 1, by omega, by go_num, A8, c8, rfl, hide ⟨_, _, _, HG8.out⟩⟩
                  case measure => simp [intOf]; omega
            · as_aux_lemma =>
              obtain rfl : j = k := by omega
              obtain ⟨Gs, FG, P3, hg⟩ := hQ.out
              have HG := hide hg
              have HKr := hide hg.row.reads
              have HGr := hide hg.gr.reads
              clear hQ hg
              go_wp2_with fail
              go_loop [143] (fun t => ∃ q : Nat, q ≤ j ∧ t = .int .i64 q) (fun t => j - (intOf t).toNat)
              case atStart => exact ⟨0, Nat.zero_le _, rfl⟩
              case round =>
                obtain ⟨q, hq, rfl⟩ := hrel
                by_cases hql : q < j
                · obtain ⟨⟨xv, xn, xx⟩, hx⟩ : ∃ x, K[q]? = some x := ⟨_, List.getElem?_eq_getElem (by have := HKl.out; omega)⟩
                  have HRx := hide (HG.out.reads hx)
                  obtain ⟨Ax, cx, hxv⟩ := HRx.out.shape
                  have hxv : xv = .slice Ax xn cx := hxv
                  subst hxv
                  have hxn : xn ≤ 2147483647 := HKn.out _ (List.mem_of_getElem? hx)
                  obtain ⟨⟨gv, gn, gx⟩, hgq⟩ : ∃ g, Gs[q]? = some g := ⟨_, List.getElem?_eq_getElem (by have := HG.out.gs; omega)⟩
                  obtain ⟨hgn, hgx⟩ := HG.out.gc q _ _ hgq hx
                  have hgn : gn = xn + 1 := hgn
                  have hgx : gx = xx ++ [tipOf q] := hgx
                  have hrg : Reads wr 1 gv gn gx := HG.out.grown hgq
                  subst hgn
                  subst hgx
                  have hxx : xx = List.replicate xn (cellOf q) := HPd.out.done q _ hql hx
                  have HVx := hide (get_vs (f := fun x : Lx => x.v) hx)
                  have HVg := hide (get_vs (f := fun x : Lx => x.v) hgq)
                  have HRg := hide hrg
                  have HEx : ∀ p, p < xn → Hid (xx[p]? = some (cellOf q)) := fun p hp => hide (by rw [hxx, List.getElem?_replicate, if_pos hp])
                  have HEg : Hid ((xx ++ [tipOf q])[xn]? = some (tipOf q)) := hide (by rw [List.getElem?_append_right (by rw [hxx]; simp), hxx]; simp)
                  have hu1 : IntKind.u32.wrap (900000 + (q : Int)) = 900000 + (q : Int) := by simp [IntKind.wrap, IntKind.signed, IntKind.bits]; omega
                  have hu2 : IntKind.u32.wrap (700000 + (q : Int)) = 700000 + (q : Int) := by simp [IntKind.wrap, IntKind.signed, IntKind.bits]; omega
                  clear hx hgq hrg hxx
                  go_wp2_with (first
                    | ((with_reducible refine at_index rfl ?_); refine wpList_at1 rfl rfl _ _ 50 29 _ rfl rfl rfl (by simp) Tryd.underlying50 size_list agg_list rfl HKr.out rfl (by omega) (by omega) HVx.out ?_; intro zz)
                    | fail)
                  go_loop [150] (fun t => ∃ p : Nat, p ≤ xn ∧ t = .int .i64 p) (fun t => xn - (intOf t).toNat)
                  case atStart => exact ⟨0, Nat.zero_le _, rfl⟩
                  case round =>
                    obtain ⟨p, hp, rfl⟩ := hrel
                    by_cases hpl : p < xn
                    · have HU := HEx p hpl
                      go_wp2_with (first
                        | ((with_reducible refine at_index rfl ?_); refine wpList_at1 rfl rfl _ _ 29 30 _ rfl rfl rfl (by simp) Tryd.underlying29 size_tok agg_tok rfl HRx.out rfl (by omega) (by omega) HU.out ?_; intro zz)
                        | fail)
                      go_round
                      case rel => exact ⟨p + 1, by omega, by go_num⟩
                      case measure => simp [intOf]; omega
                    · obtain rfl : p = xn := by omega
                      go_wp2_with (first
                        | ((with_reducible refine at_index rfl ?_); refine wpList_at1 rfl rfl _ _ 50 29 _ rfl rfl rfl (by simp) Tryd.underlying50 size_list agg_list rfl HGr.out rfl (by omega) (by omega) HVg.out ?_; intro zz)
                        | ((with_reducible refine at_index rfl ?_); refine wpList_at1 rfl rfl _ _ 29 30 _ rfl rfl rfl (by simp) Tryd.underlying29 size_tok agg_tok rfl HRg.out rfl (by omega) (by omega) HEg.out ?_; intro zz)
                        | fail)
                      go_round
                      case rel => exact ⟨q + 1, by omega, by go_num⟩
                      case measure => simp [intOf]; omega
                · obtain rfl : q = j := by omega
                  have hmod : Mod (Foot P0) wt wr := HG.out.mod.mono (fun b _ hb => (HFo.out b).1 hb)
                  have HP8 := hide (HPt.out.kept hmod (fun k hk hf => (HMt.out.lo k hf).np hk) (fun k hk hf => (HMt.out.lo k hf).nd hk))
                  have h78 := hmod.heap H7t.out (fun hf => (HMt.out.lo b7 hf).nb rfl)
                  have HSet := hide h78
                  have HB8 := hide (HBt.out.trans (hmod.below HBt.out.size (fun k hf => (HMt.out.lo k hf).low)))
                  obtain ⟨⟨k0, k1, k2, k3, k4⟩, _⟩ := box5 h78
                  clear h78 hmod HG HKr HGr
                  go_upto_region 59 with fail
                  have HBd := hide HB8.out.drew
                  have HPz := hide (HP8.out.past (Below.refl _ _).drew)
                  have HLw : Hid (W.length = n1) := hide (row_len HP8.out.r1)
                  have HLt : Hid (T.length = n2) := hide (row_len HP8.out.r2)
                  have hLo : O.length = n3 := row_len HP8.out.r3
                  have HCn : Hid (c ≠ b7 ∧ w.heap.size ≤ c) := hide ⟨fun e => HNb.out.1 (.inl e.symm), HP8.out.lo c (.inl rfl)⟩
                  go_region_law (first
                    | (go_simp; go_at_call 13; (with_reducible refine Calls.mono (waiting_any _ HPz.out.pg) ?_); rintro e w9 ⟨v9, rfl, hr9, _, hb9⟩
                       have hs9 := below_at hb9 (show wr.drew.heap[b7]? = some (.cells #[.int .i64 most, .int .i64 n, .slice A1 n1 c1, .slice A2 n2 c2, .slice A3 n3 c3] 40 (0, 0)) from HSet.out)
                       have HS9 := hide hs9
                       have HB9 := hide (HBd.out.trans (hb9.mono HBd.out.size))
                       have HP9 := hide (HPz.out.past hb9)
                       have HR9 := hide hr9.reads
                       clear k0 k1 k2 k3 k4 hb9 hr9
                       obtain ⟨⟨k0, k1, k2, k3, k4⟩, _⟩ := box5 hs9
                       clear hs9)
                    | (go_simp; go_at_call 12; (with_reducible refine Calls.mono (same_true _ _ _ _ _ HLt.out T HR11.out.reads HP11.out.r2.reads) ?_); rintro e w12 ⟨rfl, hd12⟩
                       have hb12 := hd12.below
                       have hs12 := below_at hb12 HS11.out
                       have HB12 := hide (HB11.out.trans (hb12.mono HB11.out.size))
                       have HP12 := hide (HP11.out.past hb12)
                       clear k0 k1 k2 k3 k4 hb12 hd12
                       obtain ⟨⟨k0, k1, k2, k3, k4⟩, _⟩ := box5 hs12
                       clear hs12)
                    | (go_simp; go_at_call 12; (with_reducible refine Calls.mono (same_true _ _ _ _ _ HLw.out W HR9.out HP9.out.r1.reads) ?_); rintro e w10 ⟨rfl, hd10⟩
                       have hb10 := hd10.below
                       have hs10 := below_at hb10 HS9.out
                       have HS10 := hide hs10
                       have HB10 := hide (HB9.out.trans (hb10.mono HB9.out.size))
                       have HP10 := hide (HP9.out.past hb10)
                       clear k0 k1 k2 k3 k4 hb10 hd10
                       obtain ⟨⟨k0, k1, k2, k3, k4⟩, _⟩ := box5 hs10
                       clear hs10)
                    | (go_simp; go_at_call 11; (with_reducible refine Calls.mono (answered_any _ HP10.out.pg) ?_); rintro e w11 ⟨A11, c11, rfl, hr11, hp11, hm11⟩
                       have hm11' : Mod (PF c m FT FO) w10 w11 := hm11.mono (fun _ _ e => .inl e)
                       have hs11 := hm11.heap HS10.out (fun e => HCn.out.1 e.symm)
                       have HS11 := hide hs11
                       have HB11 := hide (HB10.out.trans (hm11.below HB10.out.size (fun j hj => by subst hj; exact HCn.out.2)))
                       have HP11 := hide (HP10.out.prog hp11 hm11' (fun j hf => by
                         rcases hf with hf | hf | hf | hf
                         · exact .inl (.inl hf)
                         · exact .inl (.inr (.inl hf))
                         · exact hf.elim
                         · exact .inl (.inr (.inr (.inr hf)))))
                       have HR11 := hide hr11
                       clear k0 k1 k2 k3 k4 hr11 hp11 hm11 hm11'
                       obtain ⟨⟨k0, k1, k2, k3, k4⟩, _⟩ := box5 hs11
                       clear hs11)
                    | (go_simp; go_at_call 17; (with_reducible refine Calls.mono (owed_any _ HP12.out.pg) ?_); rintro e w13 ⟨rfl, rfl⟩)
                    | fail)
                  all_goals
                    go_wp2
                    go_ret
                    exact ⟨rfl, HB12.out⟩
theorem walk (w : World) (adr : Nat → Addr) (hS : Sent w adr) (most : Int) (sv : Value) (ns : Nat) (ops : List (Int × Int)) (hO : Reads w 2 sv ns (opC ops) ∧ ∀ o ∈ ops, (Lit.int .i64 o.1).wf = true ∧ (Lit.int .u32 o.2).wf = true) (hns : ns ≤ 1048576) :
    Calls Tryd.prog 6 #[.int .i64 most, sv] w fun e w' => e = .returned (.bool true) ∧ Below w.heap.size w w' := by
  by_cases h : 1 ≤ most ∧ most ≤ 1024
  · obtain ⟨m, rfl⟩ : ∃ m : Nat, most = m := ⟨most.toNat, by omega⟩
    exact walk_big w adr hS m (by omega) (by omega) sv ns ops hO.1 hO.2 hns
  · obtain ⟨SA, sc, rfl⟩ := hO.1.shape
    exact walk_small w adr hS most (by omega) SA ns sc
end pingsMemory
end Go.Proofs.YtccojgaahoonhaaDoor
