/-
  HandlesOwn: for every two scripts of at most 1048576 calls the law returns true: On answers new memory, and two handles that take their calls in turns do not touch each other. Conditions: the sentinels' variables hold their errors; the scripts can be read.
-/
import Derived.Test.YtjkahckglhpjeaaDoorHOwn1
import Derived.Deep.CutRange
import Derived.Deep.Cut
import Derived.BigQuiet
import Derived.Deep.RegionLaw
import Derived.Deep.DeepCutAuto
namespace Go.Proofs.YtjkahckglhpjeaaDoor.handlesOwn
open Go Go.RowKit Go.Cu Go.Proofs.YtjkahckglhpjeaaDoor Go.Proofs.YtjkahckglhpjeaaDoor.errs Go.Proofs.YtjkahckglhpjeaaDoor.handlesPlays

/-- the two handles and the two variables of the document's -/
structure X2 (w0 w : World) (q c m1 m2 g : Nat) (L : List HE) (A : Option Addr) (n cc : Nat) (d k1 k2 h : Nat) (M : List HE) (B : Option Addr) (l ll : Nat) : Prop where
  t : T2 w0 w c m1 m2 g L A n cc d k1 k2 h M B l ll
  v1 : w.heap[q]? = some (.cells #[.int .i64 g, .slice A n cc] 43 (0, 0))
  v2 : w.heap[q + 1]? = some (.cells #[.int .i64 h, .slice B l ll] 43 (0, 0))
theorem X2.past {w0 w w' : World} {q c m1 m2 g : Nat} {L : List HE} {A : Option Addr} {n cc : Nat} {d k1 k2 h : Nat} {M : List HE} {B : Option Addr} {l ll : Nat} (x : X2 w0 w q c m1 m2 g L A n cc d k1 k2 h M B l ll) (hb : Below w.heap.size w w') : X2 w0 w' q c m1 m2 g L A n cc d k1 k2 h M B l ll :=
  ⟨x.t.past hb, below_at hb x.v1, below_at hb x.v2⟩
theorem X2.far {G : Nat → Prop} {w0 w w' : World} {q c m1 m2 g : Nat} {L : List HE} {A : Option Addr} {n cc : Nat} {d k1 k2 h : Nat} {M : List HE} {B : Option Addr} {l ll : Nat} (x : X2 w0 w q c m1 m2 g L A n cc d k1 k2 h M B l ll) (hm : Mod (fun k => G k ∧ OfE w 3 k) w w') (hG : ∀ k, G k → w0.heap.size ≤ k) : X2 w0 w' q c m1 m2 g L A n cc d k1 k2 h M B l ll :=
  ⟨x.t.far hm hG, hm.heap x.v1 (fun hk => not_ofE x.v1 (by decide) hk.2), hm.heap x.v2 (fun hk => not_ofE x.v2 (by decide) hk.2)⟩

set_option maxRecDepth 10000 in
set_option maxHeartbeats 8000000 in
theorem walk (w : World) (adr : Nat → Addr) (hS : Sent w adr) (sv1 sv2 : Value) (n1 n2 : Nat) (ops1 ops2 : List OpH) (ho1 : Ops w sv1 n1 ops1) (ho2 : Ops w sv2 n2 ops2) (hn1 : n1 ≤ 1048576) (hn2 : n2 ≤ 1048576) :
    Calls Tryd.prog 7 #[sv1, sv2] w fun e w' => e = .returned (.bool true) ∧ Below w.heap.size w w' := by
  have HO1 := hide ho1
  have HO2 := hide ho2
  have HS := hide hS
  obtain ⟨A1, d1, rfl⟩ := ho1.reads.shape
  obtain ⟨A2, d2, rfl⟩ := ho2.reads.shape
  clear ho1 ho2 hS
  go_enter Tryd.func7, Tryd.ntmps7
  go_wp2_with fail
  refine (wakes_true w adr HS.out).mono ?_
  rintro e w1 ⟨rfl, hb1⟩
  have HB1 := hide hb1
  clear hb1
  go_wp2_with fail
  refine (new_any w1).mono ?_
  rintro e w2 ⟨c, rfl, m1, m2, h1, l1, l2, l3, hb2⟩
  have HH2 := hide (H1.made HB1.out h1 l1 l2 l3 hb2)
  clear h1 l1 l2 l3 hb2
  go_wp2_with fail
  refine (new_any w2).mono ?_
  rintro e w3 ⟨d, rfl, k1, k2, h1, l1, l2, l3, hb3⟩
  have HH3 := hide (H1.made HH2.out.below h1 l1 l2 l3 hb3)
  have HH4 := hide (HH2.out.past hb3)
  have hne : ∀ j, InH c m1 m2 j → ¬ InH d k1 k2 j := fun j hj hk => by
    have := HH2.out.hs.lt j hj
    rcases hk with rfl | rfl | rfl <;> omega
  have HNe := hide hne
  clear h1 l1 l2 l3 hb3 hne
  go_upto_region 5 with fail
  obtain ⟨w4, hw4⟩ : ∃ w4, (w3.alloc (.cells #[.int .i64 0, .slice none 0 0] 43)).alloc (.cells #[.int .i64 0, .slice none 0 0] 43) = w4 := ⟨_, rfl⟩
  obtain ⟨q, hq⟩ : ∃ q, w3.heap.size = q := ⟨_, rfl⟩
  have hb4 : Below w3.heap.size w3 w4 := by rw [← hw4]; exact ((Below.refl _ _).alloc (Nat.le_refl _) _).alloc (by simp) _
  have hv1 : w4.heap[q]? = some (.cells #[.int .i64 0, .slice none 0 0] 43 (0, 0)) := by rw [← hw4, ← hq, Below.heap_alloc _ _ _ (by simp)]; exact heap_alloc_new w3 _
  have hv2 : w4.heap[q + 1]? = some (.cells #[.int .i64 0, .slice none 0 0] 43 (0, 0)) := by
    rw [← hw4, ← hq]
    have h := heap_alloc_new (w3.alloc (.cells #[.int .i64 0, .slice none 0 0] 43)) (.cells #[.int .i64 0, .slice none 0 0] 43)
    simp only [World.size_alloc] at h
    exact h
  rw [hw4, hq]
  have HT4 : Hid (T2 w w4 c m1 m2 0 [] none 0 0 d k1 k2 0 [] none 0 0) := hide ⟨⟨HH4.out.past hb4, Row.nil _ _ _ _⟩, ⟨HH3.out.past hb4, Row.nil _ _ _ _⟩, HNe.out⟩
  have HV1 := hide hv1
  have HV2 := hide hv2
  have hqw : w.heap.size ≤ q := by have := HH3.out.below.size; omega
  clear hw4 hb4 hv1 hv2 hq
  go_wp2_with fail
  go_loopw [9] (fun v9 wr => ∃ i : Nat, (i ≤ n1 ∨ i ≤ n2) ∧ v9 = .int .i64 i ∧ Hid (∃ g L A n cc h M B l ll, g ≤ i ∧ h ≤ i ∧ T2 w wr c m1 m2 g L A n cc d k1 k2 h M B l ll ∧ wr.heap[q]? = some (.cells #[.int .i64 g, .slice A n cc] 43 (0, 0)) ∧ wr.heap[q + 1]? = some (.cells #[.int .i64 h, .slice B l ll] 43 (0, 0)))) (fun v9 _ => max n1 n2 - (intOf v9).toNat)
  case atStart => exact ⟨0, .inl (Nat.zero_le _), rfl, hide ⟨0, [], none, 0, 0, 0, [], none, 0, 0, Nat.le_refl _, Nat.le_refl _, HT4.out, HV1.out, HV2.out⟩⟩
  case round =>
    clear HT4 HV1 HV2
    obtain ⟨i, hi, rfl, hst⟩ := hrel
    obtain ⟨g, L, A, n, cc, h, M, B, l, ll, hgi, hhi, hT, hV1, hV2⟩ := hst.out
    have HT := hide hT
    have HV1 := hide hV1
    have HV2 := hide hV2
    clear hst hT hV1 hV2
    have HX := hide (show X2 w wr q c m1 m2 g L A n cc d k1 k2 h M B l ll from ⟨HT.out, HV1.out, HV2.out⟩)
    have hqr := (Array.getElem?_eq_some_iff.1 HV2.out).1
    clear HT HV1 HV2
    by_cases hin : i < n1 ∨ i < n2
    · have hib : i ≤ 1048575 := by omega
      by_cases hl2 : i < n2
      · have t2 : decide ((i : Int) < (n2 : Int)) = true := decide_eq_true (by omega)
        by_cases hl1 : i < n1
        · as_aux_lemma =>
          have t1 : decide ((i : Int) < (n1 : Int)) = true := decide_eq_true (by omega)
          obtain ⟨o, hoi⟩ : ∃ o, ops2[i]? = some o := ⟨_, List.getElem?_eq_getElem (by rw [HO2.out.length]; omega)⟩
          have hrd : Reads wr 5 (.slice A2 n2 d2) n2 (ops2.flatMap OpH.cells) := reads_past HO2.out.reads HX.out.t.a.h1.below
          obtain ⟨ad, hA, s0, s1, s2, s3, s4⟩ := ops_cells hrd hoi
          have hlt0 : (ad.add (i * 5)).block < w.heap.size := by
            obtain ⟨ad', hA', s0', _⟩ := ops_cells HO2.out.reads hoi
            rw [hA] at hA'
            injection hA' with hA'
            subst hA'
            exact World.block_lt_of_cell? _ _ s0'
          have HOi := hide hoi
          have HAd := hide hA
          subst hA
          have HWf := hide (HO2.out.each o (List.mem_of_getElem? hoi))
          clear hrd hoi
          go_upto_region 10 with fail
          go_cut [10] (fun s10 wp => s10 = .bool true ∧ Hid (∃ h2 M2 B2 l2 e2, h2 ≤ h + 1 ∧ X2 w wp q c m1 m2 g L A n cc d k1 k2 h2 M2 B2 l2 e2))
          case first => as_aux_lemma =>
            obtain ⟨c0, c1, _, _⟩ := bx2 HX.out.v2
            have HTd := hide (HX.out.t.swap.past (w' := wr.drew) (Below.refl _ _).drew)
            have HVd : Hid (wr.drew.heap[(q + 1)]? = some (.cells #[.int .i64 h, .slice B l ll] 43 (0, 0))) := hide HX.out.v2
            have HOd : Hid (wr.drew.heap[q]? = some (.cells #[.int .i64 g, .slice A n cc] 43 (0, 0))) := hide HX.out.v1
            go_region_law (first
              | (go_simp; go_at_call 14; with_reducible refine Calls.mono (w := wr.drew) (R := StepPost w d k1 k2 h wr.drew) ?_ ?_
                 exact step_any w wr.drew d k1 k2 h M B l ll HTd.out.a (by omega) adr HS.out o HWf.out
                 rintro e w9 ⟨h2, M2, B2, l2, e2, rfl, hcr9, hl9, hm9⟩
                 have hv9 := HTd.out.a.h1.hs.heap hm9 HVd.out (by decide)
                 have ho9 := HTd.out.a.h1.hs.heap hm9 HOd.out (by decide)
                 obtain ⟨k0, k1', f0, f1⟩ := bx2 hv9
                 have HV9 := hide hv9
                 have HO9 := hide ho9
                 have HT9 := hide (HTd.out.step hcr9 hm9)
                 have HL9 := hide hl9
                 clear c0 c1 s0 s1 s2 s3 s4 hl9 hcr9 hm9 hv9 ho9)
              | fail)
            all_goals
              clear k0 k1' f0 f1
              go_wp2
              go_meet
              have hT2 := HT9.out.far2 HV9.out (by decide) (by decide) (by omega) (.int .i64 h2) (.slice B2 l2 e2)
              have hV2 := box2_set HV9.out (.int .i64 h2) (.slice B2 l2 e2)
              have hO2 := (Below.heap_setCell (w9.setCell ⟨(q + 1), 0, none⟩ (.int .i64 h2)) ⟨(q + 1), 1, none⟩ (.slice B2 l2 e2) q (by show q ≠ (q + 1); omega)).trans ((Below.heap_setCell w9 ⟨(q + 1), 0, none⟩ (.int .i64 h2) q (by show q ≠ (q + 1); omega)).trans HO9.out)
              case rel => exact ⟨rfl, h2, M2, B2, l2, e2, HL9.out, ⟨hT2.swap, hO2, hV2⟩⟩
          case rest => as_aux_lemma =>
            obtain ⟨rfl, hst⟩ := hcut
            obtain ⟨h2, M2, B2, l2, e2, hgn, hX2⟩ := hst.out
            clear HX HWf HOi HAd hlt0 hst s0 s1 s2 s3 s4
            obtain ⟨wp, rfl⟩ : ∃ x : World, x = wc := ⟨_, rfl⟩
            have HX := hide hX2
            have hqr := (Array.getElem?_eq_some_iff.1 hX2.v2).1
            clear hX2
            obtain ⟨o, hoi⟩ : ∃ o, ops1[i]? = some o := ⟨_, List.getElem?_eq_getElem (by rw [HO1.out.length]; omega)⟩
            have hrd : Reads wp 5 (.slice A1 n1 d1) n1 (ops1.flatMap OpH.cells) := reads_past HO1.out.reads HX.out.t.a.h1.below
            obtain ⟨ad, hA, s0, s1, s2, s3, s4⟩ := ops_cells hrd hoi
            have hlt0 : (ad.add (i * 5)).block < w.heap.size := by
              obtain ⟨ad', hA', s0', _⟩ := ops_cells HO1.out.reads hoi
              rw [hA] at hA'
              injection hA' with hA'
              subst hA'
              exact World.block_lt_of_cell? _ _ s0'
            have HOi := hide hoi
            have HAd := hide hA
            subst hA
            have HWf := hide (HO1.out.each o (List.mem_of_getElem? hoi))
            clear hrd hoi
            go_upto_region 14 with fail
            go_cut [10] (fun s10 wt => s10 = .bool true ∧ Hid (∃ g2 L2 N2 p2 r2, g2 ≤ g + 1 ∧ X2 w wt q c m1 m2 g2 L2 N2 p2 r2 d k1 k2 h2 M2 B2 l2 e2))
            case first => as_aux_lemma =>
              obtain ⟨c0, c1, _, _⟩ := bx2 HX.out.v1
              have HTd := hide (HX.out.t.past (w' := wp.drew) (Below.refl _ _).drew)
              have HVd : Hid (wp.drew.heap[q]? = some (.cells #[.int .i64 g, .slice A n cc] 43 (0, 0))) := hide HX.out.v1
              have HOd : Hid (wp.drew.heap[(q + 1)]? = some (.cells #[.int .i64 h2, .slice B2 l2 e2] 43 (0, 0))) := hide HX.out.v2
              go_region_law (first
                | (go_simp; go_at_call 14; with_reducible refine Calls.mono (w := wp.drew) (R := StepPost w c m1 m2 g wp.drew) ?_ ?_
                   exact step_any w wp.drew c m1 m2 g L A n cc HTd.out.a (by omega) adr HS.out o HWf.out
                   rintro e w9 ⟨g2, L2, N2, p2, r2, rfl, hcr9, hl9, hm9⟩
                   have hv9 := HTd.out.a.h1.hs.heap hm9 HVd.out (by decide)
                   have ho9 := HTd.out.a.h1.hs.heap hm9 HOd.out (by decide)
                   obtain ⟨k0, k1', f0, f1⟩ := bx2 hv9
                   have HV9 := hide hv9
                   have HO9 := hide ho9
                   have HT9 := hide (HTd.out.step hcr9 hm9)
                   have HL9 := hide hl9
                   clear c0 c1 s0 s1 s2 s3 s4 hl9 hcr9 hm9 hv9 ho9)
                | fail)
              all_goals
                clear k0 k1' f0 f1
                go_wp2
                go_meet
                have hT2 := HT9.out.far2 HV9.out (by decide) (by decide) (by omega) (.int .i64 g2) (.slice N2 p2 r2)
                have hV2 := box2_set HV9.out (.int .i64 g2) (.slice N2 p2 r2)
                have hO2 := (Below.heap_setCell (w9.setCell ⟨q, 0, none⟩ (.int .i64 g2)) ⟨q, 1, none⟩ (.slice N2 p2 r2) (q + 1) (by show (q + 1) ≠ q; omega)).trans ((Below.heap_setCell w9 ⟨q, 0, none⟩ (.int .i64 g2) (q + 1) (by show (q + 1) ≠ q; omega)).trans HO9.out)
                case rel => exact ⟨rfl, g2, L2, N2, p2, r2, HL9.out, ⟨hT2, hV2, hO2⟩⟩
            case rest => as_aux_lemma =>
              obtain ⟨rfl, hst⟩ := hcut
              obtain ⟨g2, L2, N2, p2, r2, hgn, hX2⟩ := hst.out
              clear HX HWf HOi HAd hlt0 hst s0 s1 s2 s3 s4
              obtain ⟨wt, rfl⟩ : ∃ x : World, x = wc := ⟨_, rfl⟩
              have HX := hide hX2
              have hqr := (Array.getElem?_eq_some_iff.1 hX2.v2).1
              clear hX2
              obtain ⟨o, hoi⟩ : ∃ o, ops1[i]? = some o := ⟨_, List.getElem?_eq_getElem (by rw [HO1.out.length]; omega)⟩
              have hrd : Reads wt 5 (.slice (some ad) n1 d1) n1 (ops1.flatMap OpH.cells) := reads_past HO1.out.reads HX.out.t.a.h1.below
              obtain ⟨ad', hA, s0, s1, s2, s3, s4⟩ := ops_cells hrd hoi
              cases hA
              have s2' : wt.cell? ⟨(ad.add (i * 5)).block, (ad.add (i * 5)).off + 1 + 1, none⟩ = some (.int .i64 o.p.life) := s2
              have hnn : p2 ≤ 1048576 := by have := HX.out.t.a.le; omega
              have hln := HX.out.t.a.len
              have HOf := hide (show (onF L2 o.p.conn o.p.life).length ≤ 1048576 by have := onF_len L2 o.p.conn o.p.life; omega)
              have hws := HX.out.t.a.h1.below.size
              clear hrd hoi s0 s2 s3 s4 hln
              go_upto_region 15 with fail
              go_quiet (fail)
              obtain ⟨ws, hws2⟩ : ∃ ws, wt.drewN nq = ws := ⟨_, rfl⟩
              have HXs := hide (show X2 w ws q c m1 m2 g2 L2 N2 p2 r2 d k1 k2 h2 M2 B2 l2 e2 from hws2 ▸ HX.out.past (below_drewN _ _))
              have hss : w.heap.size ≤ ws.heap.size := by rw [← hws2]; exact hws
              rw [hws2]
              clear hws2 s1 s2' hws HX
              obtain ⟨c0, c1, _, _⟩ := bx2 HXs.out.v1
              go_wp2_with fail
              refine (on_r ws g2 N2 p2 r2 L2 HXs.out.t.a.row.reads hnn o.p.conn o.p.life).mono ?_
              rintro e wq ⟨Wa, wn, wcc, rfl, hwn, hrow, hb⟩
              have HWn := hide hwn
              have HWq := hide (row_rng hrow)
              have HXq := hide (HXs.out.past hb)
              have hsq := hb.size
              clear hrow hb hwn c0 c1
              go_wp2_with fail
              refine (on_any wq c m1 m2 g2 L2 HXq.out.t.a.h1.hs o.p.conn o.p.life).mono ?_
              rintro e wa ⟨Aa, na, ca, rfl, hna, hrow, hb⟩
              have HNa := hide hna
              have HAa := hide (row_rng hrow)
              have HWa := hide (HWq.out.kept (Mod.ofBelow hb (fun _ => False)) (fun _ _ _ h => h))
              have HXa := hide (HXq.out.past hb)
              have hsa := hb.size
              clear hrow hb hna
              go_wp2_with fail
              refine (on_any wa c m1 m2 g2 L2 HXa.out.t.a.h1.hs o.p.conn o.p.life).mono ?_
              rintro e wb ⟨Ab, nb, cb, rfl, hnb, hrow, hb⟩
              have HNb := hide hnb
              have HBb := hide (row_rng hrow)
              have HWb := hide (HWa.out.kept (Mod.ofBelow hb (fun _ => False)) (fun _ _ _ h => h))
              have HAb := hide (HAa.out.kept (Mod.ofBelow hb (fun _ => False)) (fun _ _ _ h => h))
              have HXb := hide (HXa.out.past hb)
              have hsb := hb.size
              clear hrow hb hnb
              go_wp2_with fail
              refine (wipe_any wb _ _ _ _ _ _ HAb.out.narrow (by have := HNa.out; have := HOf.out; omega)).mono ?_
              rintro e wc ⟨rfl, hm⟩
              have HXc := hide (HXb.out.far hm (fun k hk => by have := hk.1; omega))
              have HWc := hide (HWb.out.kept hm (fun k hk _ hg => by have := hk.2; have := hg.1.1; omega))
              have HBc := hide (HBb.out.kept hm (fun k hk _ hg => by have := hk.1; have := hg.1.2; omega))
              have hsc := hm.size
              clear hm
              go_wp2_with fail
              refine (same_any wc _ _ nb wn (HNb.out.trans HWn.out.symm) _ HBc.out.reads HWc.out.reads).mono ?_
              rintro e wd ⟨rfl, hb⟩
              have HXd := hide (HXc.out.past hb)
              have HWd := hide (HWc.out.kept (Mod.ofBelow hb (fun _ => False)) (fun _ _ _ h => h))
              have HBd := hide (HBc.out.kept (Mod.ofBelow hb (fun _ => False)) (fun _ _ _ h => h))
              have hsd := hb.size
              clear hb
              go_wp2_with fail
              refine (on_any wd c m1 m2 g2 L2 HXd.out.t.a.h1.hs o.p.conn o.p.life).mono ?_
              rintro e we ⟨Ad, nd, cd, rfl, hnd, hrow, hb⟩
              have HNd := hide hnd
              have HDe := hide (row_rng hrow)
              have HWe := hide (HWd.out.kept (Mod.ofBelow hb (fun _ => False)) (fun _ _ _ h => h))
              have HBe := hide (HBd.out.kept (Mod.ofBelow hb (fun _ => False)) (fun _ _ _ h => h))
              have HXe := hide (HXd.out.past hb)
              have hse := hb.size
              clear hrow hb hnd
              go_wp2_with fail
              refine (wipe_any we _ _ _ _ _ _ HBe.out.narrow (by have := HNb.out; have := HOf.out; omega)).mono ?_
              rintro e wf ⟨rfl, hm⟩
              have HXf := hide (HXe.out.far hm (fun k hk => by have := hk.1; omega))
              have HWf2 := hide (HWe.out.kept hm (fun k hk _ hg => by have := hk.2; have := hg.1.1; omega))
              have HDf := hide (HDe.out.kept hm (fun k hk _ hg => by have := hk.1; have := hg.1.2; omega))
              have hsf := hm.size
              clear hm
              go_wp2_with fail
              refine (same_any wf _ _ nd wn (HNd.out.trans HWn.out.symm) _ HDf.out.reads HWf2.out.reads).mono ?_
              rintro e wg ⟨rfl, hb⟩
              have HXg := hide (HXf.out.past hb)
              have HWg := hide (HWf2.out.kept (Mod.ofBelow hb (fun _ => False)) (fun _ _ _ h => h))
              clear hb
              go_wp2_with fail
              refine (on_any wg c m1 m2 g2 L2 HXg.out.t.a.h1.hs o.p.conn o.p.life).mono ?_
              rintro e wh ⟨Ae, ne, ce, rfl, hne, hrow, hb⟩
              have HNe2 := hide hne
              have HEh := hide (row_rng hrow)
              have HWh := hide (HWg.out.kept (Mod.ofBelow hb (fun _ => False)) (fun _ _ _ h => h))
              have HXh := hide (HXg.out.past hb)
              clear hrow hb hne
              go_wp2_with fail
              refine (same_any wh _ _ ne wn (HNe2.out.trans HWn.out.symm) _ HEh.out.reads HWh.out.reads).mono ?_
              rintro e wi ⟨rfl, hb⟩
              have HXi := hide (HXh.out.past hb)
              clear hb
              go_wp2
              go_roundw
              case rel => exact ⟨i + 1, by omega, by go_num, hide ⟨g2, L2, N2, p2, r2, h2, M2, B2, l2, e2, by omega, by omega, HXi.out.t, HXi.out.v1, HXi.out.v2⟩⟩
              case measure => simp [intOf]; omega
        · as_aux_lemma =>
          have t1 : decide ((i : Int) < (n1 : Int)) = false := decide_eq_false (by omega)
          obtain ⟨o, hoi⟩ : ∃ o, ops2[i]? = some o := ⟨_, List.getElem?_eq_getElem (by rw [HO2.out.length]; omega)⟩
          have hrd : Reads wr 5 (.slice A2 n2 d2) n2 (ops2.flatMap OpH.cells) := reads_past HO2.out.reads HX.out.t.a.h1.below
          obtain ⟨ad, hA, s0, s1, s2, s3, s4⟩ := ops_cells hrd hoi
          have hlt0 : (ad.add (i * 5)).block < w.heap.size := by
            obtain ⟨ad', hA', s0', _⟩ := ops_cells HO2.out.reads hoi
            rw [hA] at hA'
            injection hA' with hA'
            subst hA'
            exact World.block_lt_of_cell? _ _ s0'
          have HOi := hide hoi
          have HAd := hide hA
          subst hA
          have HWf := hide (HO2.out.each o (List.mem_of_getElem? hoi))
          clear hrd hoi
          go_upto_region 10 with fail
          go_cut [10] (fun s10 wp => s10 = .bool true ∧ Hid (∃ h2 M2 B2 l2 e2, h2 ≤ h + 1 ∧ X2 w wp q c m1 m2 g L A n cc d k1 k2 h2 M2 B2 l2 e2))
          case first => as_aux_lemma =>
            obtain ⟨c0, c1, _, _⟩ := bx2 HX.out.v2
            have HTd := hide (HX.out.t.swap.past (w' := wr.drew) (Below.refl _ _).drew)
            have HVd : Hid (wr.drew.heap[(q + 1)]? = some (.cells #[.int .i64 h, .slice B l ll] 43 (0, 0))) := hide HX.out.v2
            have HOd : Hid (wr.drew.heap[q]? = some (.cells #[.int .i64 g, .slice A n cc] 43 (0, 0))) := hide HX.out.v1
            go_region_law (first
              | (go_simp; go_at_call 14; with_reducible refine Calls.mono (w := wr.drew) (R := StepPost w d k1 k2 h wr.drew) ?_ ?_
                 exact step_any w wr.drew d k1 k2 h M B l ll HTd.out.a (by omega) adr HS.out o HWf.out
                 rintro e w9 ⟨h2, M2, B2, l2, e2, rfl, hcr9, hl9, hm9⟩
                 have hv9 := HTd.out.a.h1.hs.heap hm9 HVd.out (by decide)
                 have ho9 := HTd.out.a.h1.hs.heap hm9 HOd.out (by decide)
                 obtain ⟨k0, k1', f0, f1⟩ := bx2 hv9
                 have HV9 := hide hv9
                 have HO9 := hide ho9
                 have HT9 := hide (HTd.out.step hcr9 hm9)
                 have HL9 := hide hl9
                 clear c0 c1 s0 s1 s2 s3 s4 hl9 hcr9 hm9 hv9 ho9)
              | fail)
            all_goals
              clear k0 k1' f0 f1
              go_wp2
              go_meet
              have hT2 := HT9.out.far2 HV9.out (by decide) (by decide) (by omega) (.int .i64 h2) (.slice B2 l2 e2)
              have hV2 := box2_set HV9.out (.int .i64 h2) (.slice B2 l2 e2)
              have hO2 := (Below.heap_setCell (w9.setCell ⟨(q + 1), 0, none⟩ (.int .i64 h2)) ⟨(q + 1), 1, none⟩ (.slice B2 l2 e2) q (by show q ≠ (q + 1); omega)).trans ((Below.heap_setCell w9 ⟨(q + 1), 0, none⟩ (.int .i64 h2) q (by show q ≠ (q + 1); omega)).trans HO9.out)
              case rel => exact ⟨rfl, h2, M2, B2, l2, e2, HL9.out, ⟨hT2.swap, hO2, hV2⟩⟩
          case rest => as_aux_lemma =>
            obtain ⟨rfl, hst⟩ := hcut
            obtain ⟨h2, M2, B2, l2, e2, hgn, hX2⟩ := hst.out
            clear HX HWf HOi HAd hlt0 hst s0 s1 s2 s3 s4
            obtain ⟨wp, rfl⟩ : ∃ x : World, x = wc := ⟨_, rfl⟩
            have HX := hide hX2
            have hqr := (Array.getElem?_eq_some_iff.1 hX2.v2).1
            clear hX2
            go_wp2
            go_roundw
            case rel => exact ⟨i + 1, by omega, by go_num, hide ⟨g, L, A, n, cc, h2, M2, B2, l2, e2, by omega, by omega, HX.out.t, HX.out.v1, HX.out.v2⟩⟩
            case measure => simp [intOf]; omega
      · as_aux_lemma =>
        have t2 : decide ((i : Int) < (n2 : Int)) = false := decide_eq_false (by omega)
        have hl1 : i < n1 := by omega
        have t1 : decide ((i : Int) < (n1 : Int)) = true := decide_eq_true (by omega)
        obtain ⟨o, hoi⟩ : ∃ o, ops1[i]? = some o := ⟨_, List.getElem?_eq_getElem (by rw [HO1.out.length]; omega)⟩
        have hrd : Reads wr 5 (.slice A1 n1 d1) n1 (ops1.flatMap OpH.cells) := reads_past HO1.out.reads HX.out.t.a.h1.below
        obtain ⟨ad, hA, s0, s1, s2, s3, s4⟩ := ops_cells hrd hoi
        have hlt0 : (ad.add (i * 5)).block < w.heap.size := by
          obtain ⟨ad', hA', s0', _⟩ := ops_cells HO1.out.reads hoi
          rw [hA] at hA'
          injection hA' with hA'
          subst hA'
          exact World.block_lt_of_cell? _ _ s0'
        have HOi := hide hoi
        have HAd := hide hA
        subst hA
        have HWf := hide (HO1.out.each o (List.mem_of_getElem? hoi))
        clear hrd hoi
        go_upto_region 14 with fail
        go_cut [10] (fun s10 wt => s10 = .bool true ∧ Hid (∃ g2 L2 N2 p2 r2, g2 ≤ g + 1 ∧ X2 w wt q c m1 m2 g2 L2 N2 p2 r2 d k1 k2 h M B l ll))
        case first => as_aux_lemma =>
          obtain ⟨c0, c1, _, _⟩ := bx2 HX.out.v1
          have HTd := hide (HX.out.t.past (w' := wr.drew) (Below.refl _ _).drew)
          have HVd : Hid (wr.drew.heap[q]? = some (.cells #[.int .i64 g, .slice A n cc] 43 (0, 0))) := hide HX.out.v1
          have HOd : Hid (wr.drew.heap[(q + 1)]? = some (.cells #[.int .i64 h, .slice B l ll] 43 (0, 0))) := hide HX.out.v2
          go_region_law (first
            | (go_simp; go_at_call 14; with_reducible refine Calls.mono (w := wr.drew) (R := StepPost w c m1 m2 g wr.drew) ?_ ?_
               exact step_any w wr.drew c m1 m2 g L A n cc HTd.out.a (by omega) adr HS.out o HWf.out
               rintro e w9 ⟨g2, L2, N2, p2, r2, rfl, hcr9, hl9, hm9⟩
               have hv9 := HTd.out.a.h1.hs.heap hm9 HVd.out (by decide)
               have ho9 := HTd.out.a.h1.hs.heap hm9 HOd.out (by decide)
               obtain ⟨k0, k1', f0, f1⟩ := bx2 hv9
               have HV9 := hide hv9
               have HO9 := hide ho9
               have HT9 := hide (HTd.out.step hcr9 hm9)
               have HL9 := hide hl9
               clear c0 c1 s0 s1 s2 s3 s4 hl9 hcr9 hm9 hv9 ho9)
            | fail)
          all_goals
            clear k0 k1' f0 f1
            go_wp2
            go_meet
            have hT2 := HT9.out.far2 HV9.out (by decide) (by decide) (by omega) (.int .i64 g2) (.slice N2 p2 r2)
            have hV2 := box2_set HV9.out (.int .i64 g2) (.slice N2 p2 r2)
            have hO2 := (Below.heap_setCell (w9.setCell ⟨q, 0, none⟩ (.int .i64 g2)) ⟨q, 1, none⟩ (.slice N2 p2 r2) (q + 1) (by show (q + 1) ≠ q; omega)).trans ((Below.heap_setCell w9 ⟨q, 0, none⟩ (.int .i64 g2) (q + 1) (by show (q + 1) ≠ q; omega)).trans HO9.out)
            case rel => exact ⟨rfl, g2, L2, N2, p2, r2, HL9.out, ⟨hT2, hV2, hO2⟩⟩
        case rest => as_aux_lemma =>
          obtain ⟨rfl, hst⟩ := hcut
          obtain ⟨g2, L2, N2, p2, r2, hgn, hX2⟩ := hst.out
          clear HX HWf HOi HAd hlt0 hst s0 s1 s2 s3 s4
          obtain ⟨wt, rfl⟩ : ∃ x : World, x = wc := ⟨_, rfl⟩
          have HX := hide hX2
          have hqr := (Array.getElem?_eq_some_iff.1 hX2.v2).1
          clear hX2
          obtain ⟨o, hoi⟩ : ∃ o, ops1[i]? = some o := ⟨_, List.getElem?_eq_getElem (by rw [HO1.out.length]; omega)⟩
          have hrd : Reads wt 5 (.slice (some ad) n1 d1) n1 (ops1.flatMap OpH.cells) := reads_past HO1.out.reads HX.out.t.a.h1.below
          obtain ⟨ad', hA, s0, s1, s2, s3, s4⟩ := ops_cells hrd hoi
          cases hA
          have s2' : wt.cell? ⟨(ad.add (i * 5)).block, (ad.add (i * 5)).off + 1 + 1, none⟩ = some (.int .i64 o.p.life) := s2
          have hnn : p2 ≤ 1048576 := by have := HX.out.t.a.le; omega
          have hln := HX.out.t.a.len
          have HOf := hide (show (onF L2 o.p.conn o.p.life).length ≤ 1048576 by have := onF_len L2 o.p.conn o.p.life; omega)
          have hws := HX.out.t.a.h1.below.size
          clear hrd hoi s0 s2 s3 s4 hln
          go_upto_region 15 with fail
          go_quiet (fail)
          obtain ⟨ws, hws2⟩ : ∃ ws, wt.drewN nq = ws := ⟨_, rfl⟩
          have HXs := hide (show X2 w ws q c m1 m2 g2 L2 N2 p2 r2 d k1 k2 h M B l ll from hws2 ▸ HX.out.past (below_drewN _ _))
          have hss : w.heap.size ≤ ws.heap.size := by rw [← hws2]; exact hws
          rw [hws2]
          clear hws2 s1 s2' hws HX
          obtain ⟨c0, c1, _, _⟩ := bx2 HXs.out.v1
          go_wp2_with fail
          refine (on_r ws g2 N2 p2 r2 L2 HXs.out.t.a.row.reads hnn o.p.conn o.p.life).mono ?_
          rintro e wq ⟨Wa, wn, wcc, rfl, hwn, hrow, hb⟩
          have HWn := hide hwn
          have HWq := hide (row_rng hrow)
          have HXq := hide (HXs.out.past hb)
          have hsq := hb.size
          clear hrow hb hwn c0 c1
          go_wp2_with fail
          refine (on_any wq c m1 m2 g2 L2 HXq.out.t.a.h1.hs o.p.conn o.p.life).mono ?_
          rintro e wa ⟨Aa, na, ca, rfl, hna, hrow, hb⟩
          have HNa := hide hna
          have HAa := hide (row_rng hrow)
          have HWa := hide (HWq.out.kept (Mod.ofBelow hb (fun _ => False)) (fun _ _ _ h => h))
          have HXa := hide (HXq.out.past hb)
          have hsa := hb.size
          clear hrow hb hna
          go_wp2_with fail
          refine (on_any wa c m1 m2 g2 L2 HXa.out.t.a.h1.hs o.p.conn o.p.life).mono ?_
          rintro e wb ⟨Ab, nb, cb, rfl, hnb, hrow, hb⟩
          have HNb := hide hnb
          have HBb := hide (row_rng hrow)
          have HWb := hide (HWa.out.kept (Mod.ofBelow hb (fun _ => False)) (fun _ _ _ h => h))
          have HAb := hide (HAa.out.kept (Mod.ofBelow hb (fun _ => False)) (fun _ _ _ h => h))
          have HXb := hide (HXa.out.past hb)
          have hsb := hb.size
          clear hrow hb hnb
          go_wp2_with fail
          refine (wipe_any wb _ _ _ _ _ _ HAb.out.narrow (by have := HNa.out; have := HOf.out; omega)).mono ?_
          rintro e wc ⟨rfl, hm⟩
          have HXc := hide (HXb.out.far hm (fun k hk => by have := hk.1; omega))
          have HWc := hide (HWb.out.kept hm (fun k hk _ hg => by have := hk.2; have := hg.1.1; omega))
          have HBc := hide (HBb.out.kept hm (fun k hk _ hg => by have := hk.1; have := hg.1.2; omega))
          have hsc := hm.size
          clear hm
          go_wp2_with fail
          refine (same_any wc _ _ nb wn (HNb.out.trans HWn.out.symm) _ HBc.out.reads HWc.out.reads).mono ?_
          rintro e wd ⟨rfl, hb⟩
          have HXd := hide (HXc.out.past hb)
          have HWd := hide (HWc.out.kept (Mod.ofBelow hb (fun _ => False)) (fun _ _ _ h => h))
          have HBd := hide (HBc.out.kept (Mod.ofBelow hb (fun _ => False)) (fun _ _ _ h => h))
          have hsd := hb.size
          clear hb
          go_wp2_with fail
          refine (on_any wd c m1 m2 g2 L2 HXd.out.t.a.h1.hs o.p.conn o.p.life).mono ?_
          rintro e we ⟨Ad, nd, cd, rfl, hnd, hrow, hb⟩
          have HNd := hide hnd
          have HDe := hide (row_rng hrow)
          have HWe := hide (HWd.out.kept (Mod.ofBelow hb (fun _ => False)) (fun _ _ _ h => h))
          have HBe := hide (HBd.out.kept (Mod.ofBelow hb (fun _ => False)) (fun _ _ _ h => h))
          have HXe := hide (HXd.out.past hb)
          have hse := hb.size
          clear hrow hb hnd
          go_wp2_with fail
          refine (wipe_any we _ _ _ _ _ _ HBe.out.narrow (by have := HNb.out; have := HOf.out; omega)).mono ?_
          rintro e wf ⟨rfl, hm⟩
          have HXf := hide (HXe.out.far hm (fun k hk => by have := hk.1; omega))
          have HWf2 := hide (HWe.out.kept hm (fun k hk _ hg => by have := hk.2; have := hg.1.1; omega))
          have HDf := hide (HDe.out.kept hm (fun k hk _ hg => by have := hk.1; have := hg.1.2; omega))
          have hsf := hm.size
          clear hm
          go_wp2_with fail
          refine (same_any wf _ _ nd wn (HNd.out.trans HWn.out.symm) _ HDf.out.reads HWf2.out.reads).mono ?_
          rintro e wg ⟨rfl, hb⟩
          have HXg := hide (HXf.out.past hb)
          have HWg := hide (HWf2.out.kept (Mod.ofBelow hb (fun _ => False)) (fun _ _ _ h => h))
          clear hb
          go_wp2_with fail
          refine (on_any wg c m1 m2 g2 L2 HXg.out.t.a.h1.hs o.p.conn o.p.life).mono ?_
          rintro e wh ⟨Ae, ne, ce, rfl, hne, hrow, hb⟩
          have HNe2 := hide hne
          have HEh := hide (row_rng hrow)
          have HWh := hide (HWg.out.kept (Mod.ofBelow hb (fun _ => False)) (fun _ _ _ h => h))
          have HXh := hide (HXg.out.past hb)
          clear hrow hb hne
          go_wp2_with fail
          refine (same_any wh _ _ ne wn (HNe2.out.trans HWn.out.symm) _ HEh.out.reads HWh.out.reads).mono ?_
          rintro e wi ⟨rfl, hb⟩
          have HXi := hide (HXh.out.past hb)
          clear hb
          go_wp2
          go_roundw
          case rel => exact ⟨i + 1, by omega, by go_num, hide ⟨g2, L2, N2, p2, r2, h, M, B, l, ll, by omega, by omega, HXi.out.t, HXi.out.v1, HXi.out.v2⟩⟩
          case measure => simp [intOf]; omega
    · as_aux_lemma =>
      have t1 : decide ((i : Int) < (n1 : Int)) = false := decide_eq_false (by omega)
      have t2 : decide ((i : Int) < (n2 : Int)) = false := decide_eq_false (by omega)
      have hka : n ≤ 1048576 := by have := HX.out.t.a.le; omega
      have hkb : l ≤ 1048576 := by have := HX.out.t.b.le; omega
      have hwa : ∀ e ∈ L, (Lit.int .i64 e.h).wf = true := fun e he => WalkArith.wf_i64 (by have := HX.out.t.a.h1.hs.rng e he; omega)
      have hwb : ∀ e ∈ M, (Lit.int .i64 e.h).wf = true := fun e he => WalkArith.wf_i64 (by have := HX.out.t.b.h1.hs.rng e he; omega)
      have HWa := hide hwa
      have HWb := hide hwb
      clear hwa hwb
      obtain ⟨c0, c1, _, _⟩ := bx2 HX.out.v1
      go_wp2_with fail
      refine (same_true w wr c m1 m2 g L A n cc HX.out.t.a hka HWa.out).mono ?_
      rintro e wa ⟨rfl, hb⟩
      have HX2 := hide (HX.out.past hb)
      clear hb c0 c1
      obtain ⟨c0, c1, _, _⟩ := bx2 HX2.out.v2
      go_wp2_with fail
      refine (same_true w wa d k1 k2 h M B l ll HX2.out.t.b hkb HWb.out).mono ?_
      rintro e wb ⟨rfl, hb⟩
      have hfin := HX2.out.t.a.h1.below.trans (hb.mono HX2.out.t.a.h1.below.size)
      clear hb c0 c1
      go_wp2
      go_ret
      exact ⟨rfl, hfin⟩
end Go.Proofs.YtjkahckglhpjeaaDoor.handlesOwn
