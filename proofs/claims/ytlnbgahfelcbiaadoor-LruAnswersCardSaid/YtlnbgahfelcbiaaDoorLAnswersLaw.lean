/-
  LruAnswers: for every weight and script the law returns true: every answer is the document's, nothing looked at between.
-/
import Derived.Test.YtlnbgahfelcbiaaDoorLOps
import Derived.Deep.CutRange
namespace Go.Proofs.YtlnbgahfelcbiaaDoor.lruAnswers
open Go Go.RowKit Go.Cu Go.Proofs.YtlnbgahfelcbiaaDoor Go.Proofs.YtlnbgahfelcbiaaDoor.errs

set_option maxRecDepth 10000 in
set_option maxHeartbeats 8000000 in
theorem walk_good (w : World) (adr : Nat → Addr) (hS : Sent w adr) (wg : Int) (hwt : wg ≤ 9223372036854775807) (sv : Value) (n : Nat) (ops : List OpD) (ho : Ops w sv n ops) (hge : 0 ≤ wg) :
    Calls Tryd.prog 6 #[.int .i64 wg, sv] w fun e w' => e = .returned (.bool true) ∧ Below w.heap.size w w' := by
  have HOp := hide ho
  have HS := hide hS
  obtain ⟨SA, sc, rfl⟩ := ho.reads.shape
  clear ho hS
  go_enter Tryd.func6, Tryd.ntmps6
  go_wp2_with fail
  refine (awake_true w adr HS.out).mono ?_
  rintro e w1 ⟨rfl, hb1⟩
  have HB1 := hide hb1
  clear hb1
  have h0 : ¬ wg < 0 := by omega
  go_wp2_with fail
  refine (new_ok w1 wg (by omega) hwt).mono ?_
  rintro e w2 ⟨c, rfl, m, hc2, hm2, hcl2, hb2⟩
  have HB2 := hide (HB1.out.trans (hb2.mono HB1.out.size))
  have HC2 := hide hc2
  have hws1 := HB1.out.size
  clear hb2 hc2
  go_wp2_with fail
  refine (refnew_ok w2 wg (by omega)).mono ?_
  rintro e w3 ⟨rfl, hb3⟩
  have HB3 := hide (HB2.out.trans (hb3.mono HB2.out.size))
  have HC3 := hide (HC2.out.past hb3)
  clear hb3
  go_upto_region 5 with fail
  have hb4 : Below w3.heap.size w3 (w3.alloc (.cells #[.int .i64 wg, .slice none 0 0] 46)) := (Below.refl _ _).alloc (Nat.le_refl _) _
  have hv4 : (w3.alloc (.cells #[.int .i64 wg, .slice none 0 0] 46)).heap[w3.heap.size]? = some (.cells #[.int .i64 wg, .slice none 0 0] 46 (0, 0)) := heap_alloc_new w3 _
  obtain ⟨w4, hw4⟩ : ∃ w4, w3.alloc (.cells #[.int .i64 wg, .slice none 0 0] 46) = w4 := ⟨_, rfl⟩
  obtain ⟨q, hq⟩ : ∃ q, w3.heap.size = q := ⟨_, rfl⟩
  rw [hw4] at hb4 hv4
  rw [hq] at hv4
  rw [hw4, hq]
  have HB4 := hide (HB3.out.trans (hb4.mono HB3.out.size))
  have HC4 := hide (HC3.out.past hb4)
  have HV4 := hide hv4
  have hqw : w.heap.size ≤ q := by have := HB3.out.size; omega
  obtain ⟨k0, k1, f0, f1⟩ := box2 hv4
  clear hw4 hb4 hv4 hq
  have HT : Hid (CR w w4 (some c) c m wg [] none 0 0) := hide ⟨.inl ⟨rfl, HC4.out⟩, Row.nil _ _ _ _, (fun j hj => by
    rcases hj.2 with rfl | rfl | ⟨x, hx, _⟩
    · omega
    · omega
    · cases hx), HB4.out⟩
  have HV := HV4
  clear HV4 k0 k1 f0 f1
  go_wp2_with fail
  go_loopw [9] (fun v9 wr => ∃ i : Nat, i ≤ n ∧ i ≤ 2000 ∧ v9 = .int .i64 i ∧ Hid (∃ L A k cc, L.length ≤ i ∧ CR w wr (some c) c m wg L A k cc ∧ wr.heap[q]? = some (.cells #[.int .i64 wg, .slice A k cc] 46 (0, 0)))) (fun v9 _ => n - (intOf v9).toNat)
  case atStart => exact ⟨0, Nat.zero_le _, Nat.zero_le _, rfl, hide ⟨[], none, 0, 0, Nat.le_refl _, HT.out, HV.out⟩⟩
  case round =>
    clear HT HV
    obtain ⟨i, hi, hi2, rfl, hst⟩ := hrel
    obtain ⟨L, A, k, cc, hL, hT, hV⟩ := hst.out
    have HT := hide hT
    have HV := hide hV
    obtain ⟨c0, c1, g0, g1⟩ := box2 hV
    have hb0 := hT.below
    have hpl := (Array.getElem?_eq_some_iff.1 hV).1
    have hln := hT.len
    have hkn : k ≤ 2000 := by omega
    clear hst hT hV hln
    have hcs : (i < n ∧ i < 2000) ∨ (¬ i < n) ∨ (i < n ∧ ¬ i < 2000) := by omega
    rcases hcs with ⟨hlt, hlt2⟩ | hout | ⟨hlt, hout⟩
    · obtain ⟨o, hoi⟩ : ∃ o, ops[i]? = some o := ⟨_, List.getElem?_eq_getElem (by rw [HOp.out.length]; exact hlt)⟩
      have hrd : Reads wr 5 (.slice SA n sc) n (ops.flatMap opCell) := Reads.past HOp.out.reads hb0
      obtain ⟨ad, hA, s0, s1, s2, s3, s4⟩ := ops_cells hrd hoi
      have hlt0 : (ad.add (i * 5)).block < w.heap.size := by
        obtain ⟨ad', hA', s0', _⟩ := ops_cells HOp.out.reads hoi
        rw [hA] at hA'
        injection hA' with hA'
        subst hA'
        exact World.block_lt_of_cell? _ _ s0'
      subst hA
      have HWf := hide (HOp.out.each o (List.mem_of_getElem? hoi)).2.1
      have HB0 := hide hb0
      clear hrd hoi hb0 g0 g1
      by_cases hk1 : o.kd < 1
      · go_wp2
        go_roundw
        case rel => exact ⟨i + 1, by omega, by omega, by go_num, hide ⟨L, A, k, cc, by omega, HT.out, HV.out⟩⟩
        case measure => simp [intOf]; omega
      by_cases hk5 : 5 < o.kd
      · have hk1' : ¬ o.kd < 1 := hk1
        go_wp2
        go_roundw
        case rel => exact ⟨i + 1, by omega, by omega, by go_num, hide ⟨L, A, k, cc, by omega, HT.out, HV.out⟩⟩
        case measure => simp [intOf]; omega
      go_upto_region 11 with fail
      go_cut [10, 11] from 28 to 64 (fun s12 s13 wc => ∃ t, s12 = .pointer (some ⟨t, 0, none⟩) ∧ s13 = .bool true ∧ Hid (∃ L' A' n' c', L'.length ≤ i + 1 ∧ CR w wc (some c) c m wg L' A' n' c' ∧ wc.heap[q]? = some (.cells #[.int .i64 wg, .slice A k cc] 46 (0, 0)) ∧ wc.heap[t]? = some (.cells #[.int .i64 wg, .slice A' n' c'] 46 (0, 0)) ∧ q ≠ t ∧ w.heap.size ≤ t))
      case first => as_aux_lemma =>
        have hSd : wr.drew.cell? ⟨q, 0, none⟩ = some (.int .i64 wg) ∧ wr.drew.cell? ⟨q, 1, none⟩ = some (.slice A k cc) ∧ wr.drew.cell? (ad.add (i * 5)) = some (.int .i64 o.kd) ∧ wr.drew.cell? ⟨(ad.add (i * 5)).block, (ad.add (i * 5)).off + 1, none⟩ = some (.int .i64 o.k) ∧ wr.drew.cell? ⟨(ad.add (i * 5)).block, (ad.add (i * 5)).off + 2, none⟩ = some (.int .i64 o.v) ∧ wr.drew.cell? ⟨(ad.add (i * 5)).block, (ad.add (i * 5)).off + 3, none⟩ = some (.int .i64 o.wt) ∧ wr.drew.cell? ⟨(ad.add (i * 5)).block, (ad.add (i * 5)).off + 4, none⟩ = some (.int .i64 o.un) := ⟨c0, c1, s0, s1, s2, s3, s4⟩
        have HTd := hide (HT.out.past (w' := wr.drew) (Below.refl _ _).drew)
        have hba : Below wr.heap.size wr (wr.alloc (.cells #[.int .i64 0, .slice none 0 0] 46)).drew := ((Below.refl _ _).alloc (Nat.le_refl _) _).drew
        have HTa := hide (HT.out.past hba)
        have HVd : Hid (wr.drew.heap[q]? = some (.cells #[.int .i64 wg, .slice A k cc] 46 (0, 0))) := hide HV.out
        have HVa := hide (below_at hba HV.out)
        have HZ : Hid ((wr.alloc (.cells #[.int .i64 0, .slice none 0 0] 46)).drew.heap[wr.heap.size]? = some (.cells #[.int .i64 0, .slice none 0 0] 46 (0, 0))) := hide (heap_alloc_new wr _)
        have hnq : q ≠ wr.heap.size := by omega
        have hna : (ad.add (i * 5)).block ≠ wr.heap.size := by have := HB0.out.size; omega
        have hcl : ∀ a v, wr.cell? a = some v → (wr.alloc (.cells #[.int .i64 0, .slice none 0 0] 46)).drew.cell? a = some v := fun a v h => (hba.cell (World.block_lt_of_cell? wr a h)).trans h
        have HCl := hide hcl
        clear hba hcl
        go_region_held3 (fun w' => w'.cell? ⟨q, 0, none⟩ = some (.int .i64 wg) ∧ w'.cell? ⟨q, 1, none⟩ = some (.slice A k cc) ∧ w'.cell? (ad.add (i * 5)) = some (.int .i64 o.kd) ∧ w'.cell? ⟨(ad.add (i * 5)).block, (ad.add (i * 5)).off + 1, none⟩ = some (.int .i64 o.k) ∧ w'.cell? ⟨(ad.add (i * 5)).block, (ad.add (i * 5)).off + 2, none⟩ = some (.int .i64 o.v) ∧ w'.cell? ⟨(ad.add (i * 5)).block, (ad.add (i * 5)).off + 3, none⟩ = some (.int .i64 o.wt) ∧ w'.cell? ⟨(ad.add (i * 5)).block, (ad.add (i * 5)).off + 4, none⟩ = some (.int .i64 o.un))
          (first | assumption | with_reducible exact ⟨c0, c1, z0, z1, z2, z3, z4⟩ | with_reducible exact ⟨HCl.out _ _ c0, HCl.out _ _ c1, HCl.out _ _ s0, HCl.out _ _ s1, HCl.out _ _ s2, HCl.out _ _ s3, HCl.out _ _ s4⟩ | with_reducible exact ⟨cell_new c0, cell_new c1, cell_new z0, cell_new z1, cell_new z2, cell_new z3, cell_new z4⟩ | with_reducible exact ⟨cell_newset c0, cell_newset c1, cell_newset z0, cell_newset z1, cell_newset z2, cell_newset z3, cell_newset z4⟩ | with_reducible exact ⟨cell_far2 c0 hnq, cell_far2 c1 hnq, cell_far2 z0 hna, cell_far2 z1 hna, cell_far2 z2 hna, cell_far2 z3 hna, cell_far2 z4 hna⟩) (first
          | (go_at_call 22; with_reducible refine Calls.mono (w := wr.drew) (R := StepPost w (some c) c m wg L wr.drew) ?_ ?_
             exact step_any w wr.drew (some c) c m wg L A k cc HTd.out (by omega) adr HS.out o HWf.out
             rintro e w9 ⟨L', A', n', c', rfl, hcr9, hl9, hm9⟩
             have hcell : ∀ a v, wr.cell? a = some v → a.block < w.heap.size → w9.cell? a = some v := fun a v hc ha => (World.cell?_of_block (w := wr) ((hcr9.below.block _ ha).trans (HB0.out.block _ ha).symm)).trans hc
             have z0 := hcell _ _ s0 hlt0
             have z1 := hcell _ _ s1 hlt0
             have z2 := hcell _ _ s2 hlt0
             have z3 := hcell _ _ s3 hlt0
             have z4 := hcell _ _ s4 hlt0
             have hv9 := HTd.out.cn.heap (by decide) (by decide) hm9 HVd.out
             have HP9 := hide (show _ ∧ _ from ⟨hl9, hcr9⟩)
             have HV9 := hide hv9
             clear c0 c1 s0 s1 s2 s3 s4 hcell hl9 hcr9 hm9
             obtain ⟨c0, c1, _, _⟩ := box2 hv9
             clear hv9)
          | (go_at_call 22; with_reducible refine Calls.mono (w := (wr.alloc (.cells #[.int .i64 0, .slice none 0 0] 46)).drew) (R := StepPost w (some c) c m wg L (wr.alloc (.cells #[.int .i64 0, .slice none 0 0] 46)).drew) ?_ ?_
             exact step_any w (wr.alloc (.cells #[.int .i64 0, .slice none 0 0] 46)).drew (some c) c m wg L A k cc HTa.out (by omega) adr HS.out o HWf.out
             rintro e w9 ⟨L', A', n', c', rfl, hcr9, hl9, hm9⟩
             have hcell : ∀ a v, wr.cell? a = some v → a.block < w.heap.size → w9.cell? a = some v := fun a v hc ha => (World.cell?_of_block (w := wr) ((hcr9.below.block _ ha).trans (HB0.out.block _ ha).symm)).trans hc
             have z0 := hcell _ _ s0 hlt0
             have z1 := hcell _ _ s1 hlt0
             have z2 := hcell _ _ s2 hlt0
             have z3 := hcell _ _ s3 hlt0
             have z4 := hcell _ _ s4 hlt0
             have hv9 := HTa.out.cn.heap (by decide) (by decide) hm9 HVa.out
             have hqa9 := HTa.out.cn.heap (by decide) (by decide) hm9 HZ.out
             obtain ⟨k0, k1, f0, f1⟩ := box2 hqa9
             have HZ9 := hide hqa9
             clear hqa9
             have HP9 := hide (show _ ∧ _ from ⟨hl9, hcr9⟩)
             have HV9 := hide hv9
             clear c0 c1 s0 s1 s2 s3 s4 hcell hl9 hcr9 hm9
             obtain ⟨c0, c1, _, _⟩ := box2 hv9
             clear hv9))
        · rename_i hheld
          clear hheld hSd c0 c1 z0 z1 z2 z3 z4
          go_wp2
          go_meet
          have hb : Below w9.heap.size w9 (w9.alloc (.cells #[.int .i64 wg, .slice A' n' c'] 46)) := (Below.refl _ _).alloc (Nat.le_refl _) _
          have hpl9 := (Array.getElem?_eq_some_iff.1 HV9.out).1
          have r4 := heap_alloc_new w9 (.cells #[.int .i64 wg, .slice A' n' c'] 46)
          have r1 := HP9.out.2.past hb
          have r3 := below_at hb HV9.out
          have r5 : L'.length ≤ i + 1 := by have := HP9.out.1; omega
          have r7 : q ≠ w9.heap.size := by omega
          have r8 : w.heap.size ≤ w9.heap.size := HP9.out.2.below.size
          case rel => exact ⟨w9.heap.size, rfl, rfl, L', A', n', c', r5, r1, r3, r4, r7, r8⟩
        · rename_i hheld
          clear hheld hSd c0 c1 z0 z1 z2 z3 z4
          go_wp2
          go_meet
          have hws := HB0.out.size
          have r1 := HP9.out.2.far2 HZ9.out (by decide) (by decide) (by decide) hws (.int .i64 wg) (.slice A' n' c')
          have r3 : ((w9.setCell ⟨wr.heap.size, 0, none⟩ (.int .i64 wg)).setCell ⟨wr.heap.size, 1, none⟩ (.slice A' n' c')).heap[q]? = some (.cells #[.int .i64 wg, .slice A k cc] 46 (0, 0)) := by
            rw [Below.heap_setCell _ _ _ _ hnq, Below.heap_setCell _ _ _ _ hnq]; exact HV9.out
          have r4 := box2_set HZ9.out (.int .i64 wg) (.slice A' n' c')
          have r5 : L'.length ≤ i + 1 := by have := HP9.out.1; omega
          case rel => exact ⟨wr.heap.size, rfl, rfl, L', A', n', c', r5, r1, r3, r4, hnq, hws⟩
      case rest => as_aux_lemma =>
        obtain ⟨t, rfl, rfl, hst⟩ := hcut
        obtain ⟨L', A', n', c', hL', hcr', hv', hn', hne', hlt'⟩ := hst.out
        have HR := hide (show _ ∧ _ ∧ _ from ⟨hcr', hv', hn'⟩)
        have hn4 : n' ≤ 4398046511103 := by have := hcr'.len; omega
        clear hst hcr' hv' hn'
        obtain ⟨r0, r1, _, _⟩ := box2 HR.out.2.2
        obtain ⟨k0, k1, f0, f1⟩ := box2 HR.out.2.1
        have HR2 := hide HR.out.1
        have HRV := hide HR.out.2.1
        go_wp2
        go_roundw
        case rel => exact ⟨i + 1, by omega, by omega, by go_num, hide ⟨L', A', n', c', hL', HR2.out.far2 HRV.out (by decide) (by decide) (by decide) hqw _ _, box2_set HRV.out _ _⟩⟩
        case measure => simp [intOf]; omega
    · clear hb0 g0 g1
      go_wp2_with fail
      refine (looks_true wr (some c) c m wg wg L A k cc HT.out.cn HT.out.row (by omega)).mono ?_
      rintro e wl ⟨rfl, hbl⟩
      have hfin := HT.out.below.trans (hbl.mono HT.out.below.size)
      clear hbl
      go_wp2
      go_ret
      exact ⟨rfl, hfin⟩
    · clear hb0 g0 g1
      go_wp2_with fail
      refine (looks_true wr (some c) c m wg wg L A k cc HT.out.cn HT.out.row (by omega)).mono ?_
      rintro e wl ⟨rfl, hbl⟩
      have hfin := HT.out.below.trans (hbl.mono HT.out.below.size)
      clear hbl
      go_wp2
      go_ret
      exact ⟨rfl, hfin⟩

set_option maxRecDepth 10000 in
set_option maxHeartbeats 8000000 in
theorem walk_bad (w : World) (adr : Nat → Addr) (hS : Sent w adr) (wg : Int) (sv : Value) (h0 : wg < 0) :
    Calls Tryd.prog 6 #[.int .i64 wg, sv] w fun e w' => e = .returned (.bool true) ∧ Below w.heap.size w w' := by
  have HS := hide hS
  clear hS
  go_enter Tryd.func6, Tryd.ntmps6
  go_wp2_with fail
  refine (awake_true w adr HS.out).mono ?_
  rintro e w1 ⟨rfl, hb1⟩
  have HB1 := hide hb1
  clear hb1
  have hE := hide ((HS.out.below HB1.out).cell 2 (by decide) (by decide))
  go_wp2_with fail
  refine (new_bad w1 wg h0 _ hE.out).mono ?_
  rintro e w2 ⟨rfl, hb2⟩
  have HB2 := hide (HB1.out.trans (hb2.mono HB1.out.size))
  have hws1 := HB1.out.size
  clear hb2
  go_wp2_with fail
  refine (refnew_bad w2 wg h0).mono ?_
  rintro e w3 ⟨rfl, hb3⟩
  have HB3 := hide (HB2.out.trans (hb3.mono HB2.out.size))
  clear hb3
  go_upto_region 5 with fail
  have hb4 : Below w3.heap.size w3 (w3.alloc (.cells #[.int .i64 0, .slice none 0 0] 46)) := (Below.refl _ _).alloc (Nat.le_refl _) _
  have hv4 : (w3.alloc (.cells #[.int .i64 0, .slice none 0 0] 46)).heap[w3.heap.size]? = some (.cells #[.int .i64 0, .slice none 0 0] 46 (0, 0)) := heap_alloc_new w3 _
  obtain ⟨w4, hw4⟩ : ∃ w4, w3.alloc (.cells #[.int .i64 0, .slice none 0 0] 46) = w4 := ⟨_, rfl⟩
  obtain ⟨q, hq⟩ : ∃ q, w3.heap.size = q := ⟨_, rfl⟩
  rw [hw4] at hb4 hv4
  rw [hq] at hv4
  rw [hw4, hq]
  have HB4 := hide (HB3.out.trans (hb4.mono HB3.out.size))
  clear hw4 hb4 hv4 hq
  go_wp2
  go_ret
  exact ⟨rfl, HB4.out⟩

theorem walk (w : World) (adr : Nat → Addr) (hS : Sent w adr) (wg : Int) (hwt : wg ≤ 9223372036854775807) (sv : Value) (n : Nat) (ops : List OpD) (ho : Ops w sv n ops) :
    Calls Tryd.prog 6 #[.int .i64 wg, sv] w fun e w' => e = .returned (.bool true) ∧ Below w.heap.size w w' := by
  by_cases h : wg < 0
  · exact walk_bad w adr hS wg sv h
  · exact walk_good w adr hS wg hwt sv n ops ho (by omega)
end Go.Proofs.YtlnbgahfelcbiaaDoor.lruAnswers
