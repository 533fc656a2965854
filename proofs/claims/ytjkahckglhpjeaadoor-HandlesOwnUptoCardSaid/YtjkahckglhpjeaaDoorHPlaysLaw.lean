/-
  HandlesPlays: for every script of at most 1048576 calls the law returns true: every answer is the document's. Conditions: the sentinels' variables hold their errors; the script can be read.
-/
import Derived.Test.YtjkahckglhpjeaaDoorHSame
import Derived.Deep.CutRange
namespace Go.Proofs.YtjkahckglhpjeaaDoor.handlesPlays
open Go Go.RowKit Go.Cu Go.Proofs.YtjkahckglhpjeaaDoor Go.Proofs.YtjkahckglhpjeaaDoor.errs

theorem ops_cells {w : World} {A : Option Addr} {n c : Nat} {ops : List OpH} (hr : Reads w 5 (.slice A n c) n (ops.flatMap OpH.cells)) {i : Nat} {o : OpH} (ho : ops[i]? = some o) :
    ∃ ad, A = some ad ∧ w.cell? (ad.add (i * 5)) = some (.int .i64 o.kd) ∧ w.cell? ⟨(ad.add (i * 5)).block, (ad.add (i * 5)).off + 1, none⟩ = some (.int .i64 o.p.conn) ∧ w.cell? ⟨(ad.add (i * 5)).block, (ad.add (i * 5)).off + 2, none⟩ = some (.int .i64 o.p.life) ∧
      w.cell? ⟨(ad.add (i * 5)).block, (ad.add (i * 5)).off + 3, none⟩ = some (.int .u32 o.p.id) ∧ w.cell? ⟨(ad.add (i * 5)).block, (ad.add (i * 5)).off + 4, none⟩ = some (.int .i64 o.hd) := by
  have hi : i < ops.length := (List.getElem?_eq_some_iff.1 ho).1
  have hg := flat_get opCell_length ho
  obtain ⟨h1, A', c', he, _, h3⟩ := hr
  rw [flat_length opCell_length] at h1
  injection he with he _ _
  rcases h3 with h3 | ⟨ad, hA, h4⟩
  · omega
  · have e : ∀ k, k ≠ 0 → ad.add (i * 5 + k) = ⟨(ad.add (i * 5)).block, (ad.add (i * 5)).off + k, none⟩ := fun k hk => by
      unfold Addr.add
      by_cases h : i * 5 = 0 <;> simp [h, hk, Nat.add_assoc]
    refine ⟨ad, by rw [he, hA], h4 _ _ (hg 0 _ rfl), ?_, ?_, ?_, ?_⟩
    · rw [← e 1 (by decide)]; exact h4 _ _ (hg 1 _ rfl)
    · rw [← e 2 (by decide)]; exact h4 _ _ (hg 2 _ rfl)
    · rw [← e 3 (by decide)]; exact h4 _ _ (hg 3 _ rfl)
    · rw [← e 4 (by decide)]; exact h4 _ _ (hg 4 _ rfl)

set_option maxRecDepth 10000 in
set_option maxHeartbeats 8000000 in
theorem walk (w : World) (adr : Nat → Addr) (hS : Sent w adr) (sv : Value) (n : Nat) (ops : List OpH) (ho : Ops w sv n ops) (hn : n ≤ 1048576) :
    Calls Tryd.prog 4 #[sv] w fun e w' => e = .returned (.bool true) ∧ Below w.heap.size w w' := by
  have HOp := hide ho
  have HS := hide hS
  obtain ⟨SA, sc, rfl⟩ := ho.reads.shape
  clear ho hS
  go_enter Tryd.func4, Tryd.ntmps4
  go_wp2_with fail
  refine (wakes_true w adr HS.out).mono ?_
  rintro e w1 ⟨rfl, hb1⟩
  have HB1 := hide hb1
  clear hb1
  go_wp2_with fail
  refine (new_any w1).mono ?_
  rintro e w3 ⟨c, rfl, m1, m2, h1, l1, l2, l3, hb2⟩
  have HH3 := hide (H1.made HB1.out h1 l1 l2 l3 hb2)
  clear h1 l1 l2 l3 hb2
  go_upto_region 5 with fail
  have hb4 : Below w3.heap.size w3 (w3.alloc (.cells #[.int .i64 0, .slice none 0 0] 43)) := (Below.refl _ _).alloc (Nat.le_refl _) _
  have hv4 : (w3.alloc (.cells #[.int .i64 0, .slice none 0 0] 43)).heap[w3.heap.size]? = some (.cells #[.int .i64 0, .slice none 0 0] 43 (0, 0)) := heap_alloc_new w3 _
  obtain ⟨w4, hw4⟩ : ∃ w4, w3.alloc (.cells #[.int .i64 0, .slice none 0 0] 43) = w4 := ⟨_, rfl⟩
  obtain ⟨q, hq⟩ : ∃ q, w3.heap.size = q := ⟨_, rfl⟩
  rw [hw4] at hb4 hv4
  rw [hq] at hv4
  rw [hw4, hq]
  have HT : Hid (HC w w4 c m1 m2 0 [] none 0 0) := hide ⟨HH3.out.past hb4, Row.nil _ _ _ _⟩
  have HV := hide hv4
  have hqw : w.heap.size ≤ q := by have := HH3.out.below.size; omega
  clear hw4 hb4 hv4 hq
  go_wp2_with fail
  go_loopw [5] (fun v5 wr => ∃ i : Nat, i ≤ n ∧ v5 = .int .i64 i ∧ Hid (∃ g L A k cc, g ≤ i ∧ HC w wr c m1 m2 g L A k cc ∧ wr.heap[q]? = some (.cells #[.int .i64 g, .slice A k cc] 43 (0, 0)))) (fun v5 _ => n - (intOf v5).toNat)
  case atStart => exact ⟨0, Nat.zero_le _, rfl, hide ⟨0, [], none, 0, 0, Nat.le_refl _, HT.out, HV.out⟩⟩
  case round =>
    clear HT HV
    obtain ⟨i, hi, rfl, hst⟩ := hrel
    obtain ⟨g, L, A, k, cc, hgi, hT, hV⟩ := hst.out
    have HT := hide hT
    have HV := hide hV
    obtain ⟨c0, c1, g0, g1⟩ := bx2 hV
    have hb0 := hT.h1.below
    have hpl := (Array.getElem?_eq_some_iff.1 hV).1
    clear hst hT hV
    by_cases hlt : i < n
    · obtain ⟨o, hoi⟩ : ∃ o, ops[i]? = some o := ⟨_, List.getElem?_eq_getElem (by rw [HOp.out.length]; exact hlt)⟩
      have hrd : Reads wr 5 (.slice SA n sc) n (ops.flatMap OpH.cells) := reads_past HOp.out.reads hb0
      obtain ⟨ad, hA, s0, s1, s2, s3, s4⟩ := ops_cells hrd hoi
      have hlt0 : (ad.add (i * 5)).block < w.heap.size := by
        obtain ⟨ad', hA', s0', _⟩ := ops_cells HOp.out.reads hoi
        rw [hA] at hA'
        injection hA' with hA'
        subst hA'
        exact World.block_lt_of_cell? _ _ s0'
      subst hA
      have HWf := hide (HOp.out.each o (List.mem_of_getElem? hoi))
      have HB0 := hide hb0
      have hgb : g ≤ 1048576 := by omega
      clear hrd hoi hb0 g0 g1
      go_upto_region 8 with fail
      go_cut [6, 7] from 18 to 30 (fun s6 s7 wc => ∃ t, s6 = .pointer (some ⟨t, 0, none⟩) ∧ s7 = .bool true ∧ Hid (∃ g' L' A' n' c', g' ≤ i + 1 ∧ HC w wc c m1 m2 g' L' A' n' c' ∧ wc.heap[q]? = some (.cells #[.int .i64 g, .slice A k cc] 43 (0, 0)) ∧ wc.heap[t]? = some (.cells #[.int .i64 g', .slice A' n' c'] 43 (0, 0))))
      case first => as_aux_lemma =>
        have hSd : wr.drew.cell? ⟨q, 0, none⟩ = some (.int .i64 g) ∧ wr.drew.cell? ⟨q, 1, none⟩ = some (.slice A k cc) ∧ wr.drew.cell? (ad.add (i * 5)) = some (.int .i64 o.kd) ∧ wr.drew.cell? ⟨(ad.add (i * 5)).block, (ad.add (i * 5)).off + 1, none⟩ = some (.int .i64 o.p.conn) ∧ wr.drew.cell? ⟨(ad.add (i * 5)).block, (ad.add (i * 5)).off + 2, none⟩ = some (.int .i64 o.p.life) ∧ wr.drew.cell? ⟨(ad.add (i * 5)).block, (ad.add (i * 5)).off + 3, none⟩ = some (.int .u32 o.p.id) ∧ wr.drew.cell? ⟨(ad.add (i * 5)).block, (ad.add (i * 5)).off + 4, none⟩ = some (.int .i64 o.hd) := ⟨c0, c1, s0, s1, s2, s3, s4⟩
        have HTd := hide (HT.out.past (w' := wr.drew) (Below.refl _ _).drew)
        have hba : Below wr.heap.size wr (wr.alloc (.cells #[.int .i64 0, .slice none 0 0] 43)).drew := ((Below.refl _ _).alloc (Nat.le_refl _) _).drew
        have HTa := hide (HT.out.past hba)
        have HVd : Hid (wr.drew.heap[q]? = some (.cells #[.int .i64 g, .slice A k cc] 43 (0, 0))) := hide HV.out
        have HVa := hide (below_at hba HV.out)
        have HZ : Hid ((wr.alloc (.cells #[.int .i64 0, .slice none 0 0] 43)).drew.heap[wr.heap.size]? = some (.cells #[.int .i64 0, .slice none 0 0] 43 (0, 0))) := hide (heap_alloc_new wr _)
        have hnq : q ≠ wr.heap.size := by omega
        have hna : (ad.add (i * 5)).block ≠ wr.heap.size := by have := HB0.out.size; omega
        have hcl : ∀ a v, wr.cell? a = some v → (wr.alloc (.cells #[.int .i64 0, .slice none 0 0] 43)).drew.cell? a = some v := fun a v h => (hba.cell (World.block_lt_of_cell? wr a h)).trans h
        have HCl := hide hcl
        clear hba hcl
        go_region_held3 (fun w' => w'.cell? ⟨q, 0, none⟩ = some (.int .i64 g) ∧ w'.cell? ⟨q, 1, none⟩ = some (.slice A k cc) ∧ w'.cell? (ad.add (i * 5)) = some (.int .i64 o.kd) ∧ w'.cell? ⟨(ad.add (i * 5)).block, (ad.add (i * 5)).off + 1, none⟩ = some (.int .i64 o.p.conn) ∧ w'.cell? ⟨(ad.add (i * 5)).block, (ad.add (i * 5)).off + 2, none⟩ = some (.int .i64 o.p.life) ∧ w'.cell? ⟨(ad.add (i * 5)).block, (ad.add (i * 5)).off + 3, none⟩ = some (.int .u32 o.p.id) ∧ w'.cell? ⟨(ad.add (i * 5)).block, (ad.add (i * 5)).off + 4, none⟩ = some (.int .i64 o.hd))
          (first | assumption | with_reducible exact ⟨c0, c1, z0, z1, z2, z3, z4⟩ | with_reducible exact ⟨HCl.out _ _ c0, HCl.out _ _ c1, HCl.out _ _ s0, HCl.out _ _ s1, HCl.out _ _ s2, HCl.out _ _ s3, HCl.out _ _ s4⟩ | with_reducible exact ⟨cell_new c0, cell_new c1, cell_new z0, cell_new z1, cell_new z2, cell_new z3, cell_new z4⟩ | with_reducible exact ⟨cell_newset c0, cell_newset c1, cell_newset z0, cell_newset z1, cell_newset z2, cell_newset z3, cell_newset z4⟩ | with_reducible exact ⟨cell_far2 c0 hnq, cell_far2 c1 hnq, cell_far2 z0 hna, cell_far2 z1 hna, cell_far2 z2 hna, cell_far2 z3 hna, cell_far2 z4 hna⟩) (first
          | (go_at_call 14; with_reducible refine Calls.mono (w := wr.drew) (R := StepPost w c m1 m2 g wr.drew) ?_ ?_
             exact step_any w wr.drew c m1 m2 g L A k cc HTd.out hgb adr HS.out o HWf.out
             rintro e w9 ⟨g', L', A', n', c', rfl, hcr9, hl9, hm9⟩
             have hcell : ∀ a v, wr.cell? a = some v → a.block < w.heap.size → w9.cell? a = some v := fun a v hc ha => (World.cell?_of_block (w := wr) ((hcr9.h1.below.block _ ha).trans (HB0.out.block _ ha).symm)).trans hc
             have z0 := hcell _ _ s0 hlt0
             have z1 := hcell _ _ s1 hlt0
             have z2 := hcell _ _ s2 hlt0
             have z3 := hcell _ _ s3 hlt0
             have z4 := hcell _ _ s4 hlt0
             have hv9 := HTd.out.h1.hs.heap hm9 HVd.out (by decide)
             have HP9 := hide (show _ ∧ _ from ⟨hl9, hcr9⟩)
             have HV9 := hide hv9
             clear c0 c1 s0 s1 s2 s3 s4 hcell hl9 hcr9 hm9
             obtain ⟨c0, c1, _, _⟩ := bx2 hv9
             clear hv9)
          | (go_at_call 14; with_reducible refine Calls.mono (w := (wr.alloc (.cells #[.int .i64 0, .slice none 0 0] 43)).drew) (R := StepPost w c m1 m2 g (wr.alloc (.cells #[.int .i64 0, .slice none 0 0] 43)).drew) ?_ ?_
             exact step_any w (wr.alloc (.cells #[.int .i64 0, .slice none 0 0] 43)).drew c m1 m2 g L A k cc HTa.out hgb adr HS.out o HWf.out
             rintro e w9 ⟨g', L', A', n', c', rfl, hcr9, hl9, hm9⟩
             have hcell : ∀ a v, wr.cell? a = some v → a.block < w.heap.size → w9.cell? a = some v := fun a v hc ha => (World.cell?_of_block (w := wr) ((hcr9.h1.below.block _ ha).trans (HB0.out.block _ ha).symm)).trans hc
             have z0 := hcell _ _ s0 hlt0
             have z1 := hcell _ _ s1 hlt0
             have z2 := hcell _ _ s2 hlt0
             have z3 := hcell _ _ s3 hlt0
             have z4 := hcell _ _ s4 hlt0
             have hv9 := HTa.out.h1.hs.heap hm9 HVa.out (by decide)
             have hqa9 := HTa.out.h1.hs.heap hm9 HZ.out (by decide)
             obtain ⟨k0, k1, f0, f1⟩ := bx2 hqa9
             have HZ9 := hide hqa9
             clear hqa9
             have HP9 := hide (show _ ∧ _ from ⟨hl9, hcr9⟩)
             have HV9 := hide hv9
             clear c0 c1 s0 s1 s2 s3 s4 hcell hl9 hcr9 hm9
             obtain ⟨c0, c1, _, _⟩ := bx2 hv9
             clear hv9))
        · rename_i hheld
          clear hheld hSd c0 c1 z0 z1 z2 z3 z4
          go_wp2
          go_meet
          have hb : Below w9.heap.size w9 (w9.alloc (.cells #[.int .i64 g', .slice A' n' c'] 43)) := (Below.refl _ _).alloc (Nat.le_refl _) _
          have r4 := heap_alloc_new w9 (.cells #[.int .i64 g', .slice A' n' c'] 43)
          have r1 := HP9.out.2.past hb
          have r3 := below_at hb HV9.out
          have r5 : g' ≤ i + 1 := by have := HP9.out.1; omega
          case rel => exact ⟨w9.heap.size, rfl, rfl, g', L', A', n', c', r5, r1, r3, r4⟩
        · rename_i hheld
          clear hheld hSd c0 c1 z0 z1 z2 z3 z4
          go_wp2
          go_meet
          have hws := HB0.out.size
          have r1 := HP9.out.2.far2 HZ9.out (by decide) (by decide) hws (.int .i64 g') (.slice A' n' c')
          have r3 : ((w9.setCell ⟨wr.heap.size, 0, none⟩ (.int .i64 g')).setCell ⟨wr.heap.size, 1, none⟩ (.slice A' n' c')).heap[q]? = some (.cells #[.int .i64 g, .slice A k cc] 43 (0, 0)) := by
            rw [Below.heap_setCell _ _ _ _ hnq, Below.heap_setCell _ _ _ _ hnq]; exact HV9.out
          have r4 := box2_set HZ9.out (.int .i64 g') (.slice A' n' c')
          have r5 : g' ≤ i + 1 := by have := HP9.out.1; omega
          case rel => exact ⟨wr.heap.size, rfl, rfl, g', L', A', n', c', r5, r1, r3, r4⟩
      case rest => as_aux_lemma =>
        obtain ⟨t, rfl, rfl, hst⟩ := hcut
        obtain ⟨g', L', A', n', c', hg', hcr', hv', hn'⟩ := hst.out
        have HR := hide (show _ ∧ _ ∧ _ from ⟨hcr', hv', hn'⟩)
        clear hst hcr' hv' hn'
        obtain ⟨r0, r1, _, _⟩ := bx2 HR.out.2.2
        obtain ⟨k0, k1, f0, f1⟩ := bx2 HR.out.2.1
        go_wp2
        go_roundw
        case rel => exact ⟨i + 1, by omega, by go_num, hide ⟨g', L', A', n', c', hg', HR.out.1.far2 HR.out.2.1 (by decide) (by decide) hqw _ _, box2_set HR.out.2.1 _ _⟩⟩
        case measure => simp [intOf]; omega
    · obtain rfl : i = n := by omega
      have hk : k ≤ 1048576 := by have := HT.out.le; omega
      have hw2 : ∀ e ∈ L, (Lit.int .i64 e.h).wf = true := fun e he => WalkArith.wf_i64 (by have := HT.out.h1.hs.rng e he; omega)
      have HW2 := hide hw2
      clear hb0 g0 g1 hw2
      go_wp2_with fail
      refine (same_true w wr c m1 m2 g L A k cc HT.out hk HW2.out).mono ?_
      rintro e wl ⟨rfl, hbl⟩
      have hfin := HT.out.h1.below.trans (hbl.mono HT.out.h1.below.size)
      clear hbl
      go_wp2
      go_ret
      exact ⟨rfl, hfin⟩
end Go.Proofs.YtjkahckglhpjeaaDoor.handlesPlays
