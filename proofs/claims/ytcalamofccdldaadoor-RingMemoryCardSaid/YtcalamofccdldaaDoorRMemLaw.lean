/-
  RingMemory: for every script and number the law returns true: a list that is handed to Push stays as it is and is not kept; what Peek and Pop answer is new memory.
-/
import Derived.Test.YtcalamofccdldaaDoorRMem2
import Derived.Test.YtcalamofccdldaaDoorRoom
import Derived.Test.YtcalamofccdldaaDoorBegin
import Derived.Test.YtcalamofccdldaaDoorOpsB
import Derived.Deep.RegionLaw
import Derived.Deep.DeepCutAuto
namespace Go.Proofs.YtcalamofccdldaaDoor.ringMemory
open Go Go.RowKit Go.Cu Go.Proofs.YtcalamofccdldaaDoor

theorem tri {w w' : World} {a1 a2 a3 : Addr} {v1 v2 v3 : Value} (h : w.cell? a1 = some v1 ∧ w.cell? a2 = some v2 ∧ w.cell? a3 = some v3) (hb : Below w.heap.size w w') : w'.cell? a1 = some v1 ∧ w'.cell? a2 = some v2 ∧ w'.cell? a3 = some v3 :=
  ⟨(hb.cell (World.block_lt_of_cell? w _ h.1)).trans h.1, (hb.cell (World.block_lt_of_cell? w _ h.2.1)).trans h.2.1, (hb.cell (World.block_lt_of_cell? w _ h.2.2)).trans h.2.2⟩
theorem tri_far {w : World} {b i j q k : Nat} {v1 v2 v3 : Value} (h : w.cell? ⟨b, i, none⟩ = some v1 ∧ w.cell? ⟨b, j, none⟩ = some v2 ∧ w.cell? ⟨q, k, none⟩ = some v3) {m l n : Nat} (hb : b ≠ m) (hq : q ≠ m) (u v : Value) :
    ((w.setCell ⟨m, l, none⟩ u).setCell ⟨m, n, none⟩ v).cell? ⟨b, i, none⟩ = some v1 ∧ ((w.setCell ⟨m, l, none⟩ u).setCell ⟨m, n, none⟩ v).cell? ⟨b, j, none⟩ = some v2 ∧ ((w.setCell ⟨m, l, none⟩ u).setCell ⟨m, n, none⟩ v).cell? ⟨q, k, none⟩ = some v3 := by
  have hc : ∀ q k, q ≠ m → ((w.setCell ⟨m, l, none⟩ u).setCell ⟨m, n, none⟩ v).cell? ⟨q, k, none⟩ = w.cell? ⟨q, k, none⟩ := fun q k hne => World.cell?_of_block (w := w) (by rw [Below.heap_setCell _ _ _ _ hne, Below.heap_setCell _ _ _ _ hne])
  rw [hc _ _ hb, hc _ _ hb, hc _ _ hq]
  exact h
theorem al_below (w : World) (o : Obj) : Below w.heap.size w (w.alloc o) := (Below.refl _ _).alloc (Nat.le_refl _) o
/-- behind the document's Push, its cells stored -/
def D51 (b i2 k3 : Nat) (P2 : Nat → Place) (xb : Place) (w12 wc : World) : Prop :=
  ∃ A13 c13 w13, wc = (w13.setCell ⟨b, 4 + i2 * 2, none⟩ (.int .i64 xb.cap)).setCell ⟨b, 4 + i2 * 2 + 1, none⟩ (.slice A13 (xb.L.length + k3) c13) ∧ Row w13 (fun k => w12.heap.size ≤ k) 3 1 (.slice A13 (xb.L.length + k3) c13) (xb.L.length + k3) (ints (xb.L ++ [1, 2, 3].take k3)) ∧ w13.heap[b]? = some (.cells (rwCells P2) 64 (0, 0)) ∧ Below w12.heap.size w12 w13
/-- the lists while they are written over, and the places -/
def L6 (w : World) (b : Nat) (P3 : Nat → Place) (Aa : Option Addr) (ca : Nat) (F3 : Nat → Prop) (wq : World) : Prop :=
  ∃ K L, AP 3 38 wq (.slice Aa 18 ca) 18 K F3 L ∧ (∀ k, Foot L k → Out w b P3 k) ∧ (∀ y ∈ K, y.n ≤ 2147483647) ∧ RW w wq b P3
def L7 (w : World) (b : Nat) (P3 : Nat → Place) (Aa : Option Addr) (ca : Nat) (F3 : Nat → Prop) (K : List Lx) (q : Nat) (v : Value) (n : Nat) (wq : World) : Prop :=
  ∃ xs L, AP 3 38 wq (.slice Aa 18 ca) 18 (K.set q ⟨v, n, xs⟩) F3 L ∧ (∀ k, Foot L k → Out w b P3 k) ∧ RW w wq b P3
/-- a list just laid -/
theorem lit_row (w : World) (us : List Value) (e : TypeId) (n : Nat) (hl : us.length = n) (hn : n ≤ 1000) : Row (w.alloc (.cells us.toArray e)) (fun k => k = w.heap.size) e 1 (.slice (some ⟨w.heap.size, 0, none⟩) n n) n us :=
  ⟨by omega, _, n, rfl, Nat.le_refl _, by unfold maxLen; omega, .inr ⟨w.heap.size, 0, _, rfl, rfl, heap_alloc_new w _, by simp [hl], fun j _ => by simp⟩⟩

set_option maxRecDepth 10000 in
set_option maxHeartbeats 8000000 in
theorem walk (w : World) (adr : Nat → Addr) (hS : errs.Sent w adr) (v : Value) (n : Nat) (ops : List OpD) (h : Ops w v n ops) (hsz : ∀ o ∈ ops, o.len ≤ 17592186044415) (lim : Int) :
    Calls Tryd.prog 7 #[v, .int .i64 lim] w fun e w' => e = .returned (.bool true) ∧ Below w.heap.size w w' := by
  have HS := hide h
  have HSnt := hide hS
  have HSz := hide hsz
  obtain ⟨A, c, rfl⟩ := h.reads.shape
  have hn := maxLen_lt h.reads.size
  have HL := hide h.length
  clear h hsz hS
  go_enter Tryd.func7, Tryd.ntmps7
  go_wp2_with fail
  refine (fixed_true w).mono ?_
  rintro e w1 ⟨rfl, hb1⟩
  have HB1 := hide hb1
  clear hb1
  go_wp2_with fail
  refine (begin_any w1).mono ?_
  rintro e w2 ⟨b, P0, rfl, hq⟩
  have HB2 := hide (HB1.out.trans (hq.below.mono HB1.out.size))
  have HQ2 := hide (show RW w w2 b P0 from ⟨hq.cells, hq.at_, hq.ff, hq.fg, hq.nf, hq.ng, fun i hi k hk => Nat.le_trans HB1.out.size (hq.lowF i hi k hk), Nat.le_trans HB1.out.size hq.low, HB2.out⟩)
  clear hq
  go_wp2_with fail
  go_loopw [37] (fun t wr => ∃ i : Nat, i ≤ n ∧ t = .int .i64 i ∧ Hid (∃ P, RW w wr b P)) (fun t _ => n - (intOf t).toNat)
  case atStart => exact ⟨0, Nat.zero_le _, rfl, hide ⟨_, HQ2.out⟩⟩
  case round =>
    clear HQ2 HB2 HB1
    obtain ⟨i, hi, rfl, hst⟩ := hrel
    obtain ⟨P, hq⟩ := hst.out
    have HQ := hide hq
    clear hst hq
    by_cases hlt : i < n
    · obtain ⟨o, ho⟩ : ∃ o, ops[i]? = some o := ⟨_, List.getElem?_eq_getElem (by have := HL.out; omega)⟩
      have HU := hide (flat_get opCell_length ho)
      have hmem := List.mem_of_getElem? ho
      have hnc := (HS.out.each o hmem).2.1
      have hob := HSz.out o hmem
      have HRd := hide (HS.out.each o hmem).1
      have HScr := hide (Reads.below HS.out.reads HQ.out.below)
      clear ho hmem
      go_upto_region 9 with (first
        | ((with_reducible refine at_index rfl ?_); refine wpList_atS rfl rfl _ _ 37 43 _ rfl rfl rfl (by simp) Tryd.underlying37 (by decide) size_op agg_op rfl HScr.out rfl (by omega) (by omega) (us := [.int .i64 o.kind, .int .i64 o.at_, .int .i64 o.n, .slice o.A o.len o.c]) rfl HU.out ?_; intro p)
        | fail)
      have hal : Below wr.heap.size wr (wr.alloc (.cells #[.int .i64 o.kind, .int .i64 o.at_, .int .i64 o.n, .slice o.A o.len o.c] 43)) := (Below.refl _ _).alloc (Nat.le_refl _) _
      have b0 : (wr.alloc (.cells #[.int .i64 o.kind, .int .i64 o.at_, .int .i64 o.n, .slice o.A o.len o.c] 43)).heap[wr.heap.size]? = some (.cells #[.int .i64 o.kind, .int .i64 o.at_, .int .i64 o.n, .slice o.A o.len o.c] 43 (0, 0)) := heap_alloc_new wr _
      obtain ⟨w4, hw4⟩ : ∃ w4, wr.alloc (.cells #[.int .i64 o.kind, .int .i64 o.at_, .int .i64 o.n, .slice o.A o.len o.c] 43) = w4 := ⟨_, rfl⟩
      obtain ⟨q, hq⟩ : ∃ q, wr.heap.size = q := ⟨_, rfl⟩
      rw [hw4] at hal b0
      rw [hq] at b0
      rw [hw4, hq]
      obtain ⟨i2, hi2, he2⟩ := place_of o.at_
      have HQ4 := hide (HQ.out.past hal)
      have HB0 := hide b0
      have hlt4 : ∀ j, j < 4 → ¬ (P j).F q ∧ ¬ (P j).G q := fun j hj => ⟨fun hf => by have := (HQ.out.at_ j hj).ring.lt _ hf; omega, fun hg => by have := (HQ.out.at_ j hj).lt _ hg; omega⟩
      have HLt4 := hide hlt4
      have hbq : b < q := by have := HQ.out.size; omega
      have o0 : w4.cell? ⟨q, 0, none⟩ = some (.int .i64 o.kind) := by rw [cell_of_row w4 _ 0 _ _ _ b0]; rfl
      have o1 : w4.cell? ⟨q, 1, none⟩ = some (.int .i64 o.at_) := by rw [cell_of_row w4 _ 1 _ _ _ b0]; rfl
      have o2 : w4.cell? ⟨q, 2, none⟩ = some (.int .i64 o.n) := by rw [cell_of_row w4 _ 2 _ _ _ b0]; rfl
      have o3 : w4.cell? ⟨q, 3, none⟩ = some (.slice o.A o.len o.c) := by rw [cell_of_row w4 _ 3 _ _ _ b0]; rfl
      clear hw4 hq hal b0 hlt4 HU HScr
      by_cases hk : o.kind = 1
      · rw [hk] at o0
        clear hk
        go_upto_region 13 with fail
        go_cut [10] (fun s10 wc => ∃ Aw cw, s10 = .slice Aw (o.len + 3) cw ∧ Hid (Row wc (fun k => w4.heap.size ≤ k) 3 1 (.slice Aw (o.len + 3) cw) (o.len + 3) (ints o.items ++ ints [-91, -92, -93])) ∧ Hid (Below w4.heap.size w4 wc))
        case first => as_aux_lemma =>
          have hw3 : IntKind.i64.wrap ((o.len : Int) + 3) = (o.len : Int) + 3 := by rw [IntKind.wrap_i64]; omega
          have hc3 : ((o.len + 3 : Nat) : Int) = (o.len : Int) + 3 := rfl
          obtain ⟨j0, hj0, hy0, hy1, hy2⟩ := info_parts ref.info_i
          obtain ⟨w5, hrA, rA1, rA2⟩ := run_make_own (P := Tryd.prog) w4.drew w4.heap.size 38 3 j0 (.int .i64 0) 1 Tryd.underlying38 hj0 hy0 hy1 .i64 .i64 (o.len + 3) (by rw [hy2]; omega) (by unfold maxLen; omega) (Nat.le_refl _)
          obtain ⟨w6, hrB, rB1, rB2⟩ := run_make_own (P := Tryd.prog) (w4.alloc (.cells #[.int .i64 (-91), .int .i64 (-92), .int .i64 (-93)] 3)).drew w4.heap.size 38 3 j0 (.int .i64 0) 1 Tryd.underlying38 hj0 hy0 hy1 .i64 .i64 (o.len + 3) (by rw [hy2]; omega) (by unfold maxLen; omega) (by simp)
          rw [hc3] at hrA hrB
          have HA1 := hide rA1
          have HA2 := hide rA2
          have HB1 := hide rB1
          have HB2 := hide rB2
          have hb5 : Below w4.heap.size w4 w5 := ((Below.refl _ _).drew).trans ((Mod.ofGrown (F := fun _ => False) rA2 (fun _ h => by cases h)).below (Nat.le_refl _) (fun _ h => h.elim))
          have hb6 : Below w4.heap.size w4 w6 := (((Below.refl _ _).alloc (Nat.le_refl _) _).drew).trans ((Mod.ofGrown (F := fun _ => False) rB2 (fun _ h => by cases h)).below (by simp) (fun _ h => h.elim))
          have hlq := World.block_lt_of_cell? w4 _ o3
          have o35 : w5.cell? ⟨q, 3, none⟩ = some (.slice o.A o.len o.c) := (hb5.cell hlq).trans o3
          have o36 : w6.cell? ⟨q, 3, none⟩ = some (.slice o.A o.len o.c) := (hb6.cell hlq).trans o3
          have o35a : (w5.alloc (.cells #[.int .i64 (-91), .int .i64 (-92), .int .i64 (-93)] 3)).cell? ⟨q, 3, none⟩ = some (.slice o.A o.len o.c) := ref.cellN o35
          have o34a : (w4.alloc (.cells #[.int .i64 (-91), .int .i64 (-92), .int .i64 (-93)] 3)).cell? ⟨q, 3, none⟩ = some (.slice o.A o.len o.c) := ref.cellN o3
          have HB5 := hide hb5
          have HB6 := hide hb6
          clear rA1 rA2 rB1 rB2 hc3 hb5 hb6 hlq
          have HRd4 := hide (Reads.below HRd.out HQ4.out.below)
          have hs5 : w4.heap.size < w5.heap.size := by
            obtain ⟨_, h2⟩ := HA1.out
            rcases h2 with ⟨h, _⟩ | ⟨g, cap, cur, he, _, hh, _⟩
            · cases h
            · injection he with he _ _
              injection he with he
              injection he with he
              subst he
              exact (Array.getElem?_eq_some_iff.1 hh).1
          have hs4a : (w4.alloc (.cells #[.int .i64 (-91), .int .i64 (-92), .int .i64 (-93)] 3)).heap.size = w4.heap.size + 1 := by simp
          have HRA : Hid (Row w5 (fun k => k = w4.heap.size) 3 1 (.slice (some ⟨w4.heap.size, 0, none⟩) 0 (o.len + 3)) 0 []) := hide (Row.ofOwns HA1.out _ (fun k hk => by simp [Value.ownBlock] at hk; omega))
          have HRA2 := hide (HRA.out.alloc (.cells #[.int .i64 (-91), .int .i64 (-92), .int .i64 (-93)] 3))
          have HRB : Hid (Row w6 (fun k => k = w4.heap.size + 1) 3 1 (.slice (some ⟨w4.heap.size + 1, 0, none⟩) 0 (o.len + 3)) 0 []) := hide (by
            have h := HB1.out
            have e : (w4.alloc (.cells #[.int .i64 (-91), .int .i64 (-92), .int .i64 (-93)] 3)).drew.heap.size = w4.heap.size + 1 := hs4a
            rw [e] at h
            exact Row.ofOwns h _ (fun k hk => by simp [Value.ownBlock] at hk; omega))
          have HLA2 := hide (lit_row w5 (ints [-91, -92, -93]) 3 3 rfl (by omega))
          have HLB : Hid (Row w6 (fun k => k = w4.heap.size) 3 1 (.slice (some ⟨w4.heap.size, 0, none⟩) 3 3) 3 (ints [-91, -92, -93])) := hide ((lit_row w4 (ints [-91, -92, -93]) 3 3 rfl (by omega)).kept ((Mod.refl (fun _ => False) _).drew.trans (Mod.ofGrown (F := fun _ => False) HB2.out (fun _ h => by cases h)) (fun _ _ h => h)) (fun _ _ _ h => h))
          have HB5a := hide (HB5.out.alloc HB5.out.size (.cells #[.int .i64 (-91), .int .i64 (-92), .int .i64 (-93)] 3))
          have HI5 := hide (Reads.below HRd4.out HB5.out)
          have HI5a := hide (Reads.below HRd4.out HB5a.out)
          have HI6 := hide (Reads.below HRd4.out HB6.out)
          have k1 : Hid (∀ w7, Mod (fun k => k = w4.heap.size) w5 w7 → Reads (w7.alloc (.cells #[.int .i64 (-91), .int .i64 (-92), .int .i64 (-93)] 3)) 1 (.slice (some ⟨w7.heap.size, 0, none⟩) 3 3) 3 (ints [-91, -92, -93]) ∧ Below w4.heap.size w4 (w7.alloc (.cells #[.int .i64 (-91), .int .i64 (-92), .int .i64 (-93)] 3))) := hide (fun w7 hm => by
            have hb7 := HB5.out.trans (hm.below HB5.out.size (fun k hk => by omega))
            exact ⟨(lit_row w7 (ints [-91, -92, -93]) 3 3 rfl (by omega)).reads, hb7.alloc hb7.size _⟩)
          have k2 : Hid (∀ w7, Mod (fun k => k = w4.heap.size) (w5.alloc (.cells #[.int .i64 (-91), .int .i64 (-92), .int .i64 (-93)] 3)) w7 → Reads w7 1 (.slice (some ⟨w5.heap.size, 0, none⟩) 3 3) 3 (ints [-91, -92, -93]) ∧ Below w4.heap.size w4 w7) := hide (fun w7 hm =>
            ⟨(HLA2.out.kept hm (fun k hk _ e => by omega)).reads, HB5a.out.trans (hm.below HB5a.out.size (fun k hk => by omega))⟩)
          have k3 : Hid (∀ w7, Mod (fun k => k = w4.heap.size + 1) w6 w7 → Reads w7 1 (.slice (some ⟨w4.heap.size, 0, none⟩) 3 3) 3 (ints [-91, -92, -93]) ∧ Below w4.heap.size w4 w7) := hide (fun w7 hm =>
            ⟨(HLB.out.kept hm (fun k hk _ e => by omega)).reads, HB6.out.trans (hm.below HB6.out.size (fun k hk => by omega))⟩)
          have e0 : 0 + o.len = o.len := Nat.zero_add _
          have HE0 := hide e0
          clear e0
          go_region_law (first
            | (refine step_append_here rfl _ _ 38 rfl 3 j0 1 Tryd.underlying38 hj0 hy1 rfl HRA.out rfl HI5.out (ints_one _) (by omega) ?_
               intro w7 hr7 hm7
               rw [HE0.out, List.nil_append] at hr7
               rw [HE0.out]
               have HR7 := hide ((hr7.mono (G := fun k => w4.heap.size ≤ k) (fun k hk _ => by omega)).alloc (.cells #[.int .i64 (-91), .int .i64 (-92), .int .i64 (-93)] 3))
               have HM7 := hide (k1.out _ hm7).1
               have HB7 := hide (k1.out _ hm7).2
               clear hr7 hm7)
            | (refine step_append_here rfl _ _ 38 rfl 3 j0 1 Tryd.underlying38 hj0 hy1 rfl HRA2.out rfl HI5a.out (ints_one _) (by omega) ?_
               intro w7 hr7 hm7
               rw [HE0.out, List.nil_append] at hr7
               rw [HE0.out]
               have HR7 := hide (hr7.mono (G := fun k => w4.heap.size ≤ k) (fun k hk _ => by omega))
               have HM7 := hide (k2.out _ hm7).1
               have HB7 := hide (k2.out _ hm7).2
               clear hr7 hm7)
            | (refine step_append_here rfl _ _ 38 rfl 3 j0 1 Tryd.underlying38 hj0 hy1 rfl HRB.out rfl HI6.out (ints_one _) (by omega) ?_
               intro w7 hr7 hm7
               rw [HE0.out, List.nil_append] at hr7
               rw [HE0.out]
               have HR7 := hide (hr7.mono (G := fun k => w4.heap.size ≤ k) (fun k hk _ => by omega))
               have HM7 := hide (k3.out _ hm7).1
               have HB7 := hide (k3.out _ hm7).2
               clear hr7 hm7)
            | (refine step_append_here rfl _ _ 38 rfl 3 j0 1 Tryd.underlying38 hj0 hy1 rfl HR7.out rfl HM7.out (ints_one _) (by omega) ?_
               intro w8 hr8 hm8
               have HR8 := hide hr8
               have HB8 := hide (HB7.out.trans (hm8.below HB7.out.size (fun k hk => hk)))
               clear hr8 hm8)
            | fail)
          all_goals
            go_wp2
            go_meet
            case rel => exact ⟨_, _, rfl, HR8, HB8⟩
        case rest => as_aux_lemma =>
          obtain ⟨wa, rfl⟩ : ∃ x : World, x = wc := ⟨_, rfl⟩
          obtain ⟨Aw, cw, rfl, HWr, HBw⟩ := hcut
          have hq4 := World.block_lt_of_cell? w4 _ o3
          have HQc := hide (HQ4.out.past HBw.out)
          have HRdc := hide (Reads.below HRd.out HQc.out.below)
          have HB0c := hide ((HBw.out.block q hq4).trans HB0.out)
          have hqc : q < wa.heap.size := Nat.lt_of_lt_of_le hq4 HBw.out.size
          have hq4s : q < w4.heap.size := hq4
          have HLt : Hid (∀ j, j < 4 → ∀ k, ((P j).F k → k < w4.heap.size) ∧ ((P j).G k → k < w4.heap.size)) := hide (fun j hj k => ⟨(HQ4.out.at_ j hj).ring.lt k, (HQ4.out.at_ j hj).lt k⟩)
          have HFW : Hid (∃ bw ow, Aw = some ⟨bw, ow, none⟩ ∧ w4.heap.size ≤ bw ∧ bw < wa.heap.size) := hide (by
            obtain ⟨bw, ow, c', e, _, _, hF, hl, _⟩ := HWr.out.open (by omega)
            injection e with e _ _
            exact ⟨bw, ow, e, hF, hl⟩)
          obtain ⟨bw, ow, rfl, hbw4, hbwc⟩ := HFW.out
          have hcw : o.len + 3 ≤ cw := by obtain ⟨_, _, e, h, _⟩ := HWr.out.shape; injection e with _ _ e; omega
          have HWr2 := hide (HWr.out.mono (G := fun k => w4.heap.size ≤ k ∧ k < wa.heap.size) (fun k hk hl => ⟨hk, hl⟩))
          have hw4 := HQ4.out.below.size
          clear o0 o1 o2 o3 HB0 HQ4 hq4 HFW HWr
          obtain ⟨x, hx⟩ : ∃ x, P i2 = x := ⟨_, rfl⟩
          obtain ⟨d0, d1, d2, _, _, _⟩ := HQc.out.facts i2 hi2
          have hA := HQc.out.at_ i2 hi2
          obtain ⟨a, ha⟩ := hA.ring.ptr
          rw [hx] at d0 d1 d2 hA ha
          rw [ha] at d0
          have hfit := hA.ring.fits
          have HX := hide hx
          have HPt := hide ha
          have HRow := hide hA.row
          have HXl : Hid (o.items.length = o.len) := hide (by have := HRd.out.1; rw [ints_length, Nat.mul_one] at this; exact this)
          obtain ⟨kk, hkk⟩ : ∃ kk, min o.len (x.cap - x.L.length) = kk := ⟨_, rfl⟩
          have HK := hide hkk
          clear hx hA ha hkk
          have hi4 : (i2 : Int) < (4 : Int) := by omega
          have hi0 : (0 : Int) ≤ (i2 : Int) := by omega
          have o3 : wa.cell? ⟨q, 3, none⟩ = some (.slice o.A o.len o.c) := by rw [cell_of_row wa _ 3 _ _ _ HB0c.out]; rfl
          go_upto_region 15 with fail
          go_cut [12, 13] (fun s12 s13 wd => ∃ m Ad cd, s12 = .pointer (some ⟨m, 0, none⟩) ∧ s13 = .int .i64 kk ∧ Hid (wd.heap[m]? = some (.cells #[.int .i64 x.cap, .slice Ad (x.L.length + kk) cd] 58 (0, 0))) ∧ Hid (Row wd (RI.New wa) 3 1 (.slice Ad (x.L.length + kk) cd) (x.L.length + kk) (ints (x.L ++ o.items.take kk))) ∧ Hid (wa.heap.size ≤ m) ∧ Hid (Below wa.heap.size wa wd))
          case first => as_aux_lemma =>
            have hd : wa.drew.cell? ⟨b, 4 + i2 * 2, none⟩ = some (.int .i64 x.cap) ∧ wa.drew.cell? ⟨b, 4 + i2 * 2 + 1, none⟩ = some (.slice x.A x.L.length x.c) ∧ wa.drew.cell? ⟨q, 3, none⟩ = some (.slice o.A o.len o.c) := ⟨d1, d2, o3⟩
            have hda : (wa.alloc (.cells #[.int .i64 0, .slice none 0 0] 58)).drew.cell? ⟨b, 4 + i2 * 2, none⟩ = some (.int .i64 x.cap) ∧ (wa.alloc (.cells #[.int .i64 0, .slice none 0 0] 58)).drew.cell? ⟨b, 4 + i2 * 2 + 1, none⟩ = some (.slice x.A x.L.length x.c) ∧ (wa.alloc (.cells #[.int .i64 0, .slice none 0 0] 58)).drew.cell? ⟨q, 3, none⟩ = some (.slice o.A o.len o.c) := ⟨ref.cellN d1, ref.cellN d2, ref.cellN o3⟩
            clear d0 d1 d2 o3
            have HRw1 := hide (HRow.out.reads.kept (w' := wa.drew) (fun _ _ h => h))
            have HRw2 := hide (Reads.below HRow.out.reads ((Below.refl wa.heap.size wa).alloc (Nat.le_refl _) (.cells #[.int .i64 0, .slice none 0 0] 58)).drew)
            have HIt1 := hide (HRdc.out.kept (w' := wa.drew) (fun _ _ h => h))
            have hnew : (wa.alloc (.cells #[.int .i64 0, .slice none 0 0] 58)).drew.heap[wa.heap.size]? = some (.cells #[.int .i64 0, .slice none 0 0] 58 (0, 0)) := heap_alloc_new wa _
            have hlm : wa.heap.size < (wa.alloc (.cells #[.int .i64 0, .slice none 0 0] 58)).drew.heap.size := (Array.getElem?_eq_some_iff.1 hnew).1
            have hbm : b ≠ wa.heap.size := by have := HQc.out.size; omega
            have hqm : q ≠ wa.heap.size := by omega
            have HIt2 := hide (Reads.below HRdc.out ((Below.refl wa.heap.size wa).alloc (Nat.le_refl _) (.cells #[.int .i64 0, .slice none 0 0] 58)).drew)
            go_region_held3 (fun w' => w'.cell? ⟨b, 4 + i2 * 2, none⟩ = some (.int .i64 x.cap) ∧ w'.cell? ⟨b, 4 + i2 * 2 + 1, none⟩ = some (.slice x.A x.L.length x.c) ∧ w'.cell? ⟨q, 3, none⟩ = some (.slice o.A o.len o.c)) (first | assumption) (first
              | (go_at_call 34; (with_reducible refine (ref.push_any wa.drew x.cap x.L.length x.A x.c x.L HRw1.out o.A o.len o.c o.items HIt1.out hnc hfit.1 hfit.2 kk HK.out).mono ?_); rintro e w5 ⟨A5, c5, rfl, hr5, hb5⟩; have HR5 := hide hr5; have HB5 := hide hb5; have s5 := tri hd hb5; have s5a := tri s5 (al_below w5 (.cells #[.int .i64 0, .slice none 0 0] 58)); have s5b := tri s5 (al_below w5 (.cells #[.int .i64 x.cap, .slice A5 (x.L.length + kk) c5] 58)); clear hr5 hb5)
              | (go_at_call 34; (with_reducible refine (ref.push_any (wa.alloc (.cells #[.int .i64 0, .slice none 0 0] 58)).drew x.cap x.L.length x.A x.c x.L HRw2.out o.A o.len o.c o.items HIt2.out hnc hfit.1 hfit.2 kk HK.out).mono ?_); rintro e w5 ⟨A5, c5, rfl, hr5, hb5⟩; have HR5 := hide hr5; have HB5 := hide hb5; have s5 := tri hda hb5; have hm5 := (hb5.block _ hlm).trans hnew; have HM5 := hide hm5; obtain ⟨z0, z1, f0, f1⟩ := ref.box2 hm5; have s5b := tri_far (l := 0) (n := 1) s5 hbm hqm (.int .i64 x.cap) (.slice A5 (x.L.length + kk) c5); clear hr5 hb5 hm5))
            · have hbw : Below wa.heap.size wa w5 := ((Below.refl wa.heap.size wa).drew).trans HB5.out
              clear s5 s5a s5b hd hda hnew hlm
              go_wp2
              go_meet
              case rel => exact ⟨w5.heap.size, A5, c5, rfl, rfl, hide (heap_alloc_new w5 _), hide (HR5.out.alloc (.cells #[.int .i64 x.cap, .slice A5 (x.L.length + kk) c5] 58)), hide hbw.size, hide (hbw.alloc hbw.size _)⟩
            · have hbw : Below wa.heap.size wa w5 := (((Below.refl wa.heap.size wa).alloc (Nat.le_refl _) (.cells #[.int .i64 0, .slice none 0 0] 58)).drew).trans (HB5.out.mono (show wa.heap.size ≤ (wa.alloc (.cells #[.int .i64 0, .slice none 0 0] 58)).heap.size by simp))
              clear s5 s5b hd hda hnew hlm z0 z1 f0 f1
              have hr := (HR5.out.farE (p := ⟨wa.heap.size, 0, none⟩) HM5.out (by decide) (.int .i64 x.cap)).farE (p := ⟨wa.heap.size, 1, none⟩) (heap_setCell_same _ _ 0 _ 58 (.int .i64 x.cap) HM5.out) (by decide) (.slice A5 (x.L.length + kk) c5)
              have hb2 := ref.box2_set HM5.out (.int .i64 x.cap) (.slice A5 (x.L.length + kk) c5)
              have hb3 := (hbw.setCell (p := ⟨wa.heap.size, 0, none⟩) (Nat.le_refl _) (.int .i64 x.cap)).setCell (p := ⟨wa.heap.size, 1, none⟩) (Nat.le_refl _) (.slice A5 (x.L.length + kk) c5)
              have hmono : ∀ k, RI.New (wa.alloc (.cells #[.int .i64 0, .slice none 0 0] 58)).drew k → RI.New wa k := fun k hk => Nat.le_trans (show wa.heap.size ≤ (wa.alloc (.cells #[.int .i64 0, .slice none 0 0] 58)).heap.size by simp) hk
              have HZ := hide (And.intro hr (And.intro hb2 hb3))
              clear hr hb2 hb3
              go_wp2
              go_meet
              case rel => exact ⟨wa.heap.size, A5, c5, rfl, rfl, hide HZ.out.2.1, hide (HZ.out.1.mono (fun k hk _ => hmono k hk)), hide (Nat.le_refl _), hide HZ.out.2.2⟩
          case rest => as_aux_lemma =>
            obtain ⟨wd, rfl⟩ : ∃ x : World, x = wc := ⟨_, rfl⟩
            obtain ⟨m, Ad, cd, rfl, rfl, HMd, HRd5, hmc, HBd⟩ := hcut
            clear d0 d1 d2 o3 HRow HRdc
            have hmd : m < wd.heap.size := (Array.getElem?_eq_some_iff.1 HMd.out).1
            have HQd := hide (HQc.out.past HBd.out)
            have HWd := hide (HWr2.out.kept (Mod.ofBelow HBd.out (fun _ => False)) (fun _ _ _ h => h))
            have HB0d := hide ((HBd.out.block q hqc).trans HB0c.out)
            have HItd := hide (Reads.below HRd.out HQd.out.below)
            obtain ⟨d0, d1, d2, g0, g1, g2⟩ := HQd.out.facts i2 hi2
            rw [HX.out] at d0 d1 d2
            rw [HPt.out] at d0
            obtain ⟨m0, m1, _, _⟩ := ref.box2 HMd.out
            have o3 : wd.cell? ⟨q, 3, none⟩ = some (.slice o.A o.len o.c) := by rw [cell_of_row wd _ 3 _ _ _ HB0d.out]; rfl
            obtain ⟨_, _, _, e, _, _, _, hlw, hcl, hfr⟩ := HWd.out.open (by omega)
            injection e with e _ e3
            injection e with e
            injection e with e1 e2
            subst e1 e2 e3
            have t0 : wd.cell? ⟨bw, ow + o.len, none⟩ = some (.int .i64 (-91)) := hcl o.len _ (by rw [List.getElem?_append_right (by rw [ints_length]; have := HXl.out; omega), ints_length, HXl.out, Nat.sub_self]; rfl)
            have t1 : wd.cell? ⟨bw, ow + (o.len + 1), none⟩ = some (.int .i64 (-92)) := hcl (o.len + 1) _ (by rw [List.getElem?_append_right (by rw [ints_length]; have := HXl.out; omega), ints_length, HXl.out, Nat.add_sub_cancel_left]; rfl)
            have t2 : wd.cell? ⟨bw, ow + (o.len + 2), none⟩ = some (.int .i64 (-93)) := hcl (o.len + 2) _ (by rw [List.getElem?_append_right (by rw [ints_length]; have := HXl.out; omega), ints_length, HXl.out, Nat.add_sub_cancel_left]; rfl)
            go_upto_region 16 with fail
            have hq5 : ∀ k, x.F k → k < w4.heap.size ∧ w.heap.size ≤ k ∧ k ≠ b ∧ k ≠ q := fun k hk => by
              rw [← HX.out] at hk
              exact ⟨(HLt.out i2 hi2 k).1 hk, HQd.out.lowF i2 hi2 k hk, fun e => HQd.out.nf i2 hi2 (e ▸ hk), fun e => (HLt4.out i2 hi2).1 (e ▸ hk)⟩
            have HF := hide hq5
            have hrn := (HQd.out.at_ i2 hi2).ring
            rw [HX.out, HPt.out] at hrn
            have HRN := hide (hrn.below ((Below.refl _ _).drew))
            have hah := Row.ahead HWd.out (show o.len ≤ o.len + 3 by omega)
            rw [Nat.mul_one, List.take_left' (by rw [ints_length]; exact HXl.out)] at hah
            have HAh := hide hah
            have hnF : ∀ k, x.F k → ¬ (w4.heap.size ≤ k ∧ k < wa.heap.size) := fun k hk h => by have := (HF.out k hk).1; omega
            have HRo := hide (rdOut_row (w := wd.drew) HAh.out.drew hnF)
            have hbwF : ¬ x.F bw := fun hk => hnF bw hk ⟨hbw4, hbwc⟩
            have kS : Hid (∀ w5, Mod x.F wd.drew w5 → w5.cell? ⟨b, i2, none⟩ = some (.pointer a) ∧ w5.cell? ⟨q, 3, none⟩ = some (.slice o.A o.len o.c) ∧ w5.cell? ⟨bw, ow + o.len, none⟩ = some (.int .i64 (-91)) ∧ w5.cell? ⟨bw, ow + (o.len + 1), none⟩ = some (.int .i64 (-92)) ∧ w5.cell? ⟨bw, ow + (o.len + 2), none⟩ = some (.int .i64 (-93))) := hide (fun w5 hm =>
              ⟨hm.cell (p := ⟨b, i2, none⟩) (show wd.drew.cell? _ = _ from d0) (fun h => (HF.out _ h).2.2.1 rfl), hm.cell (p := ⟨q, 3, none⟩) (show wd.drew.cell? _ = _ from o3) (fun h => (HF.out _ h).2.2.2 rfl), hm.cell (p := ⟨bw, ow + o.len, none⟩) (show wd.drew.cell? _ = _ from t0) hbwF, hm.cell (p := ⟨bw, ow + (o.len + 1), none⟩) (show wd.drew.cell? _ = _ from t1) hbwF, hm.cell (p := ⟨bw, ow + (o.len + 2), none⟩) (show wd.drew.cell? _ = _ from t2) hbwF⟩)
            have kW : Hid (∀ w5, Mod x.F wd.drew w5 → Reads w5 1 (.slice (some ⟨bw, ow, none⟩) o.len cw) o.len (ints o.items)) := hide (fun w5 hm => (HAh.out.drew.kept hm (fun k hk _ hf => hnF k hf hk)).reads)
            have kI : Hid (∀ w5, Mod x.F wd.drew w5 → Reads w5 1 (.slice o.A o.len o.c) o.len (ints o.items)) := hide (fun w5 hm => Reads.below HRd.out (HQd.out.below.drew.trans (hm.below HQd.out.below.size (fun k hk => (HF.out k hk).2.1))))
            have hcw' : o.len ≤ cw := by omega
            have hsl : ∀ w, (Instr.sliceAt 38 (.slice (some ⟨bw, ow, none⟩) (o.len + 3) cw) none (some (.int .i64 o.len)) none).run Tryd.prog w = .ok (.slice (some ⟨bw, ow, none⟩) o.len cw) w := fun w => by
              have := run_sliceAt_hi (P := Tryd.prog) w 38 3 1 Tryd.underlying38 size_int (some ⟨bw, ow, none⟩) (o.len + 3) cw .i64 o.len hcw'
              rw [show (Value.slice (if cw = 0 then (some ⟨bw, ow, none⟩) else (some ⟨bw, ow, none⟩ : Option Addr).map (·.add (0 * 1))) (o.len - 0) (cw - 0)) = .slice (some ⟨bw, ow, none⟩) o.len cw from cutV_zero (some ⟨bw, ow, none⟩) cw o.len 1] at this
              exact this
            have hs0 : wd.drew.cell? ⟨b, i2, none⟩ = some (.pointer a) ∧ wd.drew.cell? ⟨q, 3, none⟩ = some (.slice o.A o.len o.c) ∧ wd.drew.cell? ⟨bw, ow + o.len, none⟩ = some (.int .i64 (-91)) ∧ wd.drew.cell? ⟨bw, ow + (o.len + 1), none⟩ = some (.int .i64 (-92)) ∧ wd.drew.cell? ⟨bw, ow + (o.len + 2), none⟩ = some (.int .i64 (-93)) := ⟨d0, o3, t0, t1, t2⟩
            have hy1 : (o.len : Int) < (o.len : Int) + 3 := by omega
            have hy2 : (0 : Int) ≤ (o.len : Int) + 1 := by omega
            have hy3 : (0 : Int) ≤ (o.len : Int) + 2 := by omega
            have hy6 : ((o.len : Int) + 2).toNat = o.len + 2 := by omega
            have hy4 : IntKind.i64.wrap ((o.len : Int) + 1) = (o.len : Int) + 1 := by rw [IntKind.wrap_i64]; omega
            have hy5 : IntKind.i64.wrap ((o.len : Int) + 2) = (o.len : Int) + 2 := by rw [IntKind.wrap_i64]; omega
            clear d0 d1 d2 g0 g1 g2 o3 t0 t1 t2 m0 m1 hrn hah hnF hq5 hcl hfr
            go_region_held3 (fun w' => w'.cell? ⟨b, i2, none⟩ = some (.pointer a) ∧ w'.cell? ⟨q, 3, none⟩ = some (.slice o.A o.len o.c) ∧ w'.cell? ⟨bw, ow + o.len, none⟩ = some (.int .i64 (-91)) ∧ w'.cell? ⟨bw, ow + (o.len + 1), none⟩ = some (.int .i64 (-92)) ∧ w'.cell? ⟨bw, ow + (o.len + 2), none⟩ = some (.int .i64 (-93))) (first | assumption) (first
              | (go_at_call 23; (with_reducible refine (RI.push_n HRN.out HRo.out hcw' kk HK.out).mono ?_); rintro e w5 ⟨rfl, hr5, hm5⟩; have hs5 := kS.out _ hm5; have HR5 := hide hr5; have HM5 := hide hm5; have HW5 := hide (kW.out _ hm5); have HI5 := hide (kI.out _ hm5); clear hr5 hm5)
              | (go_at_call 24; (with_reducible refine (same_any w5 _ _ o.len o.items HW5.out HI5.out).mono ?_); rintro e w6 ⟨rfl, hd6⟩; obtain ⟨z, rfl⟩ := hd6; have hs6 : (w5.drewN z).cell? ⟨b, i2, none⟩ = some (.pointer a) ∧ (w5.drewN z).cell? ⟨q, 3, none⟩ = some (.slice o.A o.len o.c) ∧ (w5.drewN z).cell? ⟨bw, ow + o.len, none⟩ = some (.int .i64 (-91)) ∧ (w5.drewN z).cell? ⟨bw, ow + (o.len + 1), none⟩ = some (.int .i64 (-92)) ∧ (w5.drewN z).cell? ⟨bw, ow + (o.len + 2), none⟩ = some (.int .i64 (-93)) := hs5))
            go_upto_region 18 with fail
            have hmA : Mod x.F wd w5 := ((Mod.refl x.F wd).drew).trans HM5.out (fun _ _ h => h)
            have hmX := hmA.drewN z
            have hxb := hmX.heap HQd.out.cells (fun h => (HF.out _ h).2.2.1 rfl)
            have hxm := hmX.heap HMd.out (fun h => by have := (HF.out _ h).1; have := hmc.out; have := HBw.out.size; omega)
            obtain ⟨d0, d1, d2, _, _, _⟩ := HQd.out.facts i2 hi2
            rw [HX.out] at d0 d1 d2
            have e1 := hmX.cell (p := ⟨b, 4 + i2 * 2, none⟩) d1 (fun h => (HF.out _ h).2.2.1 rfl)
            have e2 := hmX.cell (p := ⟨b, 4 + i2 * 2 + 1, none⟩) d2 (fun h => (HF.out _ h).2.2.1 rfl)
            have g1 := frozen_of_row (w5.drewN z) b (4 + i2 * 2) _ _ hxb
            have g2 := frozen_of_row (w5.drewN z) b (4 + i2 * 2 + 1) _ _ hxb
            obtain ⟨m0, m1, _, _⟩ := ref.box2 hxm
            obtain ⟨L', hL'⟩ : ∃ L', x.L ++ o.items.take kk = L' := ⟨_, rfl⟩
            have hLn : x.L.length + kk = L'.length := by rw [← hL', List.length_append, List.length_take, HXl.out]; have := HK.out; omega
            have HLn := hide hLn
            have hr5 := HR5.out
            have hrd5 := HRd5.out
            rw [hL'] at hr5 hrd5
            rw [hLn] at hrd5
            have HR5' := hide hr5
            have HRd5' := hide hrd5
            have HMX := hide hmX
            have HXB := hide hxb
            obtain ⟨wx, hwx⟩ : ∃ wx, w5.drewN z = wx := ⟨_, rfl⟩
            have HR5x := hide (hr5.kept ((Mod.refl (fun _ => False) w5).drewN z) (fun _ _ h => h))
            rw [hwx] at HMX HXB e1 e2 g1 g2 m0 m1 HR5x
            rw [hwx]
            clear hs0 hs5 hs6 hmA hmX hxb hxm d0 d1 d2 hLn hL' hr5 hrd5 HR5 HRd5 hwx hsl hy1 hy2 hy3 hy4 hy5 hy6
            go_region
            rw [HLn.out]
            have hst := store_m HXB.out i2 hi2 ⟨.pointer a, Wide x.F wd.drew w5, x.cap, L', Ad, cd, fun k => wa.heap.size ≤ k ∧ k < wd.heap.size⟩ (by rw [HX.out, HPt.out])
            have hmB : Mod (fun k => k = b) wx (((wx.setCell ⟨b, 4 + i2 * 2, none⟩ (.int .i64 x.cap)).setCell ⟨b, 4 + i2 * 2 + 1, none⟩ (.slice Ad L'.length cd)).drew) := (((Mod.refl (fun k => k = b) wx).setCell (p := ⟨b, 4 + i2 * 2, none⟩) (fun _ => rfl) _).setCell (p := ⟨b, 4 + i2 * 2 + 1, none⟩) (fun _ => rfl) _).drew
            have HST := hide hst
            have HMB := hide hmB
            clear hst hmB e1 e2 g1 g2 m0 m1
            obtain ⟨wy, hwy⟩ : ∃ wy, ((wx.setCell ⟨b, 4 + i2 * 2, none⟩ (.int .i64 x.cap)).setCell ⟨b, 4 + i2 * 2 + 1, none⟩ (.slice Ad L'.length cd)).drew = wy := ⟨_, rfl⟩
            have hst2 : wy.heap[b]? = some (.cells (rwCells (upd P i2 ⟨.pointer a, Wide x.F wd.drew w5, x.cap, L', Ad, cd, fun k => wa.heap.size ≤ k ∧ k < wd.heap.size⟩)) 64 (0, 0)) := by rw [← hwy]; exact HST.out
            rw [hwy] at HMB
            rw [hwy]
            have hs1 := HBw.out.size
            have hs2 := HBd.out.size
            have hs3 := HMX.out.size
            have hs4 := HMB.out.size
            have hba := HQc.out.size
            have hb4 : b < w4.heap.size := by omega
            have hFa : ∀ k, Wide x.F wd.drew w5 k → (x.F k ∧ k < w4.heap.size ∧ k ≠ b) ∨ wd.heap.size ≤ k := fun k h => h.imp (fun h => ⟨h, (HF.out k h).1, (HF.out k h).2.2.1⟩) (fun h => h.1)
            have hring := HR5x.out.kept HMB.out (fun k hk e => (hFa k hk).elim (fun h => h.2.2 e) (fun h => by omega))
            have hrow := ((HRd5'.out.mono (G := fun k => wa.heap.size ≤ k ∧ k < wd.heap.size) (fun k hk hl => ⟨hk, hl⟩)).kept HMX.out (fun k hk _ hf => by have := (HF.out k hf).1; have := hk.1; omega)).kept HMB.out (fun k hk _ e => by have := hk.1; omega)
            have HP := hide (HQc.out.step i2 hi2 ⟨.pointer a, Wide x.F wd.drew w5, x.cap, L', Ad, cd, fun k => wa.heap.size ≤ k ∧ k < wd.heap.size⟩
              (((Mod.ofBelow HBd.out (fun k => k = b ∨ (P i2).F k)).trans HMX.out (fun k _ hk => .inr (by rw [HX.out]; exact hk))).trans HMB.out (fun k _ hk => .inl hk)) ⟨hring, hrow, fun k hk => by have := hk.2; show k < wy.heap.size; omega⟩
              (fun k hk => (hFa k hk).imp (fun h => by rw [HX.out]; exact h.1) (fun h => by omega)) (fun k hk => .inr hk.1) (fun k hk hg => (hFa k hk).elim (fun h => by have := hg.1; omega) (fun h => by have := hg.2; omega)) hst2)
            have HOut : Hid (∀ k, (w4.heap.size ≤ k ∧ k < wa.heap.size) → Out w b (upd P i2 ⟨.pointer a, Wide x.F wd.drew w5, x.cap, L', Ad, cd, fun k => wa.heap.size ≤ k ∧ k < wd.heap.size⟩) k) := hide (fun k hk => ⟨by omega, by omega, fun j hj hf => by
                by_cases e : j = i2
                · subst e; rw [upd_same] at hf; exact (hFa k hf).elim (fun h => by omega) (fun h => by omega)
                · rw [upd_other P _ e] at hf; have := (HLt.out j hj k).1 hf; omega, fun j hj hg => by
                by_cases e : j = i2
                · subst e; rw [upd_same] at hg; have := hg.1; omega
                · rw [upd_other P _ e] at hg; have := (HLt.out j hj k).2 hg; omega⟩)
            have HWy := hide ((HWd.out.kept HMX.out (fun k hk _ hf => by have := (HF.out k hf).1; have := hk.1; omega)).kept HMB.out (fun k hk _ e => by have := hk.1; omega))
            clear hst2 hwy hring hrow hFa hs2 hs3 hs4 hba HST HMB HXB HR5x HRd5' HMX HQd HQc HB0c HB0d HMd HR5' HM5 HW5 HI5
            go_wp2_with fail
            go_loopw [130] (fun t wq => ∃ j : Nat, j ≤ o.len + 3 ∧ t = .int .i64 j ∧ Hid (∃ xs, Row wq (fun k => w4.heap.size ≤ k ∧ k < wa.heap.size) 3 1 (.slice (some ⟨bw, ow, none⟩) (o.len + 3) cw) (o.len + 3) xs) ∧ Hid (Mod (fun k => w4.heap.size ≤ k ∧ k < wa.heap.size) wy wq)) (fun t _ => o.len + 3 - (intOf t).toNat)
            case atStart => exact ⟨0, Nat.zero_le _, rfl, hide ⟨_, HWy.out⟩, hide (Mod.refl _ _)⟩
            case round =>
              obtain ⟨j, hj, rfl, HRw, HMw⟩ := hrel
              by_cases hjl : j < o.len + 3
              · obtain ⟨xs, hxs⟩ := HRw.out
                have HXs := hide hxs
                have hxl := hxs.1
                obtain ⟨_, _, _, e, _, _, _, _, hcl, hfr⟩ := hxs.open (by omega)
                injection e with e _ e3
                injection e with e
                injection e with e1 e2
                subst e1 e2 e3
                obtain ⟨v9, hc⟩ : ∃ v9, wr.cell? ⟨bw, ow + j, none⟩ = some v9 := ⟨_, hcl j _ (List.getElem?_eq_getElem (show j < xs.length by omega))⟩
                have hf := hfr (ow + j)
                have hjI : (j : Int) < (o.len : Int) + 3 := by omega
                clear hcl hfr hxs hxl
                go_wp2_with fail
                go_roundw
                case rel => exact ⟨j + 1, by omega, by go_num, hide ⟨_, HXs.out.set rfl (by omega) (.int .i64 55555)⟩, hide (HMw.out.setCell (p := ⟨bw, ow + j, none⟩) (fun _ => ⟨hbw4, hbwc⟩) _)⟩
                case measure => simp [intOf]; omega
              · obtain rfl : j = o.len + 3 := by omega
                have HPr := hide (HP.out.other HMw.out HOut.out)
                go_wp2_with fail
                refine (seen_true w wr b _ HPr.out i2 hi2).mono ?_
                rintro e w9 ⟨rfl, hb9⟩
                have HP9 := hide (HPr.out.past hb9)
                clear hb9
                go_wp2
                go_roundw
                case rel => exact ⟨i + 1, by omega, by go_num, hide ⟨_, HP9.out⟩⟩
                case measure => simp [intOf]; omega
      · have hk1 : (o.kind == 1) = false := by simpa using hk
        clear hk
        go_wp2_with fail
        refine (rwstep_any w w4 b P HQ4.out adr HSnt.out o.kind o.at_ o.n o.A o.len o.c o.items HRd.out hnc hob).mono ?_
        rintro e w5 ⟨rfl, ⟨P5, hq5⟩, hm5⟩
        have HQ5 := hide hq5
        clear hq5 hm5 o0 o1 o2 o3
        go_wp2
        go_roundw
        case rel => exact ⟨i + 1, by omega, by go_num, hide ⟨_, HQ5.out⟩⟩
        case measure => simp [intOf]; omega
    · obtain rfl : i = n := by omega
      go_wp2_with fail
      go_loopw [142] (fun t wr => ∃ q : Nat, q ≤ 4 ∧ t = .int .i64 q ∧ Hid (∃ P, RW w wr b P)) (fun t _ => 4 - (intOf t).toNat)
      case atStart => exact ⟨0, Nat.zero_le _, rfl, hide ⟨_, HQ.out⟩⟩
      case round =>
        clear HQ
        obtain ⟨i2, hi, rfl, hst⟩ := hrel
        obtain ⟨P, hq⟩ := hst.out
        have HQ := hide hq
        clear hst hq
        by_cases hi2 : i2 < 4
        · obtain ⟨x, hx⟩ : ∃ x, P i2 = x := ⟨_, rfl⟩
          obtain ⟨d0, d1, d2, _, _, _⟩ := HQ.out.facts i2 hi2
          have hA := HQ.out.at_ i2 hi2
          obtain ⟨a, ha⟩ := hA.ring.ptr
          rw [hx] at d0 d1 d2 hA ha
          rw [ha] at d0
          have hfit := hA.ring.fits
          have HX := hide hx
          have HPt := hide ha
          have hrn := hA.ring
          rw [ha] at hrn
          have HRN := hide hrn
          have HRow := hide hA.row
          have hxc : x.L.length ≤ x.c := by obtain ⟨_, _, e, h, _⟩ := hA.row.shape; injection e with _ _ e; omega
          obtain ⟨kk, hkk⟩ : ∃ kk, min lim.toNat x.L.length = kk := ⟨_, rfl⟩
          have HK := hide hkk
          have hi0 : (0 : Int) ≤ (i2 : Int) := by omega
          have hi4 : (i2 : Int) < (4 : Int) := by omega
          clear hx hA ha hkk hrn
          go_wp2_with fail
          refine (ref.peek_any wr x.cap x.L.length x.A x.c x.L HRow.out.reads hxc lim kk HK.out (by omega)).mono ?_
          rintro e w1 ⟨Aw, cw, rfl, hrw, hb1⟩
          have HWt := hide (hrw.mono (G := fun _ => True) (fun _ _ _ => trivial))
          have HL1 := hide (LX.begin (HQ.out.past hb1))
          clear hrw hb1 d0 d1 d2 HRN HRow HQ
          obtain ⟨i0, hi0', hz0, hz1, hz2⟩ := info_parts info_list
          have hkk8 : kk ≤ 2147483647 := by have := HK.out; omega
          go_wp2_with fail
          go_loopw [17, 18] (fun s t wq => ∃ (k : Nat) (Aa : Option Addr) (ca : Nat) (K : List Lx) (F : Nat → Prop) (L : List Ent), k ≤ 18 ∧ s = .slice Aa k ca ∧ t = .int .i64 k ∧ Hid (LX w wq b P (.slice Aa k ca) k K [] F L) ∧ Hid (∀ y ∈ K, y.n = kk ∧ y.xs = ints (x.L.take kk)) ∧ Hid (Row wq (fun _ => True) 3 1 (.slice Aw kk cw) kk (ints (x.L.take kk)))) (fun _ t _ => 18 - (intOf t).toNat)
          case atStart => exact ⟨0, none, 0, [], _, [], Nat.zero_le _, rfl, rfl, HL1, hide (fun _ h => (by cases h)), HWt⟩
          case round =>
            clear HL1 HWt
            obtain ⟨k, Aa, ca, K, F, L, hk, rfl, rfl, HL, HKf, HW⟩ := hrel
            by_cases hk18 : k < 18
            · as_aux_lemma =>
              obtain ⟨e0, _, _, _, _, _⟩ := HL.out.rw.facts i2 hi2
              have hrn := (HL.out.rw.at_ i2 hi2).ring
              rw [HX.out, HPt.out] at hrn
              rw [HX.out, HPt.out] at e0
              have HRN := hide hrn
              clear hrn
              go_wp2_with fail
              refine (RI.peek_n HRN.out lim kk HK.out).mono ?_
              rintro e w2 ⟨A2, c2, rfl, hr2, hb2⟩
              have HR2 := hide hr2
              have HB2 := hide hb2
              have HW2 := hide (Reads.below HW.out.reads hb2)
              clear hr2 hb2 e0
              go_wp2_with fail
              refine (same_any w2 _ _ kk (x.L.take kk) HR2.out.reads HW2.out).mono ?_
              rintro e w3 ⟨rfl, hd3⟩
              have hb3 := hd3.below.alloc hd3.below.size (.cells #[.slice A2 kk c2] 38)
              have HB23 := hide (HB2.out.trans (hb3.mono HB2.out.size))
              obtain ⟨hrowF, hnext⟩ := HL.out.add (u := .slice A2 kk c2) (m := kk) (xs := ints (x.L.take kk)) HB2.out HR2.out hb3
              have HRF := hide hrowF
              have HNx := hide hnext
              have HO3 := hide (reads_one w3 (.slice A2 kk c2) 38 1)
              have HW3 := hide (HW.out.kept (Mod.ofBelow HB23.out (fun _ => False)) (fun _ _ _ h => h))
              clear hb3 hd3 hrowF hnext
              go_wp2_with (first
                | (at_builtin; refine wpList_append_row rfl _ _ 66 rfl 38 i0 (.slice none 0 0) 1 24 Tryd.underlying66 hi0' hz0 hz1 hz2 rfl (by decide) rfl HRF.out rfl HO3.out (fun u hu => by rw [List.mem_singleton] at hu; subst hu; rfl) (by unfold maxLen; omega) (by omega) ?_; intro A4 c4 w4 hr4 hm4; have HR4 := hide hr4; have HM4 := hide hm4; clear hr4 hm4)
                | fail)
              go_roundw
              case rel =>
                obtain ⟨F2, L2, hlx⟩ := HNx.out _ _ HR4.out HM4.out
                exact ⟨k + 1, A4, c4, _, F2, L2, by omega, rfl, by go_num, hide hlx, hide (fun y hy => by
                  rcases List.mem_append.1 hy with hy | hy
                  · exact HKf.out y hy
                  · rw [List.mem_singleton] at hy; subst hy; exact ⟨rfl, rfl⟩), hide (row_far HW3.out HM4.out)⟩
              case measure => simp [intOf]; omega
            · obtain rfl : k = 18 := by omega
              rw [show ((18 : Nat) : Int) = 18 from rfl]
              go_wp2_with fail
              have HW' := hide HW.out.reads
              go_loopw [175] (fun t wq => ∃ j : Nat, j ≤ 18 ∧ t = .int .i64 j ∧ Hid (LX w wq b P (.slice Aa 18 ca) 18 K [] F L) ∧ Hid (Reads wq 1 (.slice Aw kk cw) kk (ints (x.L.take kk)))) (fun t _ => 18 - (intOf t).toNat)
              case atStart => exact ⟨0, Nat.zero_le _, rfl, HL, HW'⟩
              case round =>
                clear HL HW HW'
                obtain ⟨j, hj, rfl, HL, HW⟩ := hrel
                have hKl : K.length = 18 := by have := HL.out.row.1; rw [List.length_map, Nat.mul_one] at this; exact this
                have HKl := hide hKl
                clear hKl
                by_cases hj18 : j < 18
                · as_aux_lemma =>
                  obtain ⟨y, hy⟩ : ∃ y, K[j]? = some y := ⟨_, List.getElem?_eq_getElem (by have := HKl.out; omega)⟩
                  have HY := hide (get_vs (f := fun z : Lx => z.v) hy)
                  have hyf := HKf.out y (List.mem_of_getElem? hy)
                  have hry := HL.out.reads (q := j) (x := y) (by rw [List.append_nil]; exact hy)
                  rw [hyf.1, hyf.2] at hry
                  have HRy := hide hry
                  have HRd := hide HL.out.row.reads
                  clear hy hyf hry
                  go_wp2_with (first
                    | ((with_reducible refine at_index rfl ?_); refine wpList_at1 rfl rfl _ _ 66 38 _ rfl rfl rfl (by simp) Tryd.underlying66 size_list agg_list rfl HRd.out rfl (by omega) (by omega) HY.out ?_; intro q')
                    | fail)
                  refine (same_any wr _ _ kk (x.L.take kk) HRy.out HW.out).mono ?_
                  rintro e w3 ⟨rfl, hd3⟩
                  have HL3 := hide (HL.out.past hd3.below)
                  have HW3 := hide (Reads.below HW.out hd3.below)
                  clear hd3
                  go_wp2_with fail
                  go_roundw
                  case rel => exact ⟨j + 1, by omega, by go_num, HL3, HW3⟩
                  case measure => simp [intOf]; omega
                · obtain rfl : j = 18 := by omega
                  clear HW HK hj18 hi hj hk hk18
                  obtain ⟨e0, e1, e2, _, _, _⟩ := HL.out.rw.facts i2 hi2
                  have hA := HL.out.rw.at_ i2 hi2
                  have hnb := HL.out.rw.nf i2 hi2
                  have hfg := HL.out.rw.fg i2 i2 hi2 hi2
                  rw [HX.out] at e0 e1 e2 hA hnb hfg
                  rw [HPt.out] at e0
                  have hrn := hA.ring
                  rw [HPt.out] at hrn
                  have HRNa := hide hrn
                  have HRwa := hide hA.row
                  obtain ⟨ka, hk1⟩ : ∃ ka, min ((1 : Int)).toNat x.L.length = ka := ⟨_, rfl⟩
                  have HKa := hide hk1
                  have HNba := hide hnb
                  have HFga := hide hfg
                  have hxla : x.L.length ≤ 2147483647 := by have h := hA.ring.fits; omega
                  have hxca : x.L.length ≤ x.c := by
                    obtain ⟨A9, c9, e, h, _⟩ := hA.row.shape
                    have e9 : x.c = c9 := by injection e
                    omega
                  clear hA hnb hfg hrn hk1
                  go_wp2_with fail
                  refine (RI.pop_n HRNa.out 1 ka HKa.out).mono ?_
                  rintro e w5a ⟨A5a, c5a, rfl, hr5, hn5, hm5⟩
                  have f1 := hm5.cell (p := ⟨b, 4 + i2 * 2, none⟩) e1 HNba.out
                  have f2 := hm5.cell (p := ⟨b, 4 + i2 * 2 + 1, none⟩) e2 HNba.out
                  have hc5 := hm5.heap HL.out.rw.cells HNba.out
                  have HC5a := hide hc5
                  have HR5a := hide hr5
                  have HN5a := hide hn5
                  have HM5a := hide hm5
                  have HD5a := hide ((HRwa.out.kept hm5 (fun k hk _ hf => HFga.out k hf hk)).drew.reads)
                  clear e0 e1 e2 hr5 hn5 hm5 hc5
                  go_upto_region 46 with fail
                  go_region_law (first
                    | (go_simp; go_at_call 36; ((with_reducible refine (ref.drop_any w5a.drew x.cap x.L.length x.A x.c x.L HD5a.out hxca 1 ka HKa.out hxla).mono ?_); rintro e w6a ⟨A6a, c6a, rfl, hr6, hb6⟩; have HR6a := hide hr6; have HB6a := hide hb6; have g1 := (hb6.cell (World.block_lt_of_cell? w5a.drew ⟨b, 4 + i2 * 2, none⟩ f1)).trans f1; have g2 := (hb6.cell (World.block_lt_of_cell? w5a.drew ⟨b, 4 + i2 * 2 + 1, none⟩ f2)).trans f2; have hc6 := (hb6.block b (Array.getElem?_eq_some_iff.1 HC5a.out).1).trans HC5a.out; have HC6a := hide hc6; have g3 := frozen_of_row w6a b (4 + i2 * 2) _ _ hc6; have g4 := frozen_of_row w6a b (4 + i2 * 2 + 1) _ _ hc6; clear hr6 hb6 hc6))
                    | fail)
                  have hms := ((Mod.refl (fun k => k = b) w6a).setCell (p := ⟨b, 4 + i2 * 2, none⟩) (fun _ => rfl) (.int .i64 x.cap)).setCell (p := ⟨b, 4 + i2 * 2 + 1, none⟩) (fun _ => rfl) (.slice A6a (x.L.length - ka) c6a)
                  clear f1 f2 g1 g2 g3 g4
                  obtain ⟨L1, hL1⟩ : ∃ L1, x.L.drop ka = L1 := ⟨_, rfl⟩
                  have hLn : x.L.length - ka = L1.length := by rw [← hL1, List.length_drop]
                  have hr6 := HR6a.out
                  have hn5 := HN5a.out
                  rw [hL1] at hr6 hn5
                  rw [hLn] at hr6 hms
                  rw [hLn]
                  have hst := store_m HC6a.out i2 hi2 ⟨.pointer a, x.F, x.cap, L1, A6a, c6a, fun k => w5a.heap.size ≤ k ∧ k < w6a.heap.size⟩ (by rw [HX.out, HPt.out])
                  obtain ⟨w7, hw7⟩ : ∃ w7, (w6a.setCell ⟨b, 4 + i2 * 2, none⟩ (.int .i64 x.cap)).setCell ⟨b, 4 + i2 * 2 + 1, none⟩ (.slice A6a L1.length c6a) = w7 := ⟨_, rfl⟩
                  have hst : w7.heap[b]? = some (.cells (rwCells (upd P i2 ⟨.pointer a, x.F, x.cap, L1, A6a, c6a, fun k => w5a.heap.size ≤ k ∧ k < w6a.heap.size⟩)) 64 (0, 0)) := by rw [← hw7]; exact hst
                  rw [hw7] at hms
                  rw [hw7]
                  have hs6 := HB6a.out.size
                  have hs7 := hms.size
                  have hbl := HL.out.rw.size
                  have hs5 := HM5a.out.size
                  have hmb : Mod (fun k => k = b) w5a w7 := (((Mod.refl (fun k => k = b) w5a).drew).trans (Mod.ofBelow HB6a.out _) (fun _ _ h => h)).trans hms (fun _ _ h => h)
                  obtain ⟨La, hla⟩ := HL.out.take i2 hi2 ⟨.pointer a, x.F, x.cap, L1, A6a, c6a, fun k => w5a.heap.size ≤ k ∧ k < w6a.heap.size⟩ (by rw [HX.out]; exact HM5a.out) HR5a.out hmb
                    ⟨(hn5.kept hmb (fun k hk e => HNba.out (e ▸ hk))), (Row.mono hr6 (G := fun k => w5a.heap.size ≤ k ∧ k < w6a.heap.size) (fun k hk hl => ⟨hk, hl⟩)).kept hms (fun k hk _ e => by have := hk.1; omega), fun k hk => Nat.lt_of_lt_of_le hk.2 hs7⟩ (fun k hk => by rw [HX.out]; exact hk) (fun k hk => hk.1) hst
                  have HLa := hide hla
                  have HXa : Hid (upd P i2 ⟨.pointer a, x.F, x.cap, L1, A6a, c6a, fun k => w5a.heap.size ≤ k ∧ k < w6a.heap.size⟩ i2 = ⟨.pointer a, x.F, x.cap, L1, A6a, c6a, fun k => w5a.heap.size ≤ k ∧ k < w6a.heap.size⟩) := hide (upd_same P i2 _)
                  obtain ⟨xa, hxa⟩ : ∃ xa : Place, (⟨.pointer a, x.F, x.cap, L1, A6a, c6a, fun k => w5a.heap.size ≤ k ∧ k < w6a.heap.size⟩ : Place) = xa := ⟨_, rfl⟩
                  have HPa : Hid (xa.p = .pointer a) := hide (by rw [← hxa])
                  rw [hxa] at HLa HXa
                  have hrl : ka ≤ 2147483647 := by have := HKa.out; omega
                  clear hms hL1 hLn hr6 hn5 hst hw7 hs6 hs7 hbl hs5 hmb hla hxa HL HC6a HR6a HN5a HM5a HD5a HRwa HRNa HFga HNba HC5a HB6a hxla hxca HR5a
                  obtain ⟨P1, hP1⟩ : ∃ P1, upd P i2 xa = P1 := ⟨_, rfl⟩
                  rw [hP1] at HLa HXa
                  clear hP1
                  obtain ⟨e0, e1, e2, _, _, _⟩ := HLa.out.rw.facts i2 hi2
                  have hA := HLa.out.rw.at_ i2 hi2
                  have hnb := HLa.out.rw.nf i2 hi2
                  have hfg := HLa.out.rw.fg i2 i2 hi2 hi2
                  rw [HXa.out] at e0 e1 e2 hA hnb hfg
                  rw [HPa.out] at e0
                  have hrn := hA.ring
                  rw [HPa.out] at hrn
                  have HRNb := hide hrn
                  have HRwb := hide hA.row
                  obtain ⟨kb, hk1⟩ : ∃ kb, min ((2 : Int)).toNat xa.L.length = kb := ⟨_, rfl⟩
                  have HKb := hide hk1
                  have HNbb := hide hnb
                  have HFgb := hide hfg
                  have hxlb : xa.L.length ≤ 2147483647 := by have h := hA.ring.fits; omega
                  have hxcb : xa.L.length ≤ xa.c := by
                    obtain ⟨A9, c9, e, h, _⟩ := hA.row.shape
                    have e9 : xa.c = c9 := by injection e
                    omega
                  clear hA hnb hfg hrn hk1
                  go_wp2_with fail
                  refine (RI.pop_n HRNb.out 2 kb HKb.out).mono ?_
                  rintro e w5b ⟨A5b, c5b, rfl, hr5, hn5, hm5⟩
                  have f1 := hm5.cell (p := ⟨b, 4 + i2 * 2, none⟩) e1 HNbb.out
                  have f2 := hm5.cell (p := ⟨b, 4 + i2 * 2 + 1, none⟩) e2 HNbb.out
                  have hc5 := hm5.heap HLa.out.rw.cells HNbb.out
                  have HC5b := hide hc5
                  have HR5b := hide hr5
                  have HN5b := hide hn5
                  have HM5b := hide hm5
                  have HD5b := hide ((HRwb.out.kept hm5 (fun k hk _ hf => HFgb.out k hf hk)).drew.reads)
                  clear e0 e1 e2 hr5 hn5 hm5 hc5
                  go_upto_region 48 with fail
                  go_region_law (first
                    | (go_simp; go_at_call 36; ((with_reducible refine (ref.drop_any w5b.drew xa.cap xa.L.length xa.A xa.c xa.L HD5b.out hxcb 2 kb HKb.out hxlb).mono ?_); rintro e w6b ⟨A6b, c6b, rfl, hr6, hb6⟩; have HR6b := hide hr6; have HB6b := hide hb6; have g1 := (hb6.cell (World.block_lt_of_cell? w5b.drew ⟨b, 4 + i2 * 2, none⟩ f1)).trans f1; have g2 := (hb6.cell (World.block_lt_of_cell? w5b.drew ⟨b, 4 + i2 * 2 + 1, none⟩ f2)).trans f2; have hc6 := (hb6.block b (Array.getElem?_eq_some_iff.1 HC5b.out).1).trans HC5b.out; have HC6b := hide hc6; have g3 := frozen_of_row w6b b (4 + i2 * 2) _ _ hc6; have g4 := frozen_of_row w6b b (4 + i2 * 2 + 1) _ _ hc6; clear hr6 hb6 hc6))
                    | fail)
                  have hms := ((Mod.refl (fun k => k = b) w6b).setCell (p := ⟨b, 4 + i2 * 2, none⟩) (fun _ => rfl) (.int .i64 xa.cap)).setCell (p := ⟨b, 4 + i2 * 2 + 1, none⟩) (fun _ => rfl) (.slice A6b (xa.L.length - kb) c6b)
                  clear f1 f2 g1 g2 g3 g4
                  obtain ⟨L2, hL2⟩ : ∃ L2, xa.L.drop kb = L2 := ⟨_, rfl⟩
                  have hLn : xa.L.length - kb = L2.length := by rw [← hL2, List.length_drop]
                  have hr6 := HR6b.out
                  have hn5 := HN5b.out
                  rw [hL2] at hr6 hn5
                  rw [hLn] at hr6 hms
                  rw [hLn]
                  have hst := store_m HC6b.out i2 hi2 ⟨.pointer a, xa.F, xa.cap, L2, A6b, c6b, fun k => w5b.heap.size ≤ k ∧ k < w6b.heap.size⟩ (by rw [HXa.out, HPa.out])
                  obtain ⟨w9, hw9⟩ : ∃ w9, (w6b.setCell ⟨b, 4 + i2 * 2, none⟩ (.int .i64 xa.cap)).setCell ⟨b, 4 + i2 * 2 + 1, none⟩ (.slice A6b L2.length c6b) = w9 := ⟨_, rfl⟩
                  have hst : w9.heap[b]? = some (.cells (rwCells (upd P1 i2 ⟨.pointer a, xa.F, xa.cap, L2, A6b, c6b, fun k => w5b.heap.size ≤ k ∧ k < w6b.heap.size⟩)) 64 (0, 0)) := by rw [← hw9]; exact hst
                  rw [hw9] at hms
                  rw [hw9]
                  have hs6 := HB6b.out.size
                  have hs7 := hms.size
                  have hbl := HLa.out.rw.size
                  have hs5 := HM5b.out.size
                  have hmb : Mod (fun k => k = b) w5b w9 := (((Mod.refl (fun k => k = b) w5b).drew).trans (Mod.ofBelow HB6b.out _) (fun _ _ h => h)).trans hms (fun _ _ h => h)
                  obtain ⟨Lb, hla⟩ := HLa.out.take i2 hi2 ⟨.pointer a, xa.F, xa.cap, L2, A6b, c6b, fun k => w5b.heap.size ≤ k ∧ k < w6b.heap.size⟩ (by rw [HXa.out]; exact HM5b.out) HR5b.out hmb
                    ⟨(hn5.kept hmb (fun k hk e => HNbb.out (e ▸ hk))), (Row.mono hr6 (G := fun k => w5b.heap.size ≤ k ∧ k < w6b.heap.size) (fun k hk hl => ⟨hk, hl⟩)).kept hms (fun k hk _ e => by have := hk.1; omega), fun k hk => Nat.lt_of_lt_of_le hk.2 hs7⟩ (fun k hk => by rw [HXa.out]; exact hk) (fun k hk => hk.1) hst
                  have HLb := hide hla
                  have HXb : Hid (upd P1 i2 ⟨.pointer a, xa.F, xa.cap, L2, A6b, c6b, fun k => w5b.heap.size ≤ k ∧ k < w6b.heap.size⟩ i2 = ⟨.pointer a, xa.F, xa.cap, L2, A6b, c6b, fun k => w5b.heap.size ≤ k ∧ k < w6b.heap.size⟩) := hide (upd_same P1 i2 _)
                  obtain ⟨xb, hxb⟩ : ∃ xb : Place, (⟨.pointer a, xa.F, xa.cap, L2, A6b, c6b, fun k => w5b.heap.size ≤ k ∧ k < w6b.heap.size⟩ : Place) = xb := ⟨_, rfl⟩
                  have HPb : Hid (xb.p = .pointer a) := hide (by rw [← hxb])
                  rw [hxb] at HLb HXb
                  have hrl2 : kb ≤ 2147483647 := by have := HKb.out; omega
                  clear hms hL2 hLn hr6 hn5 hst hw9 hs6 hs7 hbl hs5 hmb hla hxb HLa HC6b HR6b HN5b HM5b HD5b HRwb HRNb HFgb HNbb HC5b HB6b hxlb hxcb HR5b
                  obtain ⟨P2, hP2⟩ : ∃ P2, upd P1 i2 xb = P2 := ⟨_, rfl⟩
                  rw [hP2] at HLb HXb
                  clear hP2
                  have hal := al_below w9 (.cells #[.slice A5a ka c5a, .slice A5b kb c5b] 38)
                  obtain ⟨hRr, hJ1, hJ2⟩ := HLb.out.room (k := 2) hal
                  have HRr := hide hRr
                  have HJ1 : Hid (18 + 2 ≤ ca → ∀ w', Row w' (fun k => F k ∧ OfE (w9.alloc (.cells #[.slice A5a ka c5a, .slice A5b kb c5b] 38)) 38 k) 38 1 (.slice Aa (18 + 2) ca) (18 + 2) (K.map (·.v) ++ [.slice A5a ka c5a, .slice A5b kb c5b]) → Mod (fun k => F k ∧ OfE (w9.alloc (.cells #[.slice A5a ka c5a, .slice A5b kb c5b] 38)) 38 k) (w9.alloc (.cells #[.slice A5a ka c5a, .slice A5b kb c5b] 38)) w' → LJ w b P2 Aa 18 ca K (18 + 2) (K ++ ([] ++ [⟨.slice A5a ka c5a, ka, ints (x.L.take ka)⟩] ++ [⟨.slice A5b kb c5b, kb, ints (xa.L.take kb)⟩])) Lb Aa ca w') := hide (fun _ => hJ1)
                  have HJ2 : Hid (∀ A' c' w', Row w' (fun k => (w9.alloc (.cells #[.slice A5a ka c5a, .slice A5b kb c5b] 38)).heap.size ≤ k ∧ k < w'.heap.size) 38 1 (.slice A' (18 + 2) c') (18 + 2) (K.map (·.v) ++ [.slice A5a ka c5a, .slice A5b kb c5b]) → Below (w9.alloc (.cells #[.slice A5a ka c5a, .slice A5b kb c5b] 38)).heap.size (w9.alloc (.cells #[.slice A5a ka c5a, .slice A5b kb c5b] 38)) w' → LJ w b P2 Aa 18 ca K (18 + 2) (K ++ ([] ++ [⟨.slice A5a ka c5a, ka, ints (x.L.take ka)⟩] ++ [⟨.slice A5b kb c5b, kb, ints (xa.L.take kb)⟩])) Lb A' c' w') := hide hJ2
                  have HO9 := hide (reads_new w9 [.slice A5a ka c5a, .slice A5b kb c5b] 38 2 2 1 rfl (by unfold maxLen; omega))
                  clear hal hRr hJ1 hJ2 HLb HXa HPa HX HPt
                  go_wp2_with (first
                    | (at_builtin; refine wpList_append_two rfl _ _ 66 rfl 38 i0 (.slice none 0 0) 1 24 Tryd.underlying66 hi0' hz0 hz1 hz2 rfl rfl HRr.out rfl HO9.out (fun u hu => by simp at hu; rcases hu with rfl | rfl <;> rfl) (by unfold maxLen; omega) (by omega) (LJ w b P2 Aa 18 ca K (18 + 2) (K ++ ([] ++ [⟨.slice A5a ka c5a, ka, ints (x.L.take ka)⟩] ++ [⟨.slice A5b kb c5b, kb, ints (xa.L.take kb)⟩])) Lb) HJ1.out HJ2.out ?_; intro A10 c10 w10 hj10; have HJ10 := hide hj10; clear hj10)
                    | fail)
                  obtain ⟨F', hap, hrw, hfo, hlo, hor⟩ := HJ10.out
                  have hle : ∀ y ∈ K ++ ([] ++ [(⟨.slice A5a ka c5a, ka, ints (x.L.take ka)⟩ : Lx)] ++ [⟨.slice A5b kb c5b, kb, ints (xa.L.take kb)⟩]), y.n ≤ 2147483647 := fun y hy => by
                    rcases List.mem_append.1 hy with hy | hy
                    · have := (HKf.out y hy).1; omega
                    · rcases List.mem_append.1 hy with hy | hy
                      · rw [List.nil_append, List.mem_singleton] at hy; subst hy; exact hrl
                      · rw [List.mem_singleton] at hy; subst hy; exact hrl2
                  refine (apart_true w10 A10 20 c10 _ F' Lb hap (fun k hk => (hfo k hk).2) (by omega) hle).mono ?_
                  rintro e w11 ⟨rfl, K2, Lp, hap2, hv2, hn2, hf2, hm2⟩
                  obtain ⟨hrw11, F3, hap3, hfo3, hlo3⟩ := lj_back (n := 18) (by omega) HKl.out hrw hfo hlo hor hap2 hv2 hf2 hm2
                  have HQ11 := hide hrw11
                  have HA11 := hide hap3
                  have HF11 := hide hfo3
                  have HG11 := hide hlo3
                  obtain ⟨K3, hK3⟩ : ∃ K3, K2.take 18 = K3 := ⟨_, rfl⟩
                  have HN11 : Hid (∀ y ∈ K3, y.n ≤ 2147483647) := hide (fun y hy => by
                    rw [← hK3] at hy
                    have h1 : y.n ∈ K2.map (·.n) := List.mem_map.2 ⟨y, List.mem_of_mem_take hy, rfl⟩
                    rw [hn2] at h1
                    obtain ⟨z, hz, he⟩ := List.mem_map.1 h1
                    have := hle z hz
                    omega)
                  rw [hK3] at HA11
                  obtain ⟨L3, hL3⟩ : ∃ L3, Lp.take 18 = L3 := ⟨_, rfl⟩
                  rw [hL3] at HA11 HG11
                  clear hap hrw hfo hlo hor hap2 hv2 hn2 hf2 hm2 hrw11 hap3 hfo3 hlo3 hle hK3 hL3 HJ10 HJ1 HJ2 HRr HO9 HKf HKl hrl hrl2
                  go_wp2_with fail
                  refine (seen_true w w11 b P2 HQ11.out i2 hi2).mono ?_
                  rintro e w12 ⟨rfl, hb12⟩
                  have HQ12 := hide (HQ11.out.past hb12)
                  have HA12 := hide (HA11.out.past hb12)
                  have HF12 : Hid (∀ k, F3 k → Out w b P2 k ∧ k < w12.heap.size) := hide (fun k hk => ⟨(HF11.out k hk).1, Nat.lt_of_lt_of_le (HF11.out k hk).2 hb12.size⟩)
                  clear hb12 HQ11 HA11 HF11
                  obtain ⟨_, e1, e2, _, _, _⟩ := HQ12.out.facts i2 hi2
                  have hA := HQ12.out.at_ i2 hi2
                  have hnb := HQ12.out.nf i2 hi2
                  have hfg := HQ12.out.fg i2 i2 hi2 hi2
                  rw [HXb.out] at e1 e2 hA hnb hfg
                  have hfit := hA.ring.fits
                  have hrn := hA.ring
                  rw [HPb.out] at hrn
                  have HRNc := hide hrn
                  have HRwc := hide hA.row
                  have HNbc := hide hnb
                  have HFgc := hide hfg
                  obtain ⟨k3, hk3⟩ : ∃ k3, min 3 (xb.cap - xb.L.length) = k3 := ⟨_, rfl⟩
                  have HK3 := hide hk3
                  have h12 := al_below w12 (.cells #[.int .i64 1, .int .i64 2, .int .i64 3] 3)
                  have HRx := hide ((Reads.below hA.row.reads h12).kept (w' := (w12.alloc (.cells #[.int .i64 1, .int .i64 2, .int .i64 3] 3)).drew) (fun _ _ h => h))
                  have HLt : Hid (Reads (w12.alloc (.cells #[.int .i64 1, .int .i64 2, .int .i64 3] 3)).drew 1 (.slice (some ⟨w12.heap.size, 0, none⟩) 3 3) 3 (ints [1, 2, 3])) := hide ((lit_row w12 (ints [1, 2, 3]) 3 3 rfl (by omega)).drew.reads)
                  have e1a : (w12.alloc (.cells #[.int .i64 1, .int .i64 2, .int .i64 3] 3)).cell? ⟨b, 4 + i2 * 2, none⟩ = some (.int .i64 xb.cap) := ref.cellN e1
                  have e2a : (w12.alloc (.cells #[.int .i64 1, .int .i64 2, .int .i64 3] 3)).cell? ⟨b, 4 + i2 * 2 + 1, none⟩ = some (.slice xb.A xb.L.length xb.c) := ref.cellN e2
                  have HC12 := hide ((h12.block b HQ12.out.size).trans HQ12.out.cells)
                  clear hA hnb hfg hrn hk3 h12
                  go_upto_region 51 with fail
                  go_region_law (first
                    | (go_simp; go_at_call 34; ((with_reducible refine (ref.push_any (w12.alloc (.cells #[.int .i64 1, .int .i64 2, .int .i64 3] 3)).drew xb.cap xb.L.length xb.A xb.c xb.L HRx.out (some ⟨w12.heap.size, 0, none⟩) 3 3 [1, 2, 3] HLt.out (Nat.le_refl _) hfit.1 hfit.2 k3 HK3.out).mono ?_); rintro e w13 ⟨A13, c13, rfl, hr13, hb13⟩; have HR13 := hide hr13; have HB13 := hide hb13; have g1 := (hb13.cell (World.block_lt_of_cell? (w12.alloc (.cells #[.int .i64 1, .int .i64 2, .int .i64 3] 3)).drew ⟨b, 4 + i2 * 2, none⟩ e1a)).trans e1a; have g2 := (hb13.cell (World.block_lt_of_cell? (w12.alloc (.cells #[.int .i64 1, .int .i64 2, .int .i64 3] 3)).drew ⟨b, 4 + i2 * 2 + 1, none⟩ e2a)).trans e2a; have hc13 := (hb13.block b (Array.getElem?_eq_some_iff.1 HC12.out).1).trans HC12.out; have HC13 := hide hc13; have g3 := frozen_of_row w13 b (4 + i2 * 2) _ _ hc13; have g4 := frozen_of_row w13 b (4 + i2 * 2 + 1) _ _ hc13; clear hr13 hb13 hc13))
                    | fail)
                  all_goals as_aux_lemma =>
                    have hD51 : D51 b i2 k3 P2 xb w12 ((w13.setCell ⟨b, 4 + i2 * 2, none⟩ (.int .i64 xb.cap)).setCell ⟨b, 4 + i2 * 2 + 1, none⟩ (.slice A13 (xb.L.length + k3) c13)) := by
                      have hz := al_below w12 (.cells #[.int .i64 1, .int .i64 2, .int .i64 3] 3)
                      exact ⟨A13, c13, w13, rfl, HR13.out.mono (fun k hk _ => Nat.le_trans hz.size hk), HC13.out, (hz.drew).trans (HB13.out.mono (show w12.heap.size ≤ (w12.alloc (.cells #[.int .i64 1, .int .i64 2, .int .i64 3] 3)).heap.size from hz.size))⟩
                    have HD := hide hD51
                    obtain ⟨wf, hwf⟩ : ∃ wf, (w13.setCell ⟨b, 4 + i2 * 2, none⟩ (.int .i64 xb.cap)).setCell ⟨b, 4 + i2 * 2 + 1, none⟩ (.slice A13 (xb.L.length + k3) c13) = wf := ⟨_, rfl⟩
                    rw [hwf] at HD
                    rw [hwf]
                    clear hD51 hwf g1 g2 g3 g4 e1 e2 e1a e2a HR13 HB13 HC13 HRx HLt HC12
                    obtain ⟨A14, c14, w14, hwf, hr13, hc13, hb13⟩ := HD.out
                    obtain ⟨Lq, hLq⟩ : ∃ Lq, xb.L ++ [1, 2, 3].take k3 = Lq := ⟨_, rfl⟩
                    have hLn : xb.L.length + k3 = Lq.length := by rw [← hLq, List.length_append, List.length_take]; have := HK3.out; simp; omega
                    rw [hLq] at hr13
                    rw [hLn] at hr13 hwf
                    have hst := store_m hc13 i2 hi2 ⟨.pointer a, xb.F, xb.cap, Lq, A14, c14, fun _ => False⟩ (by rw [HXb.out, HPb.out])
                    have hms := ((Mod.refl (fun k => k = b) w14).setCell (p := ⟨b, 4 + i2 * 2, none⟩) (fun _ => rfl) (.int .i64 xb.cap)).setCell (p := ⟨b, 4 + i2 * 2 + 1, none⟩) (fun _ => rfl) (.slice A14 Lq.length c14)
                    have hst : wf.heap[b]? = some (.cells (rwCells (upd P2 i2 ⟨.pointer a, xb.F, xb.cap, Lq, A14, c14, fun _ => False⟩)) 64 (0, 0)) := by rw [hwf]; exact hst
                    rw [← hwf] at hms
                    have hb12 := HQ12.out.size
                    have hs13 := hb13.size
                    have hsf := hms.size
                    have hnr := (HRNc.out.kept (Mod.ofBelow hb13 (fun _ => False)) (fun _ _ h => h)).kept hms (fun k hk e => HNbc.out (e ▸ hk))
                    have hnr2 := hnr.kept ((Mod.refl (fun _ => False) wf).alloc (.cells #[.int .i64 1, .int .i64 2, .int .i64 3] 3)) (fun _ _ h => h)
                    have hrw13 := ((hr13.mono (G := fun k => w12.heap.size ≤ k ∧ k < w14.heap.size) (fun k hk hl => ⟨hk, hl⟩)).kept hms (fun k hk _ e => by have := hk.1; omega)).alloc (.cells #[.int .i64 1, .int .i64 2, .int .i64 3] 3)
                    have hsa : (wf.alloc (.cells #[.int .i64 1, .int .i64 2, .int .i64 3] 3)).heap.size = wf.heap.size + 1 := by simp
                    have hx0 : ∀ k, xb.F k → k < w12.heap.size := HRNc.out.lt
                    have e0 : wf.cell? ⟨b, i2, none⟩ = some (.pointer a) := by rw [cell_of_row wf b i2 _ _ _ hst, (rw_at _ i2 hi2).1, upd_same]
                    have HRNf := hide hnr2
                    have HRow13 := hide hrw13
                    have HST := hide hst
                    have HSa := hide hsa
                    have HX0 := hide hx0
                    have HLq := hide hLq
                    have HRof : Hid (RdOut (wf.alloc (.cells #[.int .i64 1, .int .i64 2, .int .i64 3] 3)) xb.F (.slice (some ⟨wf.heap.size, 0, none⟩) 3 3) 3 (ints [1, 2, 3])) := hide (rdOut_row (G := fun k => k = wf.heap.size) (lit_row wf (ints [1, 2, 3]) 3 3 rfl (by omega)) (fun k hk e => by have := hx0 k hk; omega))
                    have HMA : Hid (Mod (fun k => k = b ∨ (P2 i2).F k) w12 (wf.alloc (.cells #[.int .i64 1, .int .i64 2, .int .i64 3] 3))) := hide (((Mod.ofBelow hb13 (fun k => k = b ∨ (P2 i2).F k)).trans hms (fun k _ hk => .inl hk)).alloc (.cells #[.int .i64 1, .int .i64 2, .int .i64 3] 3))
                    clear hwf hr13 hc13 hb13 hst hms hnr hnr2 hrw13 hsa hx0 hLn hLq HD
                    go_wp2_with fail
                    refine (RI.push_n HRNf.out HRof.out (Nat.le_refl 3) k3 HK3.out).mono ?_
                    rintro e w15 ⟨rfl, hr15, hm15⟩
                    rw [HLq.out] at hr15
                    have hs15 := hm15.size
                    have hsa := HSa.out
                    have hmAll := HMA.out.trans hm15 (fun k _ hk => .inr (by rw [HXb.out]; exact hk))
                    have hF : ∀ k, Wide xb.F (wf.alloc (.cells #[.int .i64 1, .int .i64 2, .int .i64 3] 3)) w15 k → (P2 i2).F k ∨ w12.heap.size ≤ k := fun k hk => hk.imp (fun h => by rw [HXb.out]; exact h) (fun h => by have := h.1; omega)
                    have hG : ∀ k, (w12.heap.size ≤ k ∧ k < w14.heap.size) → (P2 i2).G k ∨ w12.heap.size ≤ k := fun k hk => .inr hk.1
                    have hq15 := HQ12.out.step i2 hi2 ⟨.pointer a, Wide xb.F (wf.alloc (.cells #[.int .i64 1, .int .i64 2, .int .i64 3] 3)) w15, xb.cap, Lq, A14, c14, fun k => w12.heap.size ≤ k ∧ k < w14.heap.size⟩ hmAll
                      ⟨hr15, HRow13.out.kept hm15 (fun k hk _ hf => by have := HX0.out k hf; have := hk.1; omega), fun k hk => by have := hk.2; show k < w15.heap.size; omega⟩ hF hG
                      (fun k hk hg => hk.elim (fun h => by have := HX0.out k h; have := hg.1; omega) (fun h => by have := h.1; have := hg.2; omega))
                      (by
                        have h2 : (wf.alloc (.cells #[.int .i64 1, .int .i64 2, .int .i64 3] 3)).heap[b]? = some (.cells (rwCells (upd P2 i2 ⟨.pointer a, xb.F, xb.cap, Lq, A14, c14, fun _ => False⟩)) 64 (0, 0)) := ((al_below wf (.cells #[.int .i64 1, .int .i64 2, .int .i64 3] 3)).block b (by omega)).trans HST.out
                        have h := hm15.heap h2 HNbc.out
                        rw [rw_upd P2 i2 hi2] at h ⊢
                        exact h)
                    obtain ⟨hap15, hfo15⟩ := ap_turn HA12.out HF12.out HG11.out hi2 (x := ⟨.pointer a, Wide xb.F (wf.alloc (.cells #[.int .i64 1, .int .i64 2, .int .i64 3] 3)) w15, xb.cap, Lq, A14, c14, fun k => w12.heap.size ≤ k ∧ k < w14.heap.size⟩) hmAll hF hG
                    obtain ⟨P3, hP3⟩ : ∃ P3, upd P2 i2 ⟨.pointer a, Wide xb.F (wf.alloc (.cells #[.int .i64 1, .int .i64 2, .int .i64 3] 3)) w15, xb.cap, Lq, A14, c14, fun k => w12.heap.size ≤ k ∧ k < w14.heap.size⟩ = P3 := ⟨_, rfl⟩
                    rw [hP3] at hq15 hfo15
                    have H6 : Hid (L6 w b P3 Aa ca F3 w15) := hide ⟨K3, L3, hap15, hfo15, HN11.out, hq15⟩
                    clear hr15 hm15 hs15 hsa hmAll hF hG hq15 hap15 hfo15 hP3 HMA HRof HLq HX0 HSa HST HRow13 HRNf HA12 HF12 HG11 HN11 HQ12 HRNc HRwc HNbc HFgc HK3 e0 hs13 hsf hb12
                    go_wp2_with fail
                    go_loopw [267] (fun t wq => ∃ q : Nat, q ≤ 18 ∧ t = .int .i64 q ∧ Hid (L6 w b P3 Aa ca F3 wq)) (fun t _ => 18 - (intOf t).toNat)
                    case atStart => exact ⟨0, Nat.zero_le _, rfl, H6⟩
                    case round =>
                      clear H6
                      obtain ⟨q, hq, rfl, H6⟩ := hrel
                      by_cases hq18 : q < 18
                      · as_aux_lemma =>
                        obtain ⟨K, L, hA, hO, hN, hQ⟩ := H6.out
                        have hKl := hA.len
                        obtain ⟨⟨yv, yn, yx⟩, hy⟩ : ∃ y, K[q]? = some y := ⟨_, List.getElem?_eq_getElem (by omega)⟩
                        obtain ⟨p0, hp0, hv0, hrow0⟩ := hA.row_at hy
                        obtain ⟨Ay, cy, hyv, _⟩ := hrow0.shape
                        have hyv : yv = .slice Ay yn cy := hyv
                        subst hyv
                        have hyn : yn ≤ 2147483647 := hN _ (List.mem_of_getElem? hy)
                        have HY := hide (get_vs (f := fun z : Lx => z.v) hy)
                        have HRd := hide hA.row.reads
                        have HYg := hide hy
                        have HNK := hide hN
                        have H7 : Hid (L7 w b P3 Aa ca F3 K q (.slice Ay yn cy) yn wr) := hide ⟨yx, L, by
                          have e : K.set q ⟨.slice Ay yn cy, yn, yx⟩ = K := by
                            obtain ⟨hj, he⟩ := List.getElem?_eq_some_iff.1 hy
                            conv => lhs; rw [← he]
                            rw [List.set_getElem_self]
                          rw [e]; exact hA, hO, hQ⟩
                        clear hA hO hN hQ hKl hy hp0 hv0 hrow0 H6
                        go_wp2_with (first
                          | ((with_reducible refine at_index rfl ?_); refine wpList_at1 rfl rfl _ _ 66 38 _ rfl rfl rfl (by simp) Tryd.underlying66 size_list agg_list rfl HRd.out rfl (by omega) (by omega) HY.out ?_; intro q')
                          | fail)
                        go_loopw [273] (fun t wq => ∃ j : Nat, j ≤ yn ∧ t = .int .i64 j ∧ Hid (L7 w b P3 Aa ca F3 K q (.slice Ay yn cy) yn wq)) (fun t _ => yn - (intOf t).toNat)
                        case atStart => exact ⟨0, Nat.zero_le _, rfl, H7⟩
                        case round =>
                          clear H7
                          obtain ⟨j, hj, rfl, H7⟩ := hrel
                          by_cases hjy : j < yn
                          · obtain ⟨xs, Lc, hA, hO, hQ⟩ := H7.out
                            obtain ⟨p1, hp1, hrow1, hnext⟩ := hA.set (by decide) (get_set_same HYg.out)
                            have hrow1 : Row wr (fun k => p1.F k ∧ OfE wr 3 k) 3 1 (.slice Ay yn cy) yn xs := hrow1
                            have HRow := hide hrow1
                            have HNext := hide hnext
                            have HO := hide hO
                            have HQ := hide hQ
                            have HPf : Hid (∀ k, p1.F k → Foot Lc k) := hide (fun k hk => ⟨p1, List.mem_of_getElem? hp1, hk⟩)
                            clear hA hO hQ hp1 hrow1 hnext H7 HY HRd
                            go_wp2_with (first
                              | ((with_reducible refine at_index rfl ?_); refine wpList_put1 rfl rfl _ _ _ 38 3 _ rfl rfl rfl rfl (by simp) Tryd.underlying38 size_int3 rfl HRow.out rfl (by omega) (by omega) (fun _ => rfl) rfl ?_; intro p2 w2 hr2 hm2; have HR2 := hide hr2; have HM2 := hide hm2; clear hr2 hm2)
                              | fail)
                            go_roundw
                            case rel =>
                              have h := HR2.out
                              rw [Int.toNat_natCast] at h
                              obtain ⟨Ld, hf', hA'⟩ := HNext.out _ _ h HM2.out
                              exact ⟨j + 1, by omega, by go_num, hide ⟨_, Ld, by rw [List.set_set] at hA'; exact hA', fun k hk => HO.out k ((hf' k).1 hk), HQ.out.other HM2.out (fun k hk => HO.out k (HPf.out k hk.1))⟩⟩
                            case measure => simp [intOf]; omega
                          · obtain rfl : j = yn := by omega
                            have H6' : Hid (L6 w b P3 Aa ca F3 wr) := hide (by
                              obtain ⟨xs, Lc, hA, hO, hQ⟩ := H7.out
                              exact ⟨_, Lc, hA, hO, fun y hy => (List.mem_or_eq_of_mem_set hy).elim (HNK.out y) (fun e => by subst e; exact hyn), hQ⟩)
                            clear H7
                            go_wp2_with fail
                            go_roundw
                            case rel => exact ⟨q + 1, by omega, by go_num, H6'⟩
                            case measure => simp [intOf]; omega
                      · obtain rfl : q = 18 := by omega
                        obtain ⟨K, L, hA, hO, hN, hQ⟩ := H6.out
                        have HQ := hide hQ
                        clear hA hO hN hQ H6
                        go_wp2_with fail
                        refine (seen_true w wr b P3 HQ.out i2 hi2).mono ?_
                        rintro e w16 ⟨rfl, hb16⟩
                        have HQ16 := hide (HQ.out.past hb16)
                        clear hb16
                        go_wp2
                        go_roundw
                        case rel => exact ⟨i2 + 1, by omega, by go_num, hide ⟨P3, HQ16.out⟩⟩
                        case measure => simp [intOf]; omega
        · obtain rfl : i2 = 4 := by omega
          go_wp2_with fail
          go_ret
          exact ⟨rfl, HQ.out.below⟩
end Go.Proofs.YtcalamofccdldaaDoor.ringMemory

