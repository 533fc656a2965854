import Derived.Test.YtipfjnjjfojdgaaDoorTStepL
import Derived.Test.YtipfjnjjfojdgaaDoorTRText
import Derived.Test.YtipfjnjjfojdgaaDoorTFix
import Derived.Deep.DeepCutAuto
/- TraceAnswers. Printed by gen_ta.py. -/
namespace Go.Proofs.YtipfjnjjfojdgaaDoor
open Go Go.RowKit Go.Cu Go.Proofs.YtipfjnjjfojdgaaDoor.errs
namespace traceAnswers

/-- between two rounds -/
structure Rel (none : Bool) (w0 w : World) (pv : Value) (q : Nat) (A : Option Addr) (n c : Nat) (D F : Nat → Prop) (R : List Rw) (N i rem : Nat) : Prop where
  hd : HD none w0.heap.size w pv D F (docV A n c) R R
  wl : Wl R N i
  room : N + rem ≤ 1048576
  below : Below w0.heap.size w0 w
  box : w.heap[q]? = some (.cells #[.slice A n c] 44 (0, 0))
  far : ∀ k, D k ∨ F k → k ≠ q
  low : w0.heap.size ≤ q
set_option maxRecDepth 100000 in
set_option maxHeartbeats 8000000 in
theorem walk (w : World) (adr : Nat → Addr) (hS : Sent w adr) (hT : Tab w) (none : Bool) (sv : Value) (ns : Nat) (ops : List OpD) (hO : Ops w sv ns ops) :
    Calls Tryd.prog 5 #[.bool none, sv] w fun e w' => e = .returned (.bool true) ∧ Below w.heap.size w w' := by
  have HS := hide hS
  have HT := hide hT
  have HO := hide hO
  obtain ⟨SA, sc, rfl⟩ := hO.reads.shape
  have HN : Hid (ns ≤ 1048576) := hide (by have := hO.sum; have := hO.length; omega)
  have HRem : Hid (rem ops 0 ≤ 1048576) := hide (by have := hO.sum; unfold rem; rw [List.drop_zero]; omega)
  clear hS hT hO
  go_enter Tryd.func5, Tryd.ntmps5
  go_wp2_with fail
  refine (fixed_any w adr HS.out HT.out).mono ?_
  rintro e w1 ⟨rfl, hb1⟩
  have HB1 := hide hb1
  clear hb1
  go_wp2_with fail
  refine (new_hist w1).mono ?_
  rintro e w2 ⟨c0, rfl, hh, hb2⟩
  have HH := hide hh
  have HB2 := hide hb2
  clear hh hb2
  go_upto_if 14 with (fail)
  go_cut [5] (fun v wx => w2 = wx ∧ Hid (HM none w2 v (fun k => w1.heap.size ≤ k ∧ k < w2.heap.size) []))
  case first =>
    cases none with
    | true =>
      go_wp2
      go_meet
      case rel => exact ⟨rfl, hide ⟨.inr ⟨rfl, rfl, rfl⟩⟩⟩
    | false =>
      go_wp2
      go_meet
      case rel => exact ⟨rfl, hide ⟨.inl ⟨rfl, c0, rfl, HH.out⟩⟩⟩
  case rest =>
    obtain ⟨rfl, hx⟩ := hcut
    have HM0 := hx
    clear hx HH
    obtain ⟨wm0, hwm0⟩ : ∃ wm0, w2.alloc (.cells #[.slice Option.none 0 0] 44) = wm0 := ⟨_, rfl⟩
    obtain ⟨q, hq⟩ : ∃ q, w2.heap.size = q := ⟨_, rfl⟩
    have hb0 : wm0.heap[q]? = some (.cells #[.slice Option.none 0 0] 44 (0, 0)) := by rw [← hwm0, ← hq]; exact heap_alloc_new w2 _
    have hbm0 : Below w2.heap.size w2 wm0 := by rw [← hwm0]; exact below_alloc w2 _
    have HBq : Hid (Below w.heap.size w wm0 ∧ w.heap.size ≤ q) := hide ⟨HB1.out.trans ((HB2.out.trans (hbm0.mono HB2.out.size)).mono HB1.out.size), by rw [← hq]; exact Nat.le_trans HB1.out.size HB2.out.size⟩
    obtain ⟨k0, f0⟩ := box1 hb0
    obtain ⟨wm, hwm⟩ : ∃ wm, wm0.setCell ⟨q, 0, Option.none⟩ (.slice Option.none 0 0) = wm := ⟨_, rfl⟩
    have hmm : Mod (fun k => k = q) wm0 wm := by rw [← hwm]; exact Mod.setCell (F := fun k => k = q) (Mod.refl (fun k => k = q) wm0) (p := ⟨q, 0, Option.none⟩) (fun _ => rfl) _
    have hbm : wm.heap[q]? = some (.cells #[.slice Option.none 0 0] 44 (0, 0)) := by
      have h := heap_setCell_same _ q 0 _ 44 (.slice Option.none 0 0) hb0
      rw [hwm] at h
      simpa using h
    have hblm : Below w.heap.size w wm := by rw [← hwm]; exact HBq.out.1.setCell (p := ⟨q, 0, Option.none⟩) HBq.out.2 _
    have HR0 : Hid (Rel none w wm u5 q Option.none 0 0 (fun k => w1.heap.size ≤ k ∧ k < w2.heap.size) (fun _ => False) [] 0 0 (rem ops 0)) := hide ⟨⟨(HM0.out.past hbm0).kept hmm (fun k hk _ e => by omega), Doc.start _ _, fun k hk => ⟨Nat.le_trans HB1.out.size hk.1, Nat.lt_of_lt_of_le hk.2 (Nat.le_trans hbm0.size hmm.size)⟩, fun _ h => h.elim, fun _ _ h => h⟩, Wl.start, by have := HRem.out; omega, hblm, hbm, fun k hk => hk.elim (fun h => by omega) (fun h => h.elim), HBq.out.2⟩
    clear hb0 hbm0 hmm hbm hblm
    go_upto_region 7 with fail
    try rw [hwm]
    clear k0 f0 hwm0 hq hwm HB1 HB2 HBq HM0
    go_wp2
    go_loopw [18] (fun s wr => ∃ i : Nat, i ≤ ns ∧ s = .int .i64 i ∧ Hid (∃ A n c D F R N, Rel none w wr u5 q A n c D F R N i (rem ops i))) (fun s _ => ns - (intOf s).toNat)
    case atStart => exact ⟨0, Nat.zero_le _, rfl, hide ⟨_, _, _, _, _, _, _, HR0.out⟩⟩
    case round =>
      clear HR0
      obtain ⟨i, hi, rfl, HR⟩ := hrel
      obtain ⟨A, n, c, D, F, R, N, hr⟩ := HR.out
      have HRl := hide hr
      clear hr HR
      obtain ⟨m0, _⟩ := box1 HRl.out.box
      by_cases hlt : i < ns
      · obtain ⟨o, ho⟩ : ∃ o, ops[i]? = some o := ⟨_, List.getElem?_eq_getElem (by have := HO.out.length; omega)⟩
        have hroom := HRl.out.room
        rw [rem_at ho] at hroom
        have HRoom := hide hroom
        have HU := hide (flat_get opCell_length ho)
        have HScr := hide (HO.out.reads.kept (fun a v hc => (HRl.out.below.cell (World.block_lt_of_cell? w a hc)).trans hc))
        obtain ⟨w4, qo, hw4, hqo, hal, b0, b1, b2, b3, b4, hbx⟩ := op_box wr o
        have HO0 := hide (HO.out.each o (List.mem_of_getElem? ho))
        have HD4 := hide (HRl.out.hd.past hal)
        have HB4 := hide (HRl.out.below.trans (hal.mono HRl.out.below.size))
        have HBo := hide hbx
        have HQo : Hid (wr.heap.size = qo) := hide hqo.symm
        have HAl := hide hal
        have hstep := step_any w w4 adr HS.out HB4.out HD4.out HRl.out.wl o HO0.out (by omega) (by have := HN.out; omega)
        have HStep := hide hstep
        have m4 := cell_later hal m0
        clear ho hroom hal hbx hstep m0
        go_upto_region 10 with (first
          | ((with_reducible refine at_index rfl ?_); refine wpList_atS rfl rfl _ _ 22 28 _ rfl rfl rfl (by simp) Tryd.underlying22 (by decide) size_op agg_op rfl HScr.out rfl (by omega) (by omega) (us := [.int .i64 o.kind, .int .i64 o.key, .int .i64 o.n, .bool o.next, .slice o.A o.len o.c]) rfl HU.out ?_; intro zz)
          | fail)
        try rw [← hw4]
        try rw [← hqo]
        clear hw4 hqo
        go_wp2_with fail
        refine HStep.out.mono ?_
        clear HStep
        rintro r w5 ⟨v', D', F', R', rfl, hd5, hw5, hb5, hm5, hf5⟩
        obtain ⟨A', n', c', rfl⟩ := hd5.d.val
        have hqlt : q < wr.heap.size := (Array.getElem?_eq_some_iff.1 HRl.out.box).1
        have hq4 : w5.heap[q]? = some (.cells #[.slice A n c] 44 (0, 0)) := hm5.heap (below_at HAl.out HRl.out.box) (fun h => HRl.out.far q (.inl h) rfl)
        have ho5 : w5.heap[qo]? = some (.cells (opA o) 28 (0, 0)) := hm5.heap HBo.out (fun h => by have := (HRl.out.hd.ld qo h).2; have := HQo.out; omega)
        obtain ⟨w6, hw6⟩ : ∃ w6, w5.alloc (.cells #[.slice Option.none 0 0] 44) = w6 := ⟨_, rfl⟩
        obtain ⟨q9, hq9⟩ : ∃ q9, w5.heap.size = q9 := ⟨_, rfl⟩
        obtain ⟨w7, hw7⟩ : ∃ w7, w6.setCell ⟨q9, 0, Option.none⟩ (.slice A' n' c') = w7 := ⟨_, rfl⟩
        obtain ⟨w8, hw8⟩ : ∃ w8, w7.setCell ⟨q, 0, Option.none⟩ (.slice A' n' c') = w8 := ⟨_, rfl⟩
        have hb9 : w6.heap[q9]? = some (.cells #[.slice Option.none 0 0] 44 (0, 0)) := by rw [← hw6, ← hq9]; exact heap_alloc_new w5 _
        have hb97 : w7.heap[q9]? = some (.cells #[.slice A' n' c'] 44 (0, 0)) := by
          have h := heap_setCell_same _ q9 0 _ 44 (.slice A' n' c') hb9
          rw [hw7] at h
          simpa using h
        have hbl7 : Below w5.heap.size w5 w7 := by rw [← hw7, ← hw6]; exact (below_alloc w5 _).setCell (p := ⟨q9, 0, Option.none⟩) (by show w5.heap.size ≤ q9; omega) _
        have hq7 := below_at hbl7 hq4
        have hm8 : Mod (fun k => k = q) w7 w8 := by rw [← hw8]; exact Mod.setCell (F := fun k => k = q) (Mod.refl (fun k => k = q) w7) (p := ⟨q, 0, Option.none⟩) (fun _ => rfl) _
        have hq8 : w8.heap[q]? = some (.cells #[.slice A' n' c'] 44 (0, 0)) := by
          have h := heap_setCell_same _ q 0 _ 44 (.slice A' n' c') hq7
          rw [hw8] at h
          simpa using h
        have ho8 : w8.heap[qo]? = some (.cells (opA o) 28 (0, 0)) := hm8.heap (below_at hbl7 ho5) (fun e => by have := HQo.out; omega)
        have hfq : ∀ k, D' k ∨ F' k → k ≠ q := fun k hk => by
          rcases hf5 k hk with h | h
          · exact HRl.out.far k h
          · have := HAl.out.size; omega
        have hb8 : Below w.heap.size w w8 := by rw [← hw8]; exact (hb5.trans (hbl7.mono hb5.size)).setCell (p := ⟨q, 0, Option.none⟩) HRl.out.low _
        have HD8 := hide (((hd5.past hbl7).kept hm8 (fun k hk => hfq k (.inl hk)) (fun k hk => hfq k (.inr hk))).past ((Below.refl _ _).drew))
        have HFq := hide hfq
        have HB8 := hide hb8.drew
        have HQ8 : Hid (w8.drew.heap[q]? = some (.cells #[.slice A' n' c'] 44 (0, 0))) := hide hq8
        have HO8 : Hid (w8.drew.heap[qo]? = some (.cells (opA o) 28 (0, 0))) := hide ho8
        have HW8 := hide hw5
        obtain ⟨k9, f9⟩ := box1 hb9
        obtain ⟨k97, _⟩ := box1 hb97
        obtain ⟨kq7, fq7⟩ := box1 hq7
        clear hqlt hq4 ho5 hb9 hb97 hbl7 hq7 hm8 hq8 ho8 hfq hb8 hd5 hw5 hb5 hm5 hf5
        go_upto_region 12 with fail
        try rw [hw8]
        clear hw6 hq9 hw7 hw8 k9 f9 k97 kq7 fq7 m4 b0 b1 b2 b3 b4
        obtain ⟨a0, _⟩ := box1 HQ8.out
        obtain ⟨_, a1, _⟩ := (box5 HO8.out).1
        have hHeld := And.intro a0 a1
        have HLen : Hid (R'.length ≤ 1048577) := hide (by have := HW8.out.len; have := HN.out; omega)
        have HN8 : Hid (N + o.len ≤ 1048576) := hide (by have := HRoom.out; omega)
        go_cut [56] (fun v wx => v = .bool false ∧ Hid (Below w8.drew.heap.size w8.drew wx))
        case first => as_aux_lemma =>
          have HDa := HD8
          have HBa := HB8
          have HLa : Hid (Below w8.drew.heap.size w8.drew w8.drew) := hide (Below.refl _ _)
          refine wp_region_held_n (n := 26) (l := #[false, false, false, false, false, false, false, false, false, false, false, false, false, false, false, false, false, false, false, false, false, false, false, false, false, false]) (S := (fun w' => w'.cell? ⟨q, 0, Option.none⟩ = some (.slice A' n' c') ∧ w'.cell? ⟨qo, 1, Option.none⟩ = some (.int .i64 o.key))) rfl rfl (by kernel_rfl) ⟨a0, a1⟩ ?_
          refine wpAnyH_yields (i := 0) (oi := ?_) (v := ?_) ?_ (by kernel_rfl) (by kernel_rfl) (by kernel_rfl) (by assumption) ?_ ?_ ?_ ?_
          rotate_left 2
          · (simp only [List.getElem?_toArray, List.getElem?_cons_zero] <;> exact rfl)
          · rfl
          · (intro w' hSw; obtain ⟨g0, g1⟩ := hSw; go_simp <;> with_reducible rfl)
          · exact fun _ _ _ h => h
          simp only [Act.put, List.setIfInBounds_toArray, List.set]
          refine wpAnyH_yields (i := 1) (oi := ?_) (v := ?_) ?_ (by kernel_rfl) (by kernel_rfl) (by kernel_rfl) (by assumption) ?_ ?_ ?_ ?_
          rotate_left 2
          · (simp only [List.getElem?_toArray, List.getElem?_cons_succ, List.getElem?_cons_zero] <;> exact rfl)
          · rfl
          · (intro w' hSw; obtain ⟨g0, g1⟩ := hSw; go_simp <;> with_reducible rfl)
          · exact fun _ _ _ h => h
          simp only [Act.put, List.setIfInBounds_toArray, List.set]
          refine wpAnyH_yields (i := 2) (oi := ?_) (v := ?_) ?_ (by kernel_rfl) (by kernel_rfl) (by kernel_rfl) (by assumption) ?_ ?_ ?_ ?_
          rotate_left 2
          · (simp only [List.getElem?_toArray, List.getElem?_cons_succ, List.getElem?_cons_zero] <;> exact rfl)
          · rfl
          · (intro w' hSw; obtain ⟨g0, g1⟩ := hSw; go_simp <;> with_reducible rfl)
          · exact fun _ _ _ h => h
          simp only [Act.put, List.setIfInBounds_toArray, List.set]
          refine wpAnyH_yields (i := 3) (oi := ?_) (v := ?_) ?_ (by kernel_rfl) (by kernel_rfl) (by kernel_rfl) (by assumption) ?_ ?_ ?_ ?_
          rotate_left 2
          · (simp only [List.getElem?_toArray, List.getElem?_cons_succ, List.getElem?_cons_zero] <;> exact rfl)
          · rfl
          · (intro w' hSw; obtain ⟨g0, g1⟩ := hSw; go_simp <;> with_reducible rfl)
          · exact fun _ _ _ h => h
          simp only [Act.put, List.setIfInBounds_toArray, List.set]
          refine wpAnyH_yields (i := 4) (oi := ?_) (v := ?_) ?_ (by kernel_rfl) (by kernel_rfl) (by kernel_rfl) (by assumption) ?_ ?_ ?_ ?_
          rotate_left 2
          · (simp only [List.getElem?_toArray, List.getElem?_cons_succ, List.getElem?_cons_zero] <;> exact rfl)
          · rfl
          · (intro w' hSw; obtain ⟨g0, g1⟩ := hSw; go_simp <;> with_reducible rfl)
          · exact fun _ _ _ h => h
          simp only [Act.put, List.setIfInBounds_toArray, List.set]
          refine wpAnyH_yields (i := 5) (oi := ?_) (v := ?_) ?_ (by kernel_rfl) (by kernel_rfl) (by kernel_rfl) (by assumption) ?_ ?_ ?_ ?_
          rotate_left 2
          · (simp only [List.getElem?_toArray, List.getElem?_cons_succ, List.getElem?_cons_zero] <;> exact rfl)
          · rfl
          · (intro w' hSw; obtain ⟨g0, g1⟩ := hSw; go_simp <;> with_reducible rfl)
          · exact fun _ _ _ h => h
          simp only [Act.put, List.setIfInBounds_toArray, List.set]
          refine wpAnyH_yields (i := 6) (oi := ?_) (v := ?_) ?_ (by kernel_rfl) (by kernel_rfl) (by kernel_rfl) (by assumption) ?_ ?_ ?_ ?_
          rotate_left 2
          · (simp only [List.getElem?_toArray, List.getElem?_cons_succ, List.getElem?_cons_zero] <;> exact rfl)
          · rfl
          · (intro w' hSw; obtain ⟨g0, g1⟩ := hSw; go_simp <;> with_reducible rfl)
          · exact fun _ _ _ h => h
          simp only [Act.put, List.setIfInBounds_toArray, List.set]
          refine wpAnyH_ready (rs := [7]) (by kernel_rfl) (by simp) (AllReadyH.cons (o := ?_) ?_ (fun K hK => ?_) AllReadyH.nil)
          rotate_left 1
          · (simp only [List.getElem?_toArray, List.getElem?_cons_succ, List.getElem?_cons_zero] <;> exact rfl)
          go_simp
          go_at_call 22
          refine (tells_any w8.drew HDa.out.h.hn HDa.out.d HW8.out HN8.out (by have := HN.out; omega) o.key HO0.out.key).mono ?_
          rintro r wb ⟨rfl, hb⟩
          have HDb := hide (HDa.out.past hb)
          have HBb := hide (HBa.out.trans (hb.mono HBa.out.size))
          have HLb := hide (HLa.out.trans (hb.mono HLa.out.size))
          have b0 := cell_later hb a0
          have b1 := cell_later hb a1
          clear hb hHeld a0 a1
          refine hK.out _ _ (⟨b0, b1⟩) (fun hHeld => ?_)
          clear hK K
          try simp only [List.setIfInBounds_toArray, List.set_cons_zero, List.set_cons_succ]
          refine wpAnyH_yields (i := 8) (oi := ?_) (v := ?_) ?_ (by kernel_rfl) (by kernel_rfl) (by kernel_rfl) (by assumption) ?_ ?_ ?_ ?_
          rotate_left 2
          · (simp only [List.getElem?_toArray, List.getElem?_cons_succ, List.getElem?_cons_zero] <;> exact rfl)
          · rfl
          · (intro w' hSw; obtain ⟨g0, g1⟩ := hSw; go_simp <;> with_reducible rfl)
          · exact fun _ _ _ h => h
          simp only [Act.put, List.setIfInBounds_toArray, List.set]
          refine wpAnyH_yields (i := 9) (oi := ?_) (v := ?_) ?_ (by kernel_rfl) (by kernel_rfl) (by kernel_rfl) (by assumption) ?_ ?_ ?_ ?_
          rotate_left 2
          · (simp only [List.getElem?_toArray, List.getElem?_cons_succ, List.getElem?_cons_zero] <;> exact rfl)
          · rfl
          · (intro w' hSw; obtain ⟨g0, g1⟩ := hSw; go_simp <;> with_reducible rfl)
          · exact fun _ _ _ h => h
          simp only [Act.put, List.setIfInBounds_toArray, List.set]
          refine wpAnyH_yields (i := 10) (oi := ?_) (v := ?_) ?_ (by kernel_rfl) (by kernel_rfl) (by kernel_rfl) (by assumption) ?_ ?_ ?_ ?_
          rotate_left 2
          · (simp only [List.getElem?_toArray, List.getElem?_cons_succ, List.getElem?_cons_zero] <;> exact rfl)
          · rfl
          · (intro w' hSw; obtain ⟨g0, g1⟩ := hSw; go_simp <;> with_reducible rfl)
          · exact fun _ _ _ h => h
          simp only [Act.put, List.setIfInBounds_toArray, List.set]
          refine wpAnyH_yields (i := 11) (oi := ?_) (v := ?_) ?_ (by kernel_rfl) (by kernel_rfl) (by kernel_rfl) (by assumption) ?_ ?_ ?_ ?_
          rotate_left 2
          · (simp only [List.getElem?_toArray, List.getElem?_cons_succ, List.getElem?_cons_zero] <;> exact rfl)
          · rfl
          · (intro w' hSw; obtain ⟨g0, g1⟩ := hSw; go_simp <;> with_reducible rfl)
          · exact fun _ _ _ h => h
          simp only [Act.put, List.setIfInBounds_toArray, List.set]
          refine wpAnyH_yields (i := 12) (oi := ?_) (v := ?_) ?_ (by kernel_rfl) (by kernel_rfl) (by kernel_rfl) (by assumption) ?_ ?_ ?_ ?_
          rotate_left 2
          · (simp only [List.getElem?_toArray, List.getElem?_cons_succ, List.getElem?_cons_zero] <;> exact rfl)
          · rfl
          · (intro w' hSw; obtain ⟨g0, g1⟩ := hSw; go_simp <;> with_reducible rfl)
          · exact fun _ _ _ h => h
          simp only [Act.put, List.setIfInBounds_toArray, List.set]
          refine wpAnyH_yields (i := 13) (oi := ?_) (v := ?_) ?_ (by kernel_rfl) (by kernel_rfl) (by kernel_rfl) (by assumption) ?_ ?_ ?_ ?_
          rotate_left 2
          · (simp only [List.getElem?_toArray, List.getElem?_cons_succ, List.getElem?_cons_zero] <;> exact rfl)
          · rfl
          · (intro w' hSw; obtain ⟨g0, g1⟩ := hSw; go_simp <;> with_reducible rfl)
          · exact fun _ _ _ h => h
          simp only [Act.put, List.setIfInBounds_toArray, List.set]
          refine wpAnyH_yields (i := 14) (oi := ?_) (v := ?_) ?_ (by kernel_rfl) (by kernel_rfl) (by kernel_rfl) (by assumption) ?_ ?_ ?_ ?_
          rotate_left 2
          · (simp only [List.getElem?_toArray, List.getElem?_cons_succ, List.getElem?_cons_zero] <;> exact rfl)
          · rfl
          · (intro w' hSw; obtain ⟨g0, g1⟩ := hSw; go_simp <;> with_reducible rfl)
          · exact fun _ _ _ h => h
          simp only [Act.put, List.setIfInBounds_toArray, List.set]
          refine wpAnyH_yields (i := 15) (oi := ?_) (v := ?_) ?_ (by kernel_rfl) (by kernel_rfl) (by kernel_rfl) (by assumption) ?_ ?_ ?_ ?_
          rotate_left 2
          · (simp only [List.getElem?_toArray, List.getElem?_cons_succ, List.getElem?_cons_zero] <;> exact rfl)
          · rfl
          · (intro w' hSw; obtain ⟨g0, g1⟩ := hSw; go_simp <;> with_reducible rfl)
          · exact fun _ _ _ h => h
          simp only [Act.put, List.setIfInBounds_toArray, List.set]
          refine wpAnyH_ready (rs := [16]) (by kernel_rfl) (by simp) (AllReadyH.cons (o := ?_) ?_ (fun K hK => ?_) AllReadyH.nil)
          rotate_left 1
          · (simp only [List.getElem?_toArray, List.getElem?_cons_succ, List.getElem?_cons_zero] <;> exact rfl)
          go_simp
          go_at_call 22
          refine (tells_any wb HDb.out.h.hn HDb.out.d HW8.out HN8.out (by have := HN.out; omega) _ (by first | exact wrap64_wf _ | exact wf_wrap _ _)).mono ?_
          rintro r wc ⟨rfl, hb⟩
          have HDc := hide (HDb.out.past hb)
          have HBc := hide (HBb.out.trans (hb.mono HBb.out.size))
          have HLc := hide (HLb.out.trans (hb.mono HLb.out.size))
          have c0 := cell_later hb b0
          have c1 := cell_later hb b1
          clear hb hHeld b0 b1
          refine hK.out _ _ (⟨c0, c1⟩) (fun hHeld => ?_)
          clear hK K
          try simp only [List.setIfInBounds_toArray, List.set_cons_zero, List.set_cons_succ]
          refine wpAnyH_yields (i := 17) (oi := ?_) (v := ?_) ?_ (by kernel_rfl) (by kernel_rfl) (by kernel_rfl) (by assumption) ?_ ?_ ?_ ?_
          rotate_left 2
          · (simp only [List.getElem?_toArray, List.getElem?_cons_succ, List.getElem?_cons_zero] <;> exact rfl)
          · rfl
          · (intro w' hSw; obtain ⟨g0, g1⟩ := hSw; go_simp <;> with_reducible rfl)
          · exact fun _ _ _ h => h
          simp only [Act.put, List.setIfInBounds_toArray, List.set]
          refine wpAnyH_yields (i := 18) (oi := ?_) (v := ?_) ?_ (by kernel_rfl) (by kernel_rfl) (by kernel_rfl) (by assumption) ?_ ?_ ?_ ?_
          rotate_left 2
          · (simp only [List.getElem?_toArray, List.getElem?_cons_succ, List.getElem?_cons_zero] <;> exact rfl)
          · rfl
          · (intro w' hSw; obtain ⟨g0, g1⟩ := hSw; go_simp <;> with_reducible rfl)
          · exact fun _ _ _ h => h
          simp only [Act.put, List.setIfInBounds_toArray, List.set]
          refine wpAnyH_yields (i := 19) (oi := ?_) (v := ?_) ?_ (by kernel_rfl) (by kernel_rfl) (by kernel_rfl) (by assumption) ?_ ?_ ?_ ?_
          rotate_left 2
          · (simp only [List.getElem?_toArray, List.getElem?_cons_succ, List.getElem?_cons_zero] <;> exact rfl)
          · rfl
          · (intro w' hSw; obtain ⟨g0, g1⟩ := hSw; go_simp <;> with_reducible rfl)
          · exact fun _ _ _ h => h
          simp only [Act.put, List.setIfInBounds_toArray, List.set]
          refine wpAnyH_yields (i := 20) (oi := ?_) (v := ?_) ?_ (by kernel_rfl) (by kernel_rfl) (by kernel_rfl) (by assumption) ?_ ?_ ?_ ?_
          rotate_left 2
          · (simp only [List.getElem?_toArray, List.getElem?_cons_succ, List.getElem?_cons_zero] <;> exact rfl)
          · rfl
          · (intro w' hSw; obtain ⟨g0, g1⟩ := hSw; go_simp <;> with_reducible rfl)
          · exact fun _ _ _ h => h
          simp only [Act.put, List.setIfInBounds_toArray, List.set]
          refine wpAnyH_yields (i := 22) (oi := ?_) (v := ?_) ?_ (by kernel_rfl) (by kernel_rfl) (by kernel_rfl) (by assumption) ?_ ?_ ?_ ?_
          rotate_left 2
          · (simp only [List.getElem?_toArray, List.getElem?_cons_succ, List.getElem?_cons_zero] <;> exact rfl)
          · rfl
          · (intro w' hSw; obtain ⟨g0, g1⟩ := hSw; go_simp <;> with_reducible rfl)
          · exact fun _ _ _ h => h
          simp only [Act.put, List.setIfInBounds_toArray, List.set]
          refine wpAnyH_ready (rs := [21]) (by kernel_rfl) (by simp) (AllReadyH.cons (o := ?_) ?_ (fun K hK => ?_) AllReadyH.nil)
          rotate_left 1
          · (simp only [List.getElem?_toArray, List.getElem?_cons_succ, List.getElem?_cons_zero] <;> exact rfl)
          go_simp
          go_at_call 17
          refine (hn_keys HDc.out.h.hn (by have := HLen.out; omega)).mono ?_
          rintro r wd ⟨A2, c2, rfl, hrow, hb⟩
          rw [List.length_map] at hrow ⊢
          have HKr := hide hrow.reads
          have HDd := hide (HDc.out.past hb)
          have HBd := hide (HBc.out.trans (hb.mono HBc.out.size))
          have HLd := hide (HLc.out.trans (hb.mono HLc.out.size))
          have d0 := cell_later hb c0
          have d1 := cell_later hb c1
          clear hb hHeld c0 c1 hrow
          refine hK.out _ _ (⟨d0, d1⟩) (fun hHeld => ?_)
          clear hK K
          try simp only [List.setIfInBounds_toArray, List.set_cons_zero, List.set_cons_succ]
          refine wpAnyH_ready (rs := [23]) (by kernel_rfl) (by simp) (AllReadyH.cons (o := ?_) ?_ (fun K hK => ?_) AllReadyH.nil)
          rotate_left 1
          · (simp only [List.getElem?_toArray, List.getElem?_cons_succ, List.getElem?_cons_zero] <;> exact rfl)
          go_simp
          go_at_call 23
          refine (same_keys wd HDd.out.d HLen.out A2 c2 HKr.out).mono ?_
          rintro r we ⟨rfl, hb⟩
          have HDe := hide (HDd.out.past hb)
          have HBe := hide (HBd.out.trans (hb.mono HBd.out.size))
          have HLe := hide (HLd.out.trans (hb.mono HLd.out.size))
          have e0 := cell_later hb d0
          have e1 := cell_later hb d1
          clear hb hHeld d0 d1
          refine hK.out _ _ (⟨e0, e1⟩) (fun hHeld => ?_)
          clear hK K
          try simp only [List.setIfInBounds_toArray, List.set_cons_zero, List.set_cons_succ]
          refine wpAnyH_yields (i := 24) (oi := ?_) (v := ?_) ?_ (by kernel_rfl) (by kernel_rfl) (by kernel_rfl) (by assumption) ?_ ?_ ?_ ?_
          rotate_left 2
          · (simp only [List.getElem?_toArray, List.getElem?_cons_succ, List.getElem?_cons_zero] <;> exact rfl)
          · rfl
          · (intro w' hSw; obtain ⟨g0, g1⟩ := hSw; go_simp <;> with_reducible rfl)
          · exact fun _ _ _ h => h
          simp only [Act.put, List.setIfInBounds_toArray, List.set]
          refine wpAnyH_yields (i := 25) (oi := ?_) (v := ?_) ?_ (by kernel_rfl) (by kernel_rfl) (by kernel_rfl) (by assumption) ?_ ?_ ?_ ?_
          rotate_left 2
          · (simp only [List.getElem?_toArray, List.getElem?_cons_succ, List.getElem?_cons_zero] <;> exact rfl)
          · rfl
          · (intro w' hSw; obtain ⟨g0, g1⟩ := hSw; go_simp <;> with_reducible rfl)
          · exact fun _ _ _ h => h
          simp only [Act.put, List.setIfInBounds_toArray, List.set]
          refine wpAnyH_done (by kernel_rfl) ?_ _
          go_wp2
          go_meet
          case rel => exact ⟨rfl, hide HLe.out⟩
        case rest => as_aux_lemma =>
          obtain ⟨rfl, hx⟩ := hcut
          have HR9 : Hid (Rel none w wc u5 q A' n' c' D' F' R' (N + o.len) (i + 1) (rem ops (i + 1))) := hide ⟨HD8.out.past hx.out, HW8.out, by have := HRoom.out; omega, HB8.out.trans (hx.out.mono HB8.out.size), below_at hx.out HQ8.out, HFq.out, HRl.out.low⟩
          have hnn := HN.out
          clear hx a0 a1
          go_wp2
          go_round
          case rel => exact ⟨i + 1, by omega, by go_num, hide ⟨_, _, _, _, _, _, _, HR9.out⟩⟩
          case measure => simp [intOf]; omega
      · obtain rfl : i = ns := by omega
        have HLen : Hid (R.length ≤ 1048577) := hide (by have := HRl.out.wl.len; have := HN.out; omega)
        have HN8 : Hid (N ≤ 1048576) := hide (by have := HRl.out.room; omega)
        have HD8 := hide (HRl.out.hd.past ((Below.refl wr.heap.size wr).drew))
        have HB8 := hide (HRl.out.below.drew)
        have a0 : wr.drew.cell? ⟨q, 0, Option.none⟩ = some (.slice A n c) := m0
        go_upto_region 15 with fail
        have hHeld := a0
        clear m0
        have HDa := HD8
        have HBa := HB8
        have HLa : Hid (Below wr.drew.heap.size wr.drew wr.drew) := hide (Below.refl _ _)
        refine wp_region_held_n (n := 12) (l := #[false, false, false, false, false, false, false, false, false, false, false, false]) (S := (fun w' => w'.cell? ⟨q, 0, Option.none⟩ = some (.slice A n c))) rfl rfl (by kernel_rfl) a0 ?_
        refine wpAnyH_yields (i := 0) (oi := ?_) (v := ?_) ?_ (by kernel_rfl) (by kernel_rfl) (by kernel_rfl) (by assumption) ?_ ?_ ?_ ?_
        rotate_left 2
        · (simp only [List.getElem?_toArray, List.getElem?_cons_zero] <;> exact rfl)
        · rfl
        · (intro w' hSw; go_simp <;> with_reducible rfl)
        · exact fun _ _ _ h => h
        simp only [Act.put, List.setIfInBounds_toArray, List.set]
        refine wpAnyH_yields (i := 2) (oi := ?_) (v := ?_) ?_ (by kernel_rfl) (by kernel_rfl) (by kernel_rfl) (by assumption) ?_ ?_ ?_ ?_
        rotate_left 2
        · (simp only [List.getElem?_toArray, List.getElem?_cons_succ, List.getElem?_cons_zero] <;> exact rfl)
        · rfl
        · (intro w' hSw; go_simp <;> with_reducible rfl)
        · exact fun _ _ _ h => h
        simp only [Act.put, List.setIfInBounds_toArray, List.set]
        refine wpAnyH_ready (rs := [1]) (by kernel_rfl) (by simp) (AllReadyH.cons (o := ?_) ?_ (fun K hK => ?_) AllReadyH.nil)
        rotate_left 1
        · (simp only [List.getElem?_toArray, List.getElem?_cons_succ, List.getElem?_cons_zero] <;> exact rfl)
        go_simp
        go_at_call 25
        refine (hn_text HDa.out.h.hn (HT.out.past HBa.out) (by have := HLen.out; omega) (HRl.out.wl.told (by have := HN8.out; omega))).mono ?_
        rintro r wb ⟨rfl, hb⟩
        have HDb := hide (HDa.out.past hb)
        have HBb := hide (HBa.out.trans (hb.mono HBa.out.size))
        have HLb := hide (HLa.out.trans (hb.mono HLa.out.size))
        have b0 := cell_later hb a0
        clear hb hHeld a0
        refine hK.out _ _ (b0) (fun hHeld => ?_)
        clear hK K
        try simp only [List.setIfInBounds_toArray, List.set_cons_zero, List.set_cons_succ]
        refine wpAnyH_ready (rs := [3]) (by kernel_rfl) (by simp) (AllReadyH.cons (o := ?_) ?_ (fun K hK => ?_) AllReadyH.nil)
        rotate_left 1
        · (simp only [List.getElem?_toArray, List.getElem?_cons_succ, List.getElem?_cons_zero] <;> exact rfl)
        go_simp
        go_at_call 26
        refine (text_ref wb HDb.out.d HLen.out (HT.out.past HBb.out) (HRl.out.wl.told (by have := HN8.out; omega))).mono ?_
        rintro r wc ⟨rfl, hb⟩
        have HDc := hide (HDb.out.past hb)
        have HBc := hide (HBb.out.trans (hb.mono HBb.out.size))
        have HLc := hide (HLb.out.trans (hb.mono HLb.out.size))
        have c0 := cell_later hb b0
        clear hb hHeld b0
        refine hK.out _ _ (c0) (fun hHeld => ?_)
        clear hK K
        try simp only [List.setIfInBounds_toArray, List.set_cons_zero, List.set_cons_succ]
        refine wpAnyH_yields (i := 4) (oi := ?_) (v := ?_) ?_ (by kernel_rfl) (by kernel_rfl) (by kernel_rfl) (by assumption) ?_ ?_ ?_ ?_
        rotate_left 2
        · (simp only [List.getElem?_toArray, List.getElem?_cons_succ, List.getElem?_cons_zero] <;> exact rfl)
        · rfl
        · (intro w' hSw; go_simp <;> with_reducible rfl)
        · exact fun _ _ _ h => h
        simp only [Act.put, List.setIfInBounds_toArray, List.set]
        refine wpAnyH_yields (i := 5) (oi := ?_) (v := ?_) ?_ (by kernel_rfl) (by kernel_rfl) (by kernel_rfl) (by assumption) ?_ ?_ ?_ ?_
        rotate_left 2
        · (simp only [List.getElem?_toArray, List.getElem?_cons_succ, List.getElem?_cons_zero] <;> exact rfl)
        · rfl
        · (intro w' hSw; go_simp <;> with_reducible rfl)
        · exact fun _ _ _ h => h
        simp only [Act.put, List.setIfInBounds_toArray, List.set]
        refine wpAnyH_yields (i := 6) (oi := ?_) (v := ?_) ?_ (by kernel_rfl) (by kernel_rfl) (by kernel_rfl) (by assumption) ?_ ?_ ?_ ?_
        rotate_left 2
        · (simp only [List.getElem?_toArray, List.getElem?_cons_succ, List.getElem?_cons_zero] <;> exact rfl)
        · rfl
        · (intro w' hSw; go_simp <;> with_reducible rfl)
        · exact fun _ _ _ h => h
        simp only [Act.put, List.setIfInBounds_toArray, List.set]
        refine wpAnyH_yields (i := 8) (oi := ?_) (v := ?_) ?_ (by kernel_rfl) (by kernel_rfl) (by kernel_rfl) (by assumption) ?_ ?_ ?_ ?_
        rotate_left 2
        · (simp only [List.getElem?_toArray, List.getElem?_cons_succ, List.getElem?_cons_zero] <;> exact rfl)
        · rfl
        · (intro w' hSw; go_simp <;> with_reducible rfl)
        · exact fun _ _ _ h => h
        simp only [Act.put, List.setIfInBounds_toArray, List.set]
        refine wpAnyH_ready (rs := [7]) (by kernel_rfl) (by simp) (AllReadyH.cons (o := ?_) ?_ (fun K hK => ?_) AllReadyH.nil)
        rotate_left 1
        · (simp only [List.getElem?_toArray, List.getElem?_cons_succ, List.getElem?_cons_zero] <;> exact rfl)
        go_simp
        go_at_call 17
        refine (hn_keys HDc.out.h.hn (by have := HLen.out; omega)).mono ?_
        rintro r wd ⟨A2, c2, rfl, hrow, hb⟩
        rw [List.length_map] at hrow ⊢
        have HKr := hide hrow.reads
        have HDd := hide (HDc.out.past hb)
        have HBd := hide (HBc.out.trans (hb.mono HBc.out.size))
        have HLd := hide (HLc.out.trans (hb.mono HLc.out.size))
        have d0 := cell_later hb c0
        clear hb hHeld c0 hrow
        refine hK.out _ _ (d0) (fun hHeld => ?_)
        clear hK K
        try simp only [List.setIfInBounds_toArray, List.set_cons_zero, List.set_cons_succ]
        refine wpAnyH_ready (rs := [9]) (by kernel_rfl) (by simp) (AllReadyH.cons (o := ?_) ?_ (fun K hK => ?_) AllReadyH.nil)
        rotate_left 1
        · (simp only [List.getElem?_toArray, List.getElem?_cons_succ, List.getElem?_cons_zero] <;> exact rfl)
        go_simp
        go_at_call 23
        refine (same_keys wd HDd.out.d HLen.out A2 c2 HKr.out).mono ?_
        rintro r we ⟨rfl, hb⟩
        have HDe := hide (HDd.out.past hb)
        have HBe := hide (HBd.out.trans (hb.mono HBd.out.size))
        have HLe := hide (HLd.out.trans (hb.mono HLd.out.size))
        have e0 := cell_later hb d0
        clear hb hHeld d0
        refine hK.out _ _ (e0) (fun hHeld => ?_)
        clear hK K
        try simp only [List.setIfInBounds_toArray, List.set_cons_zero, List.set_cons_succ]
        refine wpAnyH_yields (i := 10) (oi := ?_) (v := ?_) ?_ (by kernel_rfl) (by kernel_rfl) (by kernel_rfl) (by assumption) ?_ ?_ ?_ ?_
        rotate_left 2
        · (simp only [List.getElem?_toArray, List.getElem?_cons_succ, List.getElem?_cons_zero] <;> exact rfl)
        · rfl
        · (intro w' hSw; go_simp <;> with_reducible rfl)
        · exact fun _ _ _ h => h
        simp only [Act.put, List.setIfInBounds_toArray, List.set]
        refine wpAnyH_yields (i := 11) (oi := ?_) (v := ?_) ?_ (by kernel_rfl) (by kernel_rfl) (by kernel_rfl) (by assumption) ?_ ?_ ?_ ?_
        rotate_left 2
        · (simp only [List.getElem?_toArray, List.getElem?_cons_succ, List.getElem?_cons_zero] <;> exact rfl)
        · rfl
        · (intro w' hSw; go_simp <;> with_reducible rfl)
        · exact fun _ _ _ h => h
        simp only [Act.put, List.setIfInBounds_toArray, List.set]
        refine wpAnyH_done (by kernel_rfl) ?_ _
        go_wp2
        go_ret
        exact ⟨rfl, HBe.out⟩
end traceAnswers
end Go.Proofs.YtipfjnjjfojdgaaDoor
