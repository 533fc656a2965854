import Derived.Test.YtlnbgahfelcbiaaDoorLSame
import Derived.Deep.RegionHeld3
import Derived.Deep.CutBlock
/- looks: all that can be seen is the document's. -/
namespace Go.Proofs.YtlnbgahfelcbiaaDoor
open Go Go.RowKit Go.Cu Go.Proofs.YtlnbgahfelcbiaaDoor.errs

set_option maxRecDepth 10000 in
set_option maxHeartbeats 4000000 in
theorem looks_true (w : World) (p : Option Nat) (c m : Nat) (room rm : Int) (L : List LE) (A : Option Addr) (n cc : Nat) (hc : CN w p c m room L) (hr : Row w (fun _ => True) 105 4 (.slice A n cc) n (rowsC L)) (hn : n ≤ 4398046511103) :
    Calls Tryd.prog 23 #[pt p, cvv rm A n cc] w fun e w' => e = .returned (.bool true) ∧ Below w.heap.size w w' := by
  obtain rfl : L.length = n := rows_len hr.reads
  have hal : Below w.heap.size w (w.alloc (.cells #[.int .i64 rm, .slice A L.length cc] 46)) := (Below.refl _ _).alloc (Nat.le_refl _) _
  obtain ⟨w1, hw1⟩ : ∃ w1, w.alloc (.cells #[.int .i64 rm, .slice A L.length cc] 46) = w1 := ⟨_, rfl⟩
  obtain ⟨q, hq⟩ : ∃ q, w.heap.size = q := ⟨_, rfl⟩
  have b0 : w1.heap[q]? = some (.cells #[.int .i64 rm, .slice A L.length cc] 46 (0, 0)) := by rw [← hw1, ← hq]; exact heap_alloc_new w _
  rw [hw1] at hal
  have hbd : Below w.heap.size w w1.drew := hal.drew
  have HCd := hide (hc.past hbd)
  have HRd := hide (hr.kept (Mod.ofBelow hbd (fun _ => False)) (fun _ _ _ h => h))
  have HBd := hide hbd
  have HB0 : Hid (w1.drew.heap[q]? = some (.cells #[.int .i64 rm, .slice A L.length cc] 46 (0, 0))) := hide b0
  have HW := hide hc.wts
  have hws := hc.wsum_le
  have hws1 := hws.2
  have HKs := hide hc.keys
  have HWf := hide hc.wf
  obtain ⟨m0, m1, _, _⟩ := box2 b0
  clear hal hbd hc hr b0 hws
  go_enter Tryd.func23, Tryd.ntmps23
  go_upto_region 1 with fail
  have hSd : w1.drew.cell? ⟨q, 0, none⟩ = some (.int .i64 rm) ∧ w1.drew.cell? ⟨q, 1, none⟩ = some (.slice A L.length cc) := ⟨m0, m1⟩
  go_region_held3 (fun w' => w'.cell? ⟨q, 0, none⟩ = some (.int .i64 rm) ∧ w'.cell? ⟨q, 1, none⟩ = some (.slice A L.length cc)) (first | assumption | with_reducible exact ⟨m0, m1⟩) (first
    | (go_at_call 19; refine (len_n HCd.out).mono ?_; rintro e wz ⟨rfl, rfl⟩)
    | (go_at_call 31; refine (weight_n HCd.out).mono ?_; rintro e wz ⟨rfl, rfl⟩)
    | (go_at_call 57; refine (refweight_any _ rm A L.length cc L HRd.out.reads HW.out hws1).mono ?_
       rintro e w2 ⟨rfl, hb2⟩
       have e0 := below_at hb2 HB0.out
       have HB2 := hide (HBd.out.trans (hb2.mono HBd.out.size))
       have HC2 := hide (HCd.out.past hb2)
       have HR2 := hide (HRd.out.kept (Mod.ofBelow hb2 (fun _ => False)) (fun _ _ _ h => h))
       have HE2 := hide e0
       clear m0 m1 hb2
       obtain ⟨m0, m1, _, _⟩ := box2 e0
       clear e0)
    | (go_at_call 16; refine (keys_n HC2.out (by omega)).mono ?_
       rintro e w3 ⟨A3, n3, c3, rfl, hn3, hr3, hb3⟩
       have e0 := below_at hb3 HE2.out
       have HB3 := hide (HB2.out.trans (hb3.mono HB2.out.size))
       have HN3 := hide hn3
       have HP3 := hide hr3
       have HC3 := hide (HC2.out.past hb3)
       have HR3 := hide (HR2.out.kept (Mod.ofBelow hb3 (fun _ => False)) (fun _ _ _ h => h))
       have HE3 := hide e0
       clear m0 m1 hb3 hr3 hn3
       obtain ⟨m0, m1, _, _⟩ := box2 e0
       clear e0)
    | (go_at_call 58; refine (refkeys_any _ rm A L.length cc L HR3.out.reads (by omega)).mono ?_
       rintro e w4 ⟨A4, n4, c4, rfl, hn4, hr4, hb4⟩
       have e0 := below_at hb4 HE3.out
       have HB4 := hide (HB3.out.trans (hb4.mono HB3.out.size))
       have HN4 := hide hn4
       have HP4 := hide hr4.reads
       have HQ4 := hide ((HP3.out.kept (Mod.ofBelow hb4 (fun _ => False)) (fun _ _ _ h => h)).reads)
       have HC4 := hide (HC3.out.past hb4)
       have HR4 := hide (HR3.out.kept (Mod.ofBelow hb4 (fun _ => False)) (fun _ _ _ h => h))
       have HE4 := hide e0
       clear m0 m1 hb4 hr4 hn4
       obtain ⟨m0, m1, _, _⟩ := box2 e0
       clear e0)
    | (go_at_call 17; refine (same_true _ _ _ n3 n4 (HN3.out.trans HN4.out.symm) (keysOf L) HQ4.out HP4.out).mono ?_
       rintro e w5 ⟨rfl, hb5⟩
       have e0 := below_at hb5 HE4.out
       have HB5 := hide (HB4.out.trans (hb5.mono HB4.out.size))
       have HC5 := hide (HC4.out.past hb5)
       have HR5 := hide (HR4.out.kept (Mod.ofBelow hb5 (fun _ => False)) (fun _ _ _ h => h))
       have HE5 := hide e0
       clear m0 m1 hb5
       obtain ⟨m0, m1, _, _⟩ := box2 e0
       clear e0)
    | fail)
  go_wp2_with fail
  go_loopw [5] (fun t wr => ∃ i : Nat, i ≤ L.length ∧ t = .int .i64 i ∧ Hid (CN wr p c m room L) ∧ Hid (Row wr (fun _ => True) 105 4 (.slice A L.length cc) L.length (rowsC L)) ∧ Hid (wr.heap[q]? = some (.cells #[.int .i64 rm, .slice A L.length cc] 46 (0, 0))) ∧ Hid (Below w.heap.size w wr)) (fun t _ => L.length - (intOf t).toNat)
  case atStart => exact ⟨0, Nat.zero_le _, rfl, HC5, HR5, HE5, HB5⟩
  case round =>
    clear HCd HRd HBd HB0 HB2 HC2 HR2 HE2 HB3 HC3 HR3 HE3 HP3 HN3 HB4 HC4 HR4 HE4 HP4 HQ4 HN4 HB5 HC5 HR5 HE5 m0 m1
    obtain ⟨i, hi, rfl, HC, HR, HE, HB⟩ := hrel
    obtain ⟨m0, m1, _, _⟩ := box2 HE.out
    by_cases hlt : i < L.length
    · obtain ⟨x, he, hd, ht⟩ := step_on L i hlt
      have hx : L[i]? = some x := by rw [List.getElem?_eq_getElem hlt]; rw [List.drop_eq_getElem_cons hlt] at hd; injection hd with hd _; rw [hd]
      have HU := hide (rows_us hx)
      have HPk := hide (PeekR.yes (L := L) (k := x.k) (L.take i) (L.drop (i + 1)) x he rfl)
      have hwf := HWf.out x (List.mem_of_getElem? hx)
      have HRr := hide HR.out.reads
      have hal : Below wr.heap.size wr (wr.alloc (.cells #[.int .i64 x.k, .int .i64 x.v, .int .i64 x.wt, .int .i64 x.un] 105)) := (Below.refl _ _).alloc (Nat.le_refl _) _
      have HAl := hide hal
      have HBx := hide (heap_alloc_new wr (.cells #[.int .i64 x.k, .int .i64 x.v, .int .i64 x.wt, .int .i64 x.un] 105))
      have HC1 := hide (HC.out.past hal)
      clear he hd ht hx hal
      go_wp2_with (first
        | ((with_reducible refine at_index rfl ?_); refine wpList_atS rfl rfl _ _ 44 105 _ rfl rfl rfl (by simp) Tryd.underlying44 (by decide) size_row agg_row rfl HRr.out rfl (by omega) (by omega) (us := [.int .i64 x.k, .int .i64 x.v, .int .i64 x.wt, .int .i64 x.un]) rfl HU.out ?_; intro z)
        | fail)
      refine (peek_n HC1.out hwf HPk.out).mono ?_
      rintro e w2 ⟨rfl, hb2⟩
      have hbt := HAl.out.trans (hb2.mono HAl.out.size)
      obtain ⟨u0, u1, u2, u3⟩ := box4 (below_at hb2 HBx.out)
      have HC2 := hide (HC1.out.past hb2)
      have HR2 := hide (HR.out.kept (Mod.ofBelow hbt (fun _ => False)) (fun _ _ _ h => h))
      have HE2 := hide (below_at hbt HE.out)
      have HB2 := hide (HB.out.trans (hbt.mono HB.out.size))
      clear hb2 hbt m0 m1
      go_wp2
      go_roundw
      case rel => exact ⟨i + 1, by omega, by go_num, HC2, HR2, HE2, HB2⟩
      case measure => simp [intOf]; omega
    · obtain rfl : i = L.length := by omega
      go_wp2
      go_ret
      exact ⟨rfl, HB.out⟩
end Go.Proofs.YtlnbgahfelcbiaaDoor
