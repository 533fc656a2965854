import Derived.Test.YtlnbgahfelcbiaaDoorLCR
/- step: one call on both; by its kind. -/
namespace Go.Proofs.YtlnbgahfelcbiaaDoor
open Go Go.RowKit Go.Cu Go.Proofs.YtlnbgahfelcbiaaDoor.errs

set_option maxRecDepth 10000 in
set_option maxHeartbeats 4000000 in
theorem step_get (w0 w : World) (p : Option Nat) (c m : Nat) (room : Int) (L : List LE) (A : Option Addr) (n cc : Nat) (h : CR w0 w p c m room L A n cc) (hn : n ≤ 4398046511102) (k v wt un : Int) (hk : (Lit.int .i64 k).wf = true) :
    Calls Tryd.prog 22 #[pt p, cvv room A n cc, opV ⟨2, k, v, wt, un⟩] w (StepPost w0 p c m room L w) := by
  obtain ⟨w1, q, hw1, hq, hal, hs1, hsb⟩ := boxesS w0 w h.below room A n cc ⟨2, k, v, wt, un⟩
  have hln := h.len
  have HLn := hide hln
  have H1 := hide (h.past hal)
  have HD1 : Hid (Mod (InN p c m L) w w1) := hide (Mod.ofBelow hal _)
  have HS1 := hide hsb
  have hqw : w0.heap.size ≤ q := hsb.low
  obtain ⟨c0, c1, _, _⟩ := box2 hsb.b0
  obtain ⟨o0, o1, o2, o3, o4⟩ := box5 hsb.b1
  obtain ⟨r0, r1, f0, f1⟩ := box2 hsb.b2
  clear h hal hsb hln
  obtain ⟨L', x, ok, hg⟩ := getR_ex L k un
  have HG := hide hg
  clear hg
  go_enter Tryd.func22, Tryd.ntmps22
  go_wp2_with fail
  refine (get_n H1.out.cn hk HG.out).mono ?_
  rintro r w2 ⟨rfl, hc2, hm2⟩
  have HB2 := hide (H1.out.mod hm2)
  have HR2 := hide (H1.out.cn.row (by decide) (by decide) hm2 H1.out.row)
  have HS2 := hide (HS1.out.mod H1.out.cn hm2)
  have HC2 := hide hc2
  have HD2 := hide (HD1.out.trans hm2 (fun _ _ h => h))
  clear hc2 hm2
  clear c0 c1 o0 o1 o2 o3 o4 r0 r1 f0 f1
  obtain ⟨c0, c1, _, _⟩ := box2 HS2.out.b0
  obtain ⟨o0, o1, o2, o3, o4⟩ := box5 HS2.out.b1
  obtain ⟨r0, r1, f0, f1⟩ := box2 HS2.out.b2
  go_wp2_with fail
  refine (get_r HR2.out H1.out.cn.keys (by omega) HG.out).mono ?_
  rintro r w3 ⟨x3, rfl, B, k3, c3, rfl, hk3, hrow3, hb3⟩
  have HK3 := hide hk3
  have HR3 := hide hrow3
  have HC3 := hide (HC2.out.past hb3)
  have HS3 := hide (HS2.out.past hb3)
  have HB3 := hide (HB2.out.trans (hb3.mono HB2.out.size))
  have hs3 := HB3.out.size
  have HD3 := hide (HD2.out.trans (Mod.ofBelow hb3 (fun _ => False)) (fun _ _ h => h.elim))
  clear hk3 hrow3 hb3
  clear c0 c1 o0 o1 o2 o3 o4 r0 r1 f0 f1
  obtain ⟨c0, c1, _, _⟩ := box2 HS3.out.b0
  obtain ⟨o0, o1, o2, o3, o4⟩ := box5 HS3.out.b1
  obtain ⟨r0, r1, f0, f1⟩ := box2 HS3.out.b2
  go_upto_region 11 with fail
  have HCR : Hid (CR w0 (w3.alloc (.cells #[.int .i64 room, .slice B k3 c3] 46)) p c m room L' B k3 c3) :=
    hide (CR.past ⟨HC3.out, HR3.out, fun j hj => H1.out.low j (InN.sub HG.out.le.2 j hj), HB3.out⟩ ((Below.refl _ _).alloc (Nat.le_refl _) _))
  have HS4 := hide (HS3.out.past ((Below.refl _ _).alloc (Nat.le_refl _) (.cells #[.int .i64 room, .slice B k3 c3] 46)))
  clear c0 c1 o0 o1 o2 o3 o4 r0 r1 f0 f1
  obtain ⟨c0, c1, _, _⟩ := box2 HS4.out.b0
  obtain ⟨o0, o1, o2, o3, o4⟩ := box5 HS4.out.b1
  obtain ⟨r0, r1, f0, f1⟩ := box2 HS4.out.b2
  go_wp2
  have hb := box2_set HS4.out.b2 (.int .i64 room) (.slice B k3 c3)
  obtain ⟨m0, m1, _, _⟩ := box2 hb
  refine bodyPost_ret (by simp [results, Tryd.results22, go_sem, m0, m1]; rfl) rfl ?_
  exact ⟨L', B, k3, c3, rfl, HCR.out.far2 HS4.out.b2 (by decide) (by decide) (by decide) (by omega) _ _, by have := HG.out.le.1; omega, (((HD3.out.alloc _).setCell (p := ⟨q + 2, 0, none⟩) (fun hl => absurd hl (by show ¬ q + 2 < w.heap.size; omega)) (.int .i64 room)).setCell (p := ⟨q + 2, 1, none⟩) (fun hl => absurd hl (by show ¬ q + 2 < w.heap.size; omega)) (.slice B k3 c3))⟩

set_option maxRecDepth 10000 in
set_option maxHeartbeats 4000000 in
theorem step_drop (w0 w : World) (p : Option Nat) (c m : Nat) (room : Int) (L : List LE) (A : Option Addr) (n cc : Nat) (h : CR w0 w p c m room L A n cc) (hn : n ≤ 4398046511102) (k v wt un : Int) (hk : (Lit.int .i64 k).wf = true) :
    Calls Tryd.prog 22 #[pt p, cvv room A n cc, opV ⟨4, k, v, wt, un⟩] w (StepPost w0 p c m room L w) := by
  obtain ⟨w1, q, hw1, hq, hal, hs1, hsb⟩ := boxesS w0 w h.below room A n cc ⟨4, k, v, wt, un⟩
  have hln := h.len
  have HLn := hide hln
  have H1 := hide (h.past hal)
  have HD1 : Hid (Mod (InN p c m L) w w1) := hide (Mod.ofBelow hal _)
  have HS1 := hide hsb
  have hqw : w0.heap.size ≤ q := hsb.low
  obtain ⟨c0, c1, _, _⟩ := box2 hsb.b0
  obtain ⟨o0, o1, o2, o3, o4⟩ := box5 hsb.b1
  obtain ⟨r0, r1, f0, f1⟩ := box2 hsb.b2
  clear h hal hsb hln
  obtain ⟨L', ok, hg⟩ := dropR_ex L k
  have HG := hide hg
  clear hg
  go_enter Tryd.func22, Tryd.ntmps22
  go_wp2_with fail
  refine (drop_r H1.out.row H1.out.cn.keys (by omega) HG.out).mono ?_
  rintro r w3 ⟨x3, rfl, B, k3, c3, rfl, hk3, hrow3, hb3⟩
  have HK3 := hide hk3
  have HR3 := hide hrow3
  have HC3 := hide (H1.out.past hb3)
  have HS3 := hide (HS1.out.past hb3)
  have hs3 := HC3.out.below.size
  have HD3 := hide (HD1.out.trans (Mod.ofBelow hb3 (fun _ => False)) (fun _ _ h => h.elim))
  clear hk3 hrow3 hb3
  clear c0 c1 o0 o1 o2 o3 o4 r0 r1 f0 f1
  obtain ⟨c0, c1, _, _⟩ := box2 HS3.out.b0
  obtain ⟨o0, o1, o2, o3, o4⟩ := box5 HS3.out.b1
  obtain ⟨r0, r1, f0, f1⟩ := box2 HS3.out.b2
  go_upto_region 20 with fail
  obtain ⟨t, ht⟩ : ∃ t, w3.heap.size = t := ⟨_, rfl⟩
  obtain ⟨w4, hw4⟩ : ∃ w4, w3.alloc (.cells #[.int .i64 room, .slice B k3 c3] 46) = w4 := ⟨_, rfl⟩
  have hal : Below w3.heap.size w3 w4 := by rw [← hw4]; exact (Below.refl _ _).alloc (Nat.le_refl _) _
  have htb : w4.heap[t]? = some (.cells #[.int .i64 room, .slice B k3 c3] 46 (0, 0)) := by rw [← hw4, ← ht]; exact heap_alloc_new w3 _
  have HTd : Hid (w4.drew.heap[t]? = some (.cells #[.int .i64 room, .slice B k3 c3] 46 (0, 0))) := hide htb
  have HSd : Hid (SB w0 w4.drew q room A n cc ⟨4, k, v, wt, un⟩) := hide (HS3.out.past hal.drew)
  have HCd := hide (HC3.out.past hal.drew)
  have HRd := hide (HR3.out.kept (Mod.ofBelow hal.drew (fun _ => False)) (fun _ _ _ h => h))
  have htq : q + 3 ≤ t := by have := (Array.getElem?_eq_some_iff.1 HS3.out.b2).1; omega
  have HD4 := hide (HD3.out.trans (Mod.ofBelow hal.drew (fun _ => False)) (fun _ _ h => h.elim))
  rw [ht, hw4]
  clear hal ht hw4
  obtain ⟨t0, t1, _, _⟩ := box2 htb
  clear c0 c1 o0 o1 o2 o3 o4 r0 r1 f0 f1
  obtain ⟨c0, c1, _, _⟩ := box2 HSd.out.b0
  obtain ⟨o0, o1, o2, o3, o4⟩ := box5 HSd.out.b1
  obtain ⟨r0, r1, f0, f1⟩ := box2 HSd.out.b2
  have hSd : w4.drew.cell? ⟨t, 0, none⟩ = some (.int .i64 room) ∧ w4.drew.cell? ⟨t, 1, none⟩ = some (.slice B k3 c3) ∧ w4.drew.cell? ⟨q + 1, 1, none⟩ = some (.int .i64 k) ∧ w4.drew.cell? ⟨q + 1, 4, none⟩ = some (.int .i64 un) := ⟨t0, t1, o1, o4⟩
  clear htb
  go_region_held3 (fun w' => w'.cell? ⟨t, 0, none⟩ = some (.int .i64 room) ∧ w'.cell? ⟨t, 1, none⟩ = some (.slice B k3 c3) ∧ w'.cell? ⟨q + 1, 1, none⟩ = some (.int .i64 k) ∧ w'.cell? ⟨q + 1, 4, none⟩ = some (.int .i64 un)) (first | assumption | with_reducible exact ⟨t0, t1, o1, o4⟩ | with_reducible exact hSt) (first
    | (go_at_call 29; refine (drop_n HCd.out.cn hk HG.out).mono ?_
       rintro r w5 ⟨rfl, hc5, hm5⟩
       have HB5 := hide (HCd.out.mod hm5)
       have HR5 := hide (HCd.out.cn.row (by decide) (by decide) hm5 HRd.out)
       have HS5 := hide (HSd.out.mod HCd.out.cn hm5)
       have hT5 := HCd.out.cn.heap (by decide) (by decide) hm5 HTd.out
       have HC5 := hide hc5
       have HD5 := hide (HD4.out.trans hm5 (fun _ _ h => h))
       clear hSd t0 t1 hc5 hm5
       obtain ⟨t0, t1, _, _⟩ := box2 hT5
       clear c0 c1 o0 o1 o2 o3 o4 r0 r1 f0 f1 hT5
       obtain ⟨c0, c1, _, _⟩ := box2 HS5.out.b0
       obtain ⟨o0, o1, o2, o3, o4⟩ := box5 HS5.out.b1
       obtain ⟨r0, r1, f0, f1⟩ := box2 HS5.out.b2
       have hn1 : t ≠ q + 2 := by omega
       have hn2 : q + 1 ≠ q + 2 := by omega
       have hSt := And.intro (cell_far2 (x := .int .i64 room) (y := .slice B k3 c3) t0 hn1) (And.intro (cell_far2 (x := .int .i64 room) (y := .slice B k3 c3) t1 hn1) (And.intro (cell_far2 (x := .int .i64 room) (y := .slice B k3 c3) o1 hn2) (cell_far2 (x := .int .i64 room) (y := .slice B k3 c3) o4 hn2))))
    | fail)
  have HCR : Hid (CR w0 w5 p c m room L' B k3 c3) := hide ⟨HC5.out, HR5.out, fun j hj => H1.out.low j (InN.sub HG.out.le.2 j hj), HB5.out⟩
  go_wp2
  have hb := box2_set HS5.out.b2 (.int .i64 room) (.slice B k3 c3)
  obtain ⟨m0, m1, _, _⟩ := box2 hb
  refine bodyPost_ret (by simp [results, Tryd.results22, go_sem, m0, m1]; rfl) rfl ?_
  exact ⟨L', B, k3, c3, rfl, HCR.out.far2 HS5.out.b2 (by decide) (by decide) (by decide) (by omega) _ _, by have := HG.out.le.1; omega, (((HD5.out).setCell (p := ⟨q + 2, 0, none⟩) (fun hl => absurd hl (by show ¬ q + 2 < w.heap.size; omega)) (.int .i64 room)).setCell (p := ⟨q + 2, 1, none⟩) (fun hl => absurd hl (by show ¬ q + 2 < w.heap.size; omega)) (.slice B k3 c3))⟩

set_option maxRecDepth 10000 in
set_option maxHeartbeats 4000000 in
theorem step_expire (w0 w : World) (p : Option Nat) (c m : Nat) (room : Int) (L : List LE) (A : Option Addr) (n cc : Nat) (h : CR w0 w p c m room L A n cc) (hn : n ≤ 4398046511102) (k v wt un : Int) :
    Calls Tryd.prog 22 #[pt p, cvv room A n cc, opV ⟨5, k, v, wt, un⟩] w (StepPost w0 p c m room L w) := by
  obtain ⟨w1, q, hw1, hq, hal, hs1, hsb⟩ := boxesS w0 w h.below room A n cc ⟨5, k, v, wt, un⟩
  have hln := h.len
  have HLn := hide hln
  have H1 := hide (h.past hal)
  have HD1 : Hid (Mod (InN p c m L) w w1) := hide (Mod.ofBelow hal _)
  have HS1 := hide hsb
  have hqw : w0.heap.size ≤ q := hsb.low
  obtain ⟨c0, c1, _, _⟩ := box2 hsb.b0
  obtain ⟨o0, o1, o2, o3, o4⟩ := box5 hsb.b1
  obtain ⟨r0, r1, f0, f1⟩ := box2 hsb.b2
  clear h hal hsb hln
  go_enter Tryd.func22, Tryd.ntmps22
  go_wp2_with fail
  refine (refexpire_any _ room A n cc L H1.out.row.reads (by omega) un).mono ?_
  rintro r w3 ⟨x3, G, g, gc, rfl, ⟨B, k3, c3, rfl, hk3, hrow3, hb3⟩, hg3, hgone3⟩
  have HK3 := hide hk3
  have HR3 := hide (hrow3.mono (G := fun _ => True) (fun _ _ _ => trivial))
  have HG3 := hide hg3
  have HGo3 := hide hgone3
  have HC3 := hide (H1.out.past hb3)
  have HS3 := hide (HS1.out.past hb3)
  have hs3 := HC3.out.below.size
  have HD3 := hide (HD1.out.trans (Mod.ofBelow hb3 (fun _ => False)) (fun _ _ h => h.elim))
  clear hk3 hrow3 hb3 hg3 hgone3
  clear c0 c1 o0 o1 o2 o3 o4 r0 r1 f0 f1
  obtain ⟨c0, c1, _, _⟩ := box2 HS3.out.b0
  obtain ⟨o0, o1, o2, o3, o4⟩ := box5 HS3.out.b1
  obtain ⟨r0, r1, f0, f1⟩ := box2 HS3.out.b2
  go_upto_region 23 with fail
  obtain ⟨t, ht⟩ : ∃ t, w3.heap.size = t := ⟨_, rfl⟩
  obtain ⟨w4, hw4⟩ : ∃ w4, w3.alloc (.cells #[.int .i64 room, .slice B k3 c3] 46) = w4 := ⟨_, rfl⟩
  have hal : Below w3.heap.size w3 w4 := by rw [← hw4]; exact (Below.refl _ _).alloc (Nat.le_refl _) _
  have htb : w4.heap[t]? = some (.cells #[.int .i64 room, .slice B k3 c3] 46 (0, 0)) := by rw [← hw4, ← ht]; exact heap_alloc_new w3 _
  have HTd : Hid (w4.drew.heap[t]? = some (.cells #[.int .i64 room, .slice B k3 c3] 46 (0, 0))) := hide htb
  have HSd : Hid (SB w0 w4.drew q room A n cc ⟨5, k, v, wt, un⟩) := hide (HS3.out.past hal.drew)
  have HCd := hide (HC3.out.past hal.drew)
  have HRd := hide (HR3.out.kept (Mod.ofBelow hal.drew (fun _ => False)) (fun _ _ _ h => h))
  have htq : q + 3 ≤ t := by have := (Array.getElem?_eq_some_iff.1 HS3.out.b2).1; omega
  have HD4 := hide (HD3.out.trans (Mod.ofBelow hal.drew (fun _ => False)) (fun _ _ h => h.elim))
  rw [ht, hw4]
  have HGd := hide (HGo3.out.kept (Mod.ofBelow hal.drew (fun _ => False)) (fun _ _ _ h => h))
  clear hal ht hw4
  obtain ⟨t0, t1, _, _⟩ := box2 htb
  clear c0 c1 o0 o1 o2 o3 o4 r0 r1 f0 f1
  obtain ⟨c0, c1, _, _⟩ := box2 HSd.out.b0
  obtain ⟨o0, o1, o2, o3, o4⟩ := box5 HSd.out.b1
  obtain ⟨r0, r1, f0, f1⟩ := box2 HSd.out.b2
  have hSd : w4.drew.cell? ⟨t, 0, none⟩ = some (.int .i64 room) ∧ w4.drew.cell? ⟨t, 1, none⟩ = some (.slice B k3 c3) ∧ w4.drew.cell? ⟨q + 1, 1, none⟩ = some (.int .i64 k) ∧ w4.drew.cell? ⟨q + 1, 4, none⟩ = some (.int .i64 un) := ⟨t0, t1, o1, o4⟩
  clear htb
  have hn1 : t ≠ q + 2 := by omega
  have hn2 : q + 1 ≠ q + 2 := by omega
  go_region_held3 (fun w' => w'.cell? ⟨t, 0, none⟩ = some (.int .i64 room) ∧ w'.cell? ⟨t, 1, none⟩ = some (.slice B k3 c3) ∧ w'.cell? ⟨q + 1, 1, none⟩ = some (.int .i64 k) ∧ w'.cell? ⟨q + 1, 4, none⟩ = some (.int .i64 un)) (first | assumption | with_reducible exact ⟨t0, t1, o1, o4⟩ | with_reducible exact hSt) (first
    | (go_at_call 14; refine (expire_n HCd.out.cn (by have := HLn.out; omega) un).mono ?_
       rintro r w5 ⟨E, e5, ec, rfl, he5, hrow5, hc5, hm5⟩
       have HB5 := hide (HCd.out.mod hm5)
       have HR5 := hide (HCd.out.cn.row (by decide) (by decide) hm5 HRd.out)
       have HG5 := hide (HCd.out.cn.row (by decide) (by decide) hm5 HGd.out)
       have HS5 := hide (HSd.out.mod HCd.out.cn hm5)
       have HT5 := hide (HCd.out.cn.heap (by decide) (by decide) hm5 HTd.out)
       have HC5 := hide hc5
       have HE5 := hide he5
       have HER := hide hrow5.reads
       have HD5 := hide (HD4.out.trans hm5 (fun _ _ h => h))
       clear hc5 hm5 he5 hrow5
       clear hSd t0 t1
       obtain ⟨t0, t1, _, _⟩ := box2 HT5.out
       clear c0 c1 o0 o1 o2 o3 o4 r0 r1 f0 f1
       obtain ⟨c0, c1, _, _⟩ := box2 HS5.out.b0
       obtain ⟨o0, o1, o2, o3, o4⟩ := box5 HS5.out.b1
       obtain ⟨r0, r1, f0, f1⟩ := box2 HS5.out.b2)
    | (go_at_call 17; refine (same_true _ _ _ e5 g (HE5.out.trans HG3.out.symm) (keysOf (goneT un L)) HER.out HG5.out.reads).mono ?_
       rintro r w6 ⟨rfl, hb6⟩
       have HB6 := hide (HB5.out.trans (hb6.mono HB5.out.size))
       have HR6 := hide (HR5.out.kept (Mod.ofBelow hb6 (fun _ => False)) (fun _ _ _ h => h))
       have HS6 := hide (HS5.out.past hb6)
       have HT6 := hide (below_at hb6 HT5.out)
       have HC6 := hide (HC5.out.past hb6)
       have HD6 := hide (HD5.out.trans (Mod.ofBelow hb6 (fun _ => False)) (fun _ _ h => h.elim))
       clear hb6
       clear t0 t1
       obtain ⟨t0, t1, _, _⟩ := box2 HT6.out
       clear c0 c1 o0 o1 o2 o3 o4 r0 r1 f0 f1
       obtain ⟨c0, c1, _, _⟩ := box2 HS6.out.b0
       obtain ⟨o0, o1, o2, o3, o4⟩ := box5 HS6.out.b1
       obtain ⟨r0, r1, f0, f1⟩ := box2 HS6.out.b2
       have hSt := And.intro (cell_far2 (x := .int .i64 room) (y := .slice B k3 c3) t0 hn1) (And.intro (cell_far2 (x := .int .i64 room) (y := .slice B k3 c3) t1 hn1) (And.intro (cell_far2 (x := .int .i64 room) (y := .slice B k3 c3) o1 hn2) (cell_far2 (x := .int .i64 room) (y := .slice B k3 c3) o4 hn2))))
    | fail)
  have HCR : Hid (CR w0 w6 p c m room (keepT un L) B k3 c3) := hide ⟨HC6.out, HR6.out, fun j hj => H1.out.low j (InN.sub (fun e he => keepT_mem he) j hj), HB6.out⟩
  go_wp2
  have hb := box2_set HS6.out.b2 (.int .i64 room) (.slice B k3 c3)
  obtain ⟨m0, m1, _, _⟩ := box2 hb
  refine bodyPost_ret (by simp [results, Tryd.results22, go_sem, m0, m1]; rfl) rfl ?_
  exact ⟨keepT un L, B, k3, c3, rfl, HCR.out.far2 HS6.out.b2 (by decide) (by decide) (by decide) (by omega) _ _, by have : (keepT un L).length ≤ L.length := List.length_filter_le _ _; omega, (((HD6.out).setCell (p := ⟨q + 2, 0, none⟩) (fun hl => absurd hl (by show ¬ q + 2 < w.heap.size; omega)) (.int .i64 room)).setCell (p := ⟨q + 2, 1, none⟩) (fun hl => absurd hl (by show ¬ q + 2 < w.heap.size; omega)) (.slice B k3 c3))⟩

/-- why a Put is refused -/
def Bad (room wt : Int) (code : Nat) : Prop := (wt < 0 ∧ code = 2) ∨ (¬ wt < 0 ∧ room < wt ∧ code = 6)
theorem Bad.le {room wt : Int} {code : Nat} (h : Bad room wt code) : 1 ≤ code ∧ code ≤ 42 ∧ code ≠ 28 := by rcases h with ⟨_, rfl⟩ | ⟨_, _, rfl⟩ <;> decide
theorem putbad_n (w : World) (c m : Nat) (room : Int) (L : List LE) (h : LCP w c m room L) (adr : Nat → Addr) (hS : Sent w adr) (k v wt un : Int) (code : Nat) (hb : Bad room wt code) :
    Calls Tryd.prog 13 #[ptr c, .int .i64 k, .int .i64 v, .int .i64 wt, .int .i64 un] w fun r w' => r = .returned (.tuple #[.slice none 0 0, .iface tTP (.pointer (some (adr code)))]) ∧ Below w.heap.size w w' := by
  rcases hb with ⟨h1, rfl⟩ | ⟨h1, h2, rfl⟩
  · exact put_neg w c k v wt un h1 _ (hS.cell 2 (by decide) (by decide))
  · exact put_full w c m room L h k v wt un h1 h2 _ (hS.cell 6 (by decide) (by decide))
theorem putbad_r (w : World) (room : Int) (A : Option Addr) (n cc : Nat) (k v wt un : Int) (code : Nat) (hb : Bad room wt code) :
    Calls Tryd.prog 52 #[cvv room A n cc, rowV ⟨0, k, v, wt, un⟩] w fun r w' => r = .returned (.tuple #[cvv room A n cc, .slice none 0 0, .int .i64 code]) ∧ Below w.heap.size w w' := by
  rcases hb with ⟨h1, rfl⟩ | ⟨h1, h2, rfl⟩
  · exact refput_neg w room A n cc ⟨0, k, v, wt, un⟩ h1
  · exact refput_full w room A n cc ⟨0, k, v, wt, un⟩ h1 h2
theorem reads_none (w : World) : Reads w 1 (.slice none 0 0) 0 (ints []) := ⟨rfl, none, 0, rfl, Nat.zero_le _, .inl rfl⟩

set_option maxRecDepth 10000 in
set_option maxHeartbeats 4000000 in
theorem step_put_bad (w0 w : World) (c m : Nat) (room : Int) (L : List LE) (A : Option Addr) (n cc : Nat) (h : CR w0 w (some c) c m room L A n cc) (k v wt un : Int) (adr : Nat → Addr) (hSe : Sent w0 adr) (code : Nat) (hbad : Bad room wt code) :
    Calls Tryd.prog 22 #[ptr c, cvv room A n cc, opV ⟨1, k, v, wt, un⟩] w (StepPost w0 (some c) c m room L w) := by
  obtain ⟨w1, q, hw1, hq, hal, hs1, hsb⟩ := boxesS w0 w h.below room A n cc ⟨1, k, v, wt, un⟩
  have hln := h.len
  have HLn := hide hln
  have H1 := hide (h.past hal)
  have HD1 : Hid (Mod (InN (some c) c m L) w w1) := hide (Mod.ofBelow hal _)
  have HS1 := hide hsb
  have hqw : w0.heap.size ≤ q := hsb.low
  obtain ⟨c0, c1, _, _⟩ := box2 hsb.b0
  obtain ⟨o0, o1, o2, o3, o4⟩ := box5 hsb.b1
  obtain ⟨r0, r1, f0, f1⟩ := box2 hsb.b2
  clear h hal hsb hln
  have HSe := hide hSe
  have HBad := hide hbad
  have hLC : LCP w1 c m room L := by
    rcases H1.out.cn with ⟨_, h⟩ | ⟨h, _⟩
    · exact h
    · cases h
  have HLC := hide hLC
  clear hLC
  clear hSe hbad
  go_enter Tryd.func22, Tryd.ntmps22
  go_wp2_with fail
  refine (putbad_n w1 c m room L HLC.out adr (HSe.out.below H1.out.below) k v wt un code HBad.out).mono ?_
  rintro r w2 ⟨rfl, hb2⟩
  have HC2 := hide (H1.out.past hb2)
  have HS2 := hide (HS1.out.past hb2)
  have HD2 := hide (HD1.out.trans (Mod.ofBelow hb2 (fun _ => False)) (fun _ _ h => h.elim))
  clear hb2
  clear c0 c1 o0 o1 o2 o3 o4 r0 r1 f0 f1
  obtain ⟨c0, c1, _, _⟩ := box2 HS2.out.b0
  obtain ⟨o0, o1, o2, o3, o4⟩ := box5 HS2.out.b1
  obtain ⟨r0, r1, f0, f1⟩ := box2 HS2.out.b2
  go_wp2_with fail
  refine (putbad_r w2 room A n cc k v wt un code HBad.out).mono ?_
  rintro r w3 ⟨rfl, hb3⟩
  have HC3 := hide (HC2.out.past hb3)
  have HS3 := hide (HS2.out.past hb3)
  have HR3 := hide HC3.out.row
  have hs3 := HC3.out.below.size
  have HD3 := hide (HD2.out.trans (Mod.ofBelow hb3 (fun _ => False)) (fun _ _ h => h.elim))
  clear hb3
  clear c0 c1 o0 o1 o2 o3 o4 r0 r1 f0 f1
  obtain ⟨c0, c1, _, _⟩ := box2 HS3.out.b0
  obtain ⟨o0, o1, o2, o3, o4⟩ := box5 HS3.out.b1
  obtain ⟨r0, r1, f0, f1⟩ := box2 HS3.out.b2
  go_upto_region 7 with fail
  obtain ⟨t, ht⟩ : ∃ t, w3.heap.size = t := ⟨_, rfl⟩
  obtain ⟨w4, hw4⟩ : ∃ w4, w3.alloc (.cells #[.int .i64 room, .slice A n cc] 46) = w4 := ⟨_, rfl⟩
  have hal : Below w3.heap.size w3 w4 := by rw [← hw4]; exact (Below.refl _ _).alloc (Nat.le_refl _) _
  have htb : w4.heap[t]? = some (.cells #[.int .i64 room, .slice A n cc] 46 (0, 0)) := by rw [← hw4, ← ht]; exact heap_alloc_new w3 _
  have HTd : Hid (w4.drew.heap[t]? = some (.cells #[.int .i64 room, .slice A n cc] 46 (0, 0))) := hide htb
  have HSd : Hid (SB w0 w4.drew q room A n cc ⟨1, k, v, wt, un⟩) := hide (HS3.out.past hal.drew)
  have HCd := hide (HC3.out.past hal.drew)
  have HRd := hide (HR3.out.kept (Mod.ofBelow hal.drew (fun _ => False)) (fun _ _ _ h => h))
  have htq : q + 3 ≤ t := by have := (Array.getElem?_eq_some_iff.1 HS3.out.b2).1; omega
  have HD4 := hide (HD3.out.trans (Mod.ofBelow hal.drew (fun _ => False)) (fun _ _ h => h.elim))
  rw [ht, hw4]
  clear hal ht hw4
  obtain ⟨t0, t1, _, _⟩ := box2 htb
  clear c0 c1 o0 o1 o2 o3 o4 r0 r1 f0 f1
  obtain ⟨c0, c1, _, _⟩ := box2 HSd.out.b0
  obtain ⟨o0, o1, o2, o3, o4⟩ := box5 HSd.out.b1
  obtain ⟨r0, r1, f0, f1⟩ := box2 HSd.out.b2
  have hSd : w4.drew.cell? ⟨t, 0, none⟩ = some (.int .i64 room) ∧ w4.drew.cell? ⟨t, 1, none⟩ = some (.slice A n cc) ∧ w4.drew.cell? ⟨q + 1, 1, none⟩ = some (.int .i64 k) ∧ w4.drew.cell? ⟨q + 1, 4, none⟩ = some (.int .i64 un) := ⟨t0, t1, o1, o4⟩
  clear htb
  have hn1 : t ≠ q + 2 := by omega
  have hn2 : q + 1 ≠ q + 2 := by omega
  have hSt := And.intro (cell_far2 (x := .int .i64 room) (y := .slice A n cc) t0 hn1) (And.intro (cell_far2 (x := .int .i64 room) (y := .slice A n cc) t1 hn1) (And.intro (cell_far2 (x := .int .i64 room) (y := .slice A n cc) o1 hn2) (cell_far2 (x := .int .i64 room) (y := .slice A n cc) o4 hn2)))
  go_region_held3 (fun w' => w'.cell? ⟨t, 0, none⟩ = some (.int .i64 room) ∧ w'.cell? ⟨t, 1, none⟩ = some (.slice A n cc) ∧ w'.cell? ⟨q + 1, 1, none⟩ = some (.int .i64 k) ∧ w'.cell? ⟨q + 1, 4, none⟩ = some (.int .i64 un)) (first | assumption | with_reducible exact ⟨t0, t1, o1, o4⟩ | with_reducible exact hSt) (first
    | (go_at_call 21; refine (code_err _ adr (HSe.out.below HCd.out.below) code HBad.out.le.1 HBad.out.le.2.1 HBad.out.le.2.2).mono ?_
       rintro r w5 ⟨rfl, rfl⟩)
    | (go_at_call 17; refine (same_true _ _ _ 0 0 rfl [] (reads_none _) (reads_none _)).mono ?_
       rintro r w6 ⟨rfl, hb6⟩
       have HC6 := hide (HCd.out.past hb6)
       have HS6 := hide (HSd.out.past hb6)
       have HT6 := hide (below_at hb6 HTd.out)
       have HD6 := hide (HD4.out.trans (Mod.ofBelow hb6 (fun _ => False)) (fun _ _ h => h.elim))
       clear hb6 hSt
       clear hSd t0 t1
       obtain ⟨t0, t1, _, _⟩ := box2 HT6.out
       clear c0 c1 o0 o1 o2 o3 o4 r0 r1 f0 f1
       obtain ⟨c0, c1, _, _⟩ := box2 HS6.out.b0
       obtain ⟨o0, o1, o2, o3, o4⟩ := box5 HS6.out.b1
       obtain ⟨r0, r1, f0, f1⟩ := box2 HS6.out.b2
       have hSt := And.intro (cell_far2 (x := .int .i64 room) (y := .slice A n cc) t0 hn1) (And.intro (cell_far2 (x := .int .i64 room) (y := .slice A n cc) t1 hn1) (And.intro (cell_far2 (x := .int .i64 room) (y := .slice A n cc) o1 hn2) (cell_far2 (x := .int .i64 room) (y := .slice A n cc) o4 hn2))))
    | fail)
  have HCR := HC6
  go_wp2
  have hb := box2_set HS6.out.b2 (.int .i64 room) (.slice A n cc)
  obtain ⟨m0, m1, _, _⟩ := box2 hb
  refine bodyPost_ret (by simp [results, Tryd.results22, go_sem, m0, m1]; rfl) rfl ?_
  exact ⟨L, A, n, cc, rfl, HCR.out.far2 HS6.out.b2 (by decide) (by decide) (by decide) (by omega) _ _, by omega, (((HD6.out).setCell (p := ⟨q + 2, 0, none⟩) (fun hl => absurd hl (by show ¬ q + 2 < w.heap.size; omega)) (.int .i64 room)).setCell (p := ⟨q + 2, 1, none⟩) (fun hl => absurd hl (by show ¬ q + 2 < w.heap.size; omega)) (.slice A n cc))⟩

theorem stay_le (lim : Int) (R : List LE) : (stay lim R).length ≤ R.length := by unfold stay; rw [List.length_take]; omega
theorem stay_mem {lim : Int} {R : List LE} {e : LE} (h : e ∈ stay lim R) : e ∈ R := List.mem_of_mem_take h
theorem without_le (L : List LE) (k : Int) : (without L k).length ≤ L.length := List.length_filter_le _ _
theorem without_mem {L : List LE} {k : Int} {e : LE} (h : e ∈ without L k) : e ∈ L := (List.mem_filter.1 h).1

set_option maxRecDepth 10000 in
set_option maxHeartbeats 4000000 in
theorem step_put_ok (w0 w : World) (c m : Nat) (room : Int) (L : List LE) (A : Option Addr) (n cc : Nat) (h : CR w0 w (some c) c m room L A n cc) (hn : n ≤ 4398046511102) (k v wt un : Int) (hk : (Lit.int .i64 k).wf = true) (h0 : 0 ≤ wt) (hfit : wt ≤ room) :
    Calls Tryd.prog 22 #[ptr c, cvv room A n cc, opV ⟨1, k, v, wt, un⟩] w (StepPost w0 (some c) c m room L w) := by
  obtain ⟨w1, q, hw1, hq, hal, hs1, hsb⟩ := boxesS w0 w h.below room A n cc ⟨1, k, v, wt, un⟩
  have hln := h.len
  have HLn := hide hln
  have H1 := hide (h.past hal)
  have HD1 : Hid (Mod (InN (some c) c m L) w w1) := hide (Mod.ofBelow hal _)
  have HS1 := hide hsb
  have hqw : w0.heap.size ≤ q := hsb.low
  obtain ⟨c0, c1, _, _⟩ := box2 hsb.b0
  obtain ⟨o0, o1, o2, o3, o4⟩ := box5 hsb.b1
  obtain ⟨r0, r1, f0, f1⟩ := box2 hsb.b2
  clear h hal hsb hln
  have hLC : LCP w1 c m room L := by
    rcases H1.out.cn with ⟨_, h⟩ | ⟨h, _⟩
    · exact h
    · cases h
  have HLC := hide hLC
  clear hLC
  go_enter Tryd.func22, Tryd.ntmps22
  go_wp2_with fail
  refine (put_ok w1 c m room L HLC.out (by have := HLn.out; omega) k v wt un hk h0 hfit).mono ?_
  rintro r w2 ⟨b, E, e2, ec, rfl, hb, he2, hrow2, hc2, hm2⟩
  obtain ⟨L', hL'⟩ : ∃ L', (⟨b, k, v, wt, un⟩ : LE) :: stay (room - wt) (without L k) = L' := ⟨_, rfl⟩
  have hmN : Mod (InN (some c) c m L) w1 w2 := hm2.mono (fun _ _ hk => ⟨rfl, hk⟩)
  have HB2 := hide (H1.out.mod hmN)
  have HR2 := hide (H1.out.cn.row (by decide) (by decide) hmN H1.out.row)
  have HS2 := hide (HS1.out.mod H1.out.cn hmN)
  have HC2 : Hid (CN w2 (some c) c m room L') := hide (.inl ⟨rfl, by rw [← hL']; exact hc2⟩)
  have HE2 := hide he2
  have HER := hide hrow2
  have hlw : ∀ j, InN (some c) c m L' j → w0.heap.size ≤ j := by
    rw [← hL']
    rintro j ⟨_, hj⟩
    rcases hj with rfl | rfl | ⟨x, hx, rfl⟩
    · exact H1.out.low _ ⟨rfl, .inl rfl⟩
    · exact H1.out.low _ ⟨rfl, .inr (.inl rfl)⟩
    · rcases List.mem_cons.1 hx with rfl | hx
      · have := H1.out.below.size; show w0.heap.size ≤ b; omega
      · exact H1.out.low _ ⟨rfl, .inr (.inr ⟨x, without_mem (stay_mem hx), rfl⟩)⟩
  have HLow := hide hlw
  have hle : L'.length ≤ L.length + 1 := by rw [← hL']; have := stay_le (room - wt) (without L k); have := without_le L k; simp; omega
  have HL' := hide hL'
  have HD2 := hide (HD1.out.trans hmN (fun _ _ h => h))
  clear hc2 hm2 hmN he2 hrow2 hlw hb hL'
  clear c0 c1 o0 o1 o2 o3 o4 r0 r1 f0 f1
  obtain ⟨c0, c1, _, _⟩ := box2 HS2.out.b0
  obtain ⟨o0, o1, o2, o3, o4⟩ := box5 HS2.out.b1
  obtain ⟨r0, r1, f0, f1⟩ := box2 HS2.out.b2
  go_wp2_with fail
  refine (refput_ok w2 room A n cc L HR2.out (by omega) HLC.out.keys HLC.out.wts HLC.out.wsum_le.2 HLC.out.top ⟨b, k, v, wt, un⟩ h0 hfit).mono ?_
  rintro r w3 ⟨x3, G, g, gc, rfl, ⟨B, k3, c3, rfl, hk3, hrow3, hb3⟩, hg3, hgone3⟩
  have HK3 := hide hk3
  have HR3 : Hid (Row w3 (fun _ => True) 105 4 (.slice B k3 c3) k3 (rowsC L')) := hide (by rw [← HL'.out]; exact hrow3.mono (G := fun _ => True) (fun _ _ _ => trivial))
  have HG3 := hide hg3
  have HGo3 := hide hgone3
  have HER3 := hide (HER.out.kept (Mod.ofBelow hb3 (fun _ => False)) (fun _ _ _ h => h))
  have HC3 : Hid (CR w0 w3 (some c) c m room L' B k3 c3) := hide ⟨HC2.out.past hb3, HR3.out, HLow.out, HB2.out.trans (hb3.mono HB2.out.size)⟩
  have HS3 := hide (HS2.out.past hb3)
  have hs3 := HC3.out.below.size
  have HD3 := hide (HD2.out.trans (Mod.ofBelow hb3 (fun _ => False)) (fun _ _ h => h.elim))
  clear hk3 hrow3 hb3 hg3 hgone3
  clear c0 c1 o0 o1 o2 o3 o4 r0 r1 f0 f1
  obtain ⟨c0, c1, _, _⟩ := box2 HS3.out.b0
  obtain ⟨o0, o1, o2, o3, o4⟩ := box5 HS3.out.b1
  obtain ⟨r0, r1, f0, f1⟩ := box2 HS3.out.b2
  go_upto_region 7 with fail
  obtain ⟨t, ht⟩ : ∃ t, w3.heap.size = t := ⟨_, rfl⟩
  obtain ⟨w4, hw4⟩ : ∃ w4, w3.alloc (.cells #[.int .i64 room, .slice B k3 c3] 46) = w4 := ⟨_, rfl⟩
  have hal : Below w3.heap.size w3 w4 := by rw [← hw4]; exact (Below.refl _ _).alloc (Nat.le_refl _) _
  have htb : w4.heap[t]? = some (.cells #[.int .i64 room, .slice B k3 c3] 46 (0, 0)) := by rw [← hw4, ← ht]; exact heap_alloc_new w3 _
  have HTd : Hid (w4.drew.heap[t]? = some (.cells #[.int .i64 room, .slice B k3 c3] 46 (0, 0))) := hide htb
  have HSd : Hid (SB w0 w4.drew q room A n cc ⟨1, k, v, wt, un⟩) := hide (HS3.out.past hal.drew)
  have HCd := hide (HC3.out.past hal.drew)
  have HRd := hide (HR3.out.kept (Mod.ofBelow hal.drew (fun _ => False)) (fun _ _ _ h => h))
  have htq : q + 3 ≤ t := by have := (Array.getElem?_eq_some_iff.1 HS3.out.b2).1; omega
  have HD4 := hide (HD3.out.trans (Mod.ofBelow hal.drew (fun _ => False)) (fun _ _ h => h.elim))
  rw [ht, hw4]
  have HGd := hide (HGo3.out.kept (Mod.ofBelow hal.drew (fun _ => False)) (fun _ _ _ h => h))
  have HEd := hide (HER3.out.kept (Mod.ofBelow hal.drew (fun _ => False)) (fun _ _ _ h => h))
  clear hal ht hw4
  obtain ⟨t0, t1, _, _⟩ := box2 htb
  clear c0 c1 o0 o1 o2 o3 o4 r0 r1 f0 f1
  obtain ⟨c0, c1, _, _⟩ := box2 HSd.out.b0
  obtain ⟨o0, o1, o2, o3, o4⟩ := box5 HSd.out.b1
  obtain ⟨r0, r1, f0, f1⟩ := box2 HSd.out.b2
  have hSd : w4.drew.cell? ⟨t, 0, none⟩ = some (.int .i64 room) ∧ w4.drew.cell? ⟨t, 1, none⟩ = some (.slice B k3 c3) ∧ w4.drew.cell? ⟨q + 1, 1, none⟩ = some (.int .i64 k) ∧ w4.drew.cell? ⟨q + 1, 4, none⟩ = some (.int .i64 un) := ⟨t0, t1, o1, o4⟩
  clear htb
  have hn1 : t ≠ q + 2 := by omega
  have hn2 : q + 1 ≠ q + 2 := by omega
  have hSt := And.intro (cell_far2 (x := .int .i64 room) (y := .slice B k3 c3) t0 hn1) (And.intro (cell_far2 (x := .int .i64 room) (y := .slice B k3 c3) t1 hn1) (And.intro (cell_far2 (x := .int .i64 room) (y := .slice B k3 c3) o1 hn2) (cell_far2 (x := .int .i64 room) (y := .slice B k3 c3) o4 hn2)))
  go_region_held3 (fun w' => w'.cell? ⟨t, 0, none⟩ = some (.int .i64 room) ∧ w'.cell? ⟨t, 1, none⟩ = some (.slice B k3 c3) ∧ w'.cell? ⟨q + 1, 1, none⟩ = some (.int .i64 k) ∧ w'.cell? ⟨q + 1, 4, none⟩ = some (.int .i64 un)) (first | assumption | with_reducible exact ⟨t0, t1, o1, o4⟩ | with_reducible exact hSt) (first
    | (go_at_call 21; refine (code_nil _).mono ?_
       rintro r w5 ⟨rfl, rfl⟩)
    | (go_at_call 17; refine (same_true _ _ _ e2 g (HE2.out.trans HG3.out.symm) _ HEd.out.reads HGd.out.reads).mono ?_
       rintro r w6 ⟨rfl, hb6⟩
       have HC6 := hide (HCd.out.past hb6)
       have HS6 := hide (HSd.out.past hb6)
       have HT6 := hide (below_at hb6 HTd.out)
       have HD6 := hide (HD4.out.trans (Mod.ofBelow hb6 (fun _ => False)) (fun _ _ h => h.elim))
       clear hb6 hSt
       clear hSd t0 t1
       obtain ⟨t0, t1, _, _⟩ := box2 HT6.out
       clear c0 c1 o0 o1 o2 o3 o4 r0 r1 f0 f1
       obtain ⟨c0, c1, _, _⟩ := box2 HS6.out.b0
       obtain ⟨o0, o1, o2, o3, o4⟩ := box5 HS6.out.b1
       obtain ⟨r0, r1, f0, f1⟩ := box2 HS6.out.b2
       have hSt := And.intro (cell_far2 (x := .int .i64 room) (y := .slice B k3 c3) t0 hn1) (And.intro (cell_far2 (x := .int .i64 room) (y := .slice B k3 c3) t1 hn1) (And.intro (cell_far2 (x := .int .i64 room) (y := .slice B k3 c3) o1 hn2) (cell_far2 (x := .int .i64 room) (y := .slice B k3 c3) o4 hn2))))
    | fail)
  have HCR := HC6
  go_wp2
  have hb := box2_set HS6.out.b2 (.int .i64 room) (.slice B k3 c3)
  obtain ⟨m0, m1, _, _⟩ := box2 hb
  refine bodyPost_ret (by simp [results, Tryd.results22, go_sem, m0, m1]; rfl) rfl ?_
  exact ⟨L', B, k3, c3, rfl, HCR.out.far2 HS6.out.b2 (by decide) (by decide) (by decide) (by omega) _ _, hle, (((HD6.out).setCell (p := ⟨q + 2, 0, none⟩) (fun hl => absurd hl (by show ¬ q + 2 < w.heap.size; omega)) (.int .i64 room)).setCell (p := ⟨q + 2, 1, none⟩) (fun hl => absurd hl (by show ¬ q + 2 < w.heap.size; omega)) (.slice B k3 c3))⟩
end Go.Proofs.YtlnbgahfelcbiaaDoor
