import Derived.Test.YtjkahckglhpjeaaDoorHCR
/- step: one call on both; the kinds that write. -/
namespace Go.Proofs.YtjkahckglhpjeaaDoor
open Go Go.RowKit Go.Cu Go.Proofs.YtjkahckglhpjeaaDoor.errs

set_option maxRecDepth 10000 in
set_option maxHeartbeats 4000000 in
theorem step_drop (w0 w : World) (c m1 m2 g : Nat) (L : List HE) (A : Option Addr) (n cc : Nat) (h : HC w0 w c m1 m2 g L A n cc) (hg : g ≤ 1048576) (p : Pl) (x : Int) (hk : (Lit.int .i64 x).wf = true) :
    Calls Tryd.prog 14 #[ptr c, cvv g A n cc, opV ⟨2, p, x⟩] w (StepPost w0 c m1 m2 g w) := by
  obtain ⟨w1, q, hw1, hq, hal, hs1, hsb⟩ := boxesS w0 w h.h1.below g A n cc ⟨2, p, x⟩
  have HC1 := hide (h.past hal)
  have HD1 : Hid (Mod (InH c m1 m2) w w1) := hide (Mod.ofBelow hal _)
  have HS1 := hide hsb
  have hqw : w0.heap.size ≤ q := hsb.low
  have hn : n ≤ 1048576 := by have := h.le; omega
  obtain ⟨c0, c1, _, _⟩ := bx2 hsb.b0
  obtain ⟨o0, o1, o2, o3, o4⟩ := box5 hsb.b1
  obtain ⟨r0, r1, f0, f1⟩ := bx2 hsb.b2
  clear h hal hsb
  have HK := hide hk
  obtain ⟨⟨y, ok⟩, hf⟩ : ∃ y, findR L x = y := ⟨_, rfl⟩
  have ho := refdrop_all w1 g A n cc L HC1.out.row hn x
  have ho2 := fun w2 h2 => drop_all w2 c m1 m2 g L h2 x HK.out
  rw [hf] at ho
  simp only [hf] at ho2
  have HO := hide ho
  have HO2 := hide ho2
  clear ho ho2 hf hk
  go_enter Tryd.func14, Tryd.ntmps14
  go_wp2_with fail
  refine HO.out.mono ?_
  rintro r w3 ⟨B, k3, c3, rfl, hrow3, hb3⟩
  have HC3 := hide (HC1.out.past hb3)
  have HS3 := hide (HS1.out.past hb3)
  have HD3 := hide (HD1.out.trans (Mod.ofBelow hb3 (fun _ => False)) (fun _ _ h => h.elim))
  have HR3 := hide hrow3
  clear hb3 hrow3
  clear c0 c1 o0 o1 o2 o3 o4 r0 r1 f0 f1
  obtain ⟨c0, c1, _, _⟩ := bx2 HS3.out.b0
  obtain ⟨o0, o1, o2, o3, o4⟩ := box5 HS3.out.b1
  obtain ⟨r0, r1, f0, f1⟩ := bx2 HS3.out.b2
  go_upto_region 8 with fail
  obtain ⟨t, ht⟩ : ∃ t, w3.heap.size = t := ⟨_, rfl⟩
  obtain ⟨w4, hw4⟩ : ∃ w4, w3.alloc (.cells #[.int .i64 g, .slice B k3 c3] 43) = w4 := ⟨_, rfl⟩
  have hal : Below w3.heap.size w3 w4 := by rw [← hw4]; exact (Below.refl _ _).alloc (Nat.le_refl _) _
  have htb : w4.heap[t]? = some (.cells #[.int .i64 g, .slice B k3 c3] 43 (0, 0)) := by rw [← hw4, ← ht]; exact heap_alloc_new w3 _
  have HT4 := hide htb
  have HC4 := hide (HC3.out.past hal)
  have HS4 := hide (HS3.out.past hal)
  have HR4 := hide (HR3.out.kept (Mod.ofBelow hal (fun _ => False)) (fun _ _ _ h => h))
  have htq : q + 3 ≤ t := by have := (Array.getElem?_eq_some_iff.1 HS3.out.b2).1; omega
  have HD4 := hide (HD3.out.trans (Mod.ofBelow hal (fun _ => False)) (fun _ _ h => h.elim))
  rw [ht, hw4]
  clear hal ht hw4
  obtain ⟨t0, t1, _, _⟩ := bx2 htb
  clear htb
  clear c0 c1 o0 o1 o2 o3 o4 r0 r1 f0 f1
  obtain ⟨c0, c1, _, _⟩ := bx2 HS4.out.b0
  obtain ⟨o0, o1, o2, o3, o4⟩ := box5 HS4.out.b1
  obtain ⟨r0, r1, f0, f1⟩ := bx2 HS4.out.b2
  have HTd : Hid (w4.drew.heap[t]? = some (.cells #[.int .i64 g, .slice B k3 c3] 43 (0, 0))) := HT4
  have HCd := hide (HC4.out.past (Below.refl _ _).drew)
  have HSd : Hid (SB w0 w4.drew q g A n cc ⟨2, p, x⟩) := hide (HS4.out.past (Below.refl _ _).drew)
  have HRd := hide HR4.out.drew
  have HDd := hide HD4.out.drew
  have hSd : w4.drew.cell? ⟨t, 0, none⟩ = some (.int .i64 g) ∧ w4.drew.cell? ⟨t, 1, none⟩ = some (.slice B k3 c3) ∧ w4.drew.cell? ⟨q + 1, 4, none⟩ = some (.int .i64 x) := ⟨t0, t1, o4⟩
  have hn1 : t ≠ q + 2 := by omega
  have hn2 : q + 1 ≠ q + 2 := by omega
  have hSt := And.intro (cell_far2 (x := .int .i64 g) (y := .slice B k3 c3) t0 hn1) (And.intro (cell_far2 (x := .int .i64 g) (y := .slice B k3 c3) t1 hn1) (cell_far2 (x := .int .i64 g) (y := .slice B k3 c3) o4 hn2))
  go_region_held3 (fun w' => w'.cell? ⟨t, 0, none⟩ = some (.int .i64 g) ∧ w'.cell? ⟨t, 1, none⟩ = some (.slice B k3 c3) ∧ w'.cell? ⟨q + 1, 4, none⟩ = some (.int .i64 x)) (first | assumption | with_reducible exact ⟨t0, t1, o4⟩ | with_reducible exact hSt) (first
    | (go_at_call 10; refine (HO2.out w4.drew HCd.out.h1.hs).mono ?_
       rintro r w5 ⟨rfl, hs5, hm5⟩
       have HC5 := hide (HCd.out.turn hs5 hm5 HRd.out)
       have HS5 := hide (HSd.out.mod HCd.out.h1.hs hm5)
       have hT5 := HCd.out.h1.hs.heap hm5 HTd.out (by decide)
       have HD5 := hide (HDd.out.trans hm5 (fun _ _ h => h))
       clear hSd hSt t0 t1 hs5 hm5
       obtain ⟨t0, t1, _, _⟩ := bx2 hT5
       clear c0 c1 o0 o1 o2 o3 o4 r0 r1 f0 f1 hT5
       obtain ⟨c0, c1, _, _⟩ := bx2 HS5.out.b0
       obtain ⟨o0, o1, o2, o3, o4⟩ := box5 HS5.out.b1
       obtain ⟨r0, r1, f0, f1⟩ := bx2 HS5.out.b2
       have hSt := And.intro (cell_far2 (x := .int .i64 g) (y := .slice B k3 c3) t0 hn1) (And.intro (cell_far2 (x := .int .i64 g) (y := .slice B k3 c3) t1 hn1) (cell_far2 (x := .int .i64 g) (y := .slice B k3 c3) o4 hn2)))
    | fail)
  go_wp2
  have hb := box2_set HS5.out.b2 (.int .i64 g) (.slice B k3 c3)
  obtain ⟨z0, z1⟩ := box2 hb
  refine bodyPost_ret (by simp [results, Tryd.results14, go_sem, z0, z1]; rfl) rfl ?_
  exact HC5.out.end_step HS5.out.b2 hqw (by omega) HD5.out hq

set_option maxRecDepth 10000 in
set_option maxHeartbeats 4000000 in
theorem step_bind_twice (w0 w : World) (c m1 m2 g : Nat) (L : List HE) (A : Option Addr) (n cc : Nat) (h : HC w0 w c m1 m2 g L A n cc) (hg : g ≤ 1048576) (p : Pl) (x : Int) (adr : Nat → Addr) (hSe : Sent w0 adr) (a b : List HE) (e : HE) (hL : L = a ++ e :: b) (hep : e.p = p) (hpre : ∀ y ∈ a, y.p ≠ p) :
    Calls Tryd.prog 14 #[ptr c, cvv g A n cc, opV ⟨1, p, x⟩] w (StepPost w0 c m1 m2 g w) := by
  obtain ⟨w1, q, hw1, hq, hal, hs1, hsb⟩ := boxesS w0 w h.h1.below g A n cc ⟨1, p, x⟩
  have HC1 := hide (h.past hal)
  have HD1 : Hid (Mod (InH c m1 m2) w w1) := hide (Mod.ofBelow hal _)
  have HS1 := hide hsb
  have hqw : w0.heap.size ≤ q := hsb.low
  have hn : n ≤ 1048576 := by have := h.le; omega
  obtain ⟨c0, c1, _, _⟩ := bx2 hsb.b0
  obtain ⟨o0, o1, o2, o3, o4⟩ := box5 hsb.b1
  obtain ⟨r0, r1, f0, f1⟩ := bx2 hsb.b2
  clear h hal hsb
  have HSe := hide hSe
  subst hL
  subst hep
  have HO := hide (refbind_twice w1 g A n cc _ HC1.out.row.reads hn e.p e.h (ofR_yes hpre))
  simp only [Pl.v] at HO
  clear hpre hSe
  go_enter Tryd.func14, Tryd.ntmps14
  go_wp2_with fail
  refine HO.out.mono ?_
  rintro r w3 ⟨rfl, hb3⟩
  have HC3 := hide (HC1.out.past hb3)
  have HS3 := hide (HS1.out.past hb3)
  have HD3 := hide (HD1.out.trans (Mod.ofBelow hb3 (fun _ => False)) (fun _ _ h => h.elim))
  have HR3 := hide HC3.out.row
  clear hb3
  clear c0 c1 o0 o1 o2 o3 o4 r0 r1 f0 f1
  obtain ⟨c0, c1, _, _⟩ := bx2 HS3.out.b0
  obtain ⟨o0, o1, o2, o3, o4⟩ := box5 HS3.out.b1
  obtain ⟨r0, r1, f0, f1⟩ := bx2 HS3.out.b2
  go_upto_region 4 with fail
  obtain ⟨t, ht⟩ : ∃ t, w3.heap.size = t := ⟨_, rfl⟩
  obtain ⟨w4, hw4⟩ : ∃ w4, w3.alloc (.cells #[.int .i64 g, .slice A n cc] 43) = w4 := ⟨_, rfl⟩
  have hal : Below w3.heap.size w3 w4 := by rw [← hw4]; exact (Below.refl _ _).alloc (Nat.le_refl _) _
  have htb : w4.heap[t]? = some (.cells #[.int .i64 g, .slice A n cc] 43 (0, 0)) := by rw [← hw4, ← ht]; exact heap_alloc_new w3 _
  have HT4 := hide htb
  have HC4 := hide (HC3.out.past hal)
  have HS4 := hide (HS3.out.past hal)
  have HR4 := hide (HR3.out.kept (Mod.ofBelow hal (fun _ => False)) (fun _ _ _ h => h))
  have htq : q + 3 ≤ t := by have := (Array.getElem?_eq_some_iff.1 HS3.out.b2).1; omega
  have HD4 := hide (HD3.out.trans (Mod.ofBelow hal (fun _ => False)) (fun _ _ h => h.elim))
  rw [ht, hw4]
  clear hal ht hw4
  obtain ⟨t0, t1, _, _⟩ := bx2 htb
  clear htb
  clear c0 c1 o0 o1 o2 o3 o4 r0 r1 f0 f1
  obtain ⟨c0, c1, _, _⟩ := bx2 HS4.out.b0
  obtain ⟨o0, o1, o2, o3, o4⟩ := box5 HS4.out.b1
  obtain ⟨r0, r1, f0, f1⟩ := bx2 HS4.out.b2
  go_wp2_with fail
  refine (bind_twice w4 c m1 m2 g a b e HC4.out.h1.hs _ ((HSe.out.below HC4.out.h1.below).cell 8 (by decide) (by decide))).mono ?_
  rintro r w5 ⟨rfl, hb5⟩
  have HC5 := hide (HC4.out.past hb5)
  have HS5 := hide (HS4.out.past hb5)
  have HT5 := hide (below_at hb5 HT4.out)
  have HD5 := hide (HD4.out.trans (Mod.ofBelow hb5 (fun _ => False)) (fun _ _ h => h.elim))
  clear hb5 t0 t1
  clear c0 c1 o0 o1 o2 o3 o4 r0 r1 f0 f1
  obtain ⟨c0, c1, _, _⟩ := bx2 HS5.out.b0
  obtain ⟨o0, o1, o2, o3, o4⟩ := box5 HS5.out.b1
  obtain ⟨r0, r1, f0, f1⟩ := bx2 HS5.out.b2
  obtain ⟨t0, t1, _, _⟩ := bx2 HT5.out
  go_upto_region 5 with fail
  have HCd := hide (HC5.out.past (Below.refl _ _).drew)
  have hSd : w5.drew.cell? ⟨t, 0, none⟩ = some (.int .i64 g) ∧ w5.drew.cell? ⟨t, 1, none⟩ = some (.slice A n cc) := ⟨t0, t1⟩
  have hn1 : t ≠ q + 2 := by omega
  have hSt := And.intro (cell_far2 (x := .int .i64 g) (y := .slice A n cc) t0 hn1) (cell_far2 (x := .int .i64 g) (y := .slice A n cc) t1 hn1)
  go_region_held3 (fun w' => w'.cell? ⟨t, 0, none⟩ = some (.int .i64 g) ∧ w'.cell? ⟨t, 1, none⟩ = some (.slice A n cc)) (first | assumption | with_reducible exact ⟨t0, t1⟩ | with_reducible exact hSt) (first
    | (go_at_call 17; refine (code_err _ adr (HSe.out.below HCd.out.h1.below) 8 (by decide) (by decide) (by decide)).mono ?_
       rintro r w6 ⟨rfl, rfl⟩)
    | fail)
  go_wp2
  have hb := box2_set HS5.out.b2 (.int .i64 g) (.slice A n cc)
  obtain ⟨z0, z1⟩ := box2 hb
  refine bodyPost_ret (by simp [results, Tryd.results14, go_sem, z0, z1]; rfl) rfl ?_
  exact HC5.out.end_stepD HS5.out.b2 hqw (by omega) HD5.out hq

set_option maxRecDepth 10000 in
set_option maxHeartbeats 4000000 in
theorem step_bind_ok (w0 w : World) (c m1 m2 g : Nat) (L : List HE) (A : Option Addr) (n cc : Nat) (h : HC w0 w c m1 m2 g L A n cc) (hg : g ≤ 1048576) (p : Pl) (x : Int) (hk : p.wf) (hno : ∀ e ∈ L, e.p ≠ p) :
    Calls Tryd.prog 14 #[ptr c, cvv g A n cc, opV ⟨1, p, x⟩] w (StepPost w0 c m1 m2 g w) := by
  obtain ⟨w1, q, hw1, hq, hal, hs1, hsb⟩ := boxesS w0 w h.h1.below g A n cc ⟨1, p, x⟩
  have HC1 := hide (h.past hal)
  have HD1 : Hid (Mod (InH c m1 m2) w w1) := hide (Mod.ofBelow hal _)
  have HS1 := hide hsb
  have hqw : w0.heap.size ≤ q := hsb.low
  have hn : n ≤ 1048576 := by have := h.le; omega
  obtain ⟨c0, c1, _, _⟩ := bx2 hsb.b0
  obtain ⟨o0, o1, o2, o3, o4⟩ := box5 hsb.b1
  obtain ⟨r0, r1, f0, f1⟩ := bx2 hsb.b2
  clear h hal hsb
  have HK := hide hk
  have HNo := hide hno
  have hL0 : ∀ e ∈ L, e.h ≠ 0 := fun e he => by have := (HC1.out.h1.hs.rng e he).1; omega
  have hgl : g < 2147483648 := by omega
  have HO := hide (refbind_ok w1 g A n cc L HC1.out.row hn p 0 (ofR_no hno) hgl hL0)
  have hcast : ((g + 1 : Nat) : Int) = (g : Int) + 1 := rfl
  simp only [Pl.v] at HO
  clear hk hno hL0
  go_enter Tryd.func14, Tryd.ntmps14
  go_wp2_with fail
  refine HO.out.mono ?_
  rintro r w3 ⟨B, c3, rfl, hrow3, hb3⟩
  have HC3 := hide (HC1.out.past hb3)
  have HS3 := hide (HS1.out.past hb3)
  have HD3 := hide (HD1.out.trans (Mod.ofBelow hb3 (fun _ => False)) (fun _ _ h => h.elim))
  have HR3 := hide hrow3
  clear hrow3
  clear hb3
  clear c0 c1 o0 o1 o2 o3 o4 r0 r1 f0 f1
  obtain ⟨c0, c1, _, _⟩ := bx2 HS3.out.b0
  obtain ⟨o0, o1, o2, o3, o4⟩ := box5 HS3.out.b1
  obtain ⟨r0, r1, f0, f1⟩ := bx2 HS3.out.b2
  go_upto_region 4 with fail
  obtain ⟨t, ht⟩ : ∃ t, w3.heap.size = t := ⟨_, rfl⟩
  obtain ⟨w4, hw4⟩ : ∃ w4, w3.alloc (.cells #[.int .i64 ((g : Int) + 1), .slice B (n + 1) c3] 43) = w4 := ⟨_, rfl⟩
  have hal : Below w3.heap.size w3 w4 := by rw [← hw4]; exact (Below.refl _ _).alloc (Nat.le_refl _) _
  have htb : w4.heap[t]? = some (.cells #[.int .i64 ((g : Int) + 1), .slice B (n + 1) c3] 43 (0, 0)) := by rw [← hw4, ← ht]; exact heap_alloc_new w3 _
  have HT4 := hide htb
  have HC4 := hide (HC3.out.past hal)
  have HS4 := hide (HS3.out.past hal)
  have HR4 := hide (HR3.out.kept (Mod.ofBelow hal (fun _ => False)) (fun _ _ _ h => h))
  have htq : q + 3 ≤ t := by have := (Array.getElem?_eq_some_iff.1 HS3.out.b2).1; omega
  have HD4 := hide (HD3.out.trans (Mod.ofBelow hal (fun _ => False)) (fun _ _ h => h.elim))
  rw [ht, hw4]
  clear hal ht hw4
  obtain ⟨t0, t1, _, _⟩ := bx2 htb
  clear htb
  clear c0 c1 o0 o1 o2 o3 o4 r0 r1 f0 f1
  obtain ⟨c0, c1, _, _⟩ := bx2 HS4.out.b0
  obtain ⟨o0, o1, o2, o3, o4⟩ := box5 HS4.out.b1
  obtain ⟨r0, r1, f0, f1⟩ := bx2 HS4.out.b2
  go_wp2_with fail
  refine (bind_ok w4 c m1 m2 g L HC4.out.h1.hs p HK.out HNo.out hgl).mono ?_
  rintro r w5 ⟨rfl, hs5, hm5⟩
  have HC5 := hide (HC4.out.turn hs5 hm5 HR4.out)
  have HS5 := hide (HS4.out.mod HC4.out.h1.hs hm5)
  have HT5 := hide (HC4.out.h1.hs.heap hm5 HT4.out (by decide))
  have HD5 := hide (HD4.out.trans hm5 (fun _ _ h => h))
  clear hs5 hm5 t0 t1
  clear c0 c1 o0 o1 o2 o3 o4 r0 r1 f0 f1
  obtain ⟨c0, c1, _, _⟩ := bx2 HS5.out.b0
  obtain ⟨o0, o1, o2, o3, o4⟩ := box5 HS5.out.b1
  obtain ⟨r0, r1, f0, f1⟩ := bx2 HS5.out.b2
  obtain ⟨t0, t1, _, _⟩ := bx2 HT5.out
  go_upto_region 5 with fail
  have HCd := hide (HC5.out.past (Below.refl _ _).drew)
  have hSd : w5.drew.cell? ⟨t, 0, none⟩ = some (.int .i64 ((g : Int) + 1)) ∧ w5.drew.cell? ⟨t, 1, none⟩ = some (.slice B (n + 1) c3) := ⟨t0, t1⟩
  have hn1 : t ≠ q + 2 := by omega
  have hSt := And.intro (cell_far2 (x := .int .i64 ((g : Int) + 1)) (y := .slice B (n + 1) c3) t0 hn1) (cell_far2 (x := .int .i64 ((g : Int) + 1)) (y := .slice B (n + 1) c3) t1 hn1)
  go_region_held3 (fun w' => w'.cell? ⟨t, 0, none⟩ = some (.int .i64 ((g : Int) + 1)) ∧ w'.cell? ⟨t, 1, none⟩ = some (.slice B (n + 1) c3)) (first | assumption | with_reducible exact ⟨t0, t1⟩ | with_reducible exact hSt) (first
    | (go_at_call 17; refine (code_nil _).mono ?_
       rintro r w6 ⟨rfl, rfl⟩)
    | fail)
  go_wp2
  have hb := box2_set HS5.out.b2 (.int .i64 ((g : Int) + 1)) (.slice B (n + 1) c3)
  obtain ⟨z0, z1⟩ := box2 hb
  refine bodyPost_ret (by simp [results, Tryd.results14, go_sem, z0, z1]; rfl) rfl ?_
  exact HC5.out.end_stepD HS5.out.b2 hqw (by omega) HD5.out hq

end Go.Proofs.YtjkahckglhpjeaaDoor
