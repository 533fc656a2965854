import Derived.Test.YtjkahckglhpjeaaDoorHCR
/- step: one call on both; the kinds that only look. -/
namespace Go.Proofs.YtjkahckglhpjeaaDoor
open Go Go.RowKit Go.Cu Go.Proofs.YtjkahckglhpjeaaDoor.errs

set_option maxRecDepth 10000 in
set_option maxHeartbeats 4000000 in
theorem step_else (w0 w : World) (c m1 m2 g : Nat) (L : List HE) (A : Option Addr) (n cc : Nat) (h : HC w0 w c m1 m2 g L A n cc) (hg : g ≤ 1048576) (p : Pl) (x : Int) (kd : Int) (h1 : (kd == 1) = false) (h2 : (kd == 2) = false) (h3 : (kd == 3) = false) (h4 : (kd == 4) = false) (h5 : (kd == 5) = false) (h6 : (kd == 6) = false) :
    Calls Tryd.prog 14 #[ptr c, cvv g A n cc, opV ⟨kd, p, x⟩] w (StepPost w0 c m1 m2 g w) := by
  obtain ⟨w1, q, hw1, hq, hal, hs1, hsb⟩ := boxesS w0 w h.h1.below g A n cc ⟨kd, p, x⟩
  have HC1 := hide (h.past hal)
  have HD1 : Hid (Mod (InH c m1 m2) w w1) := hide (Mod.ofBelow hal _)
  have HS1 := hide hsb
  have hqw : w0.heap.size ≤ q := hsb.low
  have hn : n ≤ 1048576 := by have := h.le; omega
  obtain ⟨c0, c1, _, _⟩ := bx2 hsb.b0
  obtain ⟨o0, o1, o2, o3, o4⟩ := box5 hsb.b1
  obtain ⟨r0, r1, f0, f1⟩ := bx2 hsb.b2
  clear h hal hsb
  go_enter Tryd.func14, Tryd.ntmps14
  go_wp2
  have hb := box2_set HS1.out.b2 (.int .i64 g) (.slice A n cc)
  obtain ⟨z0, z1⟩ := box2 hb
  refine bodyPost_ret (by simp [results, Tryd.results14, go_sem, z0, z1]; rfl) rfl ?_
  exact HC1.out.end_step HS1.out.b2 hqw (by omega) HD1.out hq

set_option maxRecDepth 10000 in
set_option maxHeartbeats 4000000 in
theorem step_find (w0 w : World) (c m1 m2 g : Nat) (L : List HE) (A : Option Addr) (n cc : Nat) (h : HC w0 w c m1 m2 g L A n cc) (hg : g ≤ 1048576) (p : Pl) (x : Int) (hk : (Lit.int .i64 x).wf = true) :
    Calls Tryd.prog 14 #[ptr c, cvv g A n cc, opV ⟨3, p, x⟩] w (StepPost w0 c m1 m2 g w) := by
  obtain ⟨w1, q, hw1, hq, hal, hs1, hsb⟩ := boxesS w0 w h.h1.below g A n cc ⟨3, p, x⟩
  have HC1 := hide (h.past hal)
  have HD1 : Hid (Mod (InH c m1 m2) w w1) := hide (Mod.ofBelow hal _)
  have HS1 := hide hsb
  have hqw : w0.heap.size ≤ q := hsb.low
  have hn : n ≤ 1048576 := by have := h.le; omega
  obtain ⟨c0, c1, _, _⟩ := bx2 hsb.b0
  obtain ⟨o0, o1, o2, o3, o4⟩ := box5 hsb.b1
  obtain ⟨r0, r1, f0, f1⟩ := bx2 hsb.b2
  clear h hal hsb
  obtain ⟨⟨y, ok⟩, hf⟩ : ∃ y, findR L x = y := ⟨_, rfl⟩
  have ho := find_all w1 c m1 m2 g L HC1.out.h1.hs x hk
  have ho2 := fun w2 hr => find_r w2 g A n cc L hr hn x
  rw [hf] at ho
  simp only [hf, Pl.v] at ho2
  simp only [Pl.v] at ho
  have HO := hide ho
  have HO2 := hide ho2
  clear ho ho2 hf hk
  go_enter Tryd.func14, Tryd.ntmps14
  go_wp2_with fail
  refine HO.out.mono ?_
  rintro r w2 ⟨rfl, hb2⟩
  have HC2 := hide (HC1.out.past hb2)
  have HS2 := hide (HS1.out.past hb2)
  have HD2 := hide (HD1.out.trans (Mod.ofBelow hb2 (fun _ => False)) (fun _ _ h => h.elim))
  clear hb2
  clear c0 c1 o0 o1 o2 o3 o4 r0 r1 f0 f1
  obtain ⟨c0, c1, _, _⟩ := bx2 HS2.out.b0
  obtain ⟨o0, o1, o2, o3, o4⟩ := box5 HS2.out.b1
  obtain ⟨r0, r1, f0, f1⟩ := bx2 HS2.out.b2
  go_upto_region 11 with fail
  obtain ⟨t, ht⟩ : ∃ t, w2.heap.size = t := ⟨_, rfl⟩
  obtain ⟨w3, hw3⟩ : ∃ w3, w2.alloc (.cells #[.int .i64 y.conn, .int .i64 y.life, .int .u32 y.id] 28) = w3 := ⟨_, rfl⟩
  have hal : Below w2.heap.size w2 w3 := by rw [← hw3]; exact (Below.refl _ _).alloc (Nat.le_refl _) _
  have htb : w3.heap[t]? = some (.cells #[.int .i64 y.conn, .int .i64 y.life, .int .u32 y.id] 28 (0, 0)) := by rw [← hw3, ← ht]; exact heap_alloc_new w2 _
  have HT3 := hide htb
  have HC3 := hide (HC2.out.past hal)
  have HS3 := hide (HS2.out.past hal)
  have HD3 := hide (HD2.out.trans (Mod.ofBelow hal (fun _ => False)) (fun _ _ h => h.elim))
  rw [ht, hw3]
  have htq : q + 3 ≤ t := by have := (Array.getElem?_eq_some_iff.1 HS2.out.b2).1; omega
  clear hal htb ht hw3
  clear c0 c1 o0 o1 o2 o3 o4 r0 r1 f0 f1
  obtain ⟨c0, c1, _, _⟩ := bx2 HS3.out.b0
  obtain ⟨o0, o1, o2, o3, o4⟩ := box5 HS3.out.b1
  obtain ⟨r0, r1, f0, f1⟩ := bx2 HS3.out.b2
  go_wp2_with fail
  refine (HO2.out w3 HC3.out.row.reads).mono ?_
  rintro r w4 ⟨rfl, hb4⟩
  have HC4 := hide (HC3.out.past hb4)
  have HS4 := hide (HS3.out.past hb4)
  have HT4 := hide (below_at hb4 HT3.out)
  have HD4 := hide (HD3.out.trans (Mod.ofBelow hb4 (fun _ => False)) (fun _ _ h => h.elim))
  clear hb4
  clear c0 c1 o0 o1 o2 o3 o4 r0 r1 f0 f1
  obtain ⟨c0, c1, _, _⟩ := bx2 HS4.out.b0
  obtain ⟨o0, o1, o2, o3, o4⟩ := box5 HS4.out.b1
  obtain ⟨r0, r1, f0, f1⟩ := bx2 HS4.out.b2
  go_upto_region 12 with fail
  obtain ⟨u, hu⟩ : ∃ u, w4.heap.size = u := ⟨_, rfl⟩
  obtain ⟨w5, hw5⟩ : ∃ w5, w4.alloc (.cells #[.int .i64 y.conn, .int .i64 y.life, .int .u32 y.id] 28) = w5 := ⟨_, rfl⟩
  have hal : Below w4.heap.size w4 w5 := by rw [← hw5]; exact (Below.refl _ _).alloc (Nat.le_refl _) _
  have hub : w5.heap[u]? = some (.cells #[.int .i64 y.conn, .int .i64 y.life, .int .u32 y.id] 28 (0, 0)) := by rw [← hw5, ← hu]; exact heap_alloc_new w4 _
  have htb := below_at hal HT4.out
  have HC5 := hide (HC4.out.past hal)
  have HS5 := hide (HS4.out.past hal)
  have HD5 := hide (HD4.out.trans (Mod.ofBelow hal (fun _ => False)) (fun _ _ h => h.elim))
  rw [hu, hw5]
  have huq : q + 3 ≤ u := by have := (Array.getElem?_eq_some_iff.1 HS4.out.b2).1; omega
  clear hal hu hw5
  clear c0 c1 o0 o1 o2 o3 o4 r0 r1 f0 f1
  obtain ⟨c0, c1, _, _⟩ := bx2 HS5.out.b0
  obtain ⟨o0, o1, o2, o3, o4⟩ := box5 HS5.out.b1
  obtain ⟨r0, r1, f0, f1⟩ := bx2 HS5.out.b2
  obtain ⟨t0, t1, t2, _⟩ := box3 htb
  obtain ⟨u0, u1, u2, _⟩ := box3 hub
  clear htb hub o0 o1 o2 o3 o4
  have n1 : q ≠ q + 2 := by omega
  have n2 : t ≠ q + 2 := by omega
  have n3 : u ≠ q + 2 := by omega
  have hSd : w5.drew.cell? ⟨q, 0, none⟩ = some (.int .i64 g) ∧ w5.drew.cell? ⟨q, 1, none⟩ = some (.slice A n cc) ∧ w5.drew.cell? ⟨t, 0, none⟩ = some (.int .i64 y.conn) ∧ w5.drew.cell? ⟨t, 1, none⟩ = some (.int .i64 y.life) ∧ w5.drew.cell? ⟨t, 2, none⟩ = some (.int .u32 y.id) ∧ w5.drew.cell? ⟨u, 0, none⟩ = some (.int .i64 y.conn) ∧ w5.drew.cell? ⟨u, 1, none⟩ = some (.int .i64 y.life) ∧ w5.drew.cell? ⟨u, 2, none⟩ = some (.int .u32 y.id) := ⟨c0, c1, t0, t1, t2, u0, u1, u2⟩
  have hSt := And.intro (cell_far2 (x := .int .i64 g) (y := .slice A n cc) c0 n1) (And.intro (cell_far2 (x := .int .i64 g) (y := .slice A n cc) c1 n1) (And.intro (cell_far2 (x := .int .i64 g) (y := .slice A n cc) t0 n2) (And.intro (cell_far2 (x := .int .i64 g) (y := .slice A n cc) t1 n2) (And.intro (cell_far2 (x := .int .i64 g) (y := .slice A n cc) t2 n2) (And.intro (cell_far2 (x := .int .i64 g) (y := .slice A n cc) u0 n3) (And.intro (cell_far2 (x := .int .i64 g) (y := .slice A n cc) u1 n3) (cell_far2 (x := .int .i64 g) (y := .slice A n cc) u2 n3)))))))
  go_region_held3 (fun w' => w'.cell? ⟨q, 0, none⟩ = some (.int .i64 g) ∧ w'.cell? ⟨q, 1, none⟩ = some (.slice A n cc) ∧ w'.cell? ⟨t, 0, none⟩ = some (.int .i64 y.conn) ∧ w'.cell? ⟨t, 1, none⟩ = some (.int .i64 y.life) ∧ w'.cell? ⟨t, 2, none⟩ = some (.int .u32 y.id) ∧ w'.cell? ⟨u, 0, none⟩ = some (.int .i64 y.conn) ∧ w'.cell? ⟨u, 1, none⟩ = some (.int .i64 y.life) ∧ w'.cell? ⟨u, 2, none⟩ = some (.int .u32 y.id)) (first | assumption | with_reducible exact ⟨c0, c1, t0, t1, t2, u0, u1, u2⟩ | with_reducible exact hSt) (fail)
  go_wp2
  have hb := box2_set HS5.out.b2 (.int .i64 g) (.slice A n cc)
  obtain ⟨z0, z1⟩ := box2 hb
  refine bodyPost_ret (by simp [results, Tryd.results14, go_sem, z0, z1]; rfl) rfl ?_
  exact HC5.out.end_stepD HS5.out.b2 hqw (by omega) HD5.out hq

set_option maxRecDepth 10000 in
set_option maxHeartbeats 4000000 in
theorem step_of (w0 w : World) (c m1 m2 g : Nat) (L : List HE) (A : Option Addr) (n cc : Nat) (h : HC w0 w c m1 m2 g L A n cc) (hg : g ≤ 1048576) (p : Pl) (x : Int) (hk : p.wf) :
    Calls Tryd.prog 14 #[ptr c, cvv g A n cc, opV ⟨4, p, x⟩] w (StepPost w0 c m1 m2 g w) := by
  obtain ⟨w1, q, hw1, hq, hal, hs1, hsb⟩ := boxesS w0 w h.h1.below g A n cc ⟨4, p, x⟩
  have HC1 := hide (h.past hal)
  have HD1 : Hid (Mod (InH c m1 m2) w w1) := hide (Mod.ofBelow hal _)
  have HS1 := hide hsb
  have hqw : w0.heap.size ≤ q := hsb.low
  have hn : n ≤ 1048576 := by have := h.le; omega
  obtain ⟨c0, c1, _, _⟩ := bx2 hsb.b0
  obtain ⟨o0, o1, o2, o3, o4⟩ := box5 hsb.b1
  obtain ⟨r0, r1, f0, f1⟩ := bx2 hsb.b2
  clear h hal hsb
  obtain ⟨⟨y, ok⟩, hf⟩ : ∃ y, ofR L p = y := ⟨_, rfl⟩
  have ho := of_all w1 c m1 m2 g L HC1.out.h1.hs p hk
  have ho2 := fun w2 hr => of_r w2 g A n cc L hr hn p
  rw [hf] at ho
  simp only [hf, Pl.v] at ho2
  simp only [Pl.v] at ho
  have HO := hide ho
  have HO2 := hide ho2
  clear ho ho2 hf hk
  go_enter Tryd.func14, Tryd.ntmps14
  go_wp2_with fail
  refine HO.out.mono ?_
  rintro r w2 ⟨rfl, hb2⟩
  have HC2 := hide (HC1.out.past hb2)
  have HS2 := hide (HS1.out.past hb2)
  have HD2 := hide (HD1.out.trans (Mod.ofBelow hb2 (fun _ => False)) (fun _ _ h => h.elim))
  clear hb2
  clear c0 c1 o0 o1 o2 o3 o4 r0 r1 f0 f1
  obtain ⟨c0, c1, _, _⟩ := bx2 HS2.out.b0
  obtain ⟨o0, o1, o2, o3, o4⟩ := box5 HS2.out.b1
  obtain ⟨r0, r1, f0, f1⟩ := bx2 HS2.out.b2
  go_wp2_with fail
  refine (HO2.out w2 HC2.out.row.reads).mono ?_
  rintro r w4 ⟨rfl, hb4⟩
  have HC4 := hide (HC2.out.past hb4)
  have HS4 := hide (HS2.out.past hb4)
  have HD4 := hide (HD2.out.trans (Mod.ofBelow hb4 (fun _ => False)) (fun _ _ h => h.elim))
  clear hb4
  clear c0 c1 o0 o1 o2 o3 o4 r0 r1 f0 f1
  obtain ⟨c0, c1, _, _⟩ := bx2 HS4.out.b0
  obtain ⟨o0, o1, o2, o3, o4⟩ := box5 HS4.out.b1
  obtain ⟨r0, r1, f0, f1⟩ := bx2 HS4.out.b2
  go_wp2
  have hb := box2_set HS4.out.b2 (.int .i64 g) (.slice A n cc)
  obtain ⟨z0, z1⟩ := box2 hb
  refine bodyPost_ret (by simp [results, Tryd.results14, go_sem, z0, z1]; rfl) rfl ?_
  exact HC4.out.end_step HS4.out.b2 hqw (by omega) HD4.out hq

set_option maxRecDepth 10000 in
set_option maxHeartbeats 4000000 in
theorem step_len (w0 w : World) (c m1 m2 g : Nat) (L : List HE) (A : Option Addr) (n cc : Nat) (h : HC w0 w c m1 m2 g L A n cc) (hg : g ≤ 1048576) (p : Pl) (x : Int) :
    Calls Tryd.prog 14 #[ptr c, cvv g A n cc, opV ⟨6, p, x⟩] w (StepPost w0 c m1 m2 g w) := by
  obtain ⟨w1, q, hw1, hq, hal, hs1, hsb⟩ := boxesS w0 w h.h1.below g A n cc ⟨6, p, x⟩
  have HC1 := hide (h.past hal)
  have HD1 : Hid (Mod (InH c m1 m2) w w1) := hide (Mod.ofBelow hal _)
  have HS1 := hide hsb
  have hqw : w0.heap.size ≤ q := hsb.low
  have hn : n ≤ 1048576 := by have := h.le; omega
  obtain ⟨c0, c1, _, _⟩ := bx2 hsb.b0
  obtain ⟨o0, o1, o2, o3, o4⟩ := box5 hsb.b1
  obtain ⟨r0, r1, f0, f1⟩ := bx2 hsb.b2
  have hln := h.len
  clear h hal hsb
  have HCd := hide (HC1.out.past (Below.refl _ _).drew)
  have ho := len_any w1.drew c m1 m2 g L HCd.out.h1.hs
  rw [hln] at ho
  have HO := hide ho
  clear ho hln
  go_enter Tryd.func14, Tryd.ntmps14
  go_upto_region 20 with fail
  have hSd : w1.drew.cell? ⟨q, 0, none⟩ = some (.int .i64 g) ∧ w1.drew.cell? ⟨q, 1, none⟩ = some (.slice A n cc) := ⟨c0, c1⟩
  have hn1 : q ≠ q + 2 := by omega
  have hSt := And.intro (cell_far2 (x := .int .i64 g) (y := .slice A n cc) c0 hn1) (cell_far2 (x := .int .i64 g) (y := .slice A n cc) c1 hn1)
  go_region_held3 (fun w' => w'.cell? ⟨q, 0, none⟩ = some (.int .i64 g) ∧ w'.cell? ⟨q, 1, none⟩ = some (.slice A n cc)) (first | assumption | with_reducible exact ⟨c0, c1⟩ | with_reducible exact hSt) (first
    | (go_at_call 18; refine HO.out.mono ?_
       rintro r w5 ⟨rfl, rfl⟩)
    | fail)
  go_wp2
  have hb := box2_set HS1.out.b2 (.int .i64 g) (.slice A n cc)
  obtain ⟨z0, z1⟩ := box2 hb
  refine bodyPost_ret (by simp [results, Tryd.results14, go_sem, z0, z1]; rfl) rfl ?_
  exact HC1.out.end_stepD HS1.out.b2 hqw (by omega) HD1.out hq

set_option maxRecDepth 10000 in
set_option maxHeartbeats 4000000 in
theorem step_on_ (w0 w : World) (c m1 m2 g : Nat) (L : List HE) (A : Option Addr) (n cc : Nat) (h : HC w0 w c m1 m2 g L A n cc) (hg : g ≤ 1048576) (p : Pl) (x : Int) :
    Calls Tryd.prog 14 #[ptr c, cvv g A n cc, opV ⟨5, p, x⟩] w (StepPost w0 c m1 m2 g w) := by
  obtain ⟨w1, q, hw1, hq, hal, hs1, hsb⟩ := boxesS w0 w h.h1.below g A n cc ⟨5, p, x⟩
  have HC1 := hide (h.past hal)
  have HD1 : Hid (Mod (InH c m1 m2) w w1) := hide (Mod.ofBelow hal _)
  have HS1 := hide hsb
  have hqw : w0.heap.size ≤ q := hsb.low
  have hn : n ≤ 1048576 := by have := h.le; omega
  obtain ⟨c0, c1, _, _⟩ := bx2 hsb.b0
  obtain ⟨o0, o1, o2, o3, o4⟩ := box5 hsb.b1
  obtain ⟨r0, r1, f0, f1⟩ := bx2 hsb.b2
  clear h hal hsb
  have HCd := hide (HC1.out.past (Below.refl _ _).drew)
  have HSd : Hid (SB w0 w1.drew q g A n cc ⟨5, p, x⟩) := hide (HS1.out.past (Below.refl _ _).drew)
  have HDd := hide HD1.out.drew
  go_enter Tryd.func14, Tryd.ntmps14
  go_upto_region 18 with fail
  have hSd : w1.drew.cell? ⟨q, 0, none⟩ = some (.int .i64 g) ∧ w1.drew.cell? ⟨q, 1, none⟩ = some (.slice A n cc) ∧ w1.drew.cell? ⟨q + 1, 1, none⟩ = some (.int .i64 p.conn) ∧ w1.drew.cell? ⟨q + 1, 2, none⟩ = some (.int .i64 p.life) := ⟨c0, c1, o1, o2⟩
  have hn1 : q ≠ q + 2 := by omega
  have hn2 : q + 1 ≠ q + 2 := by omega
  have hSt := And.intro (cell_far2 (x := .int .i64 g) (y := .slice A n cc) c0 hn1) (And.intro (cell_far2 (x := .int .i64 g) (y := .slice A n cc) c1 hn1) (And.intro (cell_far2 (x := .int .i64 g) (y := .slice A n cc) o1 hn2) (cell_far2 (x := .int .i64 g) (y := .slice A n cc) o2 hn2)))
  go_region_held3 (fun w' => w'.cell? ⟨q, 0, none⟩ = some (.int .i64 g) ∧ w'.cell? ⟨q, 1, none⟩ = some (.slice A n cc) ∧ w'.cell? ⟨q + 1, 1, none⟩ = some (.int .i64 p.conn) ∧ w'.cell? ⟨q + 1, 2, none⟩ = some (.int .i64 p.life)) (first | assumption | with_reducible exact ⟨c0, c1, o1, o2⟩ | with_reducible exact hSt) (first
    | (go_at_call 12; refine (on_any _ c m1 m2 g L HCd.out.h1.hs p.conn p.life).mono ?_
       rintro r w2 ⟨E, e, ec, rfl, he, hrow2, hb2⟩
       have HE := hide he
       have HE2 := hide hrow2
       have HC2 := hide (HCd.out.past hb2)
       have HS2 := hide (HSd.out.past hb2)
       have HD2 := hide (HDd.out.trans (Mod.ofBelow hb2 (fun _ => False)) (fun _ _ h => h.elim))
       clear hb2 hrow2 he hSt hSd
       clear c0 c1 o0 o1 o2 o3 o4 r0 r1 f0 f1
       obtain ⟨c0, c1, _, _⟩ := bx2 HS2.out.b0
       obtain ⟨o0, o1, o2, o3, o4⟩ := box5 HS2.out.b1
       obtain ⟨r0, r1, f0, f1⟩ := bx2 HS2.out.b2
       have hSt := And.intro (cell_far2 (x := .int .i64 g) (y := .slice A n cc) c0 hn1) (And.intro (cell_far2 (x := .int .i64 g) (y := .slice A n cc) c1 hn1) (And.intro (cell_far2 (x := .int .i64 g) (y := .slice A n cc) o1 hn2) (cell_far2 (x := .int .i64 g) (y := .slice A n cc) o2 hn2))))
    | (go_at_call 19; refine (on_r w2 g A n cc L HC2.out.row.reads hn p.conn p.life).mono ?_
       rintro r w3 ⟨G, gn, gc, rfl, hgn, hrow3, hb3⟩
       have HG := hide hgn
       have HG3 := hide hrow3
       have HE3 := hide (HE2.out.kept (Mod.ofBelow hb3 (fun _ => False)) (fun _ _ _ h => h))
       have HC3 := hide (HC2.out.past hb3)
       have HS3 := hide (HS2.out.past hb3)
       have HD3 := hide (HD2.out.trans (Mod.ofBelow hb3 (fun _ => False)) (fun _ _ h => h.elim))
       clear hb3 hrow3 hgn hSt
       clear c0 c1 o0 o1 o2 o3 o4 r0 r1 f0 f1
       obtain ⟨c0, c1, _, _⟩ := bx2 HS3.out.b0
       obtain ⟨o0, o1, o2, o3, o4⟩ := box5 HS3.out.b1
       obtain ⟨r0, r1, f0, f1⟩ := bx2 HS3.out.b2
       have hSt := And.intro (cell_far2 (x := .int .i64 g) (y := .slice A n cc) c0 hn1) (And.intro (cell_far2 (x := .int .i64 g) (y := .slice A n cc) c1 hn1) (And.intro (cell_far2 (x := .int .i64 g) (y := .slice A n cc) o1 hn2) (cell_far2 (x := .int .i64 g) (y := .slice A n cc) o2 hn2))))
    | (go_at_call 21; refine (same_any w3 _ _ e gn (HE.out.trans HG.out.symm) _ HE3.out.reads HG3.out.reads).mono ?_
       rintro r w4 ⟨rfl, hb4⟩
       have HC4 := hide (HC3.out.past hb4)
       have HS4 := hide (HS3.out.past hb4)
       have HD4 := hide (HD3.out.trans (Mod.ofBelow hb4 (fun _ => False)) (fun _ _ h => h.elim))
       clear hb4 hSt
       clear c0 c1 o0 o1 o2 o3 o4 r0 r1 f0 f1
       obtain ⟨c0, c1, _, _⟩ := bx2 HS4.out.b0
       obtain ⟨o0, o1, o2, o3, o4⟩ := box5 HS4.out.b1
       obtain ⟨r0, r1, f0, f1⟩ := bx2 HS4.out.b2
       have hSt := And.intro (cell_far2 (x := .int .i64 g) (y := .slice A n cc) c0 hn1) (And.intro (cell_far2 (x := .int .i64 g) (y := .slice A n cc) c1 hn1) (And.intro (cell_far2 (x := .int .i64 g) (y := .slice A n cc) o1 hn2) (cell_far2 (x := .int .i64 g) (y := .slice A n cc) o2 hn2))))
    | fail)
  go_wp2
  have hb := box2_set HS4.out.b2 (.int .i64 g) (.slice A n cc)
  obtain ⟨z0, z1⟩ := box2 hb
  refine bodyPost_ret (by simp [results, Tryd.results14, go_sem, z0, z1]; rfl) rfl ?_
  exact HC4.out.end_step HS4.out.b2 hqw (by omega) HD4.out hq

end Go.Proofs.YtjkahckglhpjeaaDoor
