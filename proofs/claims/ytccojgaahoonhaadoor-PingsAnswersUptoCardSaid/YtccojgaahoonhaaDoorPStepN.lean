import Derived.Test.YtccojgaahoonhaaDoorPNil
/- step with nil pings: one call on both. -/
namespace Go.Proofs.YtccojgaahoonhaaDoor
open Go Go.RowKit Go.Cu Go.Proofs.YtccojgaahoonhaaDoor.errs
def NilPost (w : World) (r : Ending) (w' : World) : Prop := r = .returned (.tuple #[pv 0 0 none 0 0 none 0 0 none 0 0, .bool true]) ∧ Below w.heap.size w w'
set_option maxRecDepth 10000 in
set_option maxHeartbeats 4000000 in
theorem stepn_ask (w : World) (adr : Nat → Addr) (hSe : Sent w adr) (t : Int) :
    Calls Tryd.prog 16 #[.pointer none, pv 0 0 none 0 0 none 0 0 none 0 0, .agg #[.int .i64 0, .int .u32 t]] w (NilPost w) := by
  obtain ⟨w1, q0, hw1, hq, hal, hs1, hsb⟩ := boxesS w (.int .i64 0) (.int .i64 0) (.slice none 0 0) (.slice none 0 0) (.slice none 0 0) 0 t
  have HB1 := hide hal
  have HSe1 := hide (hSe.below hal)
  have HS1 := hide hsb
  obtain ⟨⟨k0, k1, k2, k3, k4⟩, _⟩ := box5 hsb.b0
  obtain ⟨o0, o1, _, _⟩ := bx2 hsb.b1
  obtain ⟨_, f0, f1, f2, f3, f4⟩ := box5 hsb.b2
  clear hal hSe hsb
  go_enter Tryd.func16, Tryd.ntmps16
  go_wp2_with fail
  refine (refask_nil w1 0 none 0 0 none 0 0 none 0 0).mono ?_
  rintro r w3 ⟨rfl, hb3⟩
  have HB3 := hide (HB1.out.trans (hb3.mono HB1.out.size))
  have HS3 := hide (HS1.out.past hb3)
  have HSe3 := hide (HSe1.out.below hb3)
  clear hb3
  clear k0 k1 k2 k3 k4 o0 o1 f0 f1 f2 f3 f4
  obtain ⟨⟨k0, k1, k2, k3, k4⟩, _⟩ := box5 HS3.out.b0
  obtain ⟨o0, o1, _, _⟩ := bx2 HS3.out.b1
  obtain ⟨_, f0, f1, f2, f3, f4⟩ := box5 HS3.out.b2
  go_upto_region 4 with fail
  obtain ⟨t0, ht⟩ : ∃ t0, w3.heap.size = t0 := ⟨_, rfl⟩
  obtain ⟨w4, hw4⟩ : ∃ w4, w3.alloc (.cells #[.int .i64 0, .int .i64 0, .slice none 0 0, .slice none 0 0, .slice none 0 0] 40) = w4 := ⟨_, rfl⟩
  have hal : Below w3.heap.size w3 w4 := by rw [← hw4]; exact (Below.refl _ _).alloc (Nat.le_refl _) _
  have htb : w4.heap[t0]? = some (.cells #[.int .i64 0, .int .i64 0, .slice none 0 0, .slice none 0 0, .slice none 0 0] 40 (0, 0)) := by rw [← hw4, ← ht]; exact heap_alloc_new w3 _
  have HT4 := hide htb
  have HB4 := hide (HB3.out.trans (hal.mono HB3.out.size))
  have HS4 := hide (HS3.out.past hal)
  have HSe4 := hide (HSe3.out.below hal)
  rw [ht, hw4]
  clear hal ht hw4
  obtain ⟨⟨t0c, t1c, t2c, t3c, t4c⟩, _⟩ := box5 htb
  clear htb
  clear k0 k1 k2 k3 k4 o0 o1 f0 f1 f2 f3 f4
  obtain ⟨⟨k0, k1, k2, k3, k4⟩, _⟩ := box5 HS4.out.b0
  obtain ⟨o0, o1, _, _⟩ := bx2 HS4.out.b1
  obtain ⟨_, f0, f1, f2, f3, f4⟩ := box5 HS4.out.b2
  go_wp2_with fail
  refine (ask_nil w4 _ (HSe4.out.cell 1 (by decide) (by decide))).mono ?_
  rintro r w5 ⟨rfl, hb5⟩
  have HB5 := hide (HB4.out.trans (hb5.mono HB4.out.size))
  have HSe5 := hide (HSe4.out.below hb5)
  have HS5 := hide (HS4.out.past hb5)
  have HT5 := hide (below_at hb5 HT4.out)
  clear hb5 t0c t1c t2c t3c t4c
  clear k0 k1 k2 k3 k4 o0 o1 f0 f1 f2 f3 f4
  obtain ⟨⟨k0, k1, k2, k3, k4⟩, _⟩ := box5 HS5.out.b0
  obtain ⟨o0, o1, _, _⟩ := bx2 HS5.out.b1
  obtain ⟨_, f0, f1, f2, f3, f4⟩ := box5 HS5.out.b2
  obtain ⟨⟨t0c, t1c, t2c, t3c, t4c⟩, _⟩ := box5 HT5.out
  go_upto_region 5 with fail
  have HSd := hide (HSe5.out.below (Below.refl _ _).drew)
  have HE : Hid (w5.drew.cell? ⟨1, 0, none⟩ = some (.iface 122 (.pointer (some (adr 1))))) := hide (HSd.out.cell 1 (by decide) (by decide))
  go_region_law (first
    | (go_simp; go_at_call 15; with_reducible refine Calls.mono (code_err _ adr HSd.out 1 (by decide) (by decide) (by decide)) ?_; rintro r w7 ⟨rfl, rfl⟩)
    | fail)
  all_goals
    go_wp2
    obtain ⟨⟨z0, z1, z2, z3, z4⟩, _⟩ := box5 (box5_set (p := q0 + 1 + 1) HS5.out.b2 (.int .i64 0) (.int .i64 0) (.slice none 0 0) (.slice none 0 0) (.slice none 0 0))
    refine bodyPost_ret (by simp [results, Tryd.results16, go_sem, z0, z1, z2, z3, z4]; rfl) rfl ?_
    refine ⟨rfl, ?_⟩
    have h := below_set5 HB5.out (p := q0 + 1 + 1) (by omega) (.int .i64 0) (.int .i64 0) (.slice none 0 0) (.slice none 0 0) (.slice none 0 0)
    exact h.drew

set_option maxRecDepth 10000 in
set_option maxHeartbeats 4000000 in
theorem stepn_heard (w : World) (adr : Nat → Addr) (hSe : Sent w adr) (t : Int) :
    Calls Tryd.prog 16 #[.pointer none, pv 0 0 none 0 0 none 0 0 none 0 0, .agg #[.int .i64 1, .int .u32 t]] w (NilPost w) := by
  obtain ⟨w1, q0, hw1, hq, hal, hs1, hsb⟩ := boxesS w (.int .i64 0) (.int .i64 0) (.slice none 0 0) (.slice none 0 0) (.slice none 0 0) 1 t
  have HB1 := hide hal
  have HSe1 := hide (hSe.below hal)
  have HS1 := hide hsb
  obtain ⟨⟨k0, k1, k2, k3, k4⟩, _⟩ := box5 hsb.b0
  obtain ⟨o0, o1, _, _⟩ := bx2 hsb.b1
  obtain ⟨_, f0, f1, f2, f3, f4⟩ := box5 hsb.b2
  clear hal hSe hsb
  go_enter Tryd.func16, Tryd.ntmps16
  go_wp2_with fail
  refine (refheard_nil w1 0 none 0 0 none 0 0 none 0 0 t).mono ?_
  rintro r w3 ⟨rfl, hb3⟩
  have HB3 := hide (HB1.out.trans (hb3.mono HB1.out.size))
  have HS3 := hide (HS1.out.past hb3)
  have HSe3 := hide (HSe1.out.below hb3)
  clear hb3
  clear k0 k1 k2 k3 k4 o0 o1 f0 f1 f2 f3 f4
  obtain ⟨⟨k0, k1, k2, k3, k4⟩, _⟩ := box5 HS3.out.b0
  obtain ⟨o0, o1, _, _⟩ := bx2 HS3.out.b1
  obtain ⟨_, f0, f1, f2, f3, f4⟩ := box5 HS3.out.b2
  go_upto_region 8 with fail
  obtain ⟨t0, ht⟩ : ∃ t0, w3.heap.size = t0 := ⟨_, rfl⟩
  obtain ⟨w4, hw4⟩ : ∃ w4, w3.alloc (.cells #[.int .i64 0, .int .i64 0, .slice none 0 0, .slice none 0 0, .slice none 0 0] 40) = w4 := ⟨_, rfl⟩
  have hal : Below w3.heap.size w3 w4 := by rw [← hw4]; exact (Below.refl _ _).alloc (Nat.le_refl _) _
  have htb : w4.heap[t0]? = some (.cells #[.int .i64 0, .int .i64 0, .slice none 0 0, .slice none 0 0, .slice none 0 0] 40 (0, 0)) := by rw [← hw4, ← ht]; exact heap_alloc_new w3 _
  have HT4 := hide htb
  have HB4 := hide (HB3.out.trans (hal.mono HB3.out.size))
  have HS4 := hide (HS3.out.past hal)
  have HSe4 := hide (HSe3.out.below hal)
  rw [ht, hw4]
  clear hal ht hw4
  obtain ⟨⟨t0c, t1c, t2c, t3c, t4c⟩, _⟩ := box5 htb
  clear htb
  clear k0 k1 k2 k3 k4 o0 o1 f0 f1 f2 f3 f4
  obtain ⟨⟨k0, k1, k2, k3, k4⟩, _⟩ := box5 HS4.out.b0
  obtain ⟨o0, o1, _, _⟩ := bx2 HS4.out.b1
  obtain ⟨_, f0, f1, f2, f3, f4⟩ := box5 HS4.out.b2
  have HSd := hide (HSe4.out.below (Below.refl _ _).drew)
  have HE : Hid (w4.drew.cell? ⟨1, 0, none⟩ = some (.iface 122 (.pointer (some (adr 1))))) := hide (HSd.out.cell 1 (by decide) (by decide))
  go_region_law (first
    | (go_simp; go_at_call 10; with_reducible refine Calls.mono (heard_nil _ t _ HE.out) ?_; rintro r w6 ⟨rfl, rfl⟩)
    | (go_simp; go_at_call 15; with_reducible refine Calls.mono (code_err _ adr HSd.out 1 (by decide) (by decide) (by decide)) ?_; rintro r w7 ⟨rfl, rfl⟩)
    | fail)
  all_goals
    go_wp2
    obtain ⟨⟨z0, z1, z2, z3, z4⟩, _⟩ := box5 (box5_set (p := q0 + 1 + 1) HS4.out.b2 (.int .i64 0) (.int .i64 0) (.slice none 0 0) (.slice none 0 0) (.slice none 0 0))
    refine bodyPost_ret (by simp [results, Tryd.results16, go_sem, z0, z1, z2, z3, z4]; rfl) rfl ?_
    refine ⟨rfl, ?_⟩
    have h := below_set5 HB4.out (p := q0 + 1 + 1) (by omega) (.int .i64 0) (.int .i64 0) (.slice none 0 0) (.slice none 0 0) (.slice none 0 0)
    exact h.drew

set_option maxRecDepth 10000 in
set_option maxHeartbeats 4000000 in
theorem stepn_asked (w : World) (adr : Nat → Addr) (hSe : Sent w adr) (t : Int) :
    Calls Tryd.prog 16 #[.pointer none, pv 0 0 none 0 0 none 0 0 none 0 0, .agg #[.int .i64 3, .int .u32 t]] w (NilPost w) := by
  obtain ⟨w1, q0, hw1, hq, hal, hs1, hsb⟩ := boxesS w (.int .i64 0) (.int .i64 0) (.slice none 0 0) (.slice none 0 0) (.slice none 0 0) 3 t
  have HB1 := hide hal
  have HSe1 := hide (hSe.below hal)
  have HS1 := hide hsb
  obtain ⟨⟨k0, k1, k2, k3, k4⟩, _⟩ := box5 hsb.b0
  obtain ⟨o0, o1, _, _⟩ := bx2 hsb.b1
  obtain ⟨_, f0, f1, f2, f3, f4⟩ := box5 hsb.b2
  clear hal hSe hsb
  go_enter Tryd.func16, Tryd.ntmps16
  go_wp2_with fail
  refine (refasked_nil w1 0 none 0 0 none 0 0 none 0 0 t).mono ?_
  rintro r w3 ⟨rfl, hb3⟩
  have HB3 := hide (HB1.out.trans (hb3.mono HB1.out.size))
  have HS3 := hide (HS1.out.past hb3)
  have HSe3 := hide (HSe1.out.below hb3)
  clear hb3
  clear k0 k1 k2 k3 k4 o0 o1 f0 f1 f2 f3 f4
  obtain ⟨⟨k0, k1, k2, k3, k4⟩, _⟩ := box5 HS3.out.b0
  obtain ⟨o0, o1, _, _⟩ := bx2 HS3.out.b1
  obtain ⟨_, f0, f1, f2, f3, f4⟩ := box5 HS3.out.b2
  go_upto_region 15 with fail
  obtain ⟨t0, ht⟩ : ∃ t0, w3.heap.size = t0 := ⟨_, rfl⟩
  obtain ⟨w4, hw4⟩ : ∃ w4, w3.alloc (.cells #[.int .i64 0, .int .i64 0, .slice none 0 0, .slice none 0 0, .slice none 0 0] 40) = w4 := ⟨_, rfl⟩
  have hal : Below w3.heap.size w3 w4 := by rw [← hw4]; exact (Below.refl _ _).alloc (Nat.le_refl _) _
  have htb : w4.heap[t0]? = some (.cells #[.int .i64 0, .int .i64 0, .slice none 0 0, .slice none 0 0, .slice none 0 0] 40 (0, 0)) := by rw [← hw4, ← ht]; exact heap_alloc_new w3 _
  have HT4 := hide htb
  have HB4 := hide (HB3.out.trans (hal.mono HB3.out.size))
  have HS4 := hide (HS3.out.past hal)
  have HSe4 := hide (HSe3.out.below hal)
  rw [ht, hw4]
  clear hal ht hw4
  obtain ⟨⟨t0c, t1c, t2c, t3c, t4c⟩, _⟩ := box5 htb
  clear htb
  clear k0 k1 k2 k3 k4 o0 o1 f0 f1 f2 f3 f4
  obtain ⟨⟨k0, k1, k2, k3, k4⟩, _⟩ := box5 HS4.out.b0
  obtain ⟨o0, o1, _, _⟩ := bx2 HS4.out.b1
  obtain ⟨_, f0, f1, f2, f3, f4⟩ := box5 HS4.out.b2
  have HSd := hide (HSe4.out.below (Below.refl _ _).drew)
  have HE : Hid (w4.drew.cell? ⟨1, 0, none⟩ = some (.iface 122 (.pointer (some (adr 1))))) := hide (HSd.out.cell 1 (by decide) (by decide))
  go_region_law (first
    | (go_simp; go_at_call 19; with_reducible refine Calls.mono (asked_nil _ t _ HE.out) ?_; rintro r w6 ⟨rfl, rfl⟩)
    | (go_simp; go_at_call 15; with_reducible refine Calls.mono (code_err _ adr HSd.out 1 (by decide) (by decide) (by decide)) ?_; rintro r w7 ⟨rfl, rfl⟩)
    | fail)
  all_goals
    go_wp2
    obtain ⟨⟨z0, z1, z2, z3, z4⟩, _⟩ := box5 (box5_set (p := q0 + 1 + 1) HS4.out.b2 (.int .i64 0) (.int .i64 0) (.slice none 0 0) (.slice none 0 0) (.slice none 0 0))
    refine bodyPost_ret (by simp [results, Tryd.results16, go_sem, z0, z1, z2, z3, z4]; rfl) rfl ?_
    refine ⟨rfl, ?_⟩
    have h := below_set5 HB4.out (p := q0 + 1 + 1) (by omega) (.int .i64 0) (.int .i64 0) (.slice none 0 0) (.slice none 0 0) (.slice none 0 0)
    exact h.drew

set_option maxRecDepth 10000 in
set_option maxHeartbeats 4000000 in
theorem stepn_replied (w : World) (adr : Nat → Addr) (hSe : Sent w adr) (t : Int) (kd : Int) (g0 : (kd == 0) = false) (g1 : (kd == 1) = false) (g2 : (kd == 2) = false) (g3 : (kd == 3) = false) :
    Calls Tryd.prog 16 #[.pointer none, pv 0 0 none 0 0 none 0 0 none 0 0, .agg #[.int .i64 kd, .int .u32 t]] w (NilPost w) := by
  obtain ⟨w1, q0, hw1, hq, hal, hs1, hsb⟩ := boxesS w (.int .i64 0) (.int .i64 0) (.slice none 0 0) (.slice none 0 0) (.slice none 0 0) kd t
  have HB1 := hide hal
  have HSe1 := hide (hSe.below hal)
  have HS1 := hide hsb
  obtain ⟨⟨k0, k1, k2, k3, k4⟩, _⟩ := box5 hsb.b0
  obtain ⟨o0, o1, _, _⟩ := bx2 hsb.b1
  obtain ⟨_, f0, f1, f2, f3, f4⟩ := box5 hsb.b2
  clear hal hSe hsb
  go_enter Tryd.func16, Tryd.ntmps16
  go_wp2_with fail
  refine (refreplied_none w1 0 0 none 0 0 none 0 0 none 0).mono ?_
  rintro r w3 ⟨rfl, hb3⟩
  have HB3 := hide (HB1.out.trans (hb3.mono HB1.out.size))
  have HS3 := hide (HS1.out.past hb3)
  have HSe3 := hide (HSe1.out.below hb3)
  clear hb3
  clear k0 k1 k2 k3 k4 o0 o1 f0 f1 f2 f3 f4
  obtain ⟨⟨k0, k1, k2, k3, k4⟩, _⟩ := box5 HS3.out.b0
  obtain ⟨o0, o1, _, _⟩ := bx2 HS3.out.b1
  obtain ⟨_, f0, f1, f2, f3, f4⟩ := box5 HS3.out.b2
  go_upto_region 17 with fail
  obtain ⟨t0, ht⟩ : ∃ t0, w3.heap.size = t0 := ⟨_, rfl⟩
  obtain ⟨w4, hw4⟩ : ∃ w4, w3.alloc (.cells #[.int .i64 0, .int .i64 0, .slice none 0 0, .slice none 0 0, .slice none 0 0] 40) = w4 := ⟨_, rfl⟩
  have hal : Below w3.heap.size w3 w4 := by rw [← hw4]; exact (Below.refl _ _).alloc (Nat.le_refl _) _
  have htb : w4.heap[t0]? = some (.cells #[.int .i64 0, .int .i64 0, .slice none 0 0, .slice none 0 0, .slice none 0 0] 40 (0, 0)) := by rw [← hw4, ← ht]; exact heap_alloc_new w3 _
  have HT4 := hide htb
  have HB4 := hide (HB3.out.trans (hal.mono HB3.out.size))
  have HS4 := hide (HS3.out.past hal)
  have HSe4 := hide (HSe3.out.below hal)
  rw [ht, hw4]
  clear hal ht hw4
  obtain ⟨⟨t0c, t1c, t2c, t3c, t4c⟩, _⟩ := box5 htb
  clear htb
  clear k0 k1 k2 k3 k4 o0 o1 f0 f1 f2 f3 f4
  obtain ⟨⟨k0, k1, k2, k3, k4⟩, _⟩ := box5 HS4.out.b0
  obtain ⟨o0, o1, _, _⟩ := bx2 HS4.out.b1
  obtain ⟨_, f0, f1, f2, f3, f4⟩ := box5 HS4.out.b2
  go_wp2_with fail
  refine (replied_nil w4).mono ?_
  rintro r w5 ⟨rfl, hw5⟩
  subst hw5
  all_goals
    go_wp2
    obtain ⟨⟨z0, z1, z2, z3, z4⟩, _⟩ := box5 (box5_set (p := q0 + 1 + 1) HS4.out.b2 (.int .i64 0) (.int .i64 0) (.slice none 0 0) (.slice none 0 0) (.slice none 0 0))
    refine bodyPost_ret (by simp [results, Tryd.results16, go_sem, z0, z1, z2, z3, z4]; rfl) rfl ?_
    refine ⟨rfl, ?_⟩
    have h := below_set5 HB4.out (p := q0 + 1 + 1) (by omega) (.int .i64 0) (.int .i64 0) (.slice none 0 0) (.slice none 0 0) (.slice none 0 0)
    exact h

set_option maxRecDepth 10000 in
set_option maxHeartbeats 4000000 in
theorem stepn_answered (w : World) (adr : Nat → Addr) (hSe : Sent w adr) (t : Int) :
    Calls Tryd.prog 16 #[.pointer none, pv 0 0 none 0 0 none 0 0 none 0 0, .agg #[.int .i64 2, .int .u32 t]] w (NilPost w) := by
  obtain ⟨w1, q0, hw1, hq, hal, hs1, hsb⟩ := boxesS w (.int .i64 0) (.int .i64 0) (.slice none 0 0) (.slice none 0 0) (.slice none 0 0) 2 t
  have HB1 := hide hal
  have HSe1 := hide (hSe.below hal)
  have HS1 := hide hsb
  obtain ⟨⟨k0, k1, k2, k3, k4⟩, _⟩ := box5 hsb.b0
  obtain ⟨o0, o1, _, _⟩ := bx2 hsb.b1
  obtain ⟨_, f0, f1, f2, f3, f4⟩ := box5 hsb.b2
  clear hal hSe hsb
  have j0 : (w1.setCell ⟨q0, 3, none⟩ (.slice none 0 0)).heap[q0]? = some (.cells #[.int .i64 0, .int .i64 0, .slice none 0 0, .slice none 0 0, .slice none 0 0] 40 (0, 0)) := heap_setCell_same _ q0 3 _ 40 _ HS1.out.b0
  have j2 : (w1.setCell ⟨q0, 3, none⟩ (.slice none 0 0)).heap[q0 + 2]? = some (.cells #[.int .i64 0, .int .i64 0, .slice none 0 0, .slice none 0 0, .slice none 0 0] 40 (0, 0)) := by rw [Below.heap_setCell _ _ _ _ (show q0 + 2 ≠ q0 by omega)]; exact HS1.out.b2
  have j1 : (w1.setCell ⟨q0, 3, none⟩ (.slice none 0 0)).heap[q0 + 1]? = some (.cells #[.int .i64 2, .int .u32 t] 32 (0, 0)) := by rw [Below.heap_setCell _ _ _ _ (show q0 + 1 ≠ q0 by omega)]; exact HS1.out.b1
  have HSB : Hid (SB (w1.setCell ⟨q0, 3, none⟩ (.slice none 0 0)) q0 (.int .i64 0) (.int .i64 0) (.slice none 0 0) (.slice none 0 0) (.slice none 0 0) 2 t) := hide ⟨j0, j1, j2⟩
  have HBa := hide (HB1.out.setCell (p := ⟨q0, 3, none⟩) (show w.heap.size ≤ q0 by omega) (.slice none 0 0))
  obtain ⟨⟨x0, x1, x2, x3, x4⟩, y0, y1, y2, y3, y4⟩ := box5 j0
  obtain ⟨_, e0, e1, e2, e3, e4⟩ := box5 j2
  obtain ⟨_, g0, g1, g2, g3, g4⟩ := box5 HS1.out.b0
  clear j0 j1 j2
  go_enter Tryd.func16, Tryd.ntmps16
  go_upto_region 12 with fail
  obtain ⟨w2, hw2⟩ : ∃ w2, w1.setCell ⟨q0, 3, none⟩ (.slice none 0 0) = w2 := ⟨_, rfl⟩
  rw [hw2] at HSB HBa x0 x1 x2 x3 x4 y0 y1 y2 y3 y4 e0 e1 e2 e3 e4
  rw [hw2]
  clear hw2
  have hsz : q0 + 2 < w2.heap.size := (Array.getElem?_eq_some_iff.1 HSB.out.b2).1
  have HBd := hide HBa.out.drew
  have HSd := hide (HSB.out.past (Below.refl _ _).drew)
  have HN1 : Hid (Reads w2.drew 1 (.slice none 0 0) 0 (us [])) := hide (Row.nil w2.drew (fun _ => True) 30 1).reads
  clear k0 k1 k2 k3 k4 o0 o1 f0 f1 f2 f3 f4 g0 g1 g2 g3 g4
  go_region_law (first
    | (go_simp; go_at_call 11; (with_reducible refine Calls.mono (answered_nil _) ?_); rintro r w6 ⟨rfl, rfl⟩)
    | (go_simp; go_at_call 12; (with_reducible refine Calls.mono (same_true _ _ _ _ _ rfl [] HN1.out HN1.out) ?_); rintro r w7 ⟨rfl, hd7⟩
       have hb7 := hd7.below
       have HB7 := hide (HBd.out.trans (hb7.mono HBd.out.size))
       have hs7 := HSd.out.past hb7
       have HS7 := hide hs7
       clear x0 x1 x2 x3 x4 e0 e1 e2 e3 e4 hd7 hb7
       obtain ⟨⟨x0, x1, x2, x3, x4⟩, _⟩ := box5 hs7.b0
       obtain ⟨_, e0, e1, e2, e3, e4⟩ := box5 hs7.b2
       clear hs7)
    | fail)
  all_goals
    go_wp2
    obtain ⟨⟨z0, z1, z2, z3, z4⟩, _⟩ := box5 (box5_set (p := q0 + 1 + 1) HS7.out.b2 (.int .i64 0) (.int .i64 0) (.slice none 0 0) (.slice none 0 0) (.slice none 0 0))
    refine bodyPost_ret (by simp [results, Tryd.results16, go_sem, z0, z1, z2, z3, z4]; rfl) rfl ?_
    refine ⟨rfl, ?_⟩
    have h := below_set5 HB7.out (p := q0 + 1 + 1) (by omega) (.int .i64 0) (.int .i64 0) (.slice none 0 0) (.slice none 0 0) (.slice none 0 0)
    exact h

theorem stepn_any (w : World) (adr : Nat → Addr) (hSe : Sent w adr) (kd t : Int) :
    Calls Tryd.prog 16 #[.pointer none, pv 0 0 none 0 0 none 0 0 none 0 0, .agg #[.int .i64 kd, .int .u32 t]] w (NilPost w) := by
  by_cases k0 : kd = 0
  · subst k0; exact stepn_ask w adr hSe t
  by_cases k1 : kd = 1
  · subst k1; exact stepn_heard w adr hSe t
  by_cases k2 : kd = 2
  · subst k2; exact stepn_answered w adr hSe t
  by_cases k3 : kd = 3
  · subst k3; exact stepn_asked w adr hSe t
  exact stepn_replied w adr hSe t kd (by simpa using k0) (by simpa using k1) (by simpa using k2) (by simpa using k3)
end Go.Proofs.YtccojgaahoonhaaDoor
