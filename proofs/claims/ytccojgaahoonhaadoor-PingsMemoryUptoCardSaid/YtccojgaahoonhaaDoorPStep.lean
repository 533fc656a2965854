import Derived.Test.YtccojgaahoonhaaDoorPCR
/- step: one call on both. -/
namespace Go.Proofs.YtccojgaahoonhaaDoor
open Go Go.RowKit Go.Cu Go.Proofs.YtccojgaahoonhaaDoor.errs

section
variable {B : Nat} {w : World} {c m q : Nat} {FT FO D : Nat → Prop} {most n : Nat} {W T O : List Int} {A1 A2 A3 : Option Addr} {n1 c1 n2 c2 n3 c3 K p : Nat} {x1 x2 x3 x4 x5 : Value}
theorem fin_step {wx : World} {F0 D0 : Nat → Prop} (h : PD B w c m q FT FO D most n W T O W T O A1 n1 c1 A2 n2 c2 A3 n3 c3) (hb : w.heap[p]? = some (.cells #[x1, x2, x3, x4, x5] 40 (0, 0))) (hp : ¬ PF c m FT FO p) (hm : Mod F0 wx w) (hx : wx.heap.size ≤ p) (hs : ∀ j, PF c m FT FO j → F0 j ∨ wx.heap.size ≤ j) (hd : ∀ j, D j → D0 j ∨ wx.heap.size ≤ j) (hn : n ≤ K + 1) (ht : n2 ≤ K + 1) :
    StepPost B wx F0 D0 c m q most K (.returned (.tuple #[pv most n A1 n1 c1 A2 n2 c2 A3 n3 c3, .bool true])) (((((w.setCell ⟨p, 0, none⟩ (.int .i64 most)).setCell ⟨p, 1, none⟩ (.int .i64 n)).setCell ⟨p, 2, none⟩ (.slice A1 n1 c1)).setCell ⟨p, 3, none⟩ (.slice A2 n2 c2)).setCell ⟨p, 4, none⟩ (.slice A3 n3 c3)) :=
  ⟨n, A1, n1, c1, A2, n2, c2, A3, n3, c3, rfl, ⟨FT, FO, D, W, T, O, h.set5 hb hp _ _ _ _ _, hn, ht, hs, hd⟩,
    ((((hm.setCell (p := ⟨p, 0, none⟩) (fun hl => absurd hl (Nat.not_lt.2 hx)) _).setCell (p := ⟨p, 1, none⟩) (fun hl => absurd hl (Nat.not_lt.2 hx)) _).setCell (p := ⟨p, 2, none⟩) (fun hl => absurd hl (Nat.not_lt.2 hx)) _).setCell (p := ⟨p, 3, none⟩) (fun hl => absurd hl (Nat.not_lt.2 hx)) _).setCell (p := ⟨p, 4, none⟩) (fun hl => absurd hl (Nat.not_lt.2 hx)) _⟩
theorem fin_stepD {wx : World} {F0 D0 : Nat → Prop} (h : PD B w c m q FT FO D most n W T O W T O A1 n1 c1 A2 n2 c2 A3 n3 c3) (hb : w.heap[p]? = some (.cells #[x1, x2, x3, x4, x5] 40 (0, 0))) (hp : ¬ PF c m FT FO p) (hm : Mod F0 wx w) (hx : wx.heap.size ≤ p) (hs : ∀ j, PF c m FT FO j → F0 j ∨ wx.heap.size ≤ j) (hd : ∀ j, D j → D0 j ∨ wx.heap.size ≤ j) (hn : n ≤ K + 1) (ht : n2 ≤ K + 1) :
    StepPost B wx F0 D0 c m q most K (.returned (.tuple #[pv most n A1 n1 c1 A2 n2 c2 A3 n3 c3, .bool true])) (((((w.setCell ⟨p, 0, none⟩ (.int .i64 most)).setCell ⟨p, 1, none⟩ (.int .i64 n)).setCell ⟨p, 2, none⟩ (.slice A1 n1 c1)).setCell ⟨p, 3, none⟩ (.slice A2 n2 c2)).setCell ⟨p, 4, none⟩ (.slice A3 n3 c3)).drew := by
  obtain ⟨n, A1, n1, c1, A2, n2, c2, A3, n3, c3, e, ⟨FT, FO, D, W, T, O, h1, h2⟩, h3⟩ := fin_step h hb hp hm hx hs hd hn ht
  exact ⟨n, A1, n1, c1, A2, n2, c2, A3, n3, c3, e, ⟨FT, FO, D, W, T, O, h1.past (Below.refl _ _).drew, h2⟩, h3.drew⟩
end
set_option maxRecDepth 10000 in
set_option maxHeartbeats 4000000 in
theorem step_ask_ok (B : Nat) (w : World) (c m q : Nat) (FT FO D : Nat → Prop) (most n : Nat) (W T O : List Int) (A1 : Option Addr) (n1 c1 : Nat) (A2 : Option Addr) (n2 c2 : Nat) (A3 : Option Addr) (n3 c3 : Nat) (K : Nat) (h : PD B w c m q FT FO D most n W T O W T O A1 n1 c1 A2 n2 c2 A3 n3 c3) (hK : K ≤ 1048576) (hn : n ≤ K) (hT : n2 ≤ K) (t : Int) (hl : W.length < most) :
    Calls Tryd.prog 16 #[ptr c, pv most n A1 n1 c1 A2 n2 c2 A3 n3 c3, .agg #[.int .i64 0, .int .u32 t]] w (StepPost B w (PF c m FT FO) D c m q most K) := by
  obtain ⟨w1, q0, hw1, hq, hal, hs1, hsb⟩ := boxesS w (.int .i64 most) (.int .i64 n) (.slice A1 n1 c1) (.slice A2 n2 c2) (.slice A3 n3 c3) 0 t
  have hl1 := row_len h.r1
  have hl2 := row_len h.r2
  have hl3 := row_len h.r3
  have hroom := h.pg.room
  have hm1 := h.pg.m1
  have hm2 := h.pg.m2
  have hOl : (O.length : Int) ≤ most := by have := h.pg.ff.fits.1; rw [ones_length] at this; exact this
  have HL := hide (And.intro hl1 (And.intro hl2 hl3))
  have HN1 : Hid (n1 ≤ 1024 ∧ n3 ≤ 1024 ∧ (most : Int) ≠ 0) := hide ⟨by omega, by omega, by omega⟩
  have HLow : Hid (∀ k, PF c m FT FO k → k < q0) := hide (fun k hk => by rw [← hq]; exact h.pg.low k hk)
  have HD1 := hide (h.past hal)
  have HS1 := hide hsb
  have HM1 : Hid (Mod (PF c m FT FO) w w1) := hide (Mod.ofBelow hal _)
  obtain ⟨⟨k0, k1, k2, k3, k4⟩, _⟩ := box5 hsb.b0
  obtain ⟨o0, o1, _, _⟩ := bx2 hsb.b1
  obtain ⟨_, f0, f1, f2, f3, f4⟩ := box5 hsb.b2
  have _ := And.intro hK hT
  clear hal hsb h hl1 hl2 hl3 hOl hroom hm1 hm2
  have HW := hide hl
  clear hl
  have hcast : ((n + 1 : Nat) : Int) = (n : Int) + 1 := rfl
  go_enter Tryd.func16, Tryd.ntmps16
  go_wp2_with fail
  refine (refask_ok w1 most A1 n1 c1 A2 n2 c2 A3 n3 c3 W HD1.out.r1.reads n (by omega) HN1.out.2.2 (by have := HL.out; have := HW.out; omega) (by have := HN1.out; omega)).mono ?_
  rintro r w3 ⟨A', c', rfl, hr3, hb3⟩
  have HD3 := hide (HD1.out.doc1 hb3 hr3)
  have HS3 := hide (HS1.out.past hb3)
  have HM3 := hide (HM1.out.trans (Mod.ofBelow hb3 (fun _ => False)) (fun _ _ h => h.elim))
  clear hr3 hb3
  clear k0 k1 k2 k3 k4 o0 o1 f0 f1 f2 f3 f4
  obtain ⟨⟨k0, k1, k2, k3, k4⟩, _⟩ := box5 HS3.out.b0
  obtain ⟨o0, o1, _, _⟩ := bx2 HS3.out.b1
  obtain ⟨_, f0, f1, f2, f3, f4⟩ := box5 HS3.out.b2
  go_upto_region 4 with fail
  obtain ⟨t0, ht⟩ : ∃ t0, w3.heap.size = t0 := ⟨_, rfl⟩
  obtain ⟨w4, hw4⟩ : ∃ w4, w3.alloc (.cells #[.int .i64 most, .int .i64 ((n : Int) + 1), .slice A' (n1 + 1) c', .slice A2 n2 c2, .slice A3 n3 c3] 40) = w4 := ⟨_, rfl⟩
  have hal : Below w3.heap.size w3 w4 := by rw [← hw4]; exact (Below.refl _ _).alloc (Nat.le_refl _) _
  have htb : w4.heap[t0]? = some (.cells #[.int .i64 most, .int .i64 ((n : Int) + 1), .slice A' (n1 + 1) c', .slice A2 n2 c2, .slice A3 n3 c3] 40 (0, 0)) := by rw [← hw4, ← ht]; exact heap_alloc_new w3 _
  have htl : t0 < w4.heap.size := (Array.getElem?_eq_some_iff.1 htb).1
  have HT4 := hide htb
  have HD4 := hide (HD3.out.past hal)
  have HS4 := hide (HS3.out.past hal)
  have HM4 := hide (HM3.out.trans (Mod.ofBelow hal (fun _ => False)) (fun _ _ h => h.elim))
  have htq : q0 + 3 ≤ t0 := by have := (Array.getElem?_eq_some_iff.1 HS3.out.b2).1; omega
  rw [ht, hw4]
  clear hal ht hw4
  obtain ⟨⟨t0c, t1c, t2c, t3c, t4c⟩, _⟩ := box5 htb
  clear htb
  clear k0 k1 k2 k3 k4 o0 o1 f0 f1 f2 f3 f4
  obtain ⟨⟨k0, k1, k2, k3, k4⟩, _⟩ := box5 HS4.out.b0
  obtain ⟨o0, o1, _, _⟩ := bx2 HS4.out.b1
  obtain ⟨_, f0, f1, f2, f3, f4⟩ := box5 HS4.out.b2
  go_wp2_with fail
  refine (ask_ok w4 HD4.out.pg HW.out (by omega)).mono ?_
  rintro r w5 ⟨rfl, hp5, hm5⟩
  have HD5 := hide (HD4.out.prog hp5 hm5 (fun k hk => .inl hk))
  have HM5 := hide (HM4.out.trans hm5 (fun _ _ h => h))
  have HS5 := hide (HS4.out.mod hm5 (fun j hj _ hf => by have := HLow.out j hf; omega))
  have HT5 := hide (hm5.heap HT4.out (fun hf => by have := HLow.out t0 hf; omega))
  clear hp5 hm5 t0c t1c t2c t3c t4c
  clear k0 k1 k2 k3 k4 o0 o1 f0 f1 f2 f3 f4
  obtain ⟨⟨k0, k1, k2, k3, k4⟩, _⟩ := box5 HS5.out.b0
  obtain ⟨o0, o1, _, _⟩ := bx2 HS5.out.b1
  obtain ⟨_, f0, f1, f2, f3, f4⟩ := box5 HS5.out.b2
  obtain ⟨⟨t0c, t1c, t2c, t3c, t4c⟩, _⟩ := box5 HT5.out
  go_upto_region 5 with fail
  have HDd := hide (HD5.out.past (Below.refl _ _).drew)
  go_region_law (first
    | (go_simp; go_at_call 15; with_reducible refine Calls.mono (code_nil _) ?_; rintro r w6 ⟨rfl, rfl⟩)
    | fail)
  all_goals
    go_wp2
    obtain ⟨⟨z0, z1, z2, z3, z4⟩, _⟩ := box5 (box5_set (p := q0 + 1 + 1) HS5.out.b2 (.int .i64 most) (.int .i64 ((n : Int) + 1)) (.slice A' (n1 + 1) c') (.slice A2 n2 c2) (.slice A3 n3 c3))
    refine bodyPost_ret (by simp [results, Tryd.results16, go_sem, z0, z1, z2, z3, z4]; rfl) rfl ?_
    have hL := HL.out
    exact fin_stepD (n := n + 1) (n2 := n2) HD5.out HS5.out.b2 (fun hf => by have := HLow.out _ hf; omega) HM5.out (by omega) (fun _ h => .inl h) (by first | exact fun _ h => .inl h | exact fun j h => h.imp id (fun h => by have := h.1; omega)) (by omega) (by omega)

set_option maxRecDepth 10000 in
set_option maxHeartbeats 4000000 in
theorem step_ask_full (B : Nat) (w : World) (c m q : Nat) (FT FO D : Nat → Prop) (most n : Nat) (W T O : List Int) (A1 : Option Addr) (n1 c1 : Nat) (A2 : Option Addr) (n2 c2 : Nat) (A3 : Option Addr) (n3 c3 : Nat) (K : Nat) (h : PD B w c m q FT FO D most n W T O W T O A1 n1 c1 A2 n2 c2 A3 n3 c3) (hK : K ≤ 1048576) (hn : n ≤ K) (hT : n2 ≤ K) (t : Int) (adr : Nat → Addr) (hSe : Sent w adr) (hl : most ≤ W.length) :
    Calls Tryd.prog 16 #[ptr c, pv most n A1 n1 c1 A2 n2 c2 A3 n3 c3, .agg #[.int .i64 0, .int .u32 t]] w (StepPost B w (PF c m FT FO) D c m q most K) := by
  obtain ⟨w1, q0, hw1, hq, hal, hs1, hsb⟩ := boxesS w (.int .i64 most) (.int .i64 n) (.slice A1 n1 c1) (.slice A2 n2 c2) (.slice A3 n3 c3) 0 t
  have hl1 := row_len h.r1
  have hl2 := row_len h.r2
  have hl3 := row_len h.r3
  have hroom := h.pg.room
  have hm1 := h.pg.m1
  have hm2 := h.pg.m2
  have hOl : (O.length : Int) ≤ most := by have := h.pg.ff.fits.1; rw [ones_length] at this; exact this
  have HL := hide (And.intro hl1 (And.intro hl2 hl3))
  have HN1 : Hid (n1 ≤ 1024 ∧ n3 ≤ 1024 ∧ (most : Int) ≠ 0) := hide ⟨by omega, by omega, by omega⟩
  have HLow : Hid (∀ k, PF c m FT FO k → k < q0) := hide (fun k hk => by rw [← hq]; exact h.pg.low k hk)
  have HD1 := hide (h.past hal)
  have HS1 := hide hsb
  have HM1 : Hid (Mod (PF c m FT FO) w w1) := hide (Mod.ofBelow hal _)
  obtain ⟨⟨k0, k1, k2, k3, k4⟩, _⟩ := box5 hsb.b0
  obtain ⟨o0, o1, _, _⟩ := bx2 hsb.b1
  obtain ⟨_, f0, f1, f2, f3, f4⟩ := box5 hsb.b2
  have _ := And.intro hK hT
  have HSe1 := hide (hSe.below hal)
  clear hal hSe hsb h hl1 hl2 hl3 hOl hroom hm1 hm2
  have HW := hide hl
  clear hl
  go_enter Tryd.func16, Tryd.ntmps16
  go_wp2_with fail
  refine (refask_full w1 most n A1 n1 c1 A2 n2 c2 A3 n3 c3 HN1.out.2.2 (by have := HL.out; have := HW.out; omega)).mono ?_
  rintro r w3 ⟨rfl, hb3⟩
  have HD3 := hide (HD1.out.past hb3)
  have HS3 := hide (HS1.out.past hb3)
  have HM3 := hide (HM1.out.trans (Mod.ofBelow hb3 (fun _ => False)) (fun _ _ h => h.elim))
  have HSe3 := hide (HSe1.out.below hb3)
  clear hb3
  clear k0 k1 k2 k3 k4 o0 o1 f0 f1 f2 f3 f4
  obtain ⟨⟨k0, k1, k2, k3, k4⟩, _⟩ := box5 HS3.out.b0
  obtain ⟨o0, o1, _, _⟩ := bx2 HS3.out.b1
  obtain ⟨_, f0, f1, f2, f3, f4⟩ := box5 HS3.out.b2
  go_upto_region 4 with fail
  obtain ⟨t0, ht⟩ : ∃ t0, w3.heap.size = t0 := ⟨_, rfl⟩
  obtain ⟨w4, hw4⟩ : ∃ w4, w3.alloc (.cells #[.int .i64 most, .int .i64 n, .slice A1 n1 c1, .slice A2 n2 c2, .slice A3 n3 c3] 40) = w4 := ⟨_, rfl⟩
  have hal : Below w3.heap.size w3 w4 := by rw [← hw4]; exact (Below.refl _ _).alloc (Nat.le_refl _) _
  have htb : w4.heap[t0]? = some (.cells #[.int .i64 most, .int .i64 n, .slice A1 n1 c1, .slice A2 n2 c2, .slice A3 n3 c3] 40 (0, 0)) := by rw [← hw4, ← ht]; exact heap_alloc_new w3 _
  have htl : t0 < w4.heap.size := (Array.getElem?_eq_some_iff.1 htb).1
  have HT4 := hide htb
  have HD4 := hide (HD3.out.past hal)
  have HS4 := hide (HS3.out.past hal)
  have HM4 := hide (HM3.out.trans (Mod.ofBelow hal (fun _ => False)) (fun _ _ h => h.elim))
  have htq : q0 + 3 ≤ t0 := by have := (Array.getElem?_eq_some_iff.1 HS3.out.b2).1; omega
  have HSe4 := hide (HSe3.out.below hal)
  rw [ht, hw4]
  clear hal ht hw4
  obtain ⟨⟨t0c, t1c, t2c, t3c, t4c⟩, _⟩ := box5 htb
  clear htb
  clear k0 k1 k2 k3 k4 o0 o1 f0 f1 f2 f3 f4
  obtain ⟨⟨k0, k1, k2, k3, k4⟩, _⟩ := box5 HS4.out.b0
  obtain ⟨o0, o1, _, _⟩ := bx2 HS4.out.b1
  obtain ⟨_, f0, f1, f2, f3, f4⟩ := box5 HS4.out.b2
  go_wp2_with fail
  refine (ask_full w4 HD4.out.pg HW.out _ (HSe4.out.cell 31 (by decide) (by decide))).mono ?_
  rintro r w5 ⟨rfl, hb5⟩
  have HM5 := hide (HM4.out.trans (Mod.ofBelow hb5 (fun _ => False)) (fun _ _ h => h.elim))
  have HD5 := hide (HD4.out.past hb5)
  have HS5 := hide (HS4.out.past hb5)
  have HT5 := hide (below_at hb5 HT4.out)
  have HSe5 := hide (HSe4.out.below hb5)
  clear hb5 t0c t1c t2c t3c t4c
  clear k0 k1 k2 k3 k4 o0 o1 f0 f1 f2 f3 f4
  obtain ⟨⟨k0, k1, k2, k3, k4⟩, _⟩ := box5 HS5.out.b0
  obtain ⟨o0, o1, _, _⟩ := bx2 HS5.out.b1
  obtain ⟨_, f0, f1, f2, f3, f4⟩ := box5 HS5.out.b2
  obtain ⟨⟨t0c, t1c, t2c, t3c, t4c⟩, _⟩ := box5 HT5.out
  go_upto_region 5 with fail
  have HDd := hide (HD5.out.past (Below.refl _ _).drew)
  have HSd := hide (HSe5.out.below (Below.refl _ _).drew)
  go_region_law (first
    | (go_simp; go_at_call 15; with_reducible refine Calls.mono (code_err _ adr HSd.out 31 (by decide) (by decide) (by decide)) ?_; rintro r w6 ⟨rfl, rfl⟩)
    | fail)
  all_goals
    go_wp2
    obtain ⟨⟨z0, z1, z2, z3, z4⟩, _⟩ := box5 (box5_set (p := q0 + 1 + 1) HS5.out.b2 (.int .i64 most) (.int .i64 n) (.slice A1 n1 c1) (.slice A2 n2 c2) (.slice A3 n3 c3))
    refine bodyPost_ret (by simp [results, Tryd.results16, go_sem, z0, z1, z2, z3, z4]; rfl) rfl ?_
    have hL := HL.out
    exact fin_stepD (n := n) (n2 := n2) HD5.out HS5.out.b2 (fun hf => by have := HLow.out _ hf; omega) HM5.out (by omega) (fun _ h => .inl h) (by first | exact fun _ h => .inl h | exact fun j h => h.imp id (fun h => by have := h.1; omega)) (by omega) (by omega)

set_option maxRecDepth 10000 in
set_option maxHeartbeats 4000000 in
theorem step_heard_bad (B : Nat) (w : World) (c m q : Nat) (FT FO D : Nat → Prop) (most n : Nat) (W T O : List Int) (A1 : Option Addr) (n1 c1 : Nat) (A2 : Option Addr) (n2 c2 : Nat) (A3 : Option Addr) (n3 c3 : Nat) (K : Nat) (h : PD B w c m q FT FO D most n W T O W T O A1 n1 c1 A2 n2 c2 A3 n3 c3) (hK : K ≤ 1048576) (hn : n ≤ K) (hT : n2 ≤ K) (t : Int) (adr : Nat → Addr) (hSe : Sent w adr) (ht : (Lit.int .u32 t).wf = true) (hl : t ∉ W) :
    Calls Tryd.prog 16 #[ptr c, pv most n A1 n1 c1 A2 n2 c2 A3 n3 c3, .agg #[.int .i64 1, .int .u32 t]] w (StepPost B w (PF c m FT FO) D c m q most K) := by
  obtain ⟨w1, q0, hw1, hq, hal, hs1, hsb⟩ := boxesS w (.int .i64 most) (.int .i64 n) (.slice A1 n1 c1) (.slice A2 n2 c2) (.slice A3 n3 c3) 1 t
  have hl1 := row_len h.r1
  have hl2 := row_len h.r2
  have hl3 := row_len h.r3
  have hroom := h.pg.room
  have hm1 := h.pg.m1
  have hm2 := h.pg.m2
  have hOl : (O.length : Int) ≤ most := by have := h.pg.ff.fits.1; rw [ones_length] at this; exact this
  have HL := hide (And.intro hl1 (And.intro hl2 hl3))
  have HN1 : Hid (n1 ≤ 1024 ∧ n3 ≤ 1024 ∧ (most : Int) ≠ 0) := hide ⟨by omega, by omega, by omega⟩
  have HLow : Hid (∀ k, PF c m FT FO k → k < q0) := hide (fun k hk => by rw [← hq]; exact h.pg.low k hk)
  have HD1 := hide (h.past hal)
  have HS1 := hide hsb
  have HM1 : Hid (Mod (PF c m FT FO) w w1) := hide (Mod.ofBelow hal _)
  obtain ⟨⟨k0, k1, k2, k3, k4⟩, _⟩ := box5 hsb.b0
  obtain ⟨o0, o1, _, _⟩ := bx2 hsb.b1
  obtain ⟨_, f0, f1, f2, f3, f4⟩ := box5 hsb.b2
  have _ := And.intro hK hT
  have HSe1 := hide (hSe.below hal)
  clear hal hSe hsb h hl1 hl2 hl3 hOl hroom hm1 hm2
  have HW := hide hl
  have HT := hide ht
  clear hl ht
  go_enter Tryd.func16, Tryd.ntmps16
  go_wp2_with fail
  refine (refheard_bad w1 most n A1 n1 c1 A2 n2 c2 A3 n3 c3 W HD1.out.r1.reads t HW.out HN1.out.2.2).mono ?_
  rintro r w3 ⟨rfl, hb3⟩
  have HD3 := hide (HD1.out.past hb3)
  have HS3 := hide (HS1.out.past hb3)
  have HM3 := hide (HM1.out.trans (Mod.ofBelow hb3 (fun _ => False)) (fun _ _ h => h.elim))
  have HSe3 := hide (HSe1.out.below hb3)
  clear hb3
  clear k0 k1 k2 k3 k4 o0 o1 f0 f1 f2 f3 f4
  obtain ⟨⟨k0, k1, k2, k3, k4⟩, _⟩ := box5 HS3.out.b0
  obtain ⟨o0, o1, _, _⟩ := bx2 HS3.out.b1
  obtain ⟨_, f0, f1, f2, f3, f4⟩ := box5 HS3.out.b2
  go_upto_region 8 with fail
  obtain ⟨t0, ht⟩ : ∃ t0, w3.heap.size = t0 := ⟨_, rfl⟩
  obtain ⟨w4, hw4⟩ : ∃ w4, w3.alloc (.cells #[.int .i64 most, .int .i64 n, .slice A1 n1 c1, .slice A2 n2 c2, .slice A3 n3 c3] 40) = w4 := ⟨_, rfl⟩
  have hal : Below w3.heap.size w3 w4 := by rw [← hw4]; exact (Below.refl _ _).alloc (Nat.le_refl _) _
  have htb : w4.heap[t0]? = some (.cells #[.int .i64 most, .int .i64 n, .slice A1 n1 c1, .slice A2 n2 c2, .slice A3 n3 c3] 40 (0, 0)) := by rw [← hw4, ← ht]; exact heap_alloc_new w3 _
  have htl : t0 < w4.heap.size := (Array.getElem?_eq_some_iff.1 htb).1
  have HT4 := hide htb
  have HD4 := hide (HD3.out.past hal)
  have HS4 := hide (HS3.out.past hal)
  have HM4 := hide (HM3.out.trans (Mod.ofBelow hal (fun _ => False)) (fun _ _ h => h.elim))
  have htq : q0 + 3 ≤ t0 := by have := (Array.getElem?_eq_some_iff.1 HS3.out.b2).1; omega
  have HSe4 := hide (HSe3.out.below hal)
  rw [ht, hw4]
  clear hal ht hw4
  obtain ⟨⟨t0c, t1c, t2c, t3c, t4c⟩, _⟩ := box5 htb
  clear htb
  clear k0 k1 k2 k3 k4 o0 o1 f0 f1 f2 f3 f4
  obtain ⟨⟨k0, k1, k2, k3, k4⟩, _⟩ := box5 HS4.out.b0
  obtain ⟨o0, o1, _, _⟩ := bx2 HS4.out.b1
  obtain ⟨_, f0, f1, f2, f3, f4⟩ := box5 HS4.out.b2
  have HDd := hide (HD4.out.past (Below.refl _ _).drew)
  have HSd := hide (HSe4.out.below (Below.refl _ _).drew)
  have HE : Hid (w4.drew.cell? ⟨3, 0, none⟩ = some (.iface 122 (.pointer (some (adr 22))))) := hide (HSd.out.cell 22 (by decide) (by decide))
  go_region_law (first
    | (go_simp; go_at_call 10; with_reducible refine Calls.mono (heard_bad _ HDd.out.pg t HT.out HW.out _ HE.out) ?_; rintro r w6 ⟨rfl, rfl⟩)
    | (go_simp; go_at_call 15; with_reducible refine Calls.mono (code_err _ adr HSd.out 22 (by decide) (by decide) (by decide)) ?_; rintro r w6 ⟨rfl, rfl⟩)
    | fail)
  all_goals
    go_wp2
    obtain ⟨⟨z0, z1, z2, z3, z4⟩, _⟩ := box5 (box5_set (p := q0 + 1 + 1) HS4.out.b2 (.int .i64 most) (.int .i64 n) (.slice A1 n1 c1) (.slice A2 n2 c2) (.slice A3 n3 c3))
    refine bodyPost_ret (by simp [results, Tryd.results16, go_sem, z0, z1, z2, z3, z4]; rfl) rfl ?_
    have hL := HL.out
    exact fin_stepD (n := n) (n2 := n2) HD4.out HS4.out.b2 (fun hf => by have := HLow.out _ hf; omega) HM4.out (by omega) (fun _ h => .inl h) (by first | exact fun _ h => .inl h | exact fun j h => h.imp id (fun h => by have := h.1; omega)) (by omega) (by omega)

set_option maxRecDepth 10000 in
set_option maxHeartbeats 4000000 in
theorem step_heard_ok (B : Nat) (w : World) (c m q : Nat) (FT FO D : Nat → Prop) (most n : Nat) (W T O : List Int) (A1 : Option Addr) (n1 c1 : Nat) (A2 : Option Addr) (n2 c2 : Nat) (A3 : Option Addr) (n3 c3 : Nat) (K : Nat) (h : PD B w c m q FT FO D most n W T O W T O A1 n1 c1 A2 n2 c2 A3 n3 c3) (hK : K ≤ 1048576) (hn : n ≤ K) (hT : n2 ≤ K) (t : Int) (hl : t ∈ W) :
    Calls Tryd.prog 16 #[ptr c, pv most n A1 n1 c1 A2 n2 c2 A3 n3 c3, .agg #[.int .i64 1, .int .u32 t]] w (StepPost B w (PF c m FT FO) D c m q most K) := by
  obtain ⟨w1, q0, hw1, hq, hal, hs1, hsb⟩ := boxesS w (.int .i64 most) (.int .i64 n) (.slice A1 n1 c1) (.slice A2 n2 c2) (.slice A3 n3 c3) 1 t
  have hl1 := row_len h.r1
  have hl2 := row_len h.r2
  have hl3 := row_len h.r3
  have hroom := h.pg.room
  have hm1 := h.pg.m1
  have hm2 := h.pg.m2
  have hOl : (O.length : Int) ≤ most := by have := h.pg.ff.fits.1; rw [ones_length] at this; exact this
  have HL := hide (And.intro hl1 (And.intro hl2 hl3))
  have HN1 : Hid (n1 ≤ 1024 ∧ n3 ≤ 1024 ∧ (most : Int) ≠ 0) := hide ⟨by omega, by omega, by omega⟩
  have HLow : Hid (∀ k, PF c m FT FO k → k < q0) := hide (fun k hk => by rw [← hq]; exact h.pg.low k hk)
  have HD1 := hide (h.past hal)
  have HS1 := hide hsb
  have HM1 : Hid (Mod (PF c m FT FO) w w1) := hide (Mod.ofBelow hal _)
  obtain ⟨⟨k0, k1, k2, k3, k4⟩, _⟩ := box5 hsb.b0
  obtain ⟨o0, o1, _, _⟩ := bx2 hsb.b1
  obtain ⟨_, f0, f1, f2, f3, f4⟩ := box5 hsb.b2
  have _ := And.intro hK hT
  clear hal hsb h hl1 hl2 hl3 hOl hroom hm1 hm2
  obtain ⟨k, rfl⟩ : ∃ k, n1 = k + 1 := ⟨n1 - 1, by have := List.length_pos_of_mem hl; have := HL.out.1; omega⟩
  have HW := hide hl
  have HTl : Hid (T.length ≤ 4194304) := hide (by have := HL.out; omega)
  clear hl
  go_enter Tryd.func16, Tryd.ntmps16
  go_wp2_with fail
  refine (refheard_ok w1 most n A1 k c1 A2 n2 c2 A3 n3 c3 W T (row_cap HD1.out.r1) (by have := HN1.out; omega) (by omega) HD1.out.r1.reads HD1.out.r2.reads t HW.out HN1.out.2.2).mono ?_
  rintro r w3 ⟨A', c', B', d', rfl, hr3, hs3, hb3⟩
  have HD3 := hide (HD1.out.doc12 hb3 hr3 hs3)
  have HS3 := hide (HS1.out.past hb3)
  have HM3 := hide (HM1.out.trans (Mod.ofBelow hb3 (fun _ => False)) (fun _ _ h => h.elim))
  clear hr3 hs3 hb3
  clear k0 k1 k2 k3 k4 o0 o1 f0 f1 f2 f3 f4
  obtain ⟨⟨k0, k1, k2, k3, k4⟩, _⟩ := box5 HS3.out.b0
  obtain ⟨o0, o1, _, _⟩ := bx2 HS3.out.b1
  obtain ⟨_, f0, f1, f2, f3, f4⟩ := box5 HS3.out.b2
  go_upto_region 8 with fail
  obtain ⟨t0, ht⟩ : ∃ t0, w3.heap.size = t0 := ⟨_, rfl⟩
  obtain ⟨w4, hw4⟩ : ∃ w4, w3.alloc (.cells #[.int .i64 most, .int .i64 n, .slice A' k c', .slice B' (n2 + 1) d', .slice A3 n3 c3] 40) = w4 := ⟨_, rfl⟩
  have hal : Below w3.heap.size w3 w4 := by rw [← hw4]; exact (Below.refl _ _).alloc (Nat.le_refl _) _
  have htb : w4.heap[t0]? = some (.cells #[.int .i64 most, .int .i64 n, .slice A' k c', .slice B' (n2 + 1) d', .slice A3 n3 c3] 40 (0, 0)) := by rw [← hw4, ← ht]; exact heap_alloc_new w3 _
  have htl : t0 < w4.heap.size := (Array.getElem?_eq_some_iff.1 htb).1
  have HT4 := hide htb
  have HD4 := hide (HD3.out.past hal)
  have HS4 := hide (HS3.out.past hal)
  have HM4 := hide (HM3.out.trans (Mod.ofBelow hal (fun _ => False)) (fun _ _ h => h.elim))
  have htq : q0 + 3 ≤ t0 := by have := (Array.getElem?_eq_some_iff.1 HS3.out.b2).1; omega
  rw [ht, hw4]
  clear hal ht hw4
  obtain ⟨⟨t0c, t1c, t2c, t3c, t4c⟩, _⟩ := box5 htb
  clear htb
  clear k0 k1 k2 k3 k4 o0 o1 f0 f1 f2 f3 f4
  obtain ⟨⟨k0, k1, k2, k3, k4⟩, _⟩ := box5 HS4.out.b0
  obtain ⟨o0, o1, _, _⟩ := bx2 HS4.out.b1
  obtain ⟨_, f0, f1, f2, f3, f4⟩ := box5 HS4.out.b2
  have HDd := hide (HD4.out.past (Below.refl _ _).drew)
  have HSBd := hide (HS4.out.past (Below.refl _ _).drew)
  have HTd : Hid (w4.drew.heap[t0]? = some (.cells #[.int .i64 most, .int .i64 n, .slice A' k c', .slice B' (n2 + 1) d', .slice A3 n3 c3] 40 (0, 0))) := HT4
  go_region_law (first
    | (go_simp; go_at_call 10; (with_reducible refine Calls.mono (heard_ok _ HDd.out.pg t HW.out HTl.out) ?_); rintro r w6 ⟨rfl, FT', hp6, hm6, hl6⟩
       have hF6 : ∀ j, PF c m FT' FO j → PF c m FT FO j ∨ w4.drew.heap.size ≤ j := by
         rintro j (rfl | rfl | hj | hj)
         · exact .inl (.inl rfl)
         · exact .inl (.inr (.inl rfl))
         · exact (hl6 j hj).imp (fun h => .inr (.inr (.inl h))) id
         · exact .inl (.inr (.inr (.inr hj)))
       have HD6 := hide (HDd.out.prog hp6 hm6 hF6)
       have HF6 := hide hF6
       have HM6 := hide (HM4.out.drew.trans hm6 (fun _ _ h => h))
       have hs6 := HSBd.out.mod hm6 (fun j hj _ hf => by have := HLow.out j hf; omega)
       have HS6 := hide hs6
       have ht6 := hm6.heap HTd.out (fun hf => by have := HLow.out t0 hf; omega)
       clear k0 k1 k2 k3 k4 o0 o1 f0 f1 f2 f3 f4 t0c t1c t2c t3c t4c hp6 hm6 hl6 hF6
       obtain ⟨⟨k0, k1, k2, k3, k4⟩, _⟩ := box5 hs6.b0
       obtain ⟨o0, o1, _, _⟩ := bx2 hs6.b1
       obtain ⟨_, f0, f1, f2, f3, f4⟩ := box5 hs6.b2
       obtain ⟨⟨t0c, t1c, t2c, t3c, t4c⟩, _⟩ := box5 ht6
       clear hs6 ht6)
    | (go_simp; go_at_call 15; with_reducible refine Calls.mono (code_nil _) ?_; rintro r w7 ⟨rfl, rfl⟩)
    | fail)
  all_goals
    go_wp2
    obtain ⟨⟨z0, z1, z2, z3, z4⟩, _⟩ := box5 (box5_set (p := q0 + 1 + 1) HS6.out.b2 (.int .i64 most) (.int .i64 n) (.slice A' k c') (.slice B' (n2 + 1) d') (.slice A3 n3 c3))
    refine bodyPost_ret (by simp [results, Tryd.results16, go_sem, z0, z1, z2, z3, z4]; rfl) rfl ?_
    have hL := HL.out
    exact fin_step (n := n) (n2 := (n2 + 1)) HD6.out HS6.out.b2 (fun hf => (HF6.out _ hf).elim (fun h => by have := HLow.out _ h; omega) (fun h => by have h2 : w4.heap.size ≤ q0 + 1 + 1 := h; omega)) HM6.out (by omega) (fun j h => (HF6.out j h).imp id (fun h => Nat.le_trans HM4.out.size h)) (by first | exact fun _ h => .inl h | exact fun j h => h.imp id (fun h => by have := h.1; omega)) (by omega) (by omega)

set_option maxRecDepth 10000 in
set_option maxHeartbeats 4000000 in
theorem step_asked_full (B : Nat) (w : World) (c m q : Nat) (FT FO D : Nat → Prop) (most n : Nat) (W T O : List Int) (A1 : Option Addr) (n1 c1 : Nat) (A2 : Option Addr) (n2 c2 : Nat) (A3 : Option Addr) (n3 c3 : Nat) (K : Nat) (h : PD B w c m q FT FO D most n W T O W T O A1 n1 c1 A2 n2 c2 A3 n3 c3) (hK : K ≤ 1048576) (hn : n ≤ K) (hT : n2 ≤ K) (t : Int) (adr : Nat → Addr) (hSe : Sent w adr) (hl : most ≤ O.length) :
    Calls Tryd.prog 16 #[ptr c, pv most n A1 n1 c1 A2 n2 c2 A3 n3 c3, .agg #[.int .i64 3, .int .u32 t]] w (StepPost B w (PF c m FT FO) D c m q most K) := by
  obtain ⟨w1, q0, hw1, hq, hal, hs1, hsb⟩ := boxesS w (.int .i64 most) (.int .i64 n) (.slice A1 n1 c1) (.slice A2 n2 c2) (.slice A3 n3 c3) 3 t
  have hl1 := row_len h.r1
  have hl2 := row_len h.r2
  have hl3 := row_len h.r3
  have hroom := h.pg.room
  have hm1 := h.pg.m1
  have hm2 := h.pg.m2
  have hOl : (O.length : Int) ≤ most := by have := h.pg.ff.fits.1; rw [ones_length] at this; exact this
  have HL := hide (And.intro hl1 (And.intro hl2 hl3))
  have HN1 : Hid (n1 ≤ 1024 ∧ n3 ≤ 1024 ∧ (most : Int) ≠ 0) := hide ⟨by omega, by omega, by omega⟩
  have HLow : Hid (∀ k, PF c m FT FO k → k < q0) := hide (fun k hk => by rw [← hq]; exact h.pg.low k hk)
  have HD1 := hide (h.past hal)
  have HS1 := hide hsb
  have HM1 : Hid (Mod (PF c m FT FO) w w1) := hide (Mod.ofBelow hal _)
  obtain ⟨⟨k0, k1, k2, k3, k4⟩, _⟩ := box5 hsb.b0
  obtain ⟨o0, o1, _, _⟩ := bx2 hsb.b1
  obtain ⟨_, f0, f1, f2, f3, f4⟩ := box5 hsb.b2
  have _ := And.intro hK hT
  have HSe1 := hide (hSe.below hal)
  clear hal hSe hsb h hl1 hl2 hl3 hOl hroom hm1 hm2
  have HW := hide hl
  clear hl
  go_enter Tryd.func16, Tryd.ntmps16
  go_wp2_with fail
  refine (refasked_full w1 most n A1 n1 c1 A2 n2 c2 A3 n3 c3 HN1.out.2.2 (by have := HL.out; have := HW.out; omega) t).mono ?_
  rintro r w3 ⟨rfl, hb3⟩
  have HD3 := hide (HD1.out.past hb3)
  have HS3 := hide (HS1.out.past hb3)
  have HM3 := hide (HM1.out.trans (Mod.ofBelow hb3 (fun _ => False)) (fun _ _ h => h.elim))
  have HSe3 := hide (HSe1.out.below hb3)
  clear hb3
  clear k0 k1 k2 k3 k4 o0 o1 f0 f1 f2 f3 f4
  obtain ⟨⟨k0, k1, k2, k3, k4⟩, _⟩ := box5 HS3.out.b0
  obtain ⟨o0, o1, _, _⟩ := bx2 HS3.out.b1
  obtain ⟨_, f0, f1, f2, f3, f4⟩ := box5 HS3.out.b2
  go_upto_region 15 with fail
  obtain ⟨t0, ht⟩ : ∃ t0, w3.heap.size = t0 := ⟨_, rfl⟩
  obtain ⟨w4, hw4⟩ : ∃ w4, w3.alloc (.cells #[.int .i64 most, .int .i64 n, .slice A1 n1 c1, .slice A2 n2 c2, .slice A3 n3 c3] 40) = w4 := ⟨_, rfl⟩
  have hal : Below w3.heap.size w3 w4 := by rw [← hw4]; exact (Below.refl _ _).alloc (Nat.le_refl _) _
  have htb : w4.heap[t0]? = some (.cells #[.int .i64 most, .int .i64 n, .slice A1 n1 c1, .slice A2 n2 c2, .slice A3 n3 c3] 40 (0, 0)) := by rw [← hw4, ← ht]; exact heap_alloc_new w3 _
  have htl : t0 < w4.heap.size := (Array.getElem?_eq_some_iff.1 htb).1
  have HT4 := hide htb
  have HD4 := hide (HD3.out.past hal)
  have HS4 := hide (HS3.out.past hal)
  have HM4 := hide (HM3.out.trans (Mod.ofBelow hal (fun _ => False)) (fun _ _ h => h.elim))
  have htq : q0 + 3 ≤ t0 := by have := (Array.getElem?_eq_some_iff.1 HS3.out.b2).1; omega
  have HSe4 := hide (HSe3.out.below hal)
  rw [ht, hw4]
  clear hal ht hw4
  obtain ⟨⟨t0c, t1c, t2c, t3c, t4c⟩, _⟩ := box5 htb
  clear htb
  clear k0 k1 k2 k3 k4 o0 o1 f0 f1 f2 f3 f4
  obtain ⟨⟨k0, k1, k2, k3, k4⟩, _⟩ := box5 HS4.out.b0
  obtain ⟨o0, o1, _, _⟩ := bx2 HS4.out.b1
  obtain ⟨_, f0, f1, f2, f3, f4⟩ := box5 HS4.out.b2
  have HDd := hide (HD4.out.past (Below.refl _ _).drew)
  have HSd := hide (HSe4.out.below (Below.refl _ _).drew)
  have HSBd := hide (HS4.out.past (Below.refl _ _).drew)
  have HTd : Hid (w4.drew.heap[t0]? = some (.cells #[.int .i64 most, .int .i64 n, .slice A1 n1 c1, .slice A2 n2 c2, .slice A3 n3 c3] 40 (0, 0))) := HT4
  have HE : Hid (w4.drew.cell? ⟨4, 0, none⟩ = some (.iface 122 (.pointer (some (adr 21))))) := hide (HSd.out.cell 21 (by decide) (by decide))
  go_region_law (first
    | (go_simp; go_at_call 19; (with_reducible refine Calls.mono (asked_full _ HDd.out.pg HW.out t _ HE.out) ?_); rintro r w6 ⟨rfl, hb6⟩
       have HD6 := hide (HDd.out.past hb6)
       have HM6 := hide (HM4.out.drew.trans (Mod.ofBelow hb6 (fun _ => False)) (fun _ _ h => h.elim))
       have HS6 := hide (HSBd.out.past hb6)
       have ht6 := below_at hb6 HTd.out
       have HSe6 := hide (HSd.out.below hb6)
       clear k0 k1 k2 k3 k4 o0 o1 f0 f1 f2 f3 f4 t0c t1c t2c t3c t4c hb6
       obtain ⟨⟨k0, k1, k2, k3, k4⟩, _⟩ := box5 HS6.out.b0
       obtain ⟨o0, o1, _, _⟩ := bx2 HS6.out.b1
       obtain ⟨_, f0, f1, f2, f3, f4⟩ := box5 HS6.out.b2
       obtain ⟨⟨t0c, t1c, t2c, t3c, t4c⟩, _⟩ := box5 ht6
       clear ht6)
    | (go_simp; go_at_call 15; with_reducible refine Calls.mono (code_err _ adr HSe6.out 21 (by decide) (by decide) (by decide)) ?_; rintro r w7 ⟨rfl, rfl⟩)
    | fail)
  all_goals
    go_wp2
    obtain ⟨⟨z0, z1, z2, z3, z4⟩, _⟩ := box5 (box5_set (p := q0 + 1 + 1) HS6.out.b2 (.int .i64 most) (.int .i64 n) (.slice A1 n1 c1) (.slice A2 n2 c2) (.slice A3 n3 c3))
    refine bodyPost_ret (by simp [results, Tryd.results16, go_sem, z0, z1, z2, z3, z4]; rfl) rfl ?_
    have hL := HL.out
    exact fin_step (n := n) (n2 := n2) HD6.out HS6.out.b2 (fun hf => by have := HLow.out _ hf; omega) HM6.out (by omega) (fun _ h => .inl h) (by first | exact fun _ h => .inl h | exact fun j h => h.imp id (fun h => by have := h.1; omega)) (by omega) (by omega)

set_option maxRecDepth 10000 in
set_option maxHeartbeats 4000000 in
theorem step_asked_ok (B : Nat) (w : World) (c m q : Nat) (FT FO D : Nat → Prop) (most n : Nat) (W T O : List Int) (A1 : Option Addr) (n1 c1 : Nat) (A2 : Option Addr) (n2 c2 : Nat) (A3 : Option Addr) (n3 c3 : Nat) (K : Nat) (h : PD B w c m q FT FO D most n W T O W T O A1 n1 c1 A2 n2 c2 A3 n3 c3) (hK : K ≤ 1048576) (hn : n ≤ K) (hT : n2 ≤ K) (t : Int) (hl : O.length < most) :
    Calls Tryd.prog 16 #[ptr c, pv most n A1 n1 c1 A2 n2 c2 A3 n3 c3, .agg #[.int .i64 3, .int .u32 t]] w (StepPost B w (PF c m FT FO) D c m q most K) := by
  obtain ⟨w1, q0, hw1, hq, hal, hs1, hsb⟩ := boxesS w (.int .i64 most) (.int .i64 n) (.slice A1 n1 c1) (.slice A2 n2 c2) (.slice A3 n3 c3) 3 t
  have hl1 := row_len h.r1
  have hl2 := row_len h.r2
  have hl3 := row_len h.r3
  have hroom := h.pg.room
  have hm1 := h.pg.m1
  have hm2 := h.pg.m2
  have hOl : (O.length : Int) ≤ most := by have := h.pg.ff.fits.1; rw [ones_length] at this; exact this
  have HL := hide (And.intro hl1 (And.intro hl2 hl3))
  have HN1 : Hid (n1 ≤ 1024 ∧ n3 ≤ 1024 ∧ (most : Int) ≠ 0) := hide ⟨by omega, by omega, by omega⟩
  have HLow : Hid (∀ k, PF c m FT FO k → k < q0) := hide (fun k hk => by rw [← hq]; exact h.pg.low k hk)
  have HD1 := hide (h.past hal)
  have HS1 := hide hsb
  have HM1 : Hid (Mod (PF c m FT FO) w w1) := hide (Mod.ofBelow hal _)
  obtain ⟨⟨k0, k1, k2, k3, k4⟩, _⟩ := box5 hsb.b0
  obtain ⟨o0, o1, _, _⟩ := bx2 hsb.b1
  obtain ⟨_, f0, f1, f2, f3, f4⟩ := box5 hsb.b2
  have _ := And.intro hK hT
  clear hal hsb h hl1 hl2 hl3 hOl hroom hm1 hm2
  have HW := hide hl
  clear hl
  go_enter Tryd.func16, Tryd.ntmps16
  go_wp2_with fail
  refine (refasked_ok w1 most n A1 n1 c1 A2 n2 c2 A3 n3 c3 O HD1.out.r3.reads t HN1.out.2.2 (by have := HL.out; have := HW.out; omega) (by have := HN1.out; omega)).mono ?_
  rintro r w3 ⟨A', c', rfl, hr3, hb3⟩
  have HD3 := hide (HD1.out.doc3 hb3 hr3)
  have HS3 := hide (HS1.out.past hb3)
  have HM3 := hide (HM1.out.trans (Mod.ofBelow hb3 (fun _ => False)) (fun _ _ h => h.elim))
  clear hr3 hb3
  clear k0 k1 k2 k3 k4 o0 o1 f0 f1 f2 f3 f4
  obtain ⟨⟨k0, k1, k2, k3, k4⟩, _⟩ := box5 HS3.out.b0
  obtain ⟨o0, o1, _, _⟩ := bx2 HS3.out.b1
  obtain ⟨_, f0, f1, f2, f3, f4⟩ := box5 HS3.out.b2
  go_upto_region 15 with fail
  obtain ⟨t0, ht⟩ : ∃ t0, w3.heap.size = t0 := ⟨_, rfl⟩
  obtain ⟨w4, hw4⟩ : ∃ w4, w3.alloc (.cells #[.int .i64 most, .int .i64 n, .slice A1 n1 c1, .slice A2 n2 c2, .slice A' (n3 + 1) c'] 40) = w4 := ⟨_, rfl⟩
  have hal : Below w3.heap.size w3 w4 := by rw [← hw4]; exact (Below.refl _ _).alloc (Nat.le_refl _) _
  have htb : w4.heap[t0]? = some (.cells #[.int .i64 most, .int .i64 n, .slice A1 n1 c1, .slice A2 n2 c2, .slice A' (n3 + 1) c'] 40 (0, 0)) := by rw [← hw4, ← ht]; exact heap_alloc_new w3 _
  have htl : t0 < w4.heap.size := (Array.getElem?_eq_some_iff.1 htb).1
  have HT4 := hide htb
  have HD4 := hide (HD3.out.past hal)
  have HS4 := hide (HS3.out.past hal)
  have HM4 := hide (HM3.out.trans (Mod.ofBelow hal (fun _ => False)) (fun _ _ h => h.elim))
  have htq : q0 + 3 ≤ t0 := by have := (Array.getElem?_eq_some_iff.1 HS3.out.b2).1; omega
  rw [ht, hw4]
  clear hal ht hw4
  obtain ⟨⟨t0c, t1c, t2c, t3c, t4c⟩, _⟩ := box5 htb
  clear htb
  clear k0 k1 k2 k3 k4 o0 o1 f0 f1 f2 f3 f4
  obtain ⟨⟨k0, k1, k2, k3, k4⟩, _⟩ := box5 HS4.out.b0
  obtain ⟨o0, o1, _, _⟩ := bx2 HS4.out.b1
  obtain ⟨_, f0, f1, f2, f3, f4⟩ := box5 HS4.out.b2
  have HDd := hide (HD4.out.past (Below.refl _ _).drew)
  have HSBd := hide (HS4.out.past (Below.refl _ _).drew)
  have HTd : Hid (w4.drew.heap[t0]? = some (.cells #[.int .i64 most, .int .i64 n, .slice A1 n1 c1, .slice A2 n2 c2, .slice A' (n3 + 1) c'] 40 (0, 0))) := HT4
  go_region_law (first
    | (go_simp; go_at_call 19; (with_reducible refine Calls.mono (asked_ok _ HDd.out.pg HW.out t) ?_); rintro r w6 ⟨rfl, hp6, hm6⟩
       have hM6 : Mod (PF c m FT FO) w4.drew w6 := hm6.mono (fun _ _ e => .inr (.inr (.inr e)))
       have hF6 : ∀ j, PF c m FT (Wide FO w4.drew w6) j → PF c m FT FO j ∨ w4.drew.heap.size ≤ j := by
         rintro j (rfl | rfl | hj | hj)
         · exact .inl (.inl rfl)
         · exact .inl (.inr (.inl rfl))
         · exact .inl (.inr (.inr (.inl hj)))
         · exact hj.imp (fun h => .inr (.inr (.inr h))) (fun h => h.1)
       have HD6 := hide (HDd.out.prog hp6 hM6 hF6)
       have HF6 := hide hF6
       have HM6 := hide (HM4.out.drew.trans hM6 (fun _ _ h => h))
       have hs6 := HSBd.out.mod hM6 (fun j hj _ hf => by have := HLow.out j hf; omega)
       have HS6 := hide hs6
       have ht6 := hM6.heap HTd.out (fun hf => by have := HLow.out t0 hf; omega)
       clear k0 k1 k2 k3 k4 o0 o1 f0 f1 f2 f3 f4 t0c t1c t2c t3c t4c hp6 hm6 hM6 hF6
       obtain ⟨⟨k0, k1, k2, k3, k4⟩, _⟩ := box5 hs6.b0
       obtain ⟨o0, o1, _, _⟩ := bx2 hs6.b1
       obtain ⟨_, f0, f1, f2, f3, f4⟩ := box5 hs6.b2
       obtain ⟨⟨t0c, t1c, t2c, t3c, t4c⟩, _⟩ := box5 ht6
       clear hs6 ht6)
    | (go_simp; go_at_call 15; with_reducible refine Calls.mono (code_nil _) ?_; rintro r w7 ⟨rfl, rfl⟩)
    | fail)
  all_goals
    go_wp2
    obtain ⟨⟨z0, z1, z2, z3, z4⟩, _⟩ := box5 (box5_set (p := q0 + 1 + 1) HS6.out.b2 (.int .i64 most) (.int .i64 n) (.slice A1 n1 c1) (.slice A2 n2 c2) (.slice A' (n3 + 1) c'))
    refine bodyPost_ret (by simp [results, Tryd.results16, go_sem, z0, z1, z2, z3, z4]; rfl) rfl ?_
    have hL := HL.out
    exact fin_step (n := n) (n2 := n2) HD6.out HS6.out.b2 (fun hf => (HF6.out _ hf).elim (fun h => by have := HLow.out _ h; omega) (fun h => by have h2 : w4.heap.size ≤ q0 + 1 + 1 := h; omega)) HM6.out (by omega) (fun j h => (HF6.out j h).imp id (fun h => Nat.le_trans HM4.out.size h)) (by first | exact fun _ h => .inl h | exact fun j h => h.imp id (fun h => by have := h.1; omega)) (by omega) (by omega)

set_option maxRecDepth 10000 in
set_option maxHeartbeats 4000000 in
theorem step_replied_none (B : Nat) (w : World) (c m q : Nat) (FT FO D : Nat → Prop) (most n : Nat) (W T O : List Int) (A1 : Option Addr) (n1 c1 : Nat) (A2 : Option Addr) (n2 c2 : Nat) (A3 : Option Addr) (n3 c3 : Nat) (K : Nat) (h : PD B w c m q FT FO D most n W T O W T O A1 n1 c1 A2 n2 c2 A3 n3 c3) (hK : K ≤ 1048576) (hn : n ≤ K) (hT : n2 ≤ K) (t : Int) (kd : Int) (g0 : (kd == 0) = false) (g1 : (kd == 1) = false) (g2 : (kd == 2) = false) (g3 : (kd == 3) = false) (hl : O = []) :
    Calls Tryd.prog 16 #[ptr c, pv most n A1 n1 c1 A2 n2 c2 A3 n3 c3, .agg #[.int .i64 kd, .int .u32 t]] w (StepPost B w (PF c m FT FO) D c m q most K) := by
  obtain ⟨w1, q0, hw1, hq, hal, hs1, hsb⟩ := boxesS w (.int .i64 most) (.int .i64 n) (.slice A1 n1 c1) (.slice A2 n2 c2) (.slice A3 n3 c3) kd t
  have hl1 := row_len h.r1
  have hl2 := row_len h.r2
  have hl3 := row_len h.r3
  have hroom := h.pg.room
  have hm1 := h.pg.m1
  have hm2 := h.pg.m2
  have hOl : (O.length : Int) ≤ most := by have := h.pg.ff.fits.1; rw [ones_length] at this; exact this
  have HL := hide (And.intro hl1 (And.intro hl2 hl3))
  have HN1 : Hid (n1 ≤ 1024 ∧ n3 ≤ 1024 ∧ (most : Int) ≠ 0) := hide ⟨by omega, by omega, by omega⟩
  have HLow : Hid (∀ k, PF c m FT FO k → k < q0) := hide (fun k hk => by rw [← hq]; exact h.pg.low k hk)
  have HD1 := hide (h.past hal)
  have HS1 := hide hsb
  have HM1 : Hid (Mod (PF c m FT FO) w w1) := hide (Mod.ofBelow hal _)
  obtain ⟨⟨k0, k1, k2, k3, k4⟩, _⟩ := box5 hsb.b0
  obtain ⟨o0, o1, _, _⟩ := bx2 hsb.b1
  obtain ⟨_, f0, f1, f2, f3, f4⟩ := box5 hsb.b2
  have _ := And.intro hK hT
  clear hal hsb h hl1 hl2 hl3 hOl hroom hm1 hm2
  subst hl
  obtain rfl : n3 = 0 := HL.out.2.2.symm
  go_enter Tryd.func16, Tryd.ntmps16
  go_wp2_with fail
  refine (refreplied_none w1 most n A1 n1 c1 A2 n2 c2 A3 c3).mono ?_
  rintro r w3 ⟨rfl, hb3⟩
  have HD3 := hide (HD1.out.past hb3)
  have HS3 := hide (HS1.out.past hb3)
  have HM3 := hide (HM1.out.trans (Mod.ofBelow hb3 (fun _ => False)) (fun _ _ h => h.elim))
  clear hb3
  clear k0 k1 k2 k3 k4 o0 o1 f0 f1 f2 f3 f4
  obtain ⟨⟨k0, k1, k2, k3, k4⟩, _⟩ := box5 HS3.out.b0
  obtain ⟨o0, o1, _, _⟩ := bx2 HS3.out.b1
  obtain ⟨_, f0, f1, f2, f3, f4⟩ := box5 HS3.out.b2
  go_upto_region 17 with fail
  obtain ⟨t0, ht⟩ : ∃ t0, w3.heap.size = t0 := ⟨_, rfl⟩
  obtain ⟨w4, hw4⟩ : ∃ w4, w3.alloc (.cells #[.int .i64 most, .int .i64 n, .slice A1 n1 c1, .slice A2 n2 c2, .slice A3 0 c3] 40) = w4 := ⟨_, rfl⟩
  have hal : Below w3.heap.size w3 w4 := by rw [← hw4]; exact (Below.refl _ _).alloc (Nat.le_refl _) _
  have htb : w4.heap[t0]? = some (.cells #[.int .i64 most, .int .i64 n, .slice A1 n1 c1, .slice A2 n2 c2, .slice A3 0 c3] 40 (0, 0)) := by rw [← hw4, ← ht]; exact heap_alloc_new w3 _
  have htl : t0 < w4.heap.size := (Array.getElem?_eq_some_iff.1 htb).1
  have HT4 := hide htb
  have HD4 := hide (HD3.out.past hal)
  have HS4 := hide (HS3.out.past hal)
  have HM4 := hide (HM3.out.trans (Mod.ofBelow hal (fun _ => False)) (fun _ _ h => h.elim))
  have htq : q0 + 3 ≤ t0 := by have := (Array.getElem?_eq_some_iff.1 HS3.out.b2).1; omega
  rw [ht, hw4]
  clear hal ht hw4
  obtain ⟨⟨t0c, t1c, t2c, t3c, t4c⟩, _⟩ := box5 htb
  clear htb
  clear k0 k1 k2 k3 k4 o0 o1 f0 f1 f2 f3 f4
  obtain ⟨⟨k0, k1, k2, k3, k4⟩, _⟩ := box5 HS4.out.b0
  obtain ⟨o0, o1, _, _⟩ := bx2 HS4.out.b1
  obtain ⟨_, f0, f1, f2, f3, f4⟩ := box5 HS4.out.b2
  go_wp2_with fail
  refine (replied_none w4 HD4.out.pg).mono ?_
  rintro r w5 ⟨rfl, hw5⟩
  subst hw5
  have HD5 := hide HD4.out
  have HS5 := hide HS4.out
  have HT5 := hide HT4.out
  have HM5 := hide HM4.out
  clear t0c t1c t2c t3c t4c
  clear k0 k1 k2 k3 k4 o0 o1 f0 f1 f2 f3 f4
  obtain ⟨⟨k0, k1, k2, k3, k4⟩, _⟩ := box5 HS5.out.b0
  obtain ⟨o0, o1, _, _⟩ := bx2 HS5.out.b1
  obtain ⟨_, f0, f1, f2, f3, f4⟩ := box5 HS5.out.b2
  obtain ⟨⟨t0c, t1c, t2c, t3c, t4c⟩, _⟩ := box5 HT5.out
  go_upto_region 18 with fail
  have HDd := hide (HD5.out.past (Below.refl _ _).drew)
  all_goals
    go_wp2
    obtain ⟨⟨z0, z1, z2, z3, z4⟩, _⟩ := box5 (box5_set (p := q0 + 1 + 1) HS5.out.b2 (.int .i64 most) (.int .i64 n) (.slice A1 n1 c1) (.slice A2 n2 c2) (.slice A3 0 c3))
    refine bodyPost_ret (by simp [results, Tryd.results16, go_sem, z0, z1, z2, z3, z4]; rfl) rfl ?_
    have hL := HL.out
    exact fin_step (n := n) (n2 := n2) HD5.out HS5.out.b2 (fun hf => by have := HLow.out _ hf; omega) HM5.out (by omega) (fun _ h => .inl h) (by first | exact fun _ h => .inl h | exact fun j h => h.imp id (fun h => by have := h.1; omega)) (by omega) (by omega)

set_option maxRecDepth 10000 in
set_option maxHeartbeats 4000000 in
theorem step_replied_some (B : Nat) (w : World) (c m q : Nat) (FT FO D : Nat → Prop) (most n : Nat) (W T O : List Int) (A1 : Option Addr) (n1 c1 : Nat) (A2 : Option Addr) (n2 c2 : Nat) (A3 : Option Addr) (n3 c3 : Nat) (K : Nat) (h : PD B w c m q FT FO D most n W T O W T O A1 n1 c1 A2 n2 c2 A3 n3 c3) (hK : K ≤ 1048576) (hn : n ≤ K) (hT : n2 ≤ K) (t : Int) (kd : Int) (g0 : (kd == 0) = false) (g1 : (kd == 1) = false) (g2 : (kd == 2) = false) (g3 : (kd == 3) = false) (x : Int) (O2 : List Int) (hl : O = x :: O2) :
    Calls Tryd.prog 16 #[ptr c, pv most n A1 n1 c1 A2 n2 c2 A3 n3 c3, .agg #[.int .i64 kd, .int .u32 t]] w (StepPost B w (PF c m FT FO) D c m q most K) := by
  obtain ⟨w1, q0, hw1, hq, hal, hs1, hsb⟩ := boxesS w (.int .i64 most) (.int .i64 n) (.slice A1 n1 c1) (.slice A2 n2 c2) (.slice A3 n3 c3) kd t
  have hl1 := row_len h.r1
  have hl2 := row_len h.r2
  have hl3 := row_len h.r3
  have hroom := h.pg.room
  have hm1 := h.pg.m1
  have hm2 := h.pg.m2
  have hOl : (O.length : Int) ≤ most := by have := h.pg.ff.fits.1; rw [ones_length] at this; exact this
  have HL := hide (And.intro hl1 (And.intro hl2 hl3))
  have HN1 : Hid (n1 ≤ 1024 ∧ n3 ≤ 1024 ∧ (most : Int) ≠ 0) := hide ⟨by omega, by omega, by omega⟩
  have HLow : Hid (∀ k, PF c m FT FO k → k < q0) := hide (fun k hk => by rw [← hq]; exact h.pg.low k hk)
  have HD1 := hide (h.past hal)
  have HS1 := hide hsb
  have HM1 : Hid (Mod (PF c m FT FO) w w1) := hide (Mod.ofBelow hal _)
  obtain ⟨⟨k0, k1, k2, k3, k4⟩, _⟩ := box5 hsb.b0
  obtain ⟨o0, o1, _, _⟩ := bx2 hsb.b1
  obtain ⟨_, f0, f1, f2, f3, f4⟩ := box5 hsb.b2
  have _ := And.intro hK hT
  clear hal hsb h hl1 hl2 hl3 hOl hroom hm1 hm2
  subst hl
  obtain ⟨k, rfl⟩ : ∃ k, n3 = k + 1 := ⟨O2.length, HL.out.2.2.symm⟩
  go_enter Tryd.func16, Tryd.ntmps16
  go_wp2_with fail
  refine (refreplied_some w1 most n A1 n1 c1 A2 n2 c2 A3 k c3 x O2 (row_cap HD1.out.r3) (by have := HN1.out; omega) HD1.out.r3.reads).mono ?_
  rintro r w3 ⟨A', c', rfl, hr3, hb3⟩
  have HD3 := hide (HD1.out.doc3 hb3 hr3)
  have HS3 := hide (HS1.out.past hb3)
  have HM3 := hide (HM1.out.trans (Mod.ofBelow hb3 (fun _ => False)) (fun _ _ h => h.elim))
  clear hr3 hb3
  clear k0 k1 k2 k3 k4 o0 o1 f0 f1 f2 f3 f4
  obtain ⟨⟨k0, k1, k2, k3, k4⟩, _⟩ := box5 HS3.out.b0
  obtain ⟨o0, o1, _, _⟩ := bx2 HS3.out.b1
  obtain ⟨_, f0, f1, f2, f3, f4⟩ := box5 HS3.out.b2
  go_upto_region 17 with fail
  obtain ⟨t0, ht⟩ : ∃ t0, w3.heap.size = t0 := ⟨_, rfl⟩
  obtain ⟨w4, hw4⟩ : ∃ w4, w3.alloc (.cells #[.int .i64 most, .int .i64 n, .slice A1 n1 c1, .slice A2 n2 c2, .slice A' k c'] 40) = w4 := ⟨_, rfl⟩
  have hal : Below w3.heap.size w3 w4 := by rw [← hw4]; exact (Below.refl _ _).alloc (Nat.le_refl _) _
  have htb : w4.heap[t0]? = some (.cells #[.int .i64 most, .int .i64 n, .slice A1 n1 c1, .slice A2 n2 c2, .slice A' k c'] 40 (0, 0)) := by rw [← hw4, ← ht]; exact heap_alloc_new w3 _
  have htl : t0 < w4.heap.size := (Array.getElem?_eq_some_iff.1 htb).1
  have HT4 := hide htb
  have HD4 := hide (HD3.out.past hal)
  have HS4 := hide (HS3.out.past hal)
  have HM4 := hide (HM3.out.trans (Mod.ofBelow hal (fun _ => False)) (fun _ _ h => h.elim))
  have htq : q0 + 3 ≤ t0 := by have := (Array.getElem?_eq_some_iff.1 HS3.out.b2).1; omega
  rw [ht, hw4]
  clear hal ht hw4
  obtain ⟨⟨t0c, t1c, t2c, t3c, t4c⟩, _⟩ := box5 htb
  clear htb
  clear k0 k1 k2 k3 k4 o0 o1 f0 f1 f2 f3 f4
  obtain ⟨⟨k0, k1, k2, k3, k4⟩, _⟩ := box5 HS4.out.b0
  obtain ⟨o0, o1, _, _⟩ := bx2 HS4.out.b1
  obtain ⟨_, f0, f1, f2, f3, f4⟩ := box5 HS4.out.b2
  go_wp2_with fail
  refine (replied_some w4 x HD4.out.pg).mono ?_
  rintro r w5 ⟨rfl, hp5, hm5'⟩
  have hm5 : Mod (PF c m FT FO) w4 w5 := hm5'.mono (fun _ _ e => .inr (.inr (.inr e)))
  have HD5 := hide (HD4.out.prog hp5 hm5 (fun _ hk => .inl hk))
  have HM5 := hide (HM4.out.trans hm5 (fun _ _ h => h))
  have HS5 := hide (HS4.out.mod hm5 (fun j hj _ hf => by have := HLow.out j hf; omega))
  have HT5 := hide (hm5.heap HT4.out (fun hf => by have := HLow.out t0 hf; omega))
  clear hp5 hm5 hm5' t0c t1c t2c t3c t4c
  clear k0 k1 k2 k3 k4 o0 o1 f0 f1 f2 f3 f4
  obtain ⟨⟨k0, k1, k2, k3, k4⟩, _⟩ := box5 HS5.out.b0
  obtain ⟨o0, o1, _, _⟩ := bx2 HS5.out.b1
  obtain ⟨_, f0, f1, f2, f3, f4⟩ := box5 HS5.out.b2
  obtain ⟨⟨t0c, t1c, t2c, t3c, t4c⟩, _⟩ := box5 HT5.out
  go_upto_region 18 with fail
  have HDd := hide (HD5.out.past (Below.refl _ _).drew)
  all_goals
    go_wp2
    obtain ⟨⟨z0, z1, z2, z3, z4⟩, _⟩ := box5 (box5_set (p := q0 + 1 + 1) HS5.out.b2 (.int .i64 most) (.int .i64 n) (.slice A1 n1 c1) (.slice A2 n2 c2) (.slice A' k c'))
    refine bodyPost_ret (by simp [results, Tryd.results16, go_sem, z0, z1, z2, z3, z4]; rfl) rfl ?_
    have hL := HL.out
    exact fin_step (n := n) (n2 := n2) HD5.out HS5.out.b2 (fun hf => by have := HLow.out _ hf; omega) HM5.out (by omega) (fun _ h => .inl h) (by first | exact fun _ h => .inl h | exact fun j h => h.imp id (fun h => by have := h.1; omega)) (by omega) (by omega)

set_option maxRecDepth 10000 in
set_option maxHeartbeats 4000000 in
theorem step_answered (B : Nat) (w : World) (c m q : Nat) (FT FO D : Nat → Prop) (most n : Nat) (W T O : List Int) (A1 : Option Addr) (n1 c1 : Nat) (A2 : Option Addr) (n2 c2 : Nat) (A3 : Option Addr) (n3 c3 : Nat) (K : Nat) (h : PD B w c m q FT FO D most n W T O W T O A1 n1 c1 A2 n2 c2 A3 n3 c3) (hK : K ≤ 1048576) (hn : n ≤ K) (hT : n2 ≤ K) (t : Int) :
    Calls Tryd.prog 16 #[ptr c, pv most n A1 n1 c1 A2 n2 c2 A3 n3 c3, .agg #[.int .i64 2, .int .u32 t]] w (StepPost B w (PF c m FT FO) D c m q most K) := by
  obtain ⟨w1, q0, hw1, hq, hal, hs1, hsb⟩ := boxesS w (.int .i64 most) (.int .i64 n) (.slice A1 n1 c1) (.slice A2 n2 c2) (.slice A3 n3 c3) 2 t
  have hl1 := row_len h.r1
  have hl2 := row_len h.r2
  have hl3 := row_len h.r3
  have hroom := h.pg.room
  have hm1 := h.pg.m1
  have hm2 := h.pg.m2
  have hOl : (O.length : Int) ≤ most := by have := h.pg.ff.fits.1; rw [ones_length] at this; exact this
  have HL := hide (And.intro hl1 (And.intro hl2 hl3))
  have HN1 : Hid (n1 ≤ 1024 ∧ n3 ≤ 1024 ∧ (most : Int) ≠ 0) := hide ⟨by omega, by omega, by omega⟩
  have HLow : Hid (∀ k, PF c m FT FO k → k < q0) := hide (fun k hk => by rw [← hq]; exact h.pg.low k hk)
  have HD1 := hide (h.past hal)
  have HS1 := hide hsb
  have HM1 : Hid (Mod (PF c m FT FO) w w1) := hide (Mod.ofBelow hal _)
  obtain ⟨⟨k0, k1, k2, k3, k4⟩, _⟩ := box5 hsb.b0
  obtain ⟨o0, o1, _, _⟩ := bx2 hsb.b1
  obtain ⟨_, f0, f1, f2, f3, f4⟩ := box5 hsb.b2
  have _ := And.intro hK hT
  clear hal hsb h hl1 hl2 hl3 hOl hroom hm1 hm2
  obtain ⟨j0, j1, jb⟩ : (w1.setCell ⟨q0, 3, none⟩ (.slice none 0 0)).heap[q0]? = some (.cells #[.int .i64 most, .int .i64 n, .slice A1 n1 c1, .slice none 0 0, .slice A3 n3 c3] 40 (0, 0)) ∧ (w1.setCell ⟨q0, 3, none⟩ (.slice none 0 0)).heap[q0 + 1]? = some (.cells #[.int .i64 2, .int .u32 t] 32 (0, 0)) ∧ (w1.setCell ⟨q0, 3, none⟩ (.slice none 0 0)).heap[q0 + 2]? = some (.cells #[.int .i64 0, .int .i64 0, .slice none 0 0, .slice none 0 0, .slice none 0 0] 40 (0, 0)) := ⟨heap_setCell_same _ q0 3 _ 40 _ HS1.out.b0, by rw [Below.heap_setCell _ _ _ _ (show q0 + 1 ≠ q0 by omega)]; exact HS1.out.b1, by rw [Below.heap_setCell _ _ _ _ (show q0 + 2 ≠ q0 by omega)]; exact HS1.out.b2⟩
  have HSB : Hid (SB (w1.setCell ⟨q0, 3, none⟩ (.slice none 0 0)) q0 (.int .i64 most) (.int .i64 n) (.slice A1 n1 c1) (.slice none 0 0) (.slice A3 n3 c3) 2 t) := hide ⟨j0, j1, jb⟩
  have HMa : Hid (Mod (PF c m FT FO) w (w1.setCell ⟨q0, 3, none⟩ (.slice none 0 0))) := hide (HM1.out.setCell (p := ⟨q0, 3, none⟩) (fun hl => absurd hl (by show ¬ q0 < w.heap.size; omega)) _)
  have HDa : Hid (PD B (w1.setCell ⟨q0, 3, none⟩ (.slice none 0 0)) c m q FT FO D most n W T O W T O A1 n1 c1 A2 n2 c2 A3 n3 c3) := hide (by
    have hm : Mod (fun k => k = q0) w1 (w1.setCell ⟨q0, 3, none⟩ (.slice none 0 0)) := (Mod.refl (fun k => k = q0) w1).setCell (p := ⟨q0, 3, none⟩) (fun _ => rfl) _
    have h := HD1.out
    have hb := HS1.out.b0
    exact ⟨h.pg.kept hm (fun k hk e => by have := HLow.out k hk; omega), h.r1.farE (p := ⟨q0, 3, none⟩) hb (by decide) _, h.r2.farE (p := ⟨q0, 3, none⟩) hb (by decide) _, h.r3.farE (p := ⟨q0, 3, none⟩) hb (by decide) _, fun k hk => Nat.lt_of_lt_of_le (h.dl k hk) hm.size, h.sep, h.lo, Nat.le_trans h.le hm.size⟩)
  obtain ⟨⟨x0, x1, x2, x3, x4⟩, y0, y1, y2, y3, y4⟩ := box5 HSB.out.b0
  obtain ⟨_, e0, e1, e2, e3, e4⟩ := box5 HSB.out.b2
  obtain ⟨_, g0, g1, g2, g3, g4⟩ := box5 HS1.out.b0
  clear j0 j1 jb
  have HL2 : Hid (T.length = n2) := hide HL.out.2.1
  go_enter Tryd.func16, Tryd.ntmps16
  go_upto_region 12 with fail
  obtain ⟨w2, hw2⟩ : ∃ w2, w1.setCell ⟨q0, 3, none⟩ (.slice none 0 0) = w2 := ⟨_, rfl⟩
  rw [hw2] at HSB HDa HMa x0 x1 x2 x3 x4 y0 y1 y2 y3 y4 e0 e1 e2 e3 e4
  rw [hw2]
  clear hw2
  have HDd := hide (HDa.out.past (Below.refl _ _).drew)
  have HSBd := hide (HSB.out.past (Below.refl _ _).drew)
  have hsz : q0 + 2 < w2.heap.size := (Array.getElem?_eq_some_iff.1 HSB.out.b2).1
  clear k0 k1 k2 k3 k4 o0 o1 f0 f1 f2 f3 f4 g0 g1 g2 g3 g4
  go_region_law (first
    | (go_simp; go_at_call 11; (with_reducible refine Calls.mono (answered_any _ HDd.out.pg) ?_); rintro r w6 ⟨A', c', rfl, hr6, hp6, hm6⟩
       have hM6 : Mod (PF c m FT FO) w2.drew w6 := hm6.mono (fun _ _ e => .inl e)
       have hF6 : ∀ j, PF c m (fun _ => False) FO j → PF c m FT FO j ∨ w2.drew.heap.size ≤ j := by
         rintro j (rfl | rfl | hj | hj)
         · exact .inl (.inl rfl)
         · exact .inl (.inr (.inl rfl))
         · exact hj.elim
         · exact .inl (.inr (.inr (.inr hj)))
       have HD6 := hide (HDd.out.prog hp6 hM6 hF6)
       have HF6 := hide hF6
       have HM6 := hide (HMa.out.drew.trans hM6 (fun _ _ h => h))
       have hs6 := HSBd.out.mod hM6 (fun j hj _ hf => by have := HLow.out j hf; omega)
       have HS6 := hide hs6
       have HR6 := hide hr6
       clear x0 x1 x2 x3 x4 y0 y1 y2 y3 y4 e0 e1 e2 e3 e4 hp6 hm6 hM6 hF6 hr6
       obtain ⟨⟨x0, x1, x2, x3, x4⟩, _⟩ := box5 hs6.b0
       obtain ⟨_, e0, e1, e2, e3, e4⟩ := box5 hs6.b2
       clear hs6)
    | (go_simp; go_at_call 12; (with_reducible refine Calls.mono (same_true _ _ _ _ _ HL2.out T HR6.out.reads HD6.out.r2.reads) ?_); rintro r w7 ⟨rfl, hd7⟩
       have hb7 := hd7.below
       have HD7 := hide (HD6.out.past hb7).told
       have HM7 := hide (HM6.out.trans (Mod.ofBelow hb7 (fun _ => False)) (fun _ _ h => h.elim))
       have hs7 := HS6.out.past hb7
       have HS7 := hide hs7
       clear x0 x1 x2 x3 x4 e0 e1 e2 e3 e4 hd7 hb7
       obtain ⟨⟨x0, x1, x2, x3, x4⟩, _⟩ := box5 hs7.b0
       obtain ⟨_, e0, e1, e2, e3, e4⟩ := box5 hs7.b2
       clear hs7)
    | fail)
  all_goals
    go_wp2
    obtain ⟨⟨z0, z1, z2, z3, z4⟩, _⟩ := box5 (box5_set (p := q0 + 1 + 1) HS7.out.b2 (.int .i64 most) (.int .i64 n) (.slice A1 n1 c1) (.slice none 0 0) (.slice A3 n3 c3))
    refine bodyPost_ret (by simp [results, Tryd.results16, go_sem, z0, z1, z2, z3, z4]; rfl) rfl ?_
    have hL := HL.out
    exact fin_step (n := n) (n2 := 0) HD7.out HS7.out.b2 (fun hf => (HF6.out _ hf).elim (fun h => by have := HLow.out _ h; omega) (fun h => by have h2 : w2.heap.size ≤ q0 + 1 + 1 := h; omega)) HM7.out (by omega) (fun j h => (HF6.out j h).imp id (fun h => Nat.le_trans HMa.out.size h)) (by first | exact fun _ h => .inl h | exact fun j h => h.imp id (fun h => by have := h.1; omega)) (by omega) (by omega)

theorem step_any (B : Nat) (w : World) (c m q : Nat) (FT FO D : Nat → Prop) (most n : Nat) (W T O : List Int) (A1 : Option Addr) (n1 c1 : Nat) (A2 : Option Addr) (n2 c2 : Nat) (A3 : Option Addr) (n3 c3 : Nat) (K : Nat) (h : PD B w c m q FT FO D most n W T O W T O A1 n1 c1 A2 n2 c2 A3 n3 c3) (hK : K ≤ 1048576) (hn : n ≤ K) (hT : n2 ≤ K) (adr : Nat → Addr) (hSe : Sent w adr) (kd t : Int) (ht : (Lit.int .u32 t).wf = true) :
    Calls Tryd.prog 16 #[ptr c, pv most n A1 n1 c1 A2 n2 c2 A3 n3 c3, .agg #[.int .i64 kd, .int .u32 t]] w (StepPost B w (PF c m FT FO) D c m q most K) := by
  by_cases k0 : kd = 0
  · subst k0
    by_cases hl : W.length < most
    · exact step_ask_ok B w c m q FT FO D most n W T O A1 n1 c1 A2 n2 c2 A3 n3 c3 K h hK hn hT t hl
    · exact step_ask_full B w c m q FT FO D most n W T O A1 n1 c1 A2 n2 c2 A3 n3 c3 K h hK hn hT t adr hSe (by omega)
  by_cases k1 : kd = 1
  · subst k1
    by_cases hl : t ∈ W
    · exact step_heard_ok B w c m q FT FO D most n W T O A1 n1 c1 A2 n2 c2 A3 n3 c3 K h hK hn hT t hl
    · exact step_heard_bad B w c m q FT FO D most n W T O A1 n1 c1 A2 n2 c2 A3 n3 c3 K h hK hn hT t adr hSe ht hl
  by_cases k2 : kd = 2
  · subst k2
    exact step_answered B w c m q FT FO D most n W T O A1 n1 c1 A2 n2 c2 A3 n3 c3 K h hK hn hT t
  by_cases k3 : kd = 3
  · subst k3
    by_cases hl : O.length < most
    · exact step_asked_ok B w c m q FT FO D most n W T O A1 n1 c1 A2 n2 c2 A3 n3 c3 K h hK hn hT t hl
    · exact step_asked_full B w c m q FT FO D most n W T O A1 n1 c1 A2 n2 c2 A3 n3 c3 K h hK hn hT t adr hSe (by omega)
  have g0 : (kd == 0) = false := by simpa using k0
  have g1 : (kd == 1) = false := by simpa using k1
  have g2 : (kd == 2) = false := by simpa using k2
  have g3 : (kd == 3) = false := by simpa using k3
  obtain hO | ⟨x, O2, hO⟩ : O = [] ∨ ∃ x O2, O = x :: O2 := by
    cases O with
    | nil => exact .inl rfl
    | cons x O2 => exact .inr ⟨x, O2, rfl⟩
  · exact step_replied_none B w c m q FT FO D most n W T O A1 n1 c1 A2 n2 c2 A3 n3 c3 K h hK hn hT t kd g0 g1 g2 g3 hO
  · exact step_replied_some B w c m q FT FO D most n W T O A1 n1 c1 A2 n2 c2 A3 n3 c3 K h hK hn hT t kd g0 g1 g2 g3 x O2 hO
end Go.Proofs.YtccojgaahoonhaaDoor
