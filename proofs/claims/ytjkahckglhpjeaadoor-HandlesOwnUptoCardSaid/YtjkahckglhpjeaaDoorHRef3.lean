import Derived.Test.YtjkahckglhpjeaaDoorHRef2
import Derived.Deep.RegionHeld3
/- The document's handles: Bind, Drop. -/
namespace Go.Proofs.YtjkahckglhpjeaaDoor
open Go Go.RowKit Go.Cu

theorem cell_far2 {w : World} {b : Nat} {a : Addr} {x y v : Value} (h : w.cell? a = some v) (hne : a.block ≠ b) : ((w.setCell ⟨b, 0, none⟩ x).setCell ⟨b, 1, none⟩ y).cell? a = some v := by
  refine (World.cell?_of_block (w := w) ?_).trans h
  rw [Below.heap_setCell _ _ _ _ hne, Below.heap_setCell _ _ _ _ hne]
theorem cell_new {w : World} {o : Obj} {a : Addr} {v : Value} (h : w.cell? a = some v) : (w.alloc o).cell? a = some v :=
  (((Below.refl w.heap.size w).alloc (Nat.le_refl _) o).cell (World.block_lt_of_cell? w a h)).trans h
theorem cell_newset {w : World} {o : Obj} {a : Addr} {v x y : Value} (h : w.cell? a = some v) : (((w.alloc o).setCell ⟨w.heap.size, 0, none⟩ x).setCell ⟨w.heap.size, 1, none⟩ y).cell? a = some v :=
  ((below_set2 ((Below.refl w.heap.size w).alloc (Nat.le_refl _) o) (Nat.le_refl _) x y).cell (World.block_lt_of_cell? w a h)).trans h
theorem row_set2 {w : World} {F : Nat → Prop} {e : TypeId} {sz n : Nat} {v : Value} {xs : List Value} (hr : Row w F e sz v n xs) {p : Nat} {x y : Value} {t : TypeId} (h : w.heap[p]? = some (.cells #[x, y] t (0, 0))) (hne : t ≠ e) (a b : Value) :
    Row ((w.setCell ⟨p, 0, none⟩ a).setCell ⟨p, 1, none⟩ b) F e sz v n xs :=
  (hr.farE (p := ⟨p, 0, none⟩) h hne a).farE (p := ⟨p, 1, none⟩) (heap_setCell_same _ p 0 _ t a h) hne b
/-- a box of two cells, with its frozen marks -/
theorem bx2 {w : World} {p : Nat} {x y : Value} {t : TypeId} (h : w.heap[p]? = some (.cells #[x, y] t (0, 0))) : w.cell? ⟨p, 0, none⟩ = some x ∧ w.cell? ⟨p, 1, none⟩ = some y ∧ w.frozen? ⟨p, 0, none⟩ = false ∧ w.frozen? ⟨p, 1, none⟩ = false :=
  ⟨by rw [cell_of_row w p 0 _ _ _ h]; rfl, by rw [cell_of_row w p 1 _ _ _ h]; rfl, frozen_of_row w p 0 _ _ h, frozen_of_row w p 1 _ _ h⟩

/-- the three boxes of the document's Bind -/
structure B3 (w : World) (q g : Nat) (A : Option Addr) (n c : Nat) (p : Pl) (rv rs : Value) : Prop where
  b0 : w.heap[q]? = some (.cells #[.int .i64 g, .slice A n c] 43 (0, 0))
  b1 : w.heap[q + 1]? = some (.cells #[.int .i64 p.conn, .int .i64 p.life, .int .u32 p.id] 28 (0, 0))
  b2 : w.heap[q + 2]? = some (.cells #[rv, rs] 43 (0, 0))
theorem B3.past {w w' : World} {q g : Nat} {A : Option Addr} {n c : Nat} {p : Pl} {rv rs : Value} (h : B3 w q g A n c p rv rs) (hb : Below w.heap.size w w') : B3 w' q g A n c p rv rs := ⟨below_at hb h.b0, below_at hb h.b1, below_at hb h.b2⟩
theorem boxesB (w : World) (g : Nat) (A : Option Addr) (n c : Nat) (p : Pl) : ∃ w1 q, ((w.alloc (.cells #[.int .i64 g, .slice A n c] 43)).alloc (.cells #[.int .i64 p.conn, .int .i64 p.life, .int .u32 p.id] 28)).alloc (.cells #[.int .i64 0, .slice none 0 0] 43) = w1 ∧ w.heap.size = q ∧ Below w.heap.size w w1 ∧ w1.heap.size = q + 3 ∧ B3 w1 q g A n c p (.int .i64 0) (.slice none 0 0) := by
  refine ⟨_, _, rfl, rfl, (((Below.refl _ _).alloc (Nat.le_refl _) _).alloc (by simp) _).alloc (by simp; omega) _, by simp, ?_, ?_, ?_⟩
  · rw [Below.heap_alloc _ _ _ (by simp; omega), Below.heap_alloc _ _ _ (by simp)]
    exact heap_alloc_new w _
  · rw [Below.heap_alloc _ _ _ (by simp)]
    have h := heap_alloc_new (w.alloc (.cells #[.int .i64 g, .slice A n c] 43)) (.cells #[.int .i64 p.conn, .int .i64 p.life, .int .u32 p.id] 28)
    simp only [World.size_alloc] at h
    exact h
  · have h := heap_alloc_new ((w.alloc (.cells #[.int .i64 g, .slice A n c] 43)).alloc (.cells #[.int .i64 p.conn, .int .i64 p.life, .int .u32 p.id] 28)) (.cells #[.int .i64 0, .slice none 0 0] 43)
    simp only [World.size_alloc] at h
    exact h

set_option maxRecDepth 10000 in
set_option maxHeartbeats 2000000 in
theorem refbind_twice (w : World) (g : Nat) (A : Option Addr) (n c : Nat) (L : List HE) (hr : Reads w 4 (.slice A n c) n (prs L)) (hn : n ≤ 1048576) (p : Pl) (x : Int) (hof : ofR L p = (x, true)) :
    Calls Tryd.prog 23 #[cvv g A n c, p.v] w fun r w' => r = .returned (.tuple #[cvv g A n c, .int .i64 0, .int .i64 8]) ∧ Below w.heap.size w w' := by
  obtain ⟨w1, q, hw1, hq, hal, hs1, hsb⟩ := boxesB w g A n c p
  have HAl := hide hal
  have HSb := hide hsb
  have HR := hide (reads_past hr hal)
  have ho := of_r w1 g A n c L HR.out hn p
  rw [hof] at ho
  have HO := hide ho
  obtain ⟨c0, c1, _, _⟩ := bx2 hsb.b0
  obtain ⟨o0, o1, o2, _⟩ := box3 hsb.b1
  obtain ⟨r0, r1, f0, f1⟩ := bx2 hsb.b2
  clear hal hsb ho hr hof
  unfold Pl.v
  go_enter Tryd.func23, Tryd.ntmps23
  go_wp2_with fail
  refine HO.out.mono ?_
  rintro r w2 ⟨rfl, hb2⟩
  have HB2 := hide (HAl.out.trans (hb2.mono HAl.out.size))
  have HS2 := hide (HSb.out.past hb2)
  have hlq : w.heap.size ≤ q + 2 := by omega
  clear hb2 c0 c1 o0 o1 o2 r0 r1 f0 f1
  obtain ⟨c0, c1, _, _⟩ := bx2 HS2.out.b0
  obtain ⟨r0, r1, f0, f1⟩ := bx2 HS2.out.b2
  go_wp2
  have hb := box2_set HS2.out.b2 (.int .i64 g) (.slice A n c)
  obtain ⟨m0, m1⟩ := box2 hb
  refine bodyPost_ret (by simp [results, Tryd.results23, go_sem, m0, m1]; rfl) rfl ?_
  exact ⟨rfl, below_set2 HB2.out hlq _ _⟩

set_option maxRecDepth 10000 in
set_option maxHeartbeats 4000000 in
theorem refbind_ok (w : World) (g : Nat) (A : Option Addr) (n c : Nat) (L : List HE) (hr : Row w (fun _ => True) 70 4 (.slice A n c) n (prs L)) (hn : n ≤ 1048576) (p : Pl) (x : Int) (hof : ofR L p = (x, false)) (hg : g < 2147483648) (hL : ∀ e ∈ L, e.h ≠ 0) :
    Calls Tryd.prog 23 #[cvv g A n c, p.v] w fun r w' => ∃ B cc, r = .returned (.tuple #[cvv (g + 1) B (n + 1) cc, .int .i64 (g + 1 : Nat), .int .i64 0]) ∧ Row w' (fun _ => True) 70 4 (.slice B (n + 1) cc) (n + 1) (prs (L ++ [⟨(g + 1 : Nat), p⟩])) ∧ Below w.heap.size w w' := by
  have hln := prs_len hr.reads
  obtain ⟨i0, hi0, hz0, hz1, hz2⟩ := info_parts info_pr
  obtain ⟨w1, q, hw1, hq, hal, hs1, hsb⟩ := boxesB w g A n c p
  have HAl := hide hal
  have HSb := hide hsb
  have HR := hide (hr.kept (Mod.ofBelow hal (fun _ => False)) (fun _ _ _ h => h))
  have ho := of_r w1 g A n c L HR.out.reads hn p
  rw [hof] at ho
  have HO := hide ho
  have hw0 := wo_all hL
  have HW := hide hw0
  have HLn := hide hln
  have t1 : decide ((2147483648 : Int) ≤ (g : Int)) = false := decide_eq_false (by omega)
  have hcast : ((g + 1 : Nat) : Int) = (g : Int) + 1 := rfl
  obtain ⟨c0, c1, _, _⟩ := bx2 hsb.b0
  obtain ⟨o0, o1, o2, _⟩ := box3 hsb.b1
  obtain ⟨r0, r1, f0, f1⟩ := bx2 hsb.b2
  clear hal hsb ho hr hof hL hw0 hln
  unfold Pl.v
  go_enter Tryd.func23, Tryd.ntmps23
  go_wp2_with fail
  refine HO.out.mono ?_
  rintro r w2 ⟨rfl, hb2⟩
  have HB2 := hide (HAl.out.trans (hb2.mono HAl.out.size))
  have HS2 := hide (HSb.out.past hb2)
  have HR2 := hide (HR.out.kept (Mod.ofBelow hb2 (fun _ => False)) (fun _ _ _ h => h))
  have hs2 := hb2.size
  have hlq : w.heap.size ≤ q + 2 := by omega
  clear hb2 c0 c1 o0 o1 o2 r0 r1 f0 f1
  obtain ⟨c0, c1, k0, k1⟩ := bx2 HS2.out.b0
  go_upto_region 7 with fail
  have hn01 : q + 1 ≠ q := by omega
  have hn02 : q + 2 ≠ q := by omega
  obtain ⟨w3, hw3⟩ : ∃ w3, w2.setCell ⟨q, 0, none⟩ (.int .i64 ((g : Int) + 1)) = w3 := ⟨_, rfl⟩
  have g0 : w3.heap[q]? = some (.cells #[.int .i64 ((g : Int) + 1), .slice A n c] 43 (0, 0)) := by rw [← hw3]; exact heap_setCell_same _ q 0 _ _ _ HS2.out.b0
  have g1 : w3.heap[q + 1]? = some (.cells #[.int .i64 p.conn, .int .i64 p.life, .int .u32 p.id] 28 (0, 0)) := by rw [← hw3, Below.heap_setCell _ _ _ _ hn01]; exact HS2.out.b1
  have g2 : w3.heap[q + 2]? = some (.cells #[.int .i64 0, .slice none 0 0] 43 (0, 0)) := by rw [← hw3, Below.heap_setCell _ _ _ _ hn02]; exact HS2.out.b2
  have gr : Row w3 (fun _ => True) 70 4 (.slice A n c) n (prs L) := by rw [← hw3]; exact HR2.out.farE (p := ⟨q, 0, none⟩) HS2.out.b0 (by decide) _
  have gb : Below w.heap.size w w3 := by rw [← hw3]; exact HB2.out.setCell (p := ⟨q, 0, none⟩) (by show w.heap.size ≤ q; omega) _
  rw [hw3]
  have G0 := hide g0
  have G1 := hide g1
  have G2 := hide g2
  have GR := hide gr
  have GB := hide gb
  clear c0 c1 k0 k1 hw3 gr gb g1 g2
  obtain ⟨c0, c1, _, _⟩ := bx2 g0
  clear g0
  go_wp2_with fail
  refine (without_r w3 A n c L GR.out.reads hn 0).mono ?_
  rintro r w4 ⟨B, m, cc, rfl, hm, hrow4, hb4⟩
  rw [HW.out] at hm hrow4
  rw [HLn.out] at hm
  subst hm
  have hs4 := hb4.size
  have g0 := below_at hb4 G0.out
  have G1 := hide (below_at hb4 G1.out)
  have G2 := hide (below_at hb4 G2.out)
  have hs3 := GB.out.size
  have GB := hide (GB.out.trans (hb4.mono GB.out.size))
  have GR := hide (hrow4.mono (G := New w) (fun k hk _ => Nat.le_trans hs3 hk))
  have hq4 := (Array.getElem?_eq_some_iff.1 g0).1
  have hal4 : Below w4.heap.size w4 (w4.alloc (.cells #[.int .i64 ((g : Int) + 1), .int .i64 p.conn, .int .i64 p.life, .int .u32 p.id] 70)) := (Below.refl _ _).alloc (Nat.le_refl _) _
  have HAl4 := hide hal4
  have GRa := hide (GR.out.alloc (.cells #[.int .i64 ((g : Int) + 1), .int .i64 p.conn, .int .i64 p.life, .int .u32 p.id] 70)).narrow
  have HOne : Hid (Reads (w4.alloc (.cells #[.int .i64 ((g : Int) + 1), .int .i64 p.conn, .int .i64 p.life, .int .u32 p.id] 70)) 4 (.slice (some ⟨w4.heap.size, 0, none⟩) 1 1) 1 (prs [⟨(g + 1 : Nat), p⟩])) := hide (reads_new w4 (prs [⟨(g + 1 : Nat), p⟩]) 70 1 1 4 rfl (by unfold maxLen; omega))
  clear hal4 c0 c1 hrow4 hb4
  have G0 := hide g0
  obtain ⟨c0, c1, k0, k1⟩ := bx2 g0
  obtain ⟨o0, o1, o2, _⟩ := box3 G1.out
  clear g0
  go_upto_region 9 with (first
    | (at_builtin; refine wpList_append_row rfl _ _ 41 rfl 70 i0 (.agg #[.int .i64 0, .int .i64 0, .int .i64 0, .int .u32 0]) 4 32 Tryd.underlying41 hi0 hz0 hz1 hz2 rfl (by decide) rfl GRa.out rfl HOne.out (prs_one _) (by unfold maxLen; omega) (by omega) ?_
       intro B5 c5 w5 hr5 hm5
       have e0 := below_at HAl4.out G0.out
       have e2 := below_at HAl4.out G2.out
       have g0 := hm5.heap e0 (fun hk => not_ofE e0 (by decide) hk.2)
       have g2 := hm5.heap e2 (fun hk => not_ofE e2 (by decide) hk.2)
       have GBa := GB.out.trans (HAl4.out.mono GB.out.size)
       have GB5 := hide (GBa.trans (hm5.below GBa.size (fun k hk => hk.1)))
       have HR5 := hide (hr5.mono (G := fun _ => True) (fun _ _ _ => trivial))
       have G05 := hide g0
       have G25 := hide g2
       clear c0 c1 k0 k1 o0 o1 o2 hr5 hm5 e0 e2 g2
       obtain ⟨c0, c1, k0, k1⟩ := bx2 g0
       clear g0 GBa)
    | fail)
  obtain ⟨w6, hw6⟩ : ∃ w6, w5.setCell ⟨q, 1, none⟩ (.slice B5 (m + 1) c5) = w6 := ⟨_, rfl⟩
  have g0 : w6.heap[q]? = some (.cells #[.int .i64 ((g : Int) + 1), .slice B5 (m + 1) c5] 43 (0, 0)) := by rw [← hw6]; exact heap_setCell_same _ q 1 _ _ _ G05.out
  have g2 : w6.heap[q + 2]? = some (.cells #[.int .i64 0, .slice none 0 0] 43 (0, 0)) := by rw [← hw6, Below.heap_setCell _ _ _ _ hn02]; exact G25.out
  have gr : Row w6 (fun _ => True) 70 4 (.slice B5 (m + 1) c5) (m + 1) (prs L ++ prs [⟨(g + 1 : Nat), p⟩]) := by rw [← hw6]; exact HR5.out.farE (p := ⟨q, 1, none⟩) G05.out (by decide) _
  have gb : Below w.heap.size w w6 := by rw [← hw6]; exact GB5.out.setCell (p := ⟨q, 1, none⟩) (by show w.heap.size ≤ q; omega) _
  rw [hw6]
  have G2 := hide g2
  have GR := hide gr
  have GB := hide gb
  clear c0 c1 k0 k1 hw6 gr gb
  obtain ⟨c0, c1, _, _⟩ := bx2 g0
  obtain ⟨r0, r1, f0, f1⟩ := bx2 g2
  have hn1 : q ≠ q + 2 := by omega
  clear g0 g2
  have hSd : w6.drew.cell? ⟨q, 0, none⟩ = some (.int .i64 ((g : Int) + 1)) ∧ w6.drew.cell? ⟨q, 1, none⟩ = some (.slice B5 (m + 1) c5) := ⟨c0, c1⟩
  have hSt := And.intro (cell_far2 (x := .int .i64 ((g : Int) + 1)) (y := .slice B5 (m + 1) c5) c0 hn1) (cell_far2 (x := .int .i64 ((g : Int) + 1)) (y := .slice B5 (m + 1) c5) c1 hn1)
  go_region_held3 (fun w' => w'.cell? ⟨q, 0, none⟩ = some (.int .i64 ((g : Int) + 1)) ∧ w'.cell? ⟨q, 1, none⟩ = some (.slice B5 (m + 1) c5)) (first | assumption | with_reducible exact ⟨c0, c1⟩ | with_reducible exact hSt) (fail)
  go_wp2
  have hb := box2_set G2.out (.int .i64 ((g : Int) + 1)) (.slice B5 (m + 1) c5)
  obtain ⟨m0, m1⟩ := box2 hb
  refine bodyPost_ret (by simp [results, Tryd.results23, go_sem, m0, m1]; rfl) rfl ?_
  refine ⟨B5, c5, rfl, ?_, (below_set2 GB.out hlq _ _).drew⟩
  rw [← prs_app]
  exact (row_set2 GR.out G2.out (by decide) _ _).drew

/-- the three boxes of the document's Drop -/
theorem boxesD (w : World) (g : Nat) (A : Option Addr) (n c : Nat) : ∃ w1 q, (w.alloc (.cells #[.int .i64 g, .slice A n c] 43)).alloc (.cells #[.int .i64 0, .slice none 0 0] 43) = w1 ∧ w.heap.size = q ∧ Below w.heap.size w w1 ∧ w1.heap.size = q + 2 ∧ w1.heap[q]? = some (.cells #[.int .i64 g, .slice A n c] 43 (0, 0)) ∧ w1.heap[q + 1]? = some (.cells #[.int .i64 0, .slice none 0 0] 43 (0, 0)) := by
  refine ⟨_, _, rfl, rfl, ((Below.refl _ _).alloc (Nat.le_refl _) _).alloc (by simp) _, by simp, ?_, ?_⟩
  · rw [Below.heap_alloc _ _ _ (by simp)]
    exact heap_alloc_new w _
  · have h := heap_alloc_new (w.alloc (.cells #[.int .i64 g, .slice A n c] 43)) (.cells #[.int .i64 0, .slice none 0 0] 43)
    simp only [World.size_alloc] at h
    exact h

set_option maxRecDepth 10000 in
set_option maxHeartbeats 2000000 in
theorem refdrop_no (w : World) (g : Nat) (A : Option Addr) (n c : Nat) (L : List HE) (hr : Reads w 4 (.slice A n c) n (prs L)) (hn : n ≤ 1048576) (x : Int) (p : Pl) (hf : findR L x = (p, false)) :
    Calls Tryd.prog 24 #[cvv g A n c, .int .i64 x] w fun r w' => r = .returned (.tuple #[cvv g A n c, .bool false]) ∧ Below w.heap.size w w' := by
  obtain ⟨w1, q, hw1, hq, hal, hs1, h0, h1⟩ := boxesD w g A n c
  have HAl := hide hal
  have H0 := hide h0
  have H1 := hide h1
  have ho := find_r w1 g A n c L (reads_past hr hal) hn x
  rw [hf] at ho
  simp only [Pl.v] at ho
  have HO := hide ho
  obtain ⟨c0, c1, _, _⟩ := bx2 h0
  obtain ⟨r0, r1, f0, f1⟩ := bx2 h1
  clear hal h0 h1 ho hr hf
  go_enter Tryd.func24, Tryd.ntmps24
  go_wp2_with fail
  refine HO.out.mono ?_
  rintro r w2 ⟨rfl, hb2⟩
  have hal2 : Below w2.heap.size w2 (w2.alloc (.cells #[.int .i64 p.conn, .int .i64 p.life, .int .u32 p.id] 28)) := (Below.refl _ _).alloc (Nat.le_refl _) _
  have HB := hide ((HAl.out.trans (hb2.mono HAl.out.size)).trans (hal2.mono (Nat.le_trans HAl.out.size hb2.size)))
  have H0 := hide (below_at hal2 (below_at hb2 H0.out))
  have H1 := hide (below_at hal2 (below_at hb2 H1.out))
  have hlq : w.heap.size ≤ q + 1 := by omega
  obtain ⟨w3, hw3⟩ : ∃ w3, w2.alloc (.cells #[.int .i64 p.conn, .int .i64 p.life, .int .u32 p.id] 28) = w3 := ⟨_, rfl⟩
  rw [hw3] at HB H0 H1
  clear hb2 c0 c1 r0 r1 f0 f1 hal2
  go_upto_region 2 with fail
  obtain ⟨c0, c1, _, _⟩ := bx2 H0.out
  obtain ⟨r0, r1, f0, f1⟩ := bx2 H1.out
  clear hw3
  go_wp2
  have hb := box2_set H1.out (.int .i64 g) (.slice A n c)
  obtain ⟨m0, m1⟩ := box2 hb
  refine bodyPost_ret (by simp [results, Tryd.results24, go_sem, m0, m1]; rfl) rfl ?_
  exact ⟨rfl, below_set2 HB.out hlq _ _⟩

set_option maxRecDepth 10000 in
set_option maxHeartbeats 2000000 in
theorem refdrop_yes (w : World) (g : Nat) (A : Option Addr) (n c : Nat) (L : List HE) (hr : Row w (fun _ => True) 70 4 (.slice A n c) n (prs L)) (hn : n ≤ 1048576) (x : Int) (p : Pl) (hf : findR L x = (p, true)) :
    Calls Tryd.prog 24 #[cvv g A n c, .int .i64 x] w fun r w' => ∃ B cc, r = .returned (.tuple #[cvv g B (wo L x).length cc, .bool true]) ∧ Row w' (fun _ => True) 70 4 (.slice B (wo L x).length cc) (wo L x).length (prs (wo L x)) ∧ Below w.heap.size w w' := by
  obtain ⟨w1, q, hw1, hq, hal, hs1, h0, h1⟩ := boxesD w g A n c
  have HAl := hide hal
  have H0 := hide h0
  have H1 := hide h1
  have ho := find_r w1 g A n c L (reads_past hr.reads hal) hn x
  rw [hf] at ho
  simp only [Pl.v] at ho
  have HO := hide ho
  have HR := hide (hr.kept (Mod.ofBelow hal (fun _ => False)) (fun _ _ _ h => h))
  obtain ⟨c0, c1, _, _⟩ := bx2 h0
  obtain ⟨r0, r1, f0, f1⟩ := bx2 h1
  clear hal h0 h1 ho hr hf
  go_enter Tryd.func24, Tryd.ntmps24
  go_wp2_with fail
  refine HO.out.mono ?_
  rintro r w2 ⟨rfl, hb2⟩
  have hal2 : Below w2.heap.size w2 (w2.alloc (.cells #[.int .i64 p.conn, .int .i64 p.life, .int .u32 p.id] 28)) := (Below.refl _ _).alloc (Nat.le_refl _) _
  have HB := hide ((HAl.out.trans (hb2.mono HAl.out.size)).trans (hal2.mono (Nat.le_trans HAl.out.size hb2.size)))
  have H0 := hide (below_at hal2 (below_at hb2 H0.out))
  have H1 := hide (below_at hal2 (below_at hb2 H1.out))
  have HR := hide ((HR.out.kept (Mod.ofBelow hb2 (fun _ => False)) (fun _ _ _ h => h)).kept (Mod.ofBelow hal2 (fun _ => False)) (fun _ _ _ h => h))
  have hlq : w.heap.size ≤ q + 1 := by omega
  obtain ⟨w3, hw3⟩ : ∃ w3, w2.alloc (.cells #[.int .i64 p.conn, .int .i64 p.life, .int .u32 p.id] 28) = w3 := ⟨_, rfl⟩
  rw [hw3] at HB H0 H1 HR
  clear hb2 c0 c1 r0 r1 f0 f1 hal2
  go_upto_region 2 with fail
  obtain ⟨c0, c1, _, _⟩ := bx2 H0.out
  clear hw3
  go_wp2_with fail
  refine (without_r w3 A n c L HR.out.reads hn x).mono ?_
  rintro r w4 ⟨B, m, cc, rfl, hm, hrow4, hb4⟩
  subst hm
  have hs3 := HB.out.size
  have g0 := below_at hb4 H0.out
  have g1 := below_at hb4 H1.out
  have GB := HB.out.trans (hb4.mono HB.out.size)
  have hn1 : q + 1 ≠ q := by omega
  have H4 := hide g0
  have G0 : Hid ((w4.setCell ⟨q, 1, none⟩ (.slice B (wo L x).length cc)).heap[q]? = some (.cells #[.int .i64 g, .slice B (wo L x).length cc] 43 (0, 0))) := hide (heap_setCell_same _ q 1 _ _ _ g0)
  have G1 : Hid ((w4.setCell ⟨q, 1, none⟩ (.slice B (wo L x).length cc)).heap[q + 1]? = some (.cells #[.int .i64 0, .slice none 0 0] 43 (0, 0))) := hide ((Below.heap_setCell _ _ _ _ hn1).trans g1)
  have GR := hide (hrow4.farE (p := ⟨q, 1, none⟩) g0 (by decide) (.slice B (wo L x).length cc))
  have GB := hide (GB.setCell (p := ⟨q, 1, none⟩) (by show w.heap.size ≤ q; omega) (.slice B (wo L x).length cc))
  obtain ⟨k0, k1, f0, f1⟩ := bx2 g0
  clear c0 c1 hrow4 hb4 g0 g1
  go_upto_region 4 with fail
  obtain ⟨w5, hw5⟩ : ∃ w5, w4.setCell ⟨q, 1, none⟩ (.slice B (wo L x).length cc) = w5 := ⟨_, rfl⟩
  rw [hw5] at G0 G1 GR GB
  rw [hw5]
  clear k0 k1 f0 f1 hw5
  obtain ⟨c0, c1, _, _⟩ := bx2 G0.out
  obtain ⟨r0, r1, f0, f1⟩ := bx2 G1.out
  go_wp2
  have hb := box2_set G1.out (.int .i64 g) (.slice B (wo L x).length cc)
  obtain ⟨m0, m1⟩ := box2 hb
  refine bodyPost_ret (by simp [results, Tryd.results24, go_sem, m0, m1]; rfl) rfl ?_
  exact ⟨B, cc, rfl, row_set2 (GR.out.mono (fun _ _ _ => trivial)) G1.out (by decide) _ _, below_set2 GB.out hlq _ _⟩
end Go.Proofs.YtjkahckglhpjeaaDoor
