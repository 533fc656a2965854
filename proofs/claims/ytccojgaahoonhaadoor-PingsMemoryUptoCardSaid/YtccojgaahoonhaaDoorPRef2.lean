import Derived.Test.YtccojgaahoonhaaDoorPRef1
/- The document's pings: Ask, Asked, Replied. -/
namespace Go.Proofs.YtccojgaahoonhaaDoor
open Go Go.RowKit Go.Cu Go.Proofs.YtccojgaahoonhaaDoor.errs

/-- a document's function at its start: the argument's box, the result's box -/
structure Boxed (w w1 : World) (p : Nat) (a b c d e : Value) : Prop where
  b0 : w1.heap[p]? = some (.cells #[a, b, c, d, e] 40 (0, 0))
  b1 : w1.heap[p + 1]? = some (.cells #[.int .i64 0, .int .i64 0, .slice none 0 0, .slice none 0 0, .slice none 0 0] 40 (0, 0))
  bel : Below w.heap.size w w1
  le : w.heap.size ≤ p
theorem boxed (w : World) (a b c d e : Value) : Boxed w ((w.alloc (.cells #[a, b, c, d, e] 40)).alloc (.cells #[.int .i64 0, .int .i64 0, .slice none 0 0, .slice none 0 0, .slice none 0 0] 40)) w.heap.size a b c d e := by
  refine ⟨?_, ?_, below_a2 _ _ _, Nat.le_refl _⟩
  · rw [Below.heap_alloc _ _ _ (by simp)]; exact heap_alloc_new w _
  · exact (by rw [World.size_alloc] : w.heap.size + 1 = (w.alloc (.cells #[a, b, c, d, e] 40)).heap.size) ▸ heap_alloc_new _ _
theorem Boxed.kept {w w1 w2 : World} {p : Nat} {a b c d e : Value} (h : Boxed w w1 p a b c d e) (hb : Below w1.heap.size w1 w2) : Boxed w w2 p a b c d e :=
  ⟨(hb.block _ (Array.getElem?_eq_some_iff.1 h.b0).1).trans h.b0, (hb.block _ (Array.getElem?_eq_some_iff.1 h.b1).1).trans h.b1, h.bel.trans (hb.mono h.bel.size), h.le⟩
/-- the result's box is written -/
theorem Boxed.out {w w1 : World} {p : Nat} {a b c d e : Value} (h : Boxed w w1 p a b c d e) (a' b' c' d' e' : Value) :
    (((((w1.setCell ⟨p + 1, 0, none⟩ a').setCell ⟨p + 1, 1, none⟩ b').setCell ⟨p + 1, 2, none⟩ c').setCell ⟨p + 1, 3, none⟩ d').setCell ⟨p + 1, 4, none⟩ e').heap[p + 1]? = some (.cells #[a', b', c', d', e'] 40 (0, 0)) :=
  box5_set h.b1 a' b' c' d' e'
theorem Boxed.set {w w1 : World} {p : Nat} {a b c d e : Value} (h : Boxed w w1 p a b c d e) (k : Nat) (v : Value) {cs : Array Value} (hcs : (#[a, b, c, d, e] : Array Value).setIfInBounds k v = cs) :
    (w1.setCell ⟨p, k, none⟩ v).heap[p]? = some (.cells cs 40 (0, 0)) ∧ (w1.setCell ⟨p, k, none⟩ v).heap[p + 1]? = some (.cells #[.int .i64 0, .int .i64 0, .slice none 0 0, .slice none 0 0, .slice none 0 0] 40 (0, 0)) ∧ Below w.heap.size w (w1.setCell ⟨p, k, none⟩ v) := by
  refine ⟨?_, ?_, h.bel.setCell (p := ⟨p, k, none⟩) h.le _⟩
  · rw [← hcs]; exact heap_setCell_same _ p k _ 40 v h.b0
  · rw [Below.heap_setCell _ _ _ _ (show p + 1 ≠ p by omega)]; exact h.b1
section
variable (w : World) (most last : Int) (A1 : Option Addr) (n1 c1 : Nat) (A2 : Option Addr) (n2 c2 : Nat) (A3 : Option Addr) (n3 c3 : Nat)
set_option maxRecDepth 10000 in
theorem refask_full (hm : most ≠ 0) (hl : most ≤ n1) : Calls Tryd.prog 27 #[pv most last A1 n1 c1 A2 n2 c2 A3 n3 c3] w fun e w' => e = .returned (.tuple #[pv most last A1 n1 c1 A2 n2 c2 A3 n3 c3, .int .u32 0, .int .i64 31]) ∧ Below w.heap.size w w' := by
  have hB := boxed w (.int .i64 most) (.int .i64 last) (.slice A1 n1 c1) (.slice A2 n2 c2) (.slice A3 n3 c3)
  obtain ⟨w1, hw1⟩ : ∃ w1, (w.alloc (.cells #[.int .i64 most, .int .i64 last, .slice A1 n1 c1, .slice A2 n2 c2, .slice A3 n3 c3] 40)).alloc (.cells #[.int .i64 0, .int .i64 0, .slice none 0 0, .slice none 0 0, .slice none 0 0] 40) = w1 := ⟨_, rfl⟩
  obtain ⟨p, hp⟩ : ∃ p, w.heap.size = p := ⟨_, rfl⟩
  rw [hw1, hp] at hB
  obtain ⟨⟨k0, k1, k2, k3, k4⟩, _⟩ := box5 hB.b0
  obtain ⟨_, f0, f1, f2, f3, f4⟩ := box5 hB.b1
  have e0 : (most == 0) = false := by simpa using hm
  have e1 : decide (most ≤ (n1 : Int)) = true := by simpa using hl
  have HB := hide hB
  clear hB hm hl
  go_enter Tryd.func27, Tryd.ntmps27
  go_wp2
  obtain ⟨⟨m0, m1, m2, m3, m4⟩, _⟩ := box5 (HB.out.out (.int .i64 most) (.int .i64 last) (.slice A1 n1 c1) (.slice A2 n2 c2) (.slice A3 n3 c3))
  refine bodyPost_ret (by simp [results, Tryd.results27, go_sem, m0, m1, m2, m3, m4]; rfl) rfl ?_
  exact ⟨rfl, below_set5 HB.out.bel (by have := HB.out.le; omega) _ _ _ _ _⟩
set_option maxRecDepth 10000 in
theorem refask_nil : Calls Tryd.prog 27 #[pv 0 last A1 n1 c1 A2 n2 c2 A3 n3 c3] w fun e w' => e = .returned (.tuple #[pv 0 last A1 n1 c1 A2 n2 c2 A3 n3 c3, .int .u32 0, .int .i64 1]) ∧ Below w.heap.size w w' := by
  have hB := boxed w (.int .i64 0) (.int .i64 last) (.slice A1 n1 c1) (.slice A2 n2 c2) (.slice A3 n3 c3)
  obtain ⟨w1, hw1⟩ : ∃ w1, (w.alloc (.cells #[.int .i64 0, .int .i64 last, .slice A1 n1 c1, .slice A2 n2 c2, .slice A3 n3 c3] 40)).alloc (.cells #[.int .i64 0, .int .i64 0, .slice none 0 0, .slice none 0 0, .slice none 0 0] 40) = w1 := ⟨_, rfl⟩
  obtain ⟨p, hp⟩ : ∃ p, w.heap.size = p := ⟨_, rfl⟩
  rw [hw1, hp] at hB
  obtain ⟨⟨k0, k1, k2, k3, k4⟩, _⟩ := box5 hB.b0
  obtain ⟨_, f0, f1, f2, f3, f4⟩ := box5 hB.b1
  have HB := hide hB
  clear hB
  go_enter Tryd.func27, Tryd.ntmps27
  go_wp2
  obtain ⟨⟨m0, m1, m2, m3, m4⟩, _⟩ := box5 (HB.out.out (.int .i64 0) (.int .i64 last) (.slice A1 n1 c1) (.slice A2 n2 c2) (.slice A3 n3 c3))
  refine bodyPost_ret (by simp [results, Tryd.results27, go_sem, m0, m1, m2, m3, m4]; rfl) rfl ?_
  exact ⟨rfl, below_set5 HB.out.bel (by have := HB.out.le; omega) _ _ _ _ _⟩
set_option maxRecDepth 10000 in
set_option maxHeartbeats 1000000 in
theorem refask_ok (L : List Int) (hr : Reads w 1 (.slice A1 n1 c1) n1 (us L)) (n : Nat) (hn : n < 2097152) (hm : most ≠ 0) (hl : ¬ most ≤ n1) (hn1 : n1 ≤ 2097152) : Calls Tryd.prog 27 #[pv most n A1 n1 c1 A2 n2 c2 A3 n3 c3] w fun e w' => ∃ A' c', e = .returned (.tuple #[pv most ((n + 1 : Nat) : Int) A' (n1 + 1) c' A2 n2 c2 A3 n3 c3, .int .u32 ((n + 1 : Nat) : Int), .int .i64 0]) ∧ Row w' (New w) 30 1 (.slice A' (n1 + 1) c') (n1 + 1) (us (L ++ [((n + 1 : Nat) : Int)])) ∧ Below w.heap.size w w' := by
  have hB := boxed w (.int .i64 most) (.int .i64 n) (.slice A1 n1 c1) (.slice A2 n2 c2) (.slice A3 n3 c3)
  obtain ⟨w1, hw1⟩ : ∃ w1, (w.alloc (.cells #[.int .i64 most, .int .i64 n, .slice A1 n1 c1, .slice A2 n2 c2, .slice A3 n3 c3] 40)).alloc (.cells #[.int .i64 0, .int .i64 0, .slice none 0 0, .slice none 0 0, .slice none 0 0] 40) = w1 := ⟨_, rfl⟩
  obtain ⟨p, hp⟩ : ∃ p, w.heap.size = p := ⟨_, rfl⟩
  rw [hw1, hp] at hB
  obtain ⟨⟨k0, k1, k2, k3, k4⟩, g0, g1, g2, g3, g4⟩ := box5 hB.b0
  obtain ⟨j0, j1, jb⟩ := hB.set 1 (.int .i64 ((n : Int) + 1)) (cs := #[.int .i64 most, .int .i64 ((n : Int) + 1), .slice A1 n1 c1, .slice A2 n2 c2, .slice A3 n3 c3]) rfl
  have HB2 : Hid (Boxed w (w1.setCell ⟨p, 1, none⟩ (.int .i64 ((n : Int) + 1))) p (.int .i64 most) (.int .i64 ((n : Int) + 1)) (.slice A1 n1 c1) (.slice A2 n2 c2) (.slice A3 n3 c3)) := hide ⟨j0, j1, jb, hB.le⟩
  have HR2 := hide (hr.later jb)
  obtain ⟨⟨x0, x1, x2, x3, x4⟩, y0, y1, y2, y3, y4⟩ := box5 j0
  have e0 : (most == 0) = false := by simpa using hm
  have e1 : decide (most ≤ (n1 : Int)) = false := by simpa using hl
  have hu : IntKind.u32.wrap ((n : Int) + 1) = (n : Int) + 1 := by simp [IntKind.wrap, IntKind.signed, IntKind.bits]; omega
  clear hB hm hl hr j0 j1 jb
  go_enter Tryd.func27, Tryd.ntmps27
  go_wp2_with fail
  refine (behind_any _ A1 n1 c1 L HR2.out _ (by omega)).mono ?_
  rintro e w3 ⟨A', c', rfl, hr3, hb3⟩
  have HB3 := hide (HB2.out.kept hb3)
  have HR3 := hide hr3
  have HBb := hide hb3
  clear hb3 hr3 k0 k1 k2 k3 k4 g0 g1 g2 g3 g4 x0 x1 x2 x3 x4 y0 y1 y2 y3 y4 hw1
  obtain ⟨⟨k0, k1, k2, k3, k4⟩, g0, g1, g2, g3, g4⟩ := box5 HB3.out.b0
  obtain ⟨q0, q1, qb⟩ := HB3.out.set 2 (.slice A' (n1 + 1) c') (cs := #[.int .i64 most, .int .i64 ((n : Int) + 1), .slice A' (n1 + 1) c', .slice A2 n2 c2, .slice A3 n3 c3]) rfl
  have HB4 : Hid (Boxed w (w3.setCell ⟨p, 2, none⟩ (.slice A' (n1 + 1) c')) p (.int .i64 most) (.int .i64 ((n : Int) + 1)) (.slice A' (n1 + 1) c') (.slice A2 n2 c2) (.slice A3 n3 c3)) := hide ⟨q0, q1, qb, HB3.out.le⟩
  obtain ⟨⟨x0, x1, x2, x3, x4⟩, y0, y1, y2, y3, y4⟩ := box5 q0
  obtain ⟨_, f0, f1, f2, f3, f4⟩ := box5 q1
  clear q0 q1 qb
  go_wp2_with fail
  go_region
  go_wp2
  obtain ⟨⟨m0, m1, m2, m3, m4⟩, _⟩ := box5 (HB4.out.out (.int .i64 most) (.int .i64 ((n : Int) + 1)) (.slice A' (n1 + 1) c') (.slice A2 n2 c2) (.slice A3 n3 c3))
  refine bodyPost_ret (by simp [results, Tryd.results27, go_sem, m0, m1, m2, m3, m4]; rfl) rfl ?_
  exact ⟨A', c', rfl, (row_set5 (HR3.out.farE HB3.out.b0 (by decide) _) HB4.out.b1 (by decide) _ _ _ _ _).drew.mono (fun k hk _ => by have h : _ ≤ k := hk; have := HB2.out.bel.size; show w.heap.size ≤ k; omega), (below_set5 HB4.out.bel (by have := HB4.out.le; omega) _ _ _ _ _).drew⟩
set_option maxRecDepth 10000 in
theorem refasked_nil (t : Int) : Calls Tryd.prog 29 #[pv 0 last A1 n1 c1 A2 n2 c2 A3 n3 c3, .int .u32 t] w fun e w' => e = .returned (.tuple #[pv 0 last A1 n1 c1 A2 n2 c2 A3 n3 c3, .int .i64 1]) ∧ Below w.heap.size w w' := by
  have hB := boxed w (.int .i64 0) (.int .i64 last) (.slice A1 n1 c1) (.slice A2 n2 c2) (.slice A3 n3 c3)
  obtain ⟨w1, hw1⟩ : ∃ w1, (w.alloc (.cells #[.int .i64 0, .int .i64 last, .slice A1 n1 c1, .slice A2 n2 c2, .slice A3 n3 c3] 40)).alloc (.cells #[.int .i64 0, .int .i64 0, .slice none 0 0, .slice none 0 0, .slice none 0 0] 40) = w1 := ⟨_, rfl⟩
  obtain ⟨p, hp⟩ : ∃ p, w.heap.size = p := ⟨_, rfl⟩
  rw [hw1, hp] at hB
  obtain ⟨⟨k0, k1, k2, k3, k4⟩, _⟩ := box5 hB.b0
  obtain ⟨_, f0, f1, f2, f3, f4⟩ := box5 hB.b1
  have HB := hide hB
  clear hB
  go_enter Tryd.func29, Tryd.ntmps29
  go_wp2
  obtain ⟨⟨m0, m1, m2, m3, m4⟩, _⟩ := box5 (HB.out.out (.int .i64 0) (.int .i64 last) (.slice A1 n1 c1) (.slice A2 n2 c2) (.slice A3 n3 c3))
  refine bodyPost_ret (by simp [results, Tryd.results29, go_sem, m0, m1, m2, m3, m4]; rfl) rfl ?_
  exact ⟨rfl, below_set5 HB.out.bel (by have := HB.out.le; omega) _ _ _ _ _⟩
set_option maxRecDepth 10000 in
theorem refasked_full (hm : most ≠ 0) (hl : most ≤ n3) (t : Int) : Calls Tryd.prog 29 #[pv most last A1 n1 c1 A2 n2 c2 A3 n3 c3, .int .u32 t] w fun e w' => e = .returned (.tuple #[pv most last A1 n1 c1 A2 n2 c2 A3 n3 c3, .int .i64 21]) ∧ Below w.heap.size w w' := by
  have hB := boxed w (.int .i64 most) (.int .i64 last) (.slice A1 n1 c1) (.slice A2 n2 c2) (.slice A3 n3 c3)
  obtain ⟨w1, hw1⟩ : ∃ w1, (w.alloc (.cells #[.int .i64 most, .int .i64 last, .slice A1 n1 c1, .slice A2 n2 c2, .slice A3 n3 c3] 40)).alloc (.cells #[.int .i64 0, .int .i64 0, .slice none 0 0, .slice none 0 0, .slice none 0 0] 40) = w1 := ⟨_, rfl⟩
  obtain ⟨p, hp⟩ : ∃ p, w.heap.size = p := ⟨_, rfl⟩
  rw [hw1, hp] at hB
  obtain ⟨⟨k0, k1, k2, k3, k4⟩, _⟩ := box5 hB.b0
  obtain ⟨_, f0, f1, f2, f3, f4⟩ := box5 hB.b1
  have e0 : (most == 0) = false := by simpa using hm
  have e1 : decide (most ≤ (n3 : Int)) = true := by simpa using hl
  have HB := hide hB
  clear hB hm hl
  go_enter Tryd.func29, Tryd.ntmps29
  go_wp2
  obtain ⟨⟨m0, m1, m2, m3, m4⟩, _⟩ := box5 (HB.out.out (.int .i64 most) (.int .i64 last) (.slice A1 n1 c1) (.slice A2 n2 c2) (.slice A3 n3 c3))
  refine bodyPost_ret (by simp [results, Tryd.results29, go_sem, m0, m1, m2, m3, m4]; rfl) rfl ?_
  exact ⟨rfl, below_set5 HB.out.bel (by have := HB.out.le; omega) _ _ _ _ _⟩
set_option maxRecDepth 10000 in
set_option maxHeartbeats 1000000 in
theorem refasked_ok (L : List Int) (hr : Reads w 1 (.slice A3 n3 c3) n3 (us L)) (t : Int) (hm : most ≠ 0) (hl : ¬ most ≤ n3) (hn1 : n3 ≤ 2097152) : Calls Tryd.prog 29 #[pv most last A1 n1 c1 A2 n2 c2 A3 n3 c3, .int .u32 t] w fun e w' => ∃ A' c', e = .returned (.tuple #[pv most last A1 n1 c1 A2 n2 c2 A' (n3 + 1) c', .int .i64 0]) ∧ Row w' (New w) 30 1 (.slice A' (n3 + 1) c') (n3 + 1) (us (L ++ [t])) ∧ Below w.heap.size w w' := by
  have hB := boxed w (.int .i64 most) (.int .i64 last) (.slice A1 n1 c1) (.slice A2 n2 c2) (.slice A3 n3 c3)
  obtain ⟨w1, hw1⟩ : ∃ w1, (w.alloc (.cells #[.int .i64 most, .int .i64 last, .slice A1 n1 c1, .slice A2 n2 c2, .slice A3 n3 c3] 40)).alloc (.cells #[.int .i64 0, .int .i64 0, .slice none 0 0, .slice none 0 0, .slice none 0 0] 40) = w1 := ⟨_, rfl⟩
  obtain ⟨p, hp⟩ : ∃ p, w.heap.size = p := ⟨_, rfl⟩
  rw [hw1, hp] at hB
  obtain ⟨⟨k0, k1, k2, k3, k4⟩, g0, g1, g2, g3, g4⟩ := box5 hB.b0
  have HB2 := hide hB
  have HR2 := hide (hr.later hB.bel)
  have e0 : (most == 0) = false := by simpa using hm
  have e1 : decide (most ≤ (n3 : Int)) = false := by simpa using hl
  clear hB hm hl hr
  go_enter Tryd.func29, Tryd.ntmps29
  go_wp2_with fail
  refine (behind_any _ A3 n3 c3 L HR2.out _ (by omega)).mono ?_
  rintro e w3 ⟨A', c', rfl, hr3, hb3⟩
  have HB3 := hide (HB2.out.kept hb3)
  have HR3 := hide hr3
  clear hb3 hr3 k0 k1 k2 k3 k4 g0 g1 g2 g3 g4 hw1
  obtain ⟨⟨k0, k1, k2, k3, k4⟩, g0, g1, g2, g3, g4⟩ := box5 HB3.out.b0
  obtain ⟨q0, q1, qb⟩ := HB3.out.set 4 (.slice A' (n3 + 1) c') (cs := #[.int .i64 most, .int .i64 last, .slice A1 n1 c1, .slice A2 n2 c2, .slice A' (n3 + 1) c']) rfl
  have HB4 : Hid (Boxed w (w3.setCell ⟨p, 4, none⟩ (.slice A' (n3 + 1) c')) p (.int .i64 most) (.int .i64 last) (.slice A1 n1 c1) (.slice A2 n2 c2) (.slice A' (n3 + 1) c')) := hide ⟨q0, q1, qb, HB3.out.le⟩
  obtain ⟨⟨x0, x1, x2, x3, x4⟩, y0, y1, y2, y3, y4⟩ := box5 q0
  obtain ⟨_, f0, f1, f2, f3, f4⟩ := box5 q1
  clear q0 q1 qb
  go_wp2
  obtain ⟨⟨m0, m1, m2, m3, m4⟩, _⟩ := box5 (HB4.out.out (.int .i64 most) (.int .i64 last) (.slice A1 n1 c1) (.slice A2 n2 c2) (.slice A' (n3 + 1) c'))
  refine bodyPost_ret (by simp [results, Tryd.results29, go_sem, m0, m1, m2, m3, m4]; rfl) rfl ?_
  exact ⟨A', c', rfl, (row_set5 (HR3.out.farE HB3.out.b0 (by decide) _) HB4.out.b1 (by decide) _ _ _ _ _).mono (fun k hk _ => by have h : _ ≤ k := hk; have := HB2.out.bel.size; show w.heap.size ≤ k; omega), below_set5 HB4.out.bel (by have := HB4.out.le; omega) _ _ _ _ _⟩
set_option maxRecDepth 10000 in
theorem refreplied_none : Calls Tryd.prog 30 #[pv most last A1 n1 c1 A2 n2 c2 A3 0 c3] w fun e w' => e = .returned (.tuple #[pv most last A1 n1 c1 A2 n2 c2 A3 0 c3, .int .u32 0, .bool false]) ∧ Below w.heap.size w w' := by
  have hB := boxed w (.int .i64 most) (.int .i64 last) (.slice A1 n1 c1) (.slice A2 n2 c2) (.slice A3 0 c3)
  obtain ⟨w1, hw1⟩ : ∃ w1, (w.alloc (.cells #[.int .i64 most, .int .i64 last, .slice A1 n1 c1, .slice A2 n2 c2, .slice A3 0 c3] 40)).alloc (.cells #[.int .i64 0, .int .i64 0, .slice none 0 0, .slice none 0 0, .slice none 0 0] 40) = w1 := ⟨_, rfl⟩
  obtain ⟨p, hp⟩ : ∃ p, w.heap.size = p := ⟨_, rfl⟩
  rw [hw1, hp] at hB
  obtain ⟨⟨k0, k1, k2, k3, k4⟩, _⟩ := box5 hB.b0
  obtain ⟨_, f0, f1, f2, f3, f4⟩ := box5 hB.b1
  have HB := hide hB
  clear hB
  go_enter Tryd.func30, Tryd.ntmps30
  go_wp2
  obtain ⟨⟨m0, m1, m2, m3, m4⟩, _⟩ := box5 (HB.out.out (.int .i64 most) (.int .i64 last) (.slice A1 n1 c1) (.slice A2 n2 c2) (.slice A3 0 c3))
  refine bodyPost_ret (by simp [results, Tryd.results30, go_sem, m0, m1, m2, m3, m4]; rfl) rfl ?_
  exact ⟨rfl, below_set5 HB.out.bel (by have := HB.out.le; omega) _ _ _ _ _⟩
set_option maxRecDepth 10000 in
set_option maxHeartbeats 1000000 in
theorem refreplied_some (t : Int) (L : List Int) (hc3 : n3 + 1 ≤ c3) (hn3 : n3 ≤ 2097152) (hr : Reads w 1 (.slice A3 (n3 + 1) c3) (n3 + 1) (us (t :: L))) : Calls Tryd.prog 30 #[pv most last A1 n1 c1 A2 n2 c2 A3 (n3 + 1) c3] w fun e w' => ∃ A' c', e = .returned (.tuple #[pv most last A1 n1 c1 A2 n2 c2 A' n3 c', .int .u32 t, .bool true]) ∧ Row w' (New w) 30 1 (.slice A' n3 c') n3 (us L) ∧ Below w.heap.size w w' := by
  obtain ⟨i0, hi0, hz0, hz1, hz2⟩ := info_parts info_u
  have hB := boxed w (.int .i64 most) (.int .i64 last) (.slice A1 n1 c1) (.slice A2 n2 c2) (.slice A3 (n3 + 1) c3)
  obtain ⟨w1, hw1⟩ : ∃ w1, (w.alloc (.cells #[.int .i64 most, .int .i64 last, .slice A1 n1 c1, .slice A2 n2 c2, .slice A3 (n3 + 1) c3] 40)).alloc (.cells #[.int .i64 0, .int .i64 0, .slice none 0 0, .slice none 0 0, .slice none 0 0] 40) = w1 := ⟨_, rfl⟩
  obtain ⟨p, hp⟩ : ∃ p, w.heap.size = p := ⟨_, rfl⟩
  rw [hw1, hp] at hB
  obtain ⟨⟨k0, k1, k2, k3, k4⟩, g0, g1, g2, g3, g4⟩ := box5 hB.b0
  have HB1 := hide hB
  have hba : Below w1.heap.size w1 (w1.alloc (.cells #[] 30)) := (Below.refl _ _).alloc (Nat.le_refl _) _
  have HB2 := hide (hB.kept hba)
  have hr1 := hr.later hB.bel
  obtain ⟨ad, c', he, hcell⟩ := reads_pos' hr1 (by omega)
  have h0 : w1.cell? ad = some (.int .u32 t) := by simpa [Addr.add] using hcell 0 (.int .u32 t) rfl
  injection he with he _ hcc
  subst he
  subst hcc
  have hr2 : Reads (w1.alloc (.cells #[] 30)) 1 (cutV (some ad) c3 1 (n3 + 1) 1) n3 (us L) := by
    have h := (hr1.later hba).cut hc3 (lo := 1) (hi := n3 + 1) (by omega) (Nat.le_refl _)
    have hl : (us L).length = n3 := by have := hr.1; simp only [us_length, List.length_cons] at this ⊢; omega
    rw [show n3 + 1 - 1 = n3 by omega, Nat.mul_one, Nat.mul_one, show (us (t :: L)).drop 1 = us L from rfl, List.take_of_length_le (by omega)] at h
    exact h
  have HR2 := hide hr2
  clear hB hr hr1 hr2 hcell hba
  have j2 := (box5 HB2.out.b0).1.2.2.2.2
  go_enter Tryd.func30, Tryd.ntmps30
  go_wp2_with (first
    | ((with_reducible refine at_slice rfl ?_); refine wpList_cut_lo rfl _ _ 29 30 rfl Tryd.underlying29 size_us rfl rfl rfl (by omega) ?_)
    | (at_builtin; refine wpList_append_row rfl _ _ 29 rfl 30 i0 (.int .u32 0) 1 4 Tryd.underlying29 hi0 hz0 hz1 hz2 rfl (by decide) rfl (Row.empty _ (fun _ => False) 30 1 _) rfl HR2.out (us_one _) (by unfold maxLen; omega) (by omega) ?_
       intro A' c' w3 hr3 hm3
       rw [Nat.zero_add, List.nil_append] at hr3
       rw [Nat.zero_add]
       have hb3 := HB2.out.kept (hm3.below (Nat.le_refl _) (fun _ h => h.elim))
       have HB3 := hide hb3
       have HR3 := hide hr3
       obtain ⟨⟨l0, l1, l2, l3, l4⟩, u0, u1, u2, u3, u4⟩ := box5 hb3.b0
       obtain ⟨q0, q1, qb⟩ := hb3.set 4 (.slice A' n3 c') (cs := #[.int .i64 most, .int .i64 last, .slice A1 n1 c1, .slice A2 n2 c2, .slice A' n3 c']) rfl
       have HB4 : Hid (Boxed w (w3.setCell ⟨p, 4, none⟩ (.slice A' n3 c')) p (.int .i64 most) (.int .i64 last) (.slice A1 n1 c1) (.slice A2 n2 c2) (.slice A' n3 c')) := hide ⟨q0, q1, qb, hb3.le⟩
       obtain ⟨⟨x0, x1, x2, x3, x4⟩, y0, y1, y2, y3, y4⟩ := box5 q0
       obtain ⟨_, f0, f1, f2, f3, f4⟩ := box5 q1
       clear hr3 hm3 hb3 q0 q1 qb))
  all_goals
    obtain ⟨⟨m0, m1, m2, m3, m4⟩, _⟩ := box5 (HB4.out.out (.int .i64 most) (.int .i64 last) (.slice A1 n1 c1) (.slice A2 n2 c2) (.slice A' n3 c'))
    refine bodyPost_ret (by simp [results, Tryd.results30, go_sem, m0, m1, m2, m3, m4]; rfl) rfl ?_
    refine ⟨A', c', rfl, (row_set5 (HR3.out.farE HB3.out.b0 (by decide) _) HB4.out.b1 (by decide) _ _ _ _ _).mono (fun k hk _ => ?_), ?_⟩
    · have := HB1.out.bel.size
      rcases hk with hk | hk
      · exact hk.elim
      · rw [World.size_alloc] at hk
        show w.heap.size ≤ k
        omega
    · have h := below_set5 HB4.out.bel (p := p + 1) (by have := HB4.out.le; omega) (.int .i64 most) (.int .i64 last) (.slice A1 n1 c1) (.slice A2 n2 c2) (.slice A' n3 c')
      rw [hp] at h
      exact h
end
end Go.Proofs.YtccojgaahoonhaaDoor
