import Derived.Test.YtlnbgahfelcbiaaDoorLRef1
/- The document's cache: Without, First, Drop. -/
namespace Go.Proofs.YtlnbgahfelcbiaaDoor
open Go Go.RowKit Go.Cu

theorem box2 {w : World} {p : Nat} {x y : Value} {t : TypeId} (h : w.heap[p]? = some (.cells #[x, y] t (0, 0))) :
    w.cell? ⟨p, 0, none⟩ = some x ∧ w.cell? ⟨p, 1, none⟩ = some y ∧ w.frozen? ⟨p, 0, none⟩ = false ∧ w.frozen? ⟨p, 1, none⟩ = false :=
  ⟨by rw [cell_of_row w p 0 _ _ _ h]; rfl, by rw [cell_of_row w p 1 _ _ _ h]; rfl, frozen_of_row w p 0 _ _ h, frozen_of_row w p 1 _ _ h⟩
theorem box2_set {w : World} {p : Nat} {x y : Value} {t : TypeId} (h : w.heap[p]? = some (.cells #[x, y] t (0, 0))) (a b : Value) :
    ((w.setCell ⟨p, 0, none⟩ a).setCell ⟨p, 1, none⟩ b).heap[p]? = some (.cells #[a, b] t (0, 0)) := by
  have h1 := heap_setCell_same _ p 0 _ t a h
  have h2 := heap_setCell_same _ p 1 _ t b h1
  simpa using h2
theorem Row.empty (w : World) (F : Nat → Prop) (e : TypeId) (sz : Nat) (A : Option Addr) : Row w F e sz (.slice A 0 0) 0 [] :=
  ⟨by simp, A, 0, rfl, Nat.le_refl _, Nat.zero_le _, .inl rfl⟩
theorem row_le {w : World} {F : Nat → Prop} {e : TypeId} {sz n c : Nat} {A : Option Addr} {xs : List Value} (h : Row w F e sz (.slice A n c) n xs) : n ≤ c := by
  obtain ⟨A', c', he, h2, _⟩ := h.shape
  injection he with _ _ h3
  omega
theorem row_set2 {w : World} {F : Nat → Prop} {e : TypeId} {sz n : Nat} {v : Value} {xs : List Value} (hr : Row w F e sz v n xs) {p : Nat} {x y : Value} {t : TypeId} (h : w.heap[p]? = some (.cells #[x, y] t (0, 0))) (hne : t ≠ e) (a b : Value) :
    Row ((w.setCell ⟨p, 0, none⟩ a).setCell ⟨p, 1, none⟩ b) F e sz v n xs :=
  (hr.farE (p := ⟨p, 0, none⟩) h hne a).farE (p := ⟨p, 1, none⟩) (heap_setCell_same _ p 0 _ t a h) hne b
theorem below_set2 {B : Nat} {w w' : World} {p : Nat} (h : Below B w w') (hp : B ≤ p) (a b : Value) : Below B w ((w'.setCell ⟨p, 0, none⟩ a).setCell ⟨p, 1, none⟩ b) :=
  (h.setCell (p := ⟨p, 0, none⟩) hp _).setCell (p := ⟨p, 1, none⟩) hp _
theorem below_a2 (w : World) (o1 o2 : Obj) : Below w.heap.size w ((w.alloc o1).alloc o2) := ((Below.refl _ _).alloc (Nat.le_refl _) _).alloc (by simp) _
/-- the document's cache behind a call -/
def RefIs (w : World) (room : Int) (L : List LE) (v : Value) (w' : World) : Prop :=
  ∃ A n c, v = cvv room A n c ∧ n = L.length ∧ Row w' (New w) 105 4 (.slice A n c) n (rowsC L) ∧ Below w.heap.size w w'

set_option maxRecDepth 10000 in
set_option maxHeartbeats 1000000 in
theorem without_ref (w : World) (room : Int) (A : Option Addr) (n c : Nat) (hnc : n ≤ c) (a b : List LE) (e : LE) (hr : Reads w 4 (.slice A n c) n (rowsC (a ++ e :: b))) (hn : n ≤ 4398046511104) (i : Nat) (hi : i = a.length) :
    Calls Tryd.prog 69 #[cvv room A n c, .int .i64 i] w fun r w' => ∃ v, r = .returned v ∧ RefIs w room (a ++ b) v w' := by
  have han : i < n := by have := rows_len hr; simp at this; omega
  have hnl := rows_len hr
  obtain ⟨i0, hi0, hz0, hz1, hz2⟩ := info_parts info_row
  obtain ⟨w1, hw1⟩ : ∃ w1, ((w.alloc (.cells #[.int .i64 room, .slice A n c] 46)).alloc (.cells #[.int .i64 0, .slice none 0 0] 46)).alloc (.cells #[] 105) = w1 := ⟨_, rfl⟩
  obtain ⟨p, hp⟩ : ∃ p, w.heap.size = p := ⟨_, rfl⟩
  have hal : Below w.heap.size w w1 := by rw [← hw1]; exact ((below_a2 w _ _).alloc (by simp; omega) _)
  have hs1 : w1.heap.size = p + 3 := by rw [← hw1, ← hp]; simp
  have b0 : w1.heap[p]? = some (.cells #[.int .i64 room, .slice A n c] 46 (0, 0)) := by
    rw [← hw1, ← hp, Below.heap_alloc _ _ _ (by simp; omega), Below.heap_alloc _ _ _ (by simp)]
    exact heap_alloc_new w _
  have b1 : w1.heap[p + 1]? = some (.cells #[.int .i64 0, .slice none 0 0] 46 (0, 0)) := by
    rw [← hw1, ← hp, Below.heap_alloc _ _ _ (by simp)]
    exact (by rw [World.size_alloc] : w.heap.size + 1 = (w.alloc (.cells #[.int .i64 room, .slice A n c] 46)).heap.size) ▸ heap_alloc_new _ _
  have HR : Hid (Reads w1 4 (.slice A n c) n (rowsC (a ++ e :: b))) := hide (Reads.past hr hal)
  have HB0 := hide b0
  have HB1 := hide b1
  have HAl := hide hal
  obtain ⟨c0, c1, _, _⟩ := box2 b0
  have HC1 : Hid (Reads w1 4 (.slice A i c) i (rowsC a)) := by
    have h := Reads.cut HR.out hnc (lo := 0) (hi := i) (Nat.zero_le _) (by omega)
    rw [cutV_zero, Nat.zero_mul, List.drop_zero, Nat.sub_zero, rowsC_take, hi, List.take_left] at h
    rw [hi]
    exact hide h
  have HC2 : Hid (Reads w1 4 (cutV A c (i + 1) n 4) (n - (i + 1)) (rowsC b)) := by
    have h := Reads.cut HR.out hnc (lo := i + 1) (hi := n) (by omega) (Nat.le_refl _)
    rw [rowsC_drop, hi, drop_mid, List.take_of_length_le (by rw [rowsC_length]; have := hnl; simp at this; omega)] at h
    rw [hi]
    exact hide h
  have HI := hide hi
  have HNl := hide hnl
  clear hal hr b0 b1 hi hnl
  go_enter Tryd.func69, Tryd.ntmps69
  go_upto_region 2 with (first
    | ((with_reducible refine at_slice rfl ?_); refine wpList_cut_hi rfl _ _ 44 105 rfl Tryd.underlying44 size_row rfl rfl rfl (by omega) ?_)
    | (at_builtin; refine wpList_append_row rfl _ _ 44 rfl 105 i0 (.agg #[.int .i64 0, .int .i64 0, .int .i64 0, .int .i64 0]) 4 32 Tryd.underlying44 hi0 hz0 hz1 hz2 rfl (by decide) rfl (Row.empty _ (fun _ => False) 105 4 _) rfl HC1.out (rowsC_one _) (by unfold maxLen; omega) (by omega) ?_
       intro A4 c4 w4 hr4 hm4
       rw [Nat.zero_add, List.nil_append] at hr4
       rw [Nat.zero_add]
       have j0 := hm4.heap HB0.out (fun h => h)
       have j1 := hm4.heap HB1.out (fun h => h)
       have HR4 := hide hr4
       have HM4 := hide hm4
       have HC5 := hide (Reads.past HC2.out (hm4.below (Nat.le_refl _) (fun _ h => h.elim)))
       have HJ0 := hide j0
       have HJ1 := hide j1
       obtain ⟨c0, c1, f0, f1⟩ := box2 j0
       clear hr4 hm4 j0 j1)
    | fail)
  clear c0 c1
  obtain ⟨c0, c1, f0, f1⟩ := box2 HJ0.out
  go_wp2_with (first
    | ((with_reducible refine at_slice rfl ?_); refine wpList_cut_lo rfl _ _ 44 105 rfl Tryd.underlying44 size_row (l := i + 1) rfl rfl (by omega) (by omega) ?_)
    | (at_builtin; refine wpList_append_row rfl _ _ 44 rfl 105 i0 (.agg #[.int .i64 0, .int .i64 0, .int .i64 0, .int .i64 0]) 4 32 Tryd.underlying44 hi0 hz0 hz1 hz2 rfl (by decide) rfl HR4.out rfl HC5.out (rowsC_one _) (by unfold maxLen; omega) (by omega) ?_
       intro A5 c5 w5 hr5 hm5
       have k0 := hm5.heap HJ0.out (fun h => by rcases h with h | h; exact h; omega)
       have k1 := hm5.heap HJ1.out (fun h => by rcases h with h | h; exact h; omega)
       obtain ⟨y0, y1, z0, z1⟩ := box2 k0
       obtain ⟨u0, u1, v0, v1⟩ := box2 k1
       have HK0 := hide k0
       have HK1 := hide k1
       have HR5 := hide hr5
       have HM5 := hide hm5
       clear hr5 hm5 k0 k1 c0 c1 f0 f1)
    | fail)
  have d1 : (w5.setCell ⟨p, 1, none⟩ (.slice A5 (i + (n - (i + 1))) c5)).heap[p + 1]? = some (.cells #[.int .i64 0, .slice none 0 0] 46 (0, 0)) := by
    rw [Below.heap_setCell _ _ _ _ (show p + 1 ≠ p by omega)]
    exact HK1.out
  have d2 := box2_set d1 (.int .i64 room) (.slice A5 (i + (n - (i + 1))) c5)
  obtain ⟨m0, m1, _, _⟩ := box2 d2
  have r5 := row_set2 (HR5.out.farE (p := ⟨p, 1, none⟩) HK0.out (by decide) (.slice A5 (i + (n - (i + 1))) c5)) d1 (by decide) (.int .i64 room) (.slice A5 (i + (n - (i + 1))) c5)
  have hs4 := HM4.out.size
  have hs5 := HAl.out.size
  have hb5 : Below w.heap.size w w5 := (HAl.out.trans (HM4.out.below hs5 (fun b h => h.elim))).trans (HM5.out.below (by omega) (fun b h => by rcases h with h | h; exact h.elim; omega))
  have hlen : i + (n - (i + 1)) = (a ++ b).length := by have := HNl.out; have := HI.out; simp at *; omega
  refine bodyPost_ret (by simp [results, Tryd.results69, go_sem, m0, m1]; rfl) rfl ?_
  refine ⟨_, rfl, A5, _, c5, rfl, hlen, ?_, below_set2 (hb5.setCell (p := ⟨p, 1, none⟩) (show w.heap.size ≤ p by omega) _) (show w.heap.size ≤ p + 1 by omega) _ _⟩
  rw [← rowsC_app]
  exact r5.mono (fun k hk _ => by
    show w.heap.size ≤ k
    rcases hk with (hk | hk) | hk
    · exact hk.elim
    · omega
    · omega)

/-- a row of one, just laid -/
theorem row_one {w : World} {q : Nat} (e : LE) (h : w.heap[q]? = some (.cells #[.int .i64 e.k, .int .i64 e.v, .int .i64 e.wt, .int .i64 e.un] 105 (0, 0))) : Row w (fun k => k = q) 105 4 (.slice (some ⟨q, 0, none⟩) 1 1) 1 (rowsC [e]) := by
  refine ⟨rfl, _, 1, rfl, Nat.le_refl _, by unfold maxLen; omega, .inr ⟨q, 0, _, rfl, rfl, h, by simp, fun j hj => ?_⟩⟩
  rw [Nat.zero_add]
  simp [rowsC, rowC]
set_option maxRecDepth 10000 in
set_option maxHeartbeats 1000000 in
theorem first_ref (w : World) (room : Int) (A : Option Addr) (n c : Nat) (L : List LE) (x : LE) (hr : Reads w 4 (.slice A n c) n (rowsC L)) (hn : n ≤ 4398046511103) :
    Calls Tryd.prog 70 #[cvv room A n c, .agg #[.int .i64 x.k, .int .i64 x.v, .int .i64 x.wt, .int .i64 x.un]] w fun r w' => ∃ v, r = .returned v ∧ RefIs w room (x :: L) v w' := by
  have hnl := rows_len hr
  obtain ⟨i0, hi0, hz0, hz1, hz2⟩ := info_parts info_row
  obtain ⟨w1, hw1⟩ : ∃ w1, (((w.alloc (.cells #[.int .i64 room, .slice A n c] 46)).alloc (.cells #[.int .i64 x.k, .int .i64 x.v, .int .i64 x.wt, .int .i64 x.un] 105)).alloc (.cells #[.int .i64 0, .slice none 0 0] 46)).alloc (.cells #[.int .i64 x.k, .int .i64 x.v, .int .i64 x.wt, .int .i64 x.un] 105) = w1 := ⟨_, rfl⟩
  obtain ⟨p, hp⟩ : ∃ p, w.heap.size = p := ⟨_, rfl⟩
  have hal : Below w.heap.size w w1 := by rw [← hw1]; exact (((below_a2 w _ _).alloc (by simp; omega) _).alloc (by simp; omega) _)
  have hs1 : w1.heap.size = p + 4 := by rw [← hw1, ← hp]; simp
  have b0 : w1.heap[p]? = some (.cells #[.int .i64 room, .slice A n c] 46 (0, 0)) := by
    rw [← hw1, ← hp, Below.heap_alloc _ _ _ (by simp; omega), Below.heap_alloc _ _ _ (by simp; omega), Below.heap_alloc _ _ _ (by simp)]
    exact heap_alloc_new w _
  have b2 : w1.heap[p + 2]? = some (.cells #[.int .i64 0, .slice none 0 0] 46 (0, 0)) := by
    rw [← hw1, ← hp, Below.heap_alloc _ _ _ (by simp)]
    have h := heap_alloc_new ((w.alloc (.cells #[.int .i64 room, .slice A n c] 46)).alloc (.cells #[.int .i64 x.k, .int .i64 x.v, .int .i64 x.wt, .int .i64 x.un] 105)) (.cells #[.int .i64 0, .slice none 0 0] 46)
    simp only [World.size_alloc] at h
    exact h
  have b3 : w1.heap[p + 3]? = some (.cells #[.int .i64 x.k, .int .i64 x.v, .int .i64 x.wt, .int .i64 x.un] 105 (0, 0)) := by
    rw [← hw1, ← hp]
    have h := heap_alloc_new (((w.alloc (.cells #[.int .i64 room, .slice A n c] 46)).alloc (.cells #[.int .i64 x.k, .int .i64 x.v, .int .i64 x.wt, .int .i64 x.un] 105)).alloc (.cells #[.int .i64 0, .slice none 0 0] 46)) (.cells #[.int .i64 x.k, .int .i64 x.v, .int .i64 x.wt, .int .i64 x.un] 105)
    simp only [World.size_alloc] at h
    exact h
  have HR : Hid (Reads w1 4 (.slice A n c) n (rowsC L)) := hide (Reads.past hr hal)
  have HB0 := hide b0
  have HB2 := hide b2
  have HRow := hide (row_one x b3)
  have HAl := hide hal
  have HNl := hide hnl
  obtain ⟨c0, c1, _, _⟩ := box2 b0
  clear hal hr b0 b2 b3 hnl
  go_enter Tryd.func70, Tryd.ntmps70
  go_wp2_with (first
    | (at_builtin; refine wpList_append_row rfl _ _ 44 rfl 105 i0 (.agg #[.int .i64 0, .int .i64 0, .int .i64 0, .int .i64 0]) 4 32 Tryd.underlying44 hi0 hz0 hz1 hz2 rfl (by decide) rfl HRow.out rfl HR.out (rowsC_one _) (by unfold maxLen; omega) (by omega) ?_
       intro A5 c5 w5 hr5 hm5
       have k0 := hm5.heap HB0.out (fun h => by omega)
       have k1 := hm5.heap HB2.out (fun h => by omega)
       obtain ⟨y0, y1, z0, z1⟩ := box2 k0
       obtain ⟨u0, u1, v0, v1⟩ := box2 k1
       have HK0 := hide k0
       have HK1 := hide k1
       have HR5 := hide hr5
       have HM5 := hide hm5
       clear hr5 hm5 k0 k1 c0 c1)
    | fail)
  have d1 : (w5.setCell ⟨p, 1, none⟩ (.slice A5 (1 + n) c5)).heap[p + 2]? = some (.cells #[.int .i64 0, .slice none 0 0] 46 (0, 0)) := by
    rw [Below.heap_setCell _ _ _ _ (show p + 2 ≠ p by omega)]
    exact HK1.out
  have d2 := box2_set d1 (.int .i64 room) (.slice A5 (1 + n) c5)
  obtain ⟨m0, m1, _, _⟩ := box2 d2
  have r5 := row_set2 (HR5.out.farE (p := ⟨p, 1, none⟩) HK0.out (by decide) (.slice A5 (1 + n) c5)) d1 (by decide) (.int .i64 room) (.slice A5 (1 + n) c5)
  have hs5 := HAl.out.size
  have hb5 : Below w.heap.size w w5 := HAl.out.trans (HM5.out.below (by omega) (fun b h => by omega))
  have hlen : 1 + n = (x :: L).length := by have := HNl.out; simp; omega
  refine bodyPost_ret (by simp [results, Tryd.results70, go_sem, m0, m1]; rfl) rfl ?_
  refine ⟨_, rfl, A5, _, c5, rfl, hlen, ?_, below_set2 (hb5.setCell (p := ⟨p, 1, none⟩) (show w.heap.size ≤ p by omega) _) (show w.heap.size ≤ p + 2 by omega) _ _⟩
  rw [show x :: L = [x] ++ L from rfl, ← rowsC_app]
  exact r5.mono (fun k hk _ => by
    show w.heap.size ≤ k
    rcases hk with hk | hk
    · omega
    · omega)

set_option maxRecDepth 10000 in
set_option maxHeartbeats 1000000 in
theorem refdrop_none (w : World) (room : Int) (A : Option Addr) (n c : Nat) (L : List LE) (hr : Reads w 4 (.slice A n c) n (rowsC L)) (k : Int) (hk : ∀ e ∈ L, e.k ≠ k) :
    Calls Tryd.prog 55 #[cvv room A n c, .int .i64 k] w fun r w' => r = .returned (.tuple #[cvv room A n c, .bool false]) ∧ Below w.heap.size w w' := by
  obtain ⟨w1, hw1⟩ : ∃ w1, (w.alloc (.cells #[.int .i64 room, .slice A n c] 46)).alloc (.cells #[.int .i64 0, .slice none 0 0] 46) = w1 := ⟨_, rfl⟩
  obtain ⟨p, hp⟩ : ∃ p, w.heap.size = p := ⟨_, rfl⟩
  have hal : Below w.heap.size w w1 := by rw [← hw1]; exact below_a2 _ _ _
  have hs1 : w1.heap.size = p + 2 := by rw [← hw1, ← hp]; simp
  have b0 : w1.heap[p]? = some (.cells #[.int .i64 room, .slice A n c] 46 (0, 0)) := by
    rw [← hw1, ← hp, Below.heap_alloc _ _ _ (by simp)]
    exact heap_alloc_new w _
  have b1 : w1.heap[p + 1]? = some (.cells #[.int .i64 0, .slice none 0 0] 46 (0, 0)) := by
    rw [← hw1, ← hp]
    exact (by rw [World.size_alloc] : w.heap.size + 1 = (w.alloc (.cells #[.int .i64 room, .slice A n c] 46)).heap.size) ▸ heap_alloc_new _ _
  have HR : Hid (Reads w1 4 (.slice A n c) n (rowsC L)) := hide (Reads.past hr hal)
  have HB0 := hide b0
  have HB1 := hide b1
  have HAl := hide hal
  have HK := hide hk
  obtain ⟨c0, c1, _, _⟩ := box2 b0
  clear hal hr b0 b1 hk
  go_enter Tryd.func55, Tryd.ntmps55
  go_wp2_with fail
  refine (refat_none w1 room A n c L HR.out k HK.out).mono ?_
  rintro r w2 ⟨rfl, hb2⟩
  obtain ⟨d0, d1, _, _⟩ := box2 ((hb2.block _ (Array.getElem?_eq_some_iff.1 HB0.out).1).trans HB0.out)
  have e1 := (hb2.block _ (Array.getElem?_eq_some_iff.1 HB1.out).1).trans HB1.out
  obtain ⟨k0, k1, f0, f1⟩ := box2 e1
  have HE1 := hide e1
  have HB2 := hide (HAl.out.trans (hb2.mono HAl.out.size))
  clear hb2 e1 c0 c1
  go_wp2
  have hb := box2_set HE1.out (.int .i64 room) (.slice A n c)
  obtain ⟨m0, m1, _, _⟩ := box2 hb
  refine bodyPost_ret (by simp [results, Tryd.results55, go_sem, m0, m1]; rfl) rfl ?_
  exact ⟨rfl, below_set2 HB2.out (by omega) _ _⟩
set_option maxRecDepth 10000 in
set_option maxHeartbeats 1000000 in
theorem refdrop_mid (w : World) (room : Int) (A : Option Addr) (n c : Nat) (hnc : n ≤ c) (a b : List LE) (e : LE) (hr : Reads w 4 (.slice A n c) n (rowsC (a ++ e :: b))) (hk : ∀ x ∈ a, x.k ≠ e.k) (hn : n ≤ 4398046511104) :
    Calls Tryd.prog 55 #[cvv room A n c, .int .i64 e.k] w fun r w' => ∃ v, r = .returned (.tuple #[v, .bool true]) ∧ RefIs w room (a ++ b) v w' := by
  obtain ⟨w1, hw1⟩ : ∃ w1, (w.alloc (.cells #[.int .i64 room, .slice A n c] 46)).alloc (.cells #[.int .i64 0, .slice none 0 0] 46) = w1 := ⟨_, rfl⟩
  obtain ⟨p, hp⟩ : ∃ p, w.heap.size = p := ⟨_, rfl⟩
  have hal : Below w.heap.size w w1 := by rw [← hw1]; exact below_a2 _ _ _
  have hs1 : w1.heap.size = p + 2 := by rw [← hw1, ← hp]; simp
  have b0 : w1.heap[p]? = some (.cells #[.int .i64 room, .slice A n c] 46 (0, 0)) := by
    rw [← hw1, ← hp, Below.heap_alloc _ _ _ (by simp)]
    exact heap_alloc_new w _
  have b1 : w1.heap[p + 1]? = some (.cells #[.int .i64 0, .slice none 0 0] 46 (0, 0)) := by
    rw [← hw1, ← hp]
    exact (by rw [World.size_alloc] : w.heap.size + 1 = (w.alloc (.cells #[.int .i64 room, .slice A n c] 46)).heap.size) ▸ heap_alloc_new _ _
  have HR : Hid (Reads w1 4 (.slice A n c) n (rowsC (a ++ e :: b))) := hide (Reads.past hr hal)
  have HB0 := hide b0
  have HB1 := hide b1
  have HAl := hide hal
  have HK := hide hk
  obtain ⟨c0, c1, _, _⟩ := box2 b0
  clear hal hr b0 b1 hk
  go_enter Tryd.func55, Tryd.ntmps55
  go_wp2_with fail
  refine (refat_mid w1 room A n c a b e HR.out HK.out).mono ?_
  rintro r w2 ⟨rfl, hb2⟩
  obtain ⟨d0, d1, _, _⟩ := box2 ((hb2.block _ (Array.getElem?_eq_some_iff.1 HB0.out).1).trans HB0.out)
  have HE1 := hide ((hb2.block _ (Array.getElem?_eq_some_iff.1 HB1.out).1).trans HB1.out)
  have HB2 := hide (HAl.out.trans (hb2.mono HAl.out.size))
  have HR2 := hide (Reads.past HR.out hb2)
  clear hb2 c0 c1
  go_wp2_with fail
  refine (without_ref w2 room A n c hnc a b e HR2.out hn a.length rfl).mono ?_
  rintro r w3 ⟨v, rfl, B, m, cc, rfl, hm, hrow, hb3⟩
  have e1 := (hb3.block _ (Array.getElem?_eq_some_iff.1 HE1.out).1).trans HE1.out
  obtain ⟨k0, k1, f0, f1⟩ := box2 e1
  have HF1 := hide e1
  have HB3 := hide (HB2.out.trans (hb3.mono HB2.out.size))
  have HRow := hide hrow
  have HM := hide hm
  have hs2 := HB2.out.size
  clear hb3 hrow hm e1 d0 d1
  go_wp2
  have hb := box2_set HF1.out (.int .i64 room) (.slice B m cc)
  obtain ⟨m0, m1, _, _⟩ := box2 hb
  refine bodyPost_ret (by simp [results, Tryd.results55, go_sem, m0, m1]; rfl) rfl ?_
  refine ⟨_, rfl, B, m, cc, rfl, HM.out, ?_, below_set2 HB3.out (by omega) _ _⟩
  exact (row_set2 HRow.out HF1.out (by decide) _ _).mono (fun k hk _ => by
    show w.heap.size ≤ k
    have : w2.heap.size ≤ k := hk
    omega)
end Go.Proofs.YtlnbgahfelcbiaaDoor
