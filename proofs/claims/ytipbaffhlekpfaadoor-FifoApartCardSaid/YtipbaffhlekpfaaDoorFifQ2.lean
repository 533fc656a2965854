import Derived.Test.YtipbaffhlekpfaaDoorFifQ
namespace Go.Proofs.YtipbaffhlekpfaaDoor
open Go Go.RowKit Go.Cu Go.Proofs.YtipbaffhlekpfaaDoor.errs
theorem box3 {w : World} {p : Nat} {x y z : Value} {t : TypeId} (h : w.heap[p]? = some (.cells #[x, y, z] t (0, 0))) :
    w.cell? ⟨p, 0, none⟩ = some x ∧ w.cell? ⟨p, 1, none⟩ = some y ∧ w.cell? ⟨p, 2, none⟩ = some z ∧ w.frozen? ⟨p, 0, none⟩ = false ∧ w.frozen? ⟨p, 1, none⟩ = false ∧ w.frozen? ⟨p, 2, none⟩ = false :=
  ⟨by rw [cell_of_row w p 0 _ _ _ h]; rfl, by rw [cell_of_row w p 1 _ _ _ h]; rfl, by rw [cell_of_row w p 2 _ _ _ h]; rfl, frozen_of_row w p 0 _ _ h, frozen_of_row w p 1 _ _ h, frozen_of_row w p 2 _ _ h⟩
theorem box3_set {w : World} {p : Nat} {x y z : Value} {t : TypeId} (h : w.heap[p]? = some (.cells #[x, y, z] t (0, 0))) (a b c : Value) :
    (((w.setCell ⟨p, 0, none⟩ a).setCell ⟨p, 1, none⟩ b).setCell ⟨p, 2, none⟩ c).heap[p]? = some (.cells #[a, b, c] t (0, 0)) := by
  have h1 := heap_setCell_same _ p 0 _ t a h
  have h2 := heap_setCell_same _ p 1 _ t b h1
  have h3 := heap_setCell_same _ p 2 _ t c h2
  simpa using h3
theorem row_set3 {w : World} {F : Nat → Prop} {e : TypeId} {sz n : Nat} {v : Value} {xs : List Value} (hr : Row w F e sz v n xs) {p : Nat} {x y z : Value} {t : TypeId} (h : w.heap[p]? = some (.cells #[x, y, z] t (0, 0))) (hne : t ≠ e) (a b c : Value) :
    Row (((w.setCell ⟨p, 0, none⟩ a).setCell ⟨p, 1, none⟩ b).setCell ⟨p, 2, none⟩ c) F e sz v n xs := by
  have h1 := heap_setCell_same _ p 0 _ t a h
  have h2 := heap_setCell_same _ p 1 _ t b h1
  exact ((hr.farE (p := ⟨p, 0, none⟩) h hne a).farE (p := ⟨p, 1, none⟩) h1 hne b).farE (p := ⟨p, 2, none⟩) h2 hne c
theorem below_set3 {B : Nat} {w w' : World} {p : Nat} (h : Below B w w') (hp : B ≤ p) (a b c : Value) : Below B w (((w'.setCell ⟨p, 0, none⟩ a).setCell ⟨p, 1, none⟩ b).setCell ⟨p, 2, none⟩ c) :=
  ((h.setCell (p := ⟨p, 0, none⟩) hp _).setCell (p := ⟨p, 1, none⟩) hp _).setCell (p := ⟨p, 2, none⟩) hp _
theorem below_a2 (w : World) (o1 o2 : Obj) : Below w.heap.size w ((w.alloc o1).alloc o2) := ((Below.refl _ _).alloc (Nat.le_refl _) _).alloc (by simp) _
set_option maxRecDepth 10000 in
theorem refput_neg (w : World) (things most : Int) (A : Option Addr) (n c : Nat) (v wt : Int) (hw : wt < 0) :
    Calls Tryd.prog 25 #[qv things most A n c, .int .i64 v, .int .i64 wt] w fun e w' => e = .returned (.tuple #[qv things most A n c, .int .i64 2]) ∧ Below w.heap.size w w' := by
  go_enter Tryd.func25, Tryd.ntmps25
  go_wp2
  refine bodyPost_ret (by simp [results, Tryd.results25, go_sem]; rfl) rfl ?_
  exact ⟨rfl, below_a2 _ _ _⟩
set_option maxRecDepth 10000 in
theorem refput_full (w : World) (things most : Int) (A : Option Addr) (n c : Nat) (L : List (Int × Int)) (hr : Reads w 2 (.slice A n c) n (pairs L)) (h0 : ∀ x ∈ L, 0 ≤ x.2) (hs : wsum L ≤ most) (hm : 0 ≤ most ∧ most ≤ 9223372036854775807) (v wt : Int) (hw : ¬ wt < 0) (hfull : things ≤ n ∨ most - wsum L < wt) :
    Calls Tryd.prog 25 #[qv things most A n c, .int .i64 v, .int .i64 wt] w fun e w' => e = .returned (.tuple #[qv things most A n c, .int .i64 6]) ∧ Below w.heap.size w w' := by
  obtain ⟨w1, hw1⟩ : ∃ w1, (w.alloc (.cells #[.int .i64 things, .int .i64 most, .slice A n c] 41)).alloc (.cells #[.int .i64 0, .int .i64 0, .slice none 0 0] 41) = w1 := ⟨_, rfl⟩
  obtain ⟨p, hp⟩ : ∃ p, w.heap.size = p := ⟨_, rfl⟩
  have hal : Below w.heap.size w w1 := by rw [← hw1]; exact below_a2 _ _ _
  have HR : Hid (Reads w1 2 (.slice A n c) n (pairs L)) := hide (Reads.kept hr (fun a _ hc => (hal.cell (World.block_lt_of_cell? w a hc)).trans hc))
  have b0 : w1.heap[p]? = some (.cells #[.int .i64 things, .int .i64 most, .slice A n c] 41 (0, 0)) := by rw [← hw1, ← hp, Below.heap_alloc _ _ _ (by simp)]; exact heap_alloc_new w _
  have b1 : w1.heap[p + 1]? = some (.cells #[.int .i64 0, .int .i64 0, .slice none 0 0] 41 (0, 0)) := by rw [← hw1, ← hp]; exact (by rw [World.size_alloc] : w.heap.size + 1 = (w.alloc (.cells #[.int .i64 things, .int .i64 most, .slice A n c] 41)).heap.size) ▸ heap_alloc_new _ _
  have HB0 := hide b0
  have HB1 := hide b1
  have HAl := hide hal
  have hwr : IntKind.i64.wrap (most - wsum L) = most - wsum L := by have := wsum_pos h0; rw [IntKind.wrap_i64]; omega
  have hnl : L.length = n := by have := hr.1; rw [pairs_length] at this; omega
  have hs0 : wsum L ≤ 9223372036854775807 := by omega
  have H0 := hide h0
  have HF := hide hfull
  clear hr b0 b1 hal hnl h0 hfull
  obtain ⟨c0, c1, c2, _, _, _⟩ := box3 HB0.out
  go_enter Tryd.func25, Tryd.ntmps25
  go_wp2_with fail
  refine (sum_any w1 things most A n c L HR.out H0.out hs0).mono ?_
  rintro e w2 ⟨rfl, hb2⟩
  obtain ⟨d0, d1, d2, _, _, _⟩ := box3 ((hb2.block _ (Array.getElem?_eq_some_iff.1 HB0.out).1).trans HB0.out)
  have e1 := (hb2.block _ (Array.getElem?_eq_some_iff.1 HB1.out).1).trans HB1.out
  obtain ⟨k0, k1, k2, f0, f1, f2⟩ := box3 e1
  have HE1 := hide e1
  have HB2 := hide (HAl.out.trans (hb2.mono HAl.out.size))
  clear hb2 e1 c0 c1 c2
  have hcs : (things ≤ (n : Int)) ∨ ((¬ things ≤ (n : Int)) ∧ most - wsum L < wt) := by have := HF.out; omega
  rcases hcs with g1 | ⟨g1, g2⟩
  all_goals
    go_wp2_with fail
    have hb := box3_set HE1.out (.int .i64 things) (.int .i64 most) (.slice A n c)
    obtain ⟨m0, m1, m2, _, _, _⟩ := box3 hb
    refine bodyPost_ret (by simp [results, Tryd.results25, go_sem, m0, m1, m2]; rfl) rfl ?_
    exact ⟨rfl, below_set3 HB2.out (by omega) _ _ _⟩
set_option maxRecDepth 10000 in
set_option maxHeartbeats 1000000 in
theorem refput_ok (w : World) (things most : Int) (A : Option Addr) (n c : Nat) (L : List (Int × Int)) (hr : Reads w 2 (.slice A n c) n (pairs L)) (h0 : ∀ x ∈ L, 0 ≤ x.2) (hs : wsum L ≤ most) (hm : 0 ≤ most ∧ most ≤ 9223372036854775807) (v wt : Int) (hw : ¬ wt < 0)
    (hroom : ¬ things ≤ n) (hfit : ¬ most - wsum L < wt) (hn : n ≤ 4398046511103) :
    Calls Tryd.prog 25 #[qv things most A n c, .int .i64 v, .int .i64 wt] w fun e w' => ∃ A' c', e = .returned (.tuple #[qv things most A' (n + 1) c', .int .i64 0]) ∧ Row w' (fun k => w.heap.size ≤ k) 55 2 (.slice A' (n + 1) c') (n + 1) (pairs (L ++ [(v, wt)])) ∧ Below w.heap.size w w' := by
  obtain ⟨w1, hw1⟩ : ∃ w1, (w.alloc (.cells #[.int .i64 things, .int .i64 most, .slice A n c] 41)).alloc (.cells #[.int .i64 0, .int .i64 0, .slice none 0 0] 41) = w1 := ⟨_, rfl⟩
  obtain ⟨p, hp⟩ : ∃ p, w.heap.size = p := ⟨_, rfl⟩
  have hal : Below w.heap.size w w1 := by rw [← hw1]; exact below_a2 _ _ _
  have HR : Hid (Reads w1 2 (.slice A n c) n (pairs L)) := hide (Reads.kept hr (fun a _ hc => (hal.cell (World.block_lt_of_cell? w a hc)).trans hc))
  have b0 : w1.heap[p]? = some (.cells #[.int .i64 things, .int .i64 most, .slice A n c] 41 (0, 0)) := by rw [← hw1, ← hp, Below.heap_alloc _ _ _ (by simp)]; exact heap_alloc_new w _
  have b1 : w1.heap[p + 1]? = some (.cells #[.int .i64 0, .int .i64 0, .slice none 0 0] 41 (0, 0)) := by rw [← hw1, ← hp]; exact (by rw [World.size_alloc] : w.heap.size + 1 = (w.alloc (.cells #[.int .i64 things, .int .i64 most, .slice A n c] 41)).heap.size) ▸ heap_alloc_new _ _
  have HB0 := hide b0
  have HB1 := hide b1
  have HAl := hide hal
  have hwr : IntKind.i64.wrap (most - wsum L) = most - wsum L := by have := wsum_pos h0; rw [IntKind.wrap_i64]; omega
  have hnl : L.length = n := by have := hr.1; rw [pairs_length] at this; omega
  have hs0 : wsum L ≤ 9223372036854775807 := by omega
  have H0 := hide h0
  clear hr b0 b1 hal hnl h0
  obtain ⟨i0, hi0, hz0, hz1, hz2⟩ := info_parts info_thing
  obtain ⟨c0, c1, c2, _, _, _⟩ := box3 HB0.out
  go_enter Tryd.func25, Tryd.ntmps25
  go_wp2_with fail
  refine (sum_any w1 things most A n c L HR.out H0.out hs0).mono ?_
  rintro e w2 ⟨rfl, hb2⟩
  obtain ⟨d0, d1, d2, _, _, _⟩ := box3 ((hb2.block _ (Array.getElem?_eq_some_iff.1 HB0.out).1).trans HB0.out)
  have HR2 : Hid (Reads w2 2 (.slice A n c) n (pairs L)) := hide (Reads.kept HR.out (fun a _ hc => (hb2.cell (World.block_lt_of_cell? w1 a hc)).trans hc))
  have HB2 := hide hb2
  clear hb2 c0 c1 c2
  go_wp2_with fail
  refine (copied_any w2 A n c L HR2.out (by omega)).mono ?_
  rintro e w3 ⟨A3, c3, rfl, hr3, hb3⟩
  have HRow3 := hide hr3
  have hb13 := HB2.out.trans (hb3.mono HB2.out.size)
  have e0 := (hb13.block _ (Array.getElem?_eq_some_iff.1 HB0.out).1).trans HB0.out
  have e1 := (hb13.block _ (Array.getElem?_eq_some_iff.1 HB1.out).1).trans HB1.out
  have HB3 := hide (HAl.out.trans (hb13.mono HAl.out.size))
  have HE0 := hide e0
  have HE1 := hide e1
  have HRow4 := hide ((HRow3.out.alloc (.cells #[.int .i64 v, .int .i64 wt] 55)).narrow)
  have hsz3 : w2.heap.size ≤ w3.heap.size := hb3.size
  have HLit : Hid (Reads (w3.alloc (.cells #[.int .i64 v, .int .i64 wt] 55)) 2 (.slice (some ⟨w3.heap.size, 0, none⟩) 1 1) 1 (pairs [(v, wt)])) := by
    refine hide ⟨rfl, _, 1, rfl, by unfold maxLen; omega, .inr ⟨_, rfl, fun j u hj => ?_⟩⟩
    have hj' : [Value.int .i64 v, .int .i64 wt][j]? = some u := hj
    rw [add_plain, Nat.zero_add]
    exact (cell_of_row (w3.alloc (.cells #[.int .i64 v, .int .i64 wt] 55)) w3.heap.size j _ _ _ (heap_alloc_new w3 _)).trans (by simpa using hj')
  clear hr3 hb3 hb13 e0 e1 d0 d1 d2
  go_wp2_with (first
    | (at_builtin; refine wpList_append_row rfl _ _ 39 rfl 55 i0 (.agg #[.int .i64 0, .int .i64 0]) 2 16 Tryd.underlying39 hi0 hz0 hz1 hz2 rfl (by decide) rfl HRow4.out (news := pairs [(v, wt)]) rfl HLit.out (pairs_one _) (by unfold maxLen; omega) (by omega) ?_
       intro A4 c4 w4 hr4 hm4
       have hk0 : ((w3.alloc (.cells #[.int .i64 v, .int .i64 wt] 55)).heap[p]? = some (.cells #[.int .i64 things, .int .i64 most, .slice A n c] 41 (0, 0))) := (Below.heap_alloc w3 _ p (Array.getElem?_eq_some_iff.1 HE0.out).1).trans HE0.out
       have hk1 : ((w3.alloc (.cells #[.int .i64 v, .int .i64 wt] 55)).heap[p + 1]? = some (.cells #[.int .i64 0, .int .i64 0, .slice none 0 0] 41 (0, 0))) := (Below.heap_alloc w3 _ (p + 1) (Array.getElem?_eq_some_iff.1 HE1.out).1).trans HE1.out
       have g0 := hm4.heap hk0 (fun h => not_ofE hk0 (by decide) h.2)
       have g1 := hm4.heap hk1 (fun h => not_ofE hk1 (by decide) h.2)
       obtain ⟨x0, x1, x2, y0, y1, y2⟩ := box3 g0
       obtain ⟨k0, k1, k2, f0, f1, f2⟩ := box3 g1
       have HG0 := hide g0
       have HG1 := hide g1
       have HRow5 := hide hr4
       have HM4 := hide hm4
       clear hr4 hm4 hk0 hk1 g0 g1))
  have b1 : (w4.setCell ⟨p, 2, none⟩ (.slice A4 (n + 1) c4)).heap[p + 1]? = some (.cells #[.int .i64 0, .int .i64 0, .slice none 0 0] 41 (0, 0)) := by
    rw [Below.heap_setCell _ _ _ _ (show p + 1 ≠ p by omega)]
    exact HG1.out
  have b2 := box3_set b1 (.int .i64 things) (.int .i64 most) (.slice A4 (n + 1) c4)
  have r2 := row_set3 (HRow5.out.farE (p := ⟨p, 2, none⟩) HG0.out (by decide) (.slice A4 (n + 1) c4)) b1 (by decide) (.int .i64 things) (.int .i64 most) (.slice A4 (n + 1) c4)
  obtain ⟨m0, m1, m2, _, _, _⟩ := box3 b2
  have hs3 := HB3.out.size
  have hs2 : w.heap.size ≤ w2.heap.size := by have := HAl.out.size; have := HB2.out.size; omega
  have hbel : Below w.heap.size w w4 := (HB3.out.alloc hs3 _).trans (HM4.out.below (by simp; omega) (fun k h => by omega))
  refine bodyPost_ret (by simp [results, Tryd.results25, go_sem, m0, m1, m2]; rfl) rfl ?_
  refine ⟨A4, c4, rfl, ?_, below_set3 (hbel.setCell (p := ⟨p, 2, none⟩) (show w.heap.size ≤ p by omega) _) (by omega) _ _ _⟩
  rw [← pairs_append]
  refine r2.mono (fun k hk _ => ?_)
  rcases hk with hk | hk
  · omega
  · rw [hk]
    simp
    omega

set_option maxRecDepth 10000 in
theorem in_any (w : World) (A : Option Addr) (n c : Nat) (L : List Int) (hr : Reads w 1 (.slice A n c) n (L.map (Value.int .i64))) (v : Int) :
    Calls Tryd.prog 32 #[.slice A n c, .int .i64 v] w fun e w' => e = .returned (.bool (decide (v ∈ L))) ∧ w = w' := by
  have hnl : L.length = n := by have := hr.1; rw [List.length_map] at this; omega
  have HN := hide hnl
  have hlen : n ≤ 9223372036854775807 := maxLen_lt hr.size
  have HR := hide hr
  clear hr hnl
  go_enter Tryd.func32, Tryd.ntmps32
  go_wp2
  go_loopw [5] (fun t wr => ∃ i : Nat, i ≤ n ∧ t = .int .i64 i ∧ Hid (v ∉ L.take i) ∧ wr = w) (fun t _ => n - (intOf t).toNat)
  case atStart => exact ⟨0, Nat.zero_le _, rfl, hide (by simp), rfl⟩
  case round =>
    obtain ⟨i, hi, rfl, HI, rfl⟩ := hrel
    by_cases hlt : i < n
    · obtain ⟨x, hx⟩ : ∃ x, L[i]? = some x := ⟨_, List.getElem?_eq_getElem (by rw [HN.out]; exact hlt)⟩
      have HX := hide hx
      have hu : (L.map (Value.int .i64))[i]? = some (.int .i64 x) := by rw [List.getElem?_map, hx]; rfl
      obtain ⟨_, A', c', he, _, h3⟩ := HR.out
      rcases h3 with h3 | ⟨ad, hA, h4⟩
      · omega
      have q0 := h4 _ _ hu
      injection he with he _ _
      have hAA : A = some ad := he.trans hA
      subst hAA
      clear hx hu h4 he hA
      by_cases hv : x = v
      · subst hv
        go_wp2
        go_ret
        have : x ∈ L := List.mem_of_getElem? HX.out
        exact ⟨by simp [this], rfl⟩
      · go_wp2
        go_roundw
        case rel => exact ⟨i + 1, by omega, by go_num, hide (by rw [List.take_add_one, HX.out]; simp; exact ⟨HI.out, fun h => hv h.symm⟩), trivial⟩
        case measure => simp [intOf]; omega
    · obtain rfl : i = n := by omega
      have he : L.take i = L := List.take_of_length_le (by rw [HN.out]; exact Nat.le_refl _)
      have hni : v ∉ L := by have := HI.out; rwa [he] at this
      have HNI := hide hni
      clear hni
      go_wp2
      go_ret
      exact ⟨by simp [HNI.out], rfl⟩
end Go.Proofs.YtipbaffhlekpfaaDoor
