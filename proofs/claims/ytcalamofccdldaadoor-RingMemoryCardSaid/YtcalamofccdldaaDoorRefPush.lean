import Derived.Test.YtcalamofccdldaaDoorRefR
import Derived.Deep.CutBlock
/- The document's Push. -/
namespace Go.Proofs.YtcalamofccdldaaDoor.ref
open Go Go.RowKit Go.Cu Go.Proofs.YtcalamofccdldaaDoor

theorem box2 {w : World} {p : Nat} {x y : Value} {t : TypeId} (h : w.heap[p]? = some (.cells #[x, y] t (0, 0))) :
    w.cell? ⟨p, 0, none⟩ = some x ∧ w.cell? ⟨p, 1, none⟩ = some y ∧ w.frozen? ⟨p, 0, none⟩ = false ∧ w.frozen? ⟨p, 1, none⟩ = false :=
  ⟨by rw [cell_of_row w p 0 _ _ _ h]; rfl, by rw [cell_of_row w p 1 _ _ _ h]; rfl, frozen_of_row w p 0 _ _ h, frozen_of_row w p 1 _ _ h⟩
theorem box2_set {w : World} {p : Nat} {x y : Value} {t : TypeId} (h : w.heap[p]? = some (.cells #[x, y] t (0, 0))) (a b : Value) :
    ((w.setCell ⟨p, 0, none⟩ a).setCell ⟨p, 1, none⟩ b).heap[p]? = some (.cells #[a, b] t (0, 0)) := by
  have h1 := heap_setCell_same _ p 0 _ t a h
  have h2 := heap_setCell_same _ p 1 _ t b h1
  simpa using h2
theorem alloc_at (w : World) (o : Obj) (k : Nat) : (w.alloc o).heap[k]? = if k = w.heap.size then some o else w.heap[k]? := by
  split
  · subst_vars; exact heap_alloc_new w o
  · rename_i h
    by_cases hl : k < w.heap.size
    · exact Below.heap_alloc _ _ _ hl
    · rw [Array.getElem?_eq_none (by simp; omega), Array.getElem?_eq_none (by omega)]

set_option maxRecDepth 10000 in
set_option maxHeartbeats 2000000 in
/-- Push -/
theorem push_any (w : World) (cap n : Nat) (A : Option Addr) (c : Nat) (M : List Int) (hr : Reads w 1 (.slice A n c) n (ints M)) (B : Option Addr) (n2 c2 : Nat) (xs : List Int) (hr2 : Reads w 1 (.slice B n2 c2) n2 (ints xs)) (hnc2 : n2 ≤ c2) (h1 : n ≤ cap) (h2 : cap ≤ 2147483647) (k : Nat) (hk : min n2 (cap - n) = k) :
    Calls Tryd.prog 34 #[.agg #[.int .i64 cap, .slice A n c], .slice B n2 c2] w fun e w' => ∃ A' c', e = .returned (.tuple #[.agg #[.int .i64 cap, .slice A' (n + k) c'], .int .i64 k]) ∧ Row w' (RI.New w) 3 1 (.slice A' (n + k) c') (n + k) (ints (M ++ xs.take k)) ∧ Below w.heap.size w w' := by
  obtain ⟨fr, hfr⟩ : ∃ fr, cap - n = fr := ⟨_, rfl⟩
  have hmx := maxLen_lt hr2.size
  have HR := hide hr
  have HR2 := hide hr2
  have HFr := hide hfr
  rw [hfr] at hk
  have hcs : (fr < n2 ∧ fr = k) ∨ (¬ fr < n2 ∧ n2 = k) := by omega
  have hkn : k ≤ n2 := by omega
  have hkf : n + k ≤ 2147483647 := by omega
  have HCs := hide hcs
  clear hr hr2 hk hfr hcs
  obtain ⟨i0, hi0, hz0, hz1, hz2⟩ := info_parts info_i
  obtain ⟨w1, hw1⟩ : ∃ w1, (w.alloc (.cells #[.int .i64 cap, .slice A n c] 58)).alloc (.cells #[.int .i64 0, .slice none 0 0] 58) = w1 := ⟨_, rfl⟩
  obtain ⟨p, hp⟩ : ∃ p, w.heap.size = p := ⟨_, rfl⟩
  have hal : Below w.heap.size w w1 := by rw [← hw1]; exact ((Below.refl _ _).alloc (Nat.le_refl _) _).alloc (by simp) _
  have b0 : w1.heap[p]? = some (.cells #[.int .i64 cap, .slice A n c] 58 (0, 0)) := by rw [← hw1, ← hp]; simp only [alloc_at, World.size_alloc]; repeat (first | rw [if_pos (by first | trivial | omega)] | rw [if_neg (by omega)])
  have b1 : w1.heap[p + 1]? = some (.cells #[.int .i64 0, .slice none 0 0] 58 (0, 0)) := by rw [← hw1, ← hp]; simp only [alloc_at, World.size_alloc]; repeat (first | rw [if_pos (by first | trivial | omega)] | rw [if_neg (by omega)])
  have HAl := hide hal
  have HB0 := hide b0
  have HB1 := hide b1
  obtain ⟨x0, x1, _, _⟩ := box2 b0
  clear hal b0 b1
  go_enter Tryd.func34, Tryd.ntmps34
  go_wp2_with fail
  refine (free_any _ cap n A c h1 h2 fr HFr.out).mono ?_
  rintro e w2 ⟨rfl, hb2⟩
  have HB2 := hide (HAl.out.trans (hb2.mono HAl.out.size))
  have e0 := (hb2.block _ (Array.getElem?_eq_some_iff.1 HB0.out).1).trans HB0.out
  have e1 := (hb2.block _ (Array.getElem?_eq_some_iff.1 HB1.out).1).trans HB1.out
  have HE0 := hide e0
  have HE1 := hide e1
  clear x0 x1 hb2 hw1
  obtain ⟨x0, x1, _, _⟩ := box2 e0
  clear e0 e1
  go_upto_if 13 with fail
  go_cut [6] from 8 to 28 (fun s6 wc => s6 = .int .i64 k ∧ Hid (Below w.heap.size w wc ∧ wc.heap[p]? = some (.cells #[.int .i64 cap, .slice A n c] 58 (0, 0)) ∧ wc.heap[p + 1]? = some (.cells #[.int .i64 0, .slice none 0 0] 58 (0, 0))))
  case first =>
    rcases HCs.out with ⟨hlt, he⟩ | ⟨hlt, he⟩
    · go_wp2_with fail
      refine (free_any _ cap n A c h1 h2 fr HFr.out).mono ?_
      rintro e w3 ⟨rfl, hb3⟩
      have HB3 := hide (HB2.out.trans (hb3.mono HB2.out.size))
      have g0 := (hb3.block _ (Array.getElem?_eq_some_iff.1 HE0.out).1).trans HE0.out
      have g1 := (hb3.block _ (Array.getElem?_eq_some_iff.1 HE1.out).1).trans HE1.out
      have HG := hide (show _ ∧ _ from ⟨g0, g1⟩)
      clear g0 g1 hb3 x0 x1
      have HHe := hide he
      clear he
      go_wp2
      go_meet
      case rel => exact ⟨by rw [HHe.out], hide ⟨HB3.out, HG.out⟩⟩
    · have HHe := hide he
      clear he
      go_wp2
      go_meet
      case rel => exact ⟨by rw [HHe.out], hide ⟨HB2.out, HE0.out, HE1.out⟩⟩
  case rest =>
    obtain ⟨rfl, hst⟩ := hcut
    obtain ⟨hb3, g0, g1⟩ := hst.out
    have hals : Below wc.heap.size wc (wc.alloc (.cells #[] 3)) := (Below.refl _ _).alloc (Nat.le_refl _) _
    have q0 := (hals.block _ (Array.getElem?_eq_some_iff.1 g0).1).trans g0
    have q1 := (hals.block _ (Array.getElem?_eq_some_iff.1 g1).1).trans g1
    have c1 : (wc.alloc (.cells #[] 3)).cell? ⟨p, 1, none⟩ = some (.slice A n c) := (box2 q0).2.1
    have HB3 := hide hb3
    have HB4 := hide (hb3.trans (hals.mono hb3.size))
    have HRa := hide (Reads.below HR.out HB4.out)
    have hszw := hb3.size
    have hpl := (Array.getElem?_eq_some_iff.1 g1).1
    clear hst hb3 g0 g1 hals x0 x1
    go_upto_region 5 with (first
      | (at_builtin; refine wpList_append_row rfl _ _ 38 rfl 3 i0 (.int .i64 0) 1 8 Tryd.underlying38 hi0 hz0 hz1 hz2 rfl (by decide) rfl (Row.empty _ (fun _ => False) 3 1 _) rfl HRa.out (ints_one _) (by unfold maxLen; omega) (by omega) ?_
         intro A4 c4 w4 hr4 hm4
         rw [Nat.zero_add, List.nil_append] at hr4
         rw [Nat.zero_add]
         have j0 := hm4.heap q0 (fun h => h)
         have j1 := hm4.heap q1 (fun h => h)
         have HR4 := hide hr4
         have HM4 := hide hm4
         clear hr4 hm4 c1 q0 q1))
    have HJ0 := hide j0
    have HJ1 := hide j1
    have hb4 : Below w.heap.size w w4 := HB4.out.trans (HM4.out.below HB4.out.size (fun _ h => h.elim))
    have HB5 := hide hb4
    have HX := hide ((Reads.below HR2.out hb4).cut hnc2 (lo := 0) (hi := k) (Nat.zero_le _) hkn)
    clear j0 j1 hb4
    have HX2 : Hid (Reads w4 1 (.slice B k c2) k (ints (xs.take k))) := by
      have h := HX.out
      have e : cutV B c2 0 k 1 = .slice B k c2 := cutV_zero B c2 k 1
      rw [e, Nat.zero_mul, List.drop_zero, Nat.sub_zero, Nat.mul_one, ints_take] at h
      exact h
    go_wp2_with (first
      | ((with_reducible refine at_slice rfl ?_); refine wpList_cut_hi rfl _ _ 38 3 rfl Tryd.underlying38 RI.size_e rfl rfl rfl (by omega) ?_)
      | (at_builtin; refine wpList_append_row rfl _ _ 38 rfl 3 i0 (.int .i64 0) 1 8 Tryd.underlying38 hi0 hz0 hz1 hz2 rfl (by decide) rfl HR4.out rfl HX2.out (ints_one _) (by unfold maxLen; omega) (by omega) ?_
         intro A5 c5 w5 hr5 hm5
         have k0 := hm5.heap HJ0.out (fun h => by rcases h with h | h; exact h; simp at h; omega)
         have k1 := hm5.heap HJ1.out (fun h => by rcases h with h | h; exact h; simp at h; omega)
         obtain ⟨y0, y1, z0, z1⟩ := box2 k0
         obtain ⟨u0, u1, v0, v1⟩ := box2 k1
         have HK0 := hide k0
         have HK1 := hide k1
         have HR5 := hide hr5
         have HM5 := hide hm5
         clear hr5 hm5 k0 k1))
    have d1 : (w5.setCell ⟨p, 1, none⟩ (.slice A5 (n + k) c5)).heap[p + 1]? = some (.cells #[.int .i64 0, .slice none 0 0] 58 (0, 0)) := by
      rw [Below.heap_setCell _ _ _ _ (show p + 1 ≠ p by omega)]
      exact HK1.out
    have d2 := box2_set d1 (.int .i64 cap) (.slice A5 (n + k) c5)
    obtain ⟨m0, m1, _, _⟩ := box2 d2
    have hfar : ∀ b, b ≤ p + 1 → ¬ ((False ∨ b = (wc.alloc (.cells #[] 3)).heap.size) ∨ b = w4.heap.size) := fun b hb h => by
      have h4 := HM4.out.size
      rw [World.size_alloc] at h4
      rcases h with (h | h) | h
      · exact h
      · rw [World.size_alloc] at h; omega
      · omega
    have r5 := ((HR5.out.far (p := ⟨p, 1, none⟩) (hfar p (by omega)) (.slice A5 (n + k) c5)).far (p := ⟨p + 1, 0, none⟩) (hfar (p + 1) (by omega)) (.int .i64 cap)).far (p := ⟨p + 1, 1, none⟩) (hfar (p + 1) (by omega)) (.slice A5 (n + k) c5)
    have hb5 : Below w.heap.size w w5 := HB5.out.trans (HM5.out.below HB5.out.size (fun b h => by
      rcases h with h | h
      · exact h.elim
      · rw [World.size_alloc] at h; omega))
    refine bodyPost_ret (by simp [results, Tryd.results34, go_sem, m0, m1]; rfl) rfl ?_
    refine ⟨A5, c5, rfl, ?_, ((hb5.setCell (p := ⟨p, 1, none⟩) (show w.heap.size ≤ p by omega) _).setCell (p := ⟨p + 1, 0, none⟩) (show w.heap.size ≤ p + 1 by omega) _).setCell (p := ⟨p + 1, 1, none⟩) (show w.heap.size ≤ p + 1 by omega) _⟩
    rw [← ints_append]
    refine r5.mono (fun b hb _ => ?_)
    show w.heap.size ≤ b
    have h4 := HM4.out.size
    rw [World.size_alloc] at h4
    rcases hb with (hb | hb) | hb
    · exact hb.elim
    · rw [World.size_alloc] at hb; omega
    · omega
end Go.Proofs.YtcalamofccdldaaDoor.ref
