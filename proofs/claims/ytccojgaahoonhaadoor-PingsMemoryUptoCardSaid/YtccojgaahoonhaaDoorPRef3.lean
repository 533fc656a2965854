import Derived.Test.YtccojgaahoonhaaDoorPRef2
import Derived.Deep.CutBlock
/- The document's pings: Heard. -/
namespace Go.Proofs.YtccojgaahoonhaaDoor
open Go Go.RowKit Go.Cu Go.Proofs.YtccojgaahoonhaaDoor.errs

theorem erase_at {L : List Int} {i : Nat} {t : Int} (hi : L[i]? = some t) (hn : t ∉ L.take i) : L.erase t = L.take i ++ L.drop (i + 1) := by
  have hl := (List.getElem?_eq_some_iff.1 hi).1
  have e : L = L.take i ++ t :: L.drop (i + 1) := by
    conv => lhs; rw [← List.take_append_drop i L, List.drop_eq_getElem_cons hl]
    congr 2
    simpa [hl] using hi
  conv => lhs; rw [e]
  rw [List.erase_append_right _ hn, List.erase_cons_head]
section
variable (w : World) (most last : Int) (A1 : Option Addr) (n1 c1 : Nat) (A2 : Option Addr) (n2 c2 : Nat) (A3 : Option Addr) (n3 c3 : Nat)
set_option maxRecDepth 10000 in
theorem refheard_nil (t : Int) : Calls Tryd.prog 28 #[pv 0 last A1 n1 c1 A2 n2 c2 A3 n3 c3, .int .u32 t] w fun e w' => e = .returned (.tuple #[pv 0 last A1 n1 c1 A2 n2 c2 A3 n3 c3, .int .i64 1]) ∧ Below w.heap.size w w' := by
  have hB := boxed w (.int .i64 0) (.int .i64 last) (.slice A1 n1 c1) (.slice A2 n2 c2) (.slice A3 n3 c3)
  obtain ⟨w1, hw1⟩ : ∃ w1, (w.alloc (.cells #[.int .i64 0, .int .i64 last, .slice A1 n1 c1, .slice A2 n2 c2, .slice A3 n3 c3] 40)).alloc (.cells #[.int .i64 0, .int .i64 0, .slice none 0 0, .slice none 0 0, .slice none 0 0] 40) = w1 := ⟨_, rfl⟩
  obtain ⟨p, hp⟩ : ∃ p, w.heap.size = p := ⟨_, rfl⟩
  rw [hw1, hp] at hB
  obtain ⟨⟨k0, k1, k2, k3, k4⟩, _⟩ := box5 hB.b0
  obtain ⟨_, f0, f1, f2, f3, f4⟩ := box5 hB.b1
  have HB := hide hB
  clear hB
  go_enter Tryd.func28, Tryd.ntmps28
  go_wp2
  obtain ⟨⟨m0, m1, m2, m3, m4⟩, _⟩ := box5 (HB.out.out (.int .i64 0) (.int .i64 last) (.slice A1 n1 c1) (.slice A2 n2 c2) (.slice A3 n3 c3))
  refine bodyPost_ret (by simp [results, Tryd.results28, go_sem, m0, m1, m2, m3, m4]; rfl) rfl ?_
  exact ⟨rfl, below_set5 HB.out.bel (by have := HB.out.le; omega) _ _ _ _ _⟩
set_option maxRecDepth 10000 in
set_option maxHeartbeats 1000000 in
theorem refheard_bad (L : List Int) (hr : Reads w 1 (.slice A1 n1 c1) n1 (us L)) (t : Int) (ht : t ∉ L) (hm : most ≠ 0) : Calls Tryd.prog 28 #[pv most last A1 n1 c1 A2 n2 c2 A3 n3 c3, .int .u32 t] w fun e w' => e = .returned (.tuple #[pv most last A1 n1 c1 A2 n2 c2 A3 n3 c3, .int .i64 22]) ∧ Below w.heap.size w w' := by
  have hB := boxed w (.int .i64 most) (.int .i64 last) (.slice A1 n1 c1) (.slice A2 n2 c2) (.slice A3 n3 c3)
  obtain ⟨w1, hw1⟩ : ∃ w1, (w.alloc (.cells #[.int .i64 most, .int .i64 last, .slice A1 n1 c1, .slice A2 n2 c2, .slice A3 n3 c3] 40)).alloc (.cells #[.int .i64 0, .int .i64 0, .slice none 0 0, .slice none 0 0, .slice none 0 0] 40) = w1 := ⟨_, rfl⟩
  obtain ⟨p, hp⟩ : ∃ p, w.heap.size = p := ⟨_, rfl⟩
  rw [hw1, hp] at hB
  obtain ⟨⟨k0, k1, k2, k3, k4⟩, _⟩ := box5 hB.b0
  obtain ⟨_, f0, f1, f2, f3, f4⟩ := box5 hB.b1
  have e0 : (most == 0) = false := by simpa using hm
  have HN : Hid (L.length = n1) := hide (by have := hr.1; rw [us_length] at this; omega)
  have hmx := maxLen_lt hr.size
  have HR := hide (hr.later hB.bel)
  have HB := hide hB
  have HT := hide ht
  clear hB hm hr ht
  go_enter Tryd.func28, Tryd.ntmps28
  go_wp2
  go_loopw [6] (fun s wr => ∃ i : Nat, i ≤ n1 ∧ s = .int .i64 i ∧ wr = w1) (fun s _ => n1 - (intOf s).toNat)
  case atStart => exact ⟨0, Nat.zero_le _, rfl, rfl⟩
  case round =>
    obtain ⟨i, hi, rfl, rfl⟩ := hrel
    by_cases hlt : i < n1
    · obtain ⟨x, hx⟩ : ∃ x, L[i]? = some x := ⟨_, List.getElem?_eq_getElem (by rw [HN.out]; exact hlt)⟩
      obtain ⟨ad, c', he, hcell⟩ := reads_pos' HR.out (by omega)
      injection he with he _ hcc
      subst he
      subst hcc
      have h1 := hcell i _ (us_get hx)
      have hne : (x == t) = false := by simp; rintro rfl; exact HT.out (List.mem_of_getElem? hx)
      clear hcell hx
      go_wp2
      go_roundw
      case rel => exact ⟨i + 1, by omega, by go_num, trivial⟩
      case measure => simp [intOf]; omega
    · obtain rfl : i = n1 := by omega
      go_wp2
      obtain ⟨⟨m0, m1, m2, m3, m4⟩, _⟩ := box5 (HB.out.out (.int .i64 most) (.int .i64 last) (.slice A1 i c1) (.slice A2 n2 c2) (.slice A3 n3 c3))
      refine bodyPost_ret (by simp [results, Tryd.results28, go_sem, m0, m1, m2, m3, m4]; rfl) rfl ?_
      exact ⟨rfl, below_set5 HB.out.bel (by have := HB.out.le; omega) _ _ _ _ _⟩
set_option maxRecDepth 10000 in
set_option maxHeartbeats 2000000 in
theorem refheard_ok (L M : List Int) (hc1 : n1 + 1 ≤ c1) (hn1 : n1 ≤ 2097152) (hn2 : n2 ≤ 4294967296) (hr : Reads w 1 (.slice A1 (n1 + 1) c1) (n1 + 1) (us L)) (hr2 : Reads w 1 (.slice A2 n2 c2) n2 (us M)) (t : Int) (ht : t ∈ L) (hm : most ≠ 0) :
    Calls Tryd.prog 28 #[pv most last A1 (n1 + 1) c1 A2 n2 c2 A3 n3 c3, .int .u32 t] w fun e w' => ∃ A' c' B' d', e = .returned (.tuple #[pv most last A' n1 c' B' (n2 + 1) d' A3 n3 c3, .int .i64 0]) ∧ Row w' (New w) 30 1 (.slice A' n1 c') n1 (us (L.erase t)) ∧ Row w' (New w) 30 1 (.slice B' (n2 + 1) d') (n2 + 1) (us (M ++ [t])) ∧ Below w.heap.size w w' := by
  obtain ⟨i0, hi0, hz0, hz1, hz2⟩ := info_parts info_u
  have hB := boxed w (.int .i64 most) (.int .i64 last) (.slice A1 (n1 + 1) c1) (.slice A2 n2 c2) (.slice A3 n3 c3)
  obtain ⟨w1, hw1⟩ : ∃ w1, (w.alloc (.cells #[.int .i64 most, .int .i64 last, .slice A1 (n1 + 1) c1, .slice A2 n2 c2, .slice A3 n3 c3] 40)).alloc (.cells #[.int .i64 0, .int .i64 0, .slice none 0 0, .slice none 0 0, .slice none 0 0] 40) = w1 := ⟨_, rfl⟩
  obtain ⟨p, hp⟩ : ∃ p, w.heap.size = p := ⟨_, rfl⟩
  rw [hw1, hp] at hB
  obtain ⟨⟨k0, k1, k2, k3, k4⟩, _⟩ := box5 hB.b0
  have e0 : (most == 0) = false := by simpa using hm
  have HN : Hid (L.length = n1 + 1) := hide (by have := hr.1; rw [us_length] at this; omega)
  have hmx := maxLen_lt hr.size
  have HR := hide (hr.later hB.bel)
  have HRM := hide hr2
  have HB := hide hB
  have HT := hide ht
  clear hB hm hr hr2 ht
  go_enter Tryd.func28, Tryd.ntmps28
  go_wp2
  have HP := hide hp
  clear hw1 hp
  go_loopw [6] (fun s wr => ∃ i : Nat, i ≤ n1 + 1 ∧ s = .int .i64 i ∧ Hid (t ∉ L.take i) ∧ wr = w1) (fun s _ => n1 + 1 - (intOf s).toNat)
  case atStart => exact ⟨0, Nat.zero_le _, rfl, hide (by simp), rfl⟩
  case round =>
    obtain ⟨i, hi, rfl, HI, rfl⟩ := hrel
    by_cases hlt : i < n1 + 1
    · obtain ⟨x, hx⟩ : ∃ x, L[i]? = some x := ⟨_, List.getElem?_eq_getElem (by rw [HN.out]; exact hlt)⟩
      obtain ⟨ad, c', he, hcell⟩ := reads_pos' HR.out (by omega)
      injection he with he _ hcc
      subst he
      subst hcc
      have h1 := hcell i _ (us_get hx)
      have HX := hide hx
      clear hcell hx
      by_cases hxt : x = t
      · subst hxt
        have hba : Below wr.heap.size wr (wr.alloc (.cells #[] 30)) := (Below.refl _ _).alloc (Nat.le_refl _) _
        have HBa := hide (HB.out.kept hba)
        have q2 := (box5 HBa.out.b0).1.2.2.1
        have HC1 : Hid (Reads (wr.alloc (.cells #[] 30)) 1 (.slice (some ad) i c1) i (us (L.take i))) := by
          have h := (HR.out.later hba).cut hc1 (lo := 0) (hi := i) (by omega) (by omega)
          have e : cutV (some ad) c1 0 i 1 = .slice (some ad) i c1 := cutV_zero _ _ _ _
          rw [e, Nat.zero_mul, List.drop_zero, Nat.sub_zero, Nat.mul_one, us_take] at h
          exact h
        go_upto_region 8 with (first
          | ((with_reducible refine at_slice rfl ?_); refine wpList_cut_hi rfl _ _ 29 30 rfl Tryd.underlying29 size_us rfl rfl rfl (by omega) ?_)
          | (at_builtin; refine wpList_append_row rfl _ _ 29 rfl 30 i0 (.int .u32 0) 1 4 Tryd.underlying29 hi0 hz0 hz1 hz2 rfl (by decide) rfl (Row.empty _ (fun _ => False) 30 1 _) rfl HC1.out (us_one _) (by unfold maxLen; omega) (by omega) ?_
             intro A3' c3' w3 hr3 hm3
             rw [Nat.zero_add, List.nil_append] at hr3
             rw [Nat.zero_add]
             have HR3 := hide hr3
             have hb3 := HBa.out.kept (hm3.below (Nat.le_refl _) (fun _ h => h.elim))
             have HB3 := hide hb3
             have HR3f := hide (hba.trans (hm3.below (by simp) (fun _ h => h.elim)))
             have k3x := (box5 hb3.b0).1.2.2.1
             clear hr3 hm3 hb3))
        obtain ⟨k, rfl⟩ : ∃ k, n1 = i + k := ⟨n1 - i, by omega⟩
        obtain ⟨CA, cc, hcv⟩ : ∃ CA cc, cutV (some ad) c1 (i + 1) (i + k + 1) 1 = .slice CA k cc := by
          unfold cutV
          rw [show i + k + 1 - (i + 1) = k by omega]
          exact ⟨_, _, rfl⟩
        have HCV := hide hcv
        clear hcv
        have HC2 : Hid (Reads w3 1 (.slice CA k cc) k (us (L.drop (i + 1)))) := by
          rw [← HCV.out]
          have h := (HR.out.later HR3f.out).cut hc1 (lo := i + 1) (hi := i + k + 1) (by omega) (by omega)
          rw [show i + k + 1 - (i + 1) = k by omega, Nat.mul_one, Nat.mul_one, us_drop, List.take_of_length_le (by rw [us_length, List.length_drop, HN.out]; omega)] at h
          exact h
        go_upto_region 9 with (first
          | ((with_reducible refine at_slice rfl ?_); refine wpList_cut_lo rfl _ _ 29 30 rfl Tryd.underlying29 size_us rfl rfl (l := i + 1) (by omega) (by omega) ?_; rw [HCV.out])
          | (at_builtin; refine wpList_append_row rfl _ _ 29 rfl 30 i0 (.int .u32 0) 1 4 Tryd.underlying29 hi0 hz0 hz1 hz2 rfl (by decide) rfl HR3.out rfl HC2.out (us_one _) (by unfold maxLen; omega) (by omega) ?_
             intro A4' c4' w4 hr4 hm4
             have HR4 := hide hr4
             have hf4 := HR3f.out.trans (hm4.below HR3f.out.size (fun b h => by
               rcases h with h | h
               · exact h.elim
               · rw [World.size_alloc] at h; omega))
             have hb4 := HB.out.kept hf4
             have HB4 := hide hb4
             obtain ⟨⟨k0', k1', k2', k3', k4'⟩, g0', g1', g2', g3', g4'⟩ := box5 hb4.b0
             obtain ⟨j0, j1, jb⟩ := hb4.set 2 (.slice A4' (i + k) c4') (cs := #[.int .i64 most, .int .i64 last, .slice A4' (i + k) c4', .slice A2 n2 c2, .slice A3 n3 c3]) rfl
             have HB5 : Hid (Boxed w (w4.setCell ⟨p, 2, none⟩ (.slice A4' (i + k) c4')) p (.int .i64 most) (.int .i64 last) (.slice A4' (i + k) c4') (.slice A2 n2 c2) (.slice A3 n3 c3)) := hide ⟨j0, j1, jb, hb4.le⟩
             obtain ⟨⟨x0, x1, x2, x3, x4⟩, y0, y1, y2, y3, y4⟩ := box5 j0
             have HRM5 := hide (HRM.out.later jb)
             clear hr4 hm4 hb4 hf4 j0 j1 jb))
        go_wp2_with fail
        refine (behind_any _ A2 n2 c2 M HRM5.out x (by omega)).mono ?_
        rintro e w6 ⟨B', d', rfl, hr6, hb6⟩
        have hr4 := (HR4.out.farE (p := ⟨p, 2, none⟩) HB4.out.b0 (by decide) (.slice A4' (i + k) c4')).kept (Mod.ofBelow hb6 (fun _ => False)) (fun _ _ _ h => h)
        have hb6' := HB5.out.kept hb6
        have HB6 := hide hb6'
        have HS5 := hide (show w.heap.size ≤ (w4.setCell ⟨p, 2, none⟩ (.slice A4' (i + k) c4')).heap.size from HB5.out.bel.size)
        have HRa := hide hr4
        have HRb := hide hr6
        clear k0' k1' k2' k3' k4' g0' g1' g2' g3' g4' x0 x1 x2 x3 x4 y0 y1 y2 y3 y4
        obtain ⟨⟨k0', k1', k2', k3', k4'⟩, g0', g1', g2', g3', g4'⟩ := box5 hb6'.b0
        obtain ⟨j0, j1, jb⟩ := hb6'.set 3 (.slice B' (n2 + 1) d') (cs := #[.int .i64 most, .int .i64 last, .slice A4' (i + k) c4', .slice B' (n2 + 1) d', .slice A3 n3 c3]) rfl
        have HB7 : Hid (Boxed w (w6.setCell ⟨p, 3, none⟩ (.slice B' (n2 + 1) d')) p (.int .i64 most) (.int .i64 last) (.slice A4' (i + k) c4') (.slice B' (n2 + 1) d') (.slice A3 n3 c3)) := hide ⟨j0, j1, jb, hb6'.le⟩
        obtain ⟨⟨x0, x1, x2, x3, x4⟩, y0, y1, y2, y3, y4⟩ := box5 j0
        obtain ⟨_, f0, f1, f2, f3, f4⟩ := box5 j1
        clear hr4 hb6' hr6 hb6 j0 j1 jb
        go_wp2
        obtain ⟨⟨m0, m1, m2, m3, m4⟩, _⟩ := box5 (HB7.out.out (.int .i64 most) (.int .i64 last) (.slice A4' (i + k) c4') (.slice B' (n2 + 1) d') (.slice A3 n3 c3))
        refine bodyPost_ret (by simp [results, Tryd.results28, go_sem, m0, m1, m2, m3, m4]; rfl) rfl ?_
        have hsw := HB.out.bel.size
        refine ⟨A4', c4', B', d', rfl, ?_, (row_set5 (HRb.out.farE HB6.out.b0 (by decide) _) HB7.out.b1 (by decide) _ _ _ _ _).mono (fun b hb _ => Nat.le_trans HS5.out hb), below_set5 HB7.out.bel (by have := HB7.out.le; omega) _ _ _ _ _⟩
        have h := (row_set5 (HRa.out.farE HB6.out.b0 (by decide) (.slice B' (n2 + 1) d')) HB7.out.b1 (by decide) (.int .i64 most) (.int .i64 last) (.slice A4' (i + k) c4') (.slice B' (n2 + 1) d') (.slice A3 n3 c3)).mono (G := New w) (fun b hb _ => by
          show w.heap.size ≤ b
          have h3 := HR3f.out.size
          rcases hb with (hb | hb) | hb
          · exact hb.elim
          · rw [World.size_alloc] at hb; omega
          · omega)
        rw [us_append, ← erase_at HX.out HI.out] at h
        exact h
      · have hne : (x == t) = false := by simpa using hxt
        clear hxt
        go_wp2
        go_roundw
        case rel => exact ⟨i + 1, by omega, by go_num, hide (by rw [List.take_add_one, HX.out]; simp; exact ⟨HI.out, fun h => by rw [h] at hne; simp at hne⟩), trivial⟩
        case measure => simp [intOf]; omega
    · obtain rfl : i = n1 + 1 := by omega
      have h := HI.out
      rw [List.take_of_length_le (by rw [HN.out]; exact Nat.le_refl _)] at h
      exact absurd HT.out h
end
end Go.Proofs.YtccojgaahoonhaaDoor
