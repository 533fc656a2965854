import Derived.Test.YtjajnejijaoblaaPlays12
import Derived.Test.YtjajnejijaoblaaFairPlain
/- 'fair': the check on what was told. -/
namespace Go.Proofs.Ytjajnejijaoblaa
open Go Go.RowKit Go.Cu

set_option maxHeartbeats 2000000 in
theorem fair_any (w : World) (v : Value) (n : Nat) (T : List Int) (stay most : Nat) (h : Reads w 1 v n (ints T)) (hs1 : 1 ≤ stay) (hs : stay ≤ 40) (hm : most ≤ 17592186044416) (hn : n ≤ 17592186044416)
    (hg : ∀ k, k < stay → Fair.gaps most (-1 - (k : Int)) 0 T = true) (hb : 1 < stay → ∀ k, k < stay → Fair.betw (-1 - (k : Int)) (-1 - (((k + 1) % stay : Nat) : Int)) 0 T = true) :
    Calls Try.prog 13 #[v, .int .i64 stay, .int .i64 most] w fun e w' => e = .returned (.bool true) ∧ w = w' := by
  obtain ⟨A, c, rfl⟩ := h.shape
  have HR := hide h
  have HL : Hid (T.length = n) := by have := h.1; rw [ints_length] at this; show _ = _; omega
  have HG := hide hg
  have HBt := hide hb
  clear h hg hb
  go_enter Try.func13, Try.ntmps13
  go_wp2
  go_loop [7] (fun t => ∃ k : Nat, k ≤ stay ∧ t = .int .i64 k) (fun t => stay - (intOf t).toNat)
  case atStart => exact ⟨0, Nat.zero_le _, rfl⟩
  case round =>
    obtain ⟨k, hk, rfl⟩ := hrel
    by_cases hlt : k < stay
    · have G0 := hide (HG.out k hlt)
      have B0 : Hid (1 < stay → Fair.betw (-1 - (k : Int)) (-1 - (((k + 1) % stay : Nat) : Int)) 0 T = true) := fun h => HBt.out h k hlt
      go_wp2
      go_loop [8, 9] (fun l t => ∃ (i d : Nat) (z : Int), i ≤ n ∧ d ≤ i ∧ t = .int .i64 i ∧ l = .int .i64 z ∧ -1 ≤ z ∧ z < i ∧ Hid (z = (i : Int) - 1 - d) ∧ Hid (Fair.gaps most (-1 - (k : Int)) d (T.drop i) = true)) (fun _ t => n - (intOf t).toNat)
      case atStart => exact ⟨0, 0, -1, Nat.zero_le _, Nat.le_refl _, rfl, rfl, by omega, by omega, rfl, G0.out⟩
      case round =>
        obtain ⟨i, d, z, hi, hd, rfl, rfl, hz1, hz2, hz3, hgp⟩ := hrel
        by_cases hli : i < n
        · obtain ⟨x, hx⟩ : ∃ x, T[i]? = some x := ⟨_, List.getElem?_eq_getElem (by have := HL.out; omega)⟩
          have HX := hide (ints_get hx)
          have hdc := drop_cons hx
          have hgp' : Fair.gaps most (-1 - (k : Int)) d (x :: T.drop (i + 1)) = true := by rw [← hdc]; exact hgp.out
          clear hx hdc
          by_cases hxk : x = -1 - (k : Int)
          · simp only [Fair.gaps, if_pos hxk, Bool.and_eq_true, decide_eq_true_eq] at hgp'
            have hle : ¬ (most : Int) < (i : Int) - z := by have := hz3.out; have := hgp'.1; omega
            have HP := hide hgp'.2
            have hne : (x != -1 - (k : Int)) = false := by simp [hxk]
            clear hgp' hxk
            go_wp2_with ((with_reducible refine at_index rfl ?_); refine wpList_at1 rfl rfl _ _ 28 3 _ rfl rfl rfl (by simp) Try.underlying28 size_int agg_int rfl HR.out rfl (by omega) (by omega) HX.out ?_; intro p)
            go_round
            case rel => exact ⟨i + 1, 0, i, by omega, by omega, by go_num, rfl, by omega, by omega, by show _ = _; omega, HP.out⟩
            case measure => simp [intOf]; omega
          · simp only [Fair.gaps, if_neg hxk] at hgp'
            have HP := hide hgp'
            have hne : (x != -1 - (k : Int)) = true := by simpa using hxk
            clear hgp' hxk
            go_wp2_with ((with_reducible refine at_index rfl ?_); refine wpList_at1 rfl rfl _ _ 28 3 _ rfl rfl rfl (by simp) Try.underlying28 size_int agg_int rfl HR.out rfl (by omega) (by omega) HX.out ?_; intro p)
            go_round
            case rel => exact ⟨i + 1, d + 1, z, by omega, by omega, by go_num, rfl, by omega, by omega, by show _ = _; have := hz3.out; omega, HP.out⟩
            case measure => simp [intOf]; omega
        · have hin : i = T.length := by have := HL.out; omega
          have hlast : ¬ (most : Int) ≤ (n : Int) - 1 - z := by
            have h1 := hgp.out
            rw [hin, List.drop_length] at h1
            simp only [Fair.gaps, decide_eq_true_eq] at h1
            have := hz3.out
            have := HL.out
            omega
          clear hin
          have hr0 : 0 ≤ ((k : Int) + 1) % (stay : Int) := Int.emod_nonneg _ (by omega)
          have hr1 : ((k : Int) + 1) % (stay : Int) < 41 := by have := Int.emod_lt_of_pos ((k : Int) + 1) (show (0 : Int) < (stay : Int) by omega); omega
          have HO : Hid (-1 - ((k : Int) + 1) % (stay : Int) = -1 - (((k + 1) % stay : Nat) : Int)) := by show _ = _; simp
          go_wp2
          go_loop [11, 12] (fun l t => ∃ (i m : Nat), i ≤ n ∧ m ≤ 1 ∧ t = .int .i64 i ∧ l = .int .i64 m ∧ Hid (1 < stay → Fair.betw (-1 - (k : Int)) (-1 - (((k + 1) % stay : Nat) : Int)) m (T.drop i) = true)) (fun _ t => n - (intOf t).toNat)
          case atStart => exact ⟨0, 0, Nat.zero_le _, by omega, rfl, rfl, B0.out⟩
          case round =>
            obtain ⟨i, m, hi, hm1, rfl, rfl, hbt⟩ := hrel
            by_cases hli : i < n
            · by_cases hst : 1 < stay
              · obtain ⟨x, hx⟩ : ∃ x, T[i]? = some x := ⟨_, List.getElem?_eq_getElem (by have := HL.out; omega)⟩
                have HX := hide (ints_get hx)
                have hdc := drop_cons hx
                have hbt' : Fair.betw (-1 - (k : Int)) (-1 - (((k + 1) % stay : Nat) : Int)) m (x :: T.drop (i + 1)) = true := by rw [← hdc]; exact hbt.out hst
                clear hx hdc
                simp only [Fair.betw, Bool.and_eq_true, decide_eq_true_eq] at hbt'
                rw [← HO.out] at hbt'
                by_cases hx2 : x = -1 - ((k : Int) + 1) % (stay : Int)
                · have e2 : (x == -1 - ((k : Int) + 1) % (stay : Int)) = true := by simp [hx2]
                  rw [if_pos hx2] at hbt'
                  by_cases hx1 : x = -1 - (k : Int)
                  · have e1 : (x == -1 - (k : Int)) = true := by simp [hx1]
                    rw [if_pos hx1] at hbt'
                    have HP := hide hbt'.2
                    clear hbt' hx1 hx2
                    go_wp2_with ((with_reducible refine at_index rfl ?_); refine wpList_at1 rfl rfl _ _ 28 3 _ rfl rfl rfl (by simp) Try.underlying28 size_int agg_int rfl HR.out rfl (by omega) (by omega) HX.out ?_; intro p)
                    go_round
                    case rel => exact ⟨i + 1, 1, by omega, by omega, by go_num, by go_num, fun _ => by rw [← HO.out]; exact HP.out⟩
                    case measure => simp [intOf]; omega
                  · have e1 : (x == -1 - (k : Int)) = false := by simpa using hx1
                    rw [if_neg hx1] at hbt'
                    have HP := hide hbt'.2
                    clear hbt' hx1 hx2
                    go_wp2_with ((with_reducible refine at_index rfl ?_); refine wpList_at1 rfl rfl _ _ 28 3 _ rfl rfl rfl (by simp) Try.underlying28 size_int agg_int rfl HR.out rfl (by omega) (by omega) HX.out ?_; intro p)
                    go_round
                    case rel => exact ⟨i + 1, 0, by omega, by omega, by go_num, by go_num, fun _ => by rw [← HO.out]; exact HP.out⟩
                    case measure => simp [intOf]; omega
                · have e2 : (x == -1 - ((k : Int) + 1) % (stay : Int)) = false := by simpa using hx2
                  rw [if_neg hx2] at hbt'
                  by_cases hx1 : x = -1 - (k : Int)
                  · have e1 : (x == -1 - (k : Int)) = true := by simp [hx1]
                    rw [if_pos hx1] at hbt'
                    have HP := hide hbt'.2
                    have hm2 := hbt'.1
                    have hm3 : ¬ (1 : Int) < (m : Int) + 1 := by omega
                    clear hbt' hx1 hx2
                    go_wp2_with ((with_reducible refine at_index rfl ?_); refine wpList_at1 rfl rfl _ _ 28 3 _ rfl rfl rfl (by simp) Try.underlying28 size_int agg_int rfl HR.out rfl (by omega) (by omega) HX.out ?_; intro p)
                    go_round
                    case rel => exact ⟨i + 1, m + 1, by omega, by omega, by go_num, by go_num, fun _ => by rw [← HO.out]; exact HP.out⟩
                    case measure => simp [intOf]; omega
                  · have e1 : (x == -1 - (k : Int)) = false := by simpa using hx1
                    rw [if_neg hx1] at hbt'
                    have HP := hide hbt'.2
                    have hm3 : ¬ (1 : Int) < (m : Int) := by omega
                    clear hbt' hx1 hx2
                    go_wp2_with ((with_reducible refine at_index rfl ?_); refine wpList_at1 rfl rfl _ _ 28 3 _ rfl rfl rfl (by simp) Try.underlying28 size_int agg_int rfl HR.out rfl (by omega) (by omega) HX.out ?_; intro p)
                    go_round
                    case rel => exact ⟨i + 1, m, by omega, by omega, by go_num, by go_num, fun _ => by rw [← HO.out]; exact HP.out⟩
                    case measure => simp [intOf]; omega
              · go_wp2
                go_round
                case rel => exact ⟨k + 1, by omega, by go_num⟩
                case measure => simp [intOf]; omega
            · go_wp2
              go_round
              case rel => exact ⟨k + 1, by omega, by go_num⟩
              case measure => simp [intOf]; omega
    · go_wp2
      go_ret
      exact ⟨rfl, rfl⟩
end Go.Proofs.Ytjajnejijaoblaa
