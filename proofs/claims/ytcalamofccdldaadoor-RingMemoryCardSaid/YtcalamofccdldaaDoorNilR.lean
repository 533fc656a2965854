import Derived.Test.YtcalamofccdldaaDoorRFix
import Derived.Test.YtcalamofccdldaaDoorFlowW
/- Rings of numbers, or none. -/
namespace Go.Proofs.YtcalamofccdldaaDoor.RI
open Go Go.RowKit Go.Cu Go.Proofs.YtcalamofccdldaaDoor

theorem len_nil (w : World) : Calls Tryd.prog 28 #[.pointer none] w fun e w' => e = .returned (.int .i64 0) ∧ w = w' := by
  go_enter Tryd.func28, Tryd.ntmps28
  go_wp2
  go_ret
  exact ⟨rfl, rfl⟩
theorem cap_nil (w : World) : Calls Tryd.prog 22 #[.pointer none] w fun e w' => e = .returned (.int .i64 0) ∧ w = w' := by
  go_enter Tryd.func22, Tryd.ntmps22
  go_wp2
  go_ret
  exact ⟨rfl, rfl⟩
theorem free_nil (w : World) : Calls Tryd.prog 21 #[.pointer none] w fun e w' => e = .returned (.int .i64 0) ∧ w = w' := by
  go_enter Tryd.func21, Tryd.ntmps21
  go_wp2_with (first
    | (go_at_call 22; refine (cap_nil _).mono ?_; rintro e w' ⟨rfl, rfl⟩)
    | (go_at_call 28; refine (len_nil _).mono ?_; rintro e w' ⟨rfl, rfl⟩))
  go_ret
  exact ⟨rfl, rfl⟩
theorem peek_nil (w : World) (n : Int) : Calls Tryd.prog 19 #[.pointer none, .int .i64 n] w fun e w' => e = .returned (.slice none 0 0) ∧ w = w' := by
  rcases (by omega : n < 0 ∨ n = 0 ∨ (¬ n < 0 ∧ 0 < n)) with h | rfl | ⟨h1, h2⟩
  all_goals
    go_enter Tryd.func19, Tryd.ntmps19
    go_wp2_with (go_at_call 28; refine (len_nil _).mono ?_; rintro e w' ⟨rfl, rfl⟩)
    go_ret
    exact ⟨rfl, rfl⟩
theorem drop_nil (w : World) (n : Int) : Calls Tryd.prog 26 #[.pointer none, .int .i64 n] w fun e w' => e = .returned (.int .i64 0) ∧ w = w' := by
  rcases (by omega : n < 0 ∨ n = 0 ∨ (¬ n < 0 ∧ 0 < n)) with h | rfl | ⟨h1, h2⟩
  all_goals
    go_enter Tryd.func26, Tryd.ntmps26
    go_wp2_with (go_at_call 28; refine (len_nil _).mono ?_; rintro e w' ⟨rfl, rfl⟩)
    go_ret
    exact ⟨rfl, rfl⟩
theorem pop_nil (w : World) (n : Int) : Calls Tryd.prog 25 #[.pointer none, .int .i64 n] w fun e w' => e = .returned (.slice none 0 0) ∧ w = w' := by
  go_enter Tryd.func25, Tryd.ntmps25
  go_wp2_with (first
    | (go_at_call 19; refine (peek_nil _ n).mono ?_; rintro e w' ⟨rfl, rfl⟩)
    | (go_at_call 26; refine (drop_nil _ n).mono ?_; rintro e w' ⟨rfl, rfl⟩))
  go_ret
  exact ⟨rfl, rfl⟩
theorem clear_nil (w : World) : Calls Tryd.prog 27 #[.pointer none] w fun e w' => e = .returned (.int .i64 0) ∧ w = w' := by
  go_enter Tryd.func27, Tryd.ntmps27
  go_wp2_with (first
    | (go_at_call 28; refine (len_nil _).mono ?_; rintro e w' ⟨rfl, rfl⟩)
    | (go_at_call 26; refine (drop_nil _ _).mono ?_; rintro e w' ⟨rfl, rfl⟩))
  go_ret
  exact ⟨rfl, rfl⟩
theorem at_nil (w : World) (i : Int) : Calls Tryd.prog 20 #[.pointer none, .int .i64 i] w fun e w' => e = .returned (.tuple #[.int .i64 0, .bool false]) ∧ w = w' := by
  rcases (by omega : i < 0 ∨ (¬ i < 0 ∧ 0 ≤ i)) with h | ⟨h1, h2⟩
  all_goals
    go_enter Tryd.func20, Tryd.ntmps20
    go_wp2_with (go_at_call 28; refine (len_nil _).mono ?_; rintro e w' ⟨rfl, rfl⟩)
    go_ret2
    exact ⟨rfl, rfl⟩
theorem push_nil (w : World) (B : Option Addr) (n c : Nat) : Calls Tryd.prog 23 #[.pointer none, .slice B n c] w fun e w' => e = .returned (.int .i64 0) ∧ w = w' := by
  rcases (by omega : n = 0 ∨ 0 < n) with rfl | h
  · go_enter Tryd.func23, Tryd.ntmps23
    go_wp2_with (go_at_call 21; refine (free_nil _).mono ?_; rintro e w' ⟨rfl, rfl⟩)
    go_ret
    exact ⟨rfl, rfl⟩
  · have h2 : (0 : Int) < (n : Int) := by omega
    go_enter Tryd.func23, Tryd.ntmps23
    go_wp2_with (go_at_call 21; refine (free_nil _).mono ?_; rintro e w' ⟨rfl, rfl⟩)
    go_ret
    exact ⟨rfl, rfl⟩

/-- A ring, or none. -/
def RN (w : World) (F : Nat → Prop) (p : Value) (cap : Nat) (L : List Int) : Prop :=
  (∃ b, p = .pointer (some ⟨b, 0, none⟩) ∧ Ring w F b cap (ints L) 0) ∨ (p = .pointer none ∧ cap = 0 ∧ L = [] ∧ ∀ k, ¬ F k)
section
variable {w w' : World} {F G : Nat → Prop} {p : Value} {cap : Nat} {L : List Int}
theorem RN.lt (h : RN w F p cap L) : ∀ k, F k → k < w.heap.size := by
  rcases h with ⟨b, rfl, h⟩ | ⟨rfl, rfl, rfl, hF⟩
  · exact h.lt
  · exact fun k hk => absurd hk (hF k)
theorem RN.kept (h : RN w F p cap L) (hm : Mod G w w') (hn : ∀ k, F k → ¬ G k) : RN w' F p cap L := by
  rcases h with ⟨b, rfl, h⟩ | h
  · exact .inl ⟨b, rfl, h.kept hm hn⟩
  · exact .inr h
theorem RN.below (h : RN w F p cap L) (hb : Below w.heap.size w w') : RN w' F p cap L := h.kept (Mod.ofBelow hb (fun _ => False)) (fun _ _ h => h)
theorem RN.fits (h : RN w F p cap L) : L.length ≤ cap ∧ cap ≤ 2147483647 := by
  rcases h with ⟨b, rfl, h⟩ | ⟨rfl, rfl, rfl, hF⟩
  · have := h.fits; rwa [ints_length] at this
  · exact ⟨Nat.le_refl _, Nat.zero_le _⟩
theorem RN.ptr (h : RN w F p cap L) : ∃ a, p = .pointer a := by
  rcases h with ⟨b, rfl, h⟩ | ⟨rfl, _⟩
  · exact ⟨_, rfl⟩
  · exact ⟨_, rfl⟩
theorem len_n (h : RN w F p cap L) : Calls Tryd.prog 28 #[p] w fun e w' => e = .returned (.int .i64 L.length) ∧ w = w' := by
  rcases h with ⟨b, rfl, h⟩ | ⟨rfl, rfl, rfl, hF⟩
  · have := len_any w F b cap _ 0 h; rwa [ints_length] at this
  · exact len_nil w
theorem cap_n (h : RN w F p cap L) : Calls Tryd.prog 22 #[p] w fun e w' => e = .returned (.int .i64 cap) ∧ w = w' := by
  rcases h with ⟨b, rfl, h⟩ | ⟨rfl, rfl, rfl, hF⟩
  · exact cap_any w F b cap _ 0 h
  · exact cap_nil w
theorem free_n (h : RN w F p cap L) (fr : Nat) (hf : cap - L.length = fr) : Calls Tryd.prog 21 #[p] w fun e w' => e = .returned (.int .i64 fr) ∧ w = w' := by
  rcases h with ⟨b, rfl, h⟩ | ⟨rfl, rfl, rfl, hF⟩
  · exact free_eq w F b cap _ 0 fr h (by rw [ints_length]; exact hf)
  · simp at hf; subst hf; exact free_nil w
theorem peek_n (h : RN w F p cap L) (n : Int) (k : Nat) (hk : min n.toNat L.length = k) :
    Calls Tryd.prog 19 #[p, .int .i64 n] w fun e w' => ∃ A c, e = .returned (.slice A k c) ∧ Row w' (New w) 3 1 (.slice A k c) k (ints (L.take k)) ∧ Below w.heap.size w w' := by
  rcases h with ⟨b, rfl, h⟩ | ⟨rfl, rfl, rfl, hF⟩
  · have := peek_any w F b cap _ 0 n k h (by rw [ints_length]; exact hk); rwa [ints_take] at this
  · simp at hk
    subst hk
    refine (peek_nil w n).mono ?_
    rintro e w' ⟨rfl, rfl⟩
    exact ⟨none, 0, rfl, Row.nil _ _ _ _, Below.refl _ _⟩
theorem drop_n (h : RN w F p cap L) (n : Int) (k : Nat) (hk : min n.toNat L.length = k) :
    Calls Tryd.prog 26 #[p, .int .i64 n] w fun e w' => e = .returned (.int .i64 k) ∧ RN w' F p cap (L.drop k) ∧ Mod F w w' := by
  rcases h with ⟨b, rfl, h⟩ | ⟨rfl, rfl, rfl, hF⟩
  · refine (drop_any w F b cap _ 0 n k h (by rw [ints_length]; exact hk)).mono ?_
    rintro e w' ⟨rfl, hr, hm⟩
    rw [ints_drop] at hr
    exact ⟨rfl, .inl ⟨b, rfl, hr⟩, hm⟩
  · simp at hk
    subst hk
    refine (drop_nil w n).mono ?_
    rintro e w' ⟨rfl, rfl⟩
    exact ⟨rfl, .inr ⟨rfl, rfl, rfl, hF⟩, Mod.refl _ _⟩
theorem pop_n (h : RN w F p cap L) (n : Int) (k : Nat) (hk : min n.toNat L.length = k) :
    Calls Tryd.prog 25 #[p, .int .i64 n] w fun e w' => ∃ A c, e = .returned (.slice A k c) ∧ Row w' (New w) 3 1 (.slice A k c) k (ints (L.take k)) ∧ RN w' F p cap (L.drop k) ∧ Mod F w w' := by
  rcases h with ⟨b, rfl, h⟩ | ⟨rfl, rfl, rfl, hF⟩
  · refine (pop_any w F b cap _ 0 n k h (by rw [ints_length]; exact hk)).mono ?_
    rintro e w' ⟨A, c, rfl, hrow, hr, hm⟩
    rw [ints_take] at hrow
    rw [ints_drop] at hr
    exact ⟨A, c, rfl, hrow, .inl ⟨b, rfl, hr⟩, hm⟩
  · simp at hk
    subst hk
    refine (pop_nil w n).mono ?_
    rintro e w' ⟨rfl, rfl⟩
    exact ⟨none, 0, rfl, Row.nil _ _ _ _, .inr ⟨rfl, rfl, rfl, hF⟩, Mod.refl _ _⟩
theorem clear_n (h : RN w F p cap L) : Calls Tryd.prog 27 #[p] w fun e w' => e = .returned (.int .i64 L.length) ∧ RN w' F p cap [] ∧ Mod F w w' := by
  rcases h with ⟨b, rfl, h⟩ | ⟨rfl, rfl, rfl, hF⟩
  · refine (clear_any w F b cap _ 0 h).mono ?_
    rintro e w' ⟨rfl, hr, hm⟩
    rw [ints_length]
    exact ⟨rfl, .inl ⟨b, rfl, hr⟩, hm⟩
  · refine (clear_nil w).mono ?_
    rintro e w' ⟨rfl, rfl⟩
    exact ⟨rfl, .inr ⟨rfl, rfl, rfl, hF⟩, Mod.refl _ _⟩
theorem push_n (h : RN w F p cap L) {B : Option Addr} {n c : Nat} {xs : List Int} (hx : RdOut w F (.slice B n c) n (ints xs)) (hnc : n ≤ c) (k : Nat) (hk : min n (cap - L.length) = k) :
    Calls Tryd.prog 23 #[p, .slice B n c] w fun e w' => e = .returned (.int .i64 k) ∧ RN w' (Wide F w w') p cap (L ++ xs.take k) ∧ Mod F w w' := by
  rcases h with ⟨b, rfl, h⟩ | ⟨rfl, rfl, rfl, hF⟩
  · refine (push_any w F b cap _ 0 B n c _ k h hx hnc (ints_one _) (by rw [ints_length]; exact hk)).mono ?_
    rintro e w' ⟨rfl, hr, hm⟩
    rw [ints_take, ints_append] at hr
    exact ⟨rfl, .inl ⟨b, rfl, hr⟩, hm⟩
  · simp at hk
    subst hk
    refine (push_nil w B n c).mono ?_
    rintro e w' ⟨rfl, rfl⟩
    exact ⟨rfl, .inr ⟨rfl, rfl, by simp, fun k hk => by rcases hk with hk | hk; exact hF k hk; omega⟩, Mod.refl _ _⟩
/-- At, in it or not: what both say -/
theorem at_n (h : RN w F p cap L) (i : Int) (x : Int) (ok : Bool) (hx : (∃ j : Nat, i = j ∧ L[j]? = some x ∧ ok = true) ∨ ((i < 0 ∨ (L.length : Int) ≤ i) ∧ x = 0 ∧ ok = false)) :
    Calls Tryd.prog 20 #[p, .int .i64 i] w fun e w' => e = .returned (.tuple #[.int .i64 x, .bool ok]) ∧ Below w.heap.size w w' := by
  rcases h with ⟨b, rfl, h⟩ | ⟨rfl, rfl, rfl, hF⟩
  · rcases hx with ⟨j, rfl, hj, rfl⟩ | ⟨hi, rfl, rfl⟩
    · exact at_in w F b cap _ 0 j _ h (ints_get hj)
    · exact at_out w F b cap _ 0 i h (by rw [ints_length]; exact hi)
  · rcases hx with ⟨j, rfl, hj, rfl⟩ | ⟨hi, rfl, rfl⟩
    · simp at hj
    · refine (at_nil w i).mono ?_
      rintro e w' ⟨rfl, rfl⟩
      exact ⟨rfl, Below.refl _ _⟩
end
end Go.Proofs.YtcalamofccdldaaDoor.RI
