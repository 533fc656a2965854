import Derived.Test.YtipbaffhlekpfaaDoorFifS
/- A nil queue. -/
namespace Go.Proofs.YtipbaffhlekpfaaDoor
open Go Go.RowKit Go.Cu Go.Proofs.YtipbaffhlekpfaaDoor.errs

section
variable (w : World)
theorem len_nil : Calls Tryd.prog 11 #[.pointer none] w fun e w' => e = .returned (.int .i64 0) ∧ w = w' := by
  go_enter Tryd.func11, Tryd.ntmps11
  go_wp2
  go_ret
  exact ⟨rfl, rfl⟩
theorem weight_nil : Calls Tryd.prog 12 #[.pointer none] w fun e w' => e = .returned (.int .i64 0) ∧ w = w' := by
  go_enter Tryd.func12, Tryd.ntmps12
  go_wp2
  go_ret
  exact ⟨rfl, rfl⟩
theorem put_nil (v wt : Int) (ev : Value) (hE : w.cell? ⟨1, 0, none⟩ = some ev) : Calls Tryd.prog 14 #[.pointer none, .int .i64 v, .int .i64 wt] w fun e w' => e = .returned ev ∧ w = w' := by
  go_enter Tryd.func14, Tryd.ntmps14
  go_wp2
  go_ret
  exact ⟨rfl, rfl⟩
theorem head_nil : Calls Tryd.prog 23 #[.pointer none] w fun e w' => e = .returned (.tuple #[.int .i64 0, .int .i64 0, .bool false]) ∧ w = w' := by
  go_enter Tryd.func23, Tryd.ntmps23
  go_wp2_with (go_at_call 11; refine (len_nil _).mono ?_; rintro e w' ⟨rfl, rfl⟩)
  go_returns
  exact ⟨rfl, rfl⟩
theorem get_nil : Calls Tryd.prog 15 #[.pointer none] w fun e w' => e = .returned (.tuple #[.int .i64 0, .int .i64 0, .bool false]) ∧ w = w' := by
  go_enter Tryd.func15, Tryd.ntmps15
  go_wp2_with (go_at_call 23; refine (head_nil _).mono ?_; rintro e w' ⟨rfl, rfl⟩)
  go_returns
  exact ⟨rfl, rfl⟩
theorem remove_nil (f : Value) (hf : f = .nilFunc ∨ ∃ g cs, f = .func (.func g) #[] cs) : Calls Tryd.prog 21 #[.pointer none, f] w fun e w' => e = .returned (.int .i64 0) ∧ w = w' := by
  rcases hf with rfl | ⟨g, cs, rfl⟩
  all_goals
    go_enter Tryd.func21, Tryd.ntmps21
    go_wp2_with (go_at_call 11; refine (len_nil _).mono ?_; rintro e w' ⟨rfl, rfl⟩)
    go_ret
    exact ⟨rfl, rfl⟩
set_option maxRecDepth 10000 in
theorem all_nil : Calls Tryd.prog 20 #[.pointer none] w fun e w' => ∃ p, e = .returned (.func (.func 40) #[] #[.pointer (some ⟨p, 0, none⟩)]) ∧ w'.cell? ⟨p, 0, none⟩ = some (.slice none 0 0) ∧ w.heap.size ≤ p ∧ Below w.heap.size w w' := by
  go_enter Tryd.func20, Tryd.ntmps20
  go_wp2
  go_ret
  exact ⟨w.heap.size, rfl, by simp, Nat.le_refl _, (Below.refl _ _).alloc (Nat.le_refl _) _⟩
/-- a walk over nothing calls nothing -/
theorem over_none (p : Nat) (f : Value) (c : Nat) (A : Option Addr) (hp : w.cell? ⟨p, 0, none⟩ = some (.slice A 0 c)) : Calls Tryd.prog 40 #[f, .pointer (some ⟨p, 0, none⟩)] w fun e w' => e = .returned (.tuple #[]) ∧ w = w' := by
  go_enter Tryd.func40, Tryd.ntmps40
  go_wp2
  go_loopw [7] (fun t wr => t = .int .i64 0 ∧ wr = w) (fun _ _ => 0)
  case atStart => exact ⟨rfl, rfl⟩
  case round =>
    obtain ⟨rfl, rfl⟩ := hrel
    go_wp2
    go_end0
    exact ⟨rfl, rfl⟩
end
end Go.Proofs.YtipbaffhlekpfaaDoor
