import Derived.Test.YtccojgaahoonhaaDoorPCR
/- Nil pings. -/
namespace Go.Proofs.YtccojgaahoonhaaDoor
open Go Go.RowKit Go.Cu Go.Proofs.YtccojgaahoonhaaDoor.errs
theorem ask_nil (w : World) (ev : Value) (hE : w.cell? ⟨1, 0, none⟩ = some ev) : Calls Tryd.prog 9 #[.pointer none] w fun e w' => e = .returned (.tuple #[.int .u32 0, ev]) ∧ Below w.heap.size w w' := by
  go_enter Tryd.func9, Tryd.ntmps9
  go_wp2
  go_quiet (fail)
  go_wp2
  go_ret2
  exact ⟨rfl, dn_below w _⟩
theorem heard_nil (w : World) (t : Int) (ev : Value) (hE : w.cell? ⟨1, 0, none⟩ = some ev) : Calls Tryd.prog 10 #[.pointer none, .int .u32 t] w fun e w' => e = .returned ev ∧ w = w' := by
  go_enter Tryd.func10, Tryd.ntmps10
  go_wp2
  go_ret
  exact ⟨rfl, rfl⟩
theorem answered_nil (w : World) : Calls Tryd.prog 11 #[.pointer none] w fun e w' => e = .returned (.slice none 0 0) ∧ w = w' := by
  go_enter Tryd.func11, Tryd.ntmps11
  go_wp2
  go_ret
  exact ⟨rfl, rfl⟩
theorem waiting_nil (w : World) : Calls Tryd.prog 13 #[.pointer none] w fun e w' => e = .returned (.slice none 0 0) ∧ Below w.heap.size w w' := by
  go_enter Tryd.func13, Tryd.ntmps13
  go_wp2
  go_ret
  exact ⟨rfl, (Below.refl _ _).alloc (Nat.le_refl _) _⟩
theorem owed_nil (w : World) : Calls Tryd.prog 17 #[.pointer none] w fun e w' => e = .returned (.int .i64 0) ∧ w = w' := by
  go_enter Tryd.func17, Tryd.ntmps17
  go_wp2
  go_ret
  exact ⟨rfl, rfl⟩
theorem replied_nil (w : World) : Calls Tryd.prog 18 #[.pointer none] w fun e w' => e = .returned (.tuple #[.int .u32 0, .bool false]) ∧ w = w' := by
  go_enter Tryd.func18, Tryd.ntmps18
  go_wp2
  go_ret2
  exact ⟨rfl, rfl⟩
theorem asked_nil (w : World) (t : Int) (ev : Value) (hE : w.cell? ⟨1, 0, none⟩ = some ev) : Calls Tryd.prog 19 #[.pointer none, .int .u32 t] w fun e w' => e = .returned ev ∧ w = w' := by
  go_enter Tryd.func19, Tryd.ntmps19
  go_wp2
  go_ret
  exact ⟨rfl, rfl⟩
end Go.Proofs.YtccojgaahoonhaaDoor
