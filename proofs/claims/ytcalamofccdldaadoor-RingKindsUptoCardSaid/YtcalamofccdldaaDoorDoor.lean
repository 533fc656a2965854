import Derived.Test.YtcalamofccdldaaDoorRows
import Derived.WalkKit
import Derived.ProofKit
import Derived.OpenShut
import Derived.Deep.DeepHandedRow
import Derived.Stop.LaidErr
/- What the rows list of api.ErrRange; a world that holds it. -/
namespace Go.Proofs.YtcalamofccdldaaDoor.door
open Go Go.RowKit Go.ChangeShapes Go.WideShapes

theorem own : ownKnob Tryd.prog.godebug = none := by kernel_rfl
theorem laidOut : laidOutB Tryd.prog = true := by kernel_rfl
theorem gE : Tryd.prog.globalNamed "culvert/api.ErrRange" = some 0 := by kernel_rfl
theorem gET : (Tryd.prog.globals[0]?).map (·.type) = some 26 := by kernel_rfl
theorem cells152 : Tryd.prog.cellsOf 152 = 1 := by kernel_rfl
theorem cells9 : Tryd.prog.cellsOf 9 = 1 := by kernel_rfl
theorem star : "*" ++ "errors.errorString" = "*errors.errorString" := by decide
theorem row127 (u : TypeId) (h : Tryd.prog.typeName? 3 u = some "*errors.errorString") : u = 127 :=
  typeName_ptr_named (nm := "errors.errorString") (by rw [star]; kernel_rfl) (by kernel_rfl) (by decide) u (by rw [star]; exact h)

abbrev textE : ByteArray := { data := #[99, 117, 108, 118, 101, 114, 116, 58, 32, 97, 32, 110, 117, 109, 98, 101, 114, 32, 111, 117, 116, 115, 105, 100, 101, 32, 105, 116, 115, 32, 114, 97, 110, 103, 101] }
noncomputable def low : Nat := (World.holding Tryd.prog default ⟨#[], #[], []⟩).heap.size
/-- The settled world, api.ErrRange as its initialiser lays it. -/
noncomputable def laidWorld (os : Os) : World :=
  let w0 := World.holding Tryd.prog os ⟨#[.cells #[.string textE] 152], #[], []⟩
  { w0 with heap := w0.heap.modify 0 fun
      | .cells _ t frozen => .cells #[.iface 127 (.pointer (some ⟨low, 0, none⟩))] t frozen
      | o => o }
theorem laid_range (os : Os) (args : Array Value) : laidMet Tryd.prog [("culvert/api.ErrRange", Rows.laid_culvert_api_ErrRange)] ((laidWorld os).forCall (fun _ _ => 0) ⟨#[], args, []⟩).memory :=
  laidMet_of_run (ps := [.cell 0 0, .cell low 0]) 8 (by kernel_rfl) (by kernel_rfl) (by kernel_rfl)
theorem errRange {r : List (String × DataW Unit)} {W : World} (h : laidMet Tryd.prog (("culvert/api.ErrRange", Rows.laid_culvert_api_ErrRange) :: r) W) : ∃ u x, W.cell? ⟨0, 0, none⟩ = some (.iface u x) := by
  obtain ⟨a, s, hv, _⟩ := laid_sentinel h gE gET Tryd.underlying26 row127 Tryd.underlying127 Tryd.underlying152 rfl rfl Tryd.underlying9 cells152 cells9
  exact ⟨_, _, by simpa using World.var?_cell gE hv 0⟩
end Go.Proofs.YtcalamofccdldaaDoor.door
