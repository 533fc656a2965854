import Derived.Test.YtipfjnjjfojdgaaDoorTLine
import Derived.Test.YtipfjnjjfojdgaaDoorErrDoor
import Derived.Lib.LaidTab
/- A world that holds what the rows list: the sentinels and the library's tables. -/
namespace Go.Proofs.YtipfjnjjfojdgaaDoor.tdoor
open Go Go.RowKit Go.Cu Go.ChangeShapes Go.WideShapes

theorem own : ownKnob Tryd.prog.godebug = none := errdoor.own
theorem laidOut : laidOutB Tryd.prog = true := errdoor.laidOut
def litOf : DataW Unit → Value
  | .lit (.int k z) => .int k z
  | _ => undef
def tabOf : DataW Unit → Array Value
  | .agg l => (l.map litOf).toArray
  | _ => #[]
def put (d : DataW Unit) : Obj → Obj
  | .cells _ t frozen => .cells (tabOf d) t frozen
  | o => o
/-- The settled world, the sentinels and the library's tables as their initialisers lay them. -/
noncomputable def laidWorld (l : List (String × DataW Unit)) (os : Os) : World :=
  let w0 := errdoor.laidWorld (l.drop 3) os
  { w0 with heap := ((w0.heap.modify 42 (put Rows.laid_internal_strconv_uint64pow10)).modify 43 (put Rows.laid_math_bits_deBruijn32tab)).modify 44 (put Rows.laid_math_bits_deBruijn64tab) }
theorem pow_is : (Rows.laid_internal_strconv_uint64pow10 : DataW Unit) = Lib.tabData .u64 Lib.pow10Tab := by rfl
theorem tab {r : List (String × DataW Unit)} {W : World} (h : laidMet Tryd.prog (("internal/strconv.uint64pow10", Rows.laid_internal_strconv_uint64pow10) :: r) W) : Tab W := by
  rw [pow_is] at h
  exact Lib.tabIs_of_head gTab (by kernel_rfl) Tryd.underlying139 Tryd.underlying126 (by kernel_rfl) (by kernel_rfl) h
end Go.Proofs.YtipfjnjjfojdgaaDoor.tdoor
