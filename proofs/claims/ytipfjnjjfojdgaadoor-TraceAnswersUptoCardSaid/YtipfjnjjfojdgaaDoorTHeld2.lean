import Derived.Test.YtipfjnjjfojdgaaDoorTHeld
/- A drawn region walked by its laws: more may be asked of the world from here on. -/
namespace Go.Cu
open Go Go.RowKit
section
variable {P : Program} {ops : Array Oper} {Q : Exit → Act → World → Prop} {md : Region.Mode} {S S' : World → Prop}
theorem wpAnyH_more (h : ∀ w, S' w → S w) : ∀ (fuel : Nat) (listed : Array Bool) (a : Act) (w : World), wpAnyH P md ops Q S' fuel listed a w → wpAnyH P md ops Q S fuel listed a w
  | 0, _, _, _, h1 => h1
  | fuel + 1, _, _, _, h1 => ⟨h1.1, fun i hi => wpOp_mono (fun a' w' h' => ⟨h w' h'.1, wpAnyH_more h fuel _ a' w' h'.2⟩) (h1.2 i hi)⟩
end
end Go.Cu
