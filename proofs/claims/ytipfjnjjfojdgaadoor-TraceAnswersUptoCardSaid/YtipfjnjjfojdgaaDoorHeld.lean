import Derived.Test.YtipfjnjjfojdgaaDoorLib
import Derived.Deep.RegionHeld3
/- A region that draws its order, walked by its laws (where go_region_held3 logs that a load was not taken first). -/
namespace Go.Cu
open Go Go.RowKit
section
variable {P : Program} {ops : Array Oper} {Q : Exit → Act → World → Prop} {md : Region.Mode} {S : World → Prop}
/-- An operation that yields its value in every world that meets S. -/
theorem wpAnyH_yields {i : Nat} {oi : Oper} {v : Value} {fuel : Nat} {listed : Array Bool} {a : Act} {w : World} (hi : ops[i]? = some oi)
    (hs : Region.noSelect ops = true) (hf : Region.free md ops listed i = true) (hr : (Region.ready md ops listed).contains i = true) (hS : S w)
    (hw : Region.wanted oi (yielded ops a.tmps) = true) (hy : ∀ w, S w → (execOp a.eval oi).run P w = .ok (.value v) w) (hQ : ∀ c a w, Q (.panic c) (a.put oi.dst v) w → Q (.panic c) a w)
    (h : wpAnyH P md ops Q S fuel (listed.setIfInBounds i true) (a.put oi.dst v) w) : wpAnyH P md ops Q S (fuel + 1) listed a w :=
  wpAnyH_take hi hs hf hr hQ (Or.inl ⟨hw, hy⟩) hS h
/-- The beginning, the number of operations and what has come up written out. -/
theorem wp_region_held_n {id n : Nat} {l : Array Bool} {a : Act} {w : World} (hn : ops.size = n) (hl : Array.replicate n false = l) (hm : P.follows .mixedOrders = true) (hS : S w.drew)
    (h : wpAnyH P .any ops Q S n l a w.drew) : (Code.region id ops true).wp P Q a w := by
  subst hn
  subst hl
  exact wp_region_held_drew hm hS (fun _ => h)
end
end Go.Cu
