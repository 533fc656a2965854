import Derived.Test.YtcalamofccdldaaDoorAppTwo
/- append into the room behind, as one step of a region that draws its order. -/
namespace Go.Cu
open Go Go.RowKit
section
variable {P : Program} {ops : Array Oper} {o : Oper} {a : Act} {w : World} {K : Act → World → Prop} {Q : Exit → Act → World → Prop} {E : Prop}
theorem step_append_here (hg : o.guard = none) (s x : Operand) (t : TypeId) (hop : o.op = .call { callee := .builtin .append, args := #[s, x], argTypes := #[t, t] })
    (e : TypeId) (i : TypeInfo) (sz : Nat) (ht : P.underlying t = some (.slice e)) (hi : P.info? e = some i) (hsize : i.size = sz)
    {F : Nat → Prop} {A : Option Addr} {n c : Nat} {xs : List Value} (hs : a.eval s = .slice A n c) (h : Row w F e sz (.slice A n c) n xs) {xv : Value} {m : Nat} {news : List Value} (hxv : a.eval x = xv) (hx : Reads w sz xv m news) (h1 : ∀ u ∈ news, u.oneCell' = true) (hroom : n + m ≤ c)
    (hK : ∀ w', Row w' F e sz (.slice A (n + m) c) (n + m) (xs ++ news) → Mod F w w' → K (a.put o.dst (.slice A (n + m) c)) w') :
    if Region.wanted o (yielded ops a.tmps) = true then Oper.wp P o a w K Q else E := by
  have hw : Region.wanted o (yielded ops a.tmps) = true := by simp [Region.wanted, hg]
  rw [if_pos hw]
  obtain ⟨w', hr, h2, h3⟩ := run_append_row_room (P := P) w t o.type e i sz ht hi hsize h hx h1 hroom
  unfold Oper.wp
  simp [execOp, hop, resolve, invoke, builtin, hs, hxv, hr, Result.andThen]
  exact hK w' h2 h3
end
end Go.Cu
