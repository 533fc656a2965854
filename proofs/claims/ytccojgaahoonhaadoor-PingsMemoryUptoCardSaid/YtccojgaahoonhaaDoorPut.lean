import Derived.Test.YtccojgaahoonhaaDoorLib
/- 'x[i] = v', the elements of one cell: index and store in one step. -/
namespace Go.Cu
open Go Go.RowKit
section
variable {P : Program} {w : World} {ops : Array Oper} {rest : List Oper} {o o2 : Oper} {a : Act} {Q : Exit → Act → World → Prop}
theorem wpList_put1 (hg : o.guard = none) (hg2 : o2.guard = none) (x ix y : Operand) (t e : TypeId) (d : Tmp) (ho : o.op = .indexAddr t x ix) (hd : o.dst = some d) (ho2 : o2.op = .store e (.tmp d) y) (hd2 : o2.dst = none) (hdl : d < a.tmps.size)
    (ht : P.underlying t = some (.slice e)) (hsz : (P.info? e).map (·.size) = some 1)
    {F : Nat → Prop} {A : Option Addr} {n c : Nat} {xs : List Value} (hv : a.eval x = .slice A n c) (h : Row w F e 1 (.slice A n c) n xs) {q : IntKind} {j : Int} (hj : a.eval ix = .int q j) (h0 : 0 ≤ j) (hn : j < (n : Int)) {u : Value} (hy : ∀ p, (a.put (some d) p).eval y = u) (h1 : u.oneCell' = true)
    (hK : ∀ p w', Row w' F e 1 (.slice A n c) n (xs.set j.toNat u) → Mod F w w' → wpList P ops Q rest (a.put (some d) p) w') : wpList P ops Q (o :: o2 :: rest) a w := by
  have hl := h.1
  refine wpList_index_row hg x ix t e ho ht hsz hv h hj h0 hn fun b off c' hA hF _ hc hf => ?_
  rw [hd]
  injection hA with hA _ hcc
  have hlt : j.toNat < xs.length := by omega
  have hcell := hc _ _ (List.getElem?_eq_getElem hlt)
  have he := eval_put a d (.pointer (some ⟨b, off + j.toNat * 1, none⟩)) hdl
  have hset := h.set (b := b) (o := off) hA (j := j.toNat) (by omega) u
  rw [Nat.mul_one] at he ⊢
  refine wpList_runU hg2 (w' := w.setCell ⟨b, off + j.toNat, none⟩ u) ?_ ?_
  · cases hq : P.info? e with
    | none => simp [hq] at hsz
    | some i =>
      have hi : i.size = 1 := by simpa [hq] using hsz
      have hu : u.cells = #[u] := by cases u <;> first | rfl | cases h1
      simp [execOp, ho2, he, hy, Instr.storeAt, Instr.sureAddr, storeVar, sizeOf, typeInfo, hq, hi, hu, storeCells, run_store _ _ _ _ _ h1, add_plain, hcell, hf]
  · rw [hd2]
    exact hK _ _ hset ((Mod.refl F w).setCell (p := ⟨b, off + j.toNat, none⟩) (fun _ => hF) u)
end
end Go.Cu
