import Derived.Test.YtipfjnjjfojdgaaDoorLib
import Derived.RangeFuncNested
import Derived.RangeFuncBound
import Derived.RangeFuncCalls
import Derived.RangeFuncLeaves
import Derived.Shelf.Abstract
import Derived.Shelf.RegionOpen
import Derived.OwnWalkIn
import Derived.TacticsInMore
import Derived.LoopNIn
import Derived.LoopIn
import Derived.RangeFuncBox
/- Steps within a fence (a round of a range over a function): an element of a slice that is read; what a loop over an iterator keeps. -/
namespace Go.Cu
open Go Go.RowKit

section
variable {F : Fence} {n : Nat} {P : Program} {ops : Array Oper} {Q : Exit → Act → World → Prop} {a : Act} {w : World} {rest : List Oper} {o o2 : Oper}
theorem wpListIn_run (hg : o.guard = none) (hnd : ∀ c, o.op ≠ .defer c) (hab : o.about P w a.eval = none) {v : Value} {w' : World} (hrun : (execOp a.eval o).run P w = .ok (.value v) w')
    (h : wpListIn F n P ops Q rest (a.put o.dst v) w') : wpListIn F n P ops Q (o :: rest) a w := by
  refine wpListIn_plain hg fun K hK => ?_
  unfold Oper.wpIn
  refine ⟨fun f hf => (by rw [hab] at hf; cases hf), ?_⟩
  rw [Oper.semAt_plain F _ _ hnd, hrun]
  exact hK _ _ h
theorem wpListIn_index_reads (hg : o.guard = none) (x ix : Operand) (t e : TypeId) (ho : o.op = .indexAddr t x ix) (ht : P.underlying t = some (.slice e)) {sz : Nat} (hsz : (P.info? e).map (·.size) = some sz) (hpos : 0 < sz)
    {v : Value} {n' : Nat} {xs : List Value} (hv : a.eval x = v) (h : Reads w sz v n' xs) {q : IntKind} {j : Int} (hj : a.eval ix = .int q j) (h0 : 0 ≤ j) (hn : j < (n' : Int))
    (hK : ∀ (ad : Addr) c, v = .slice (some ad) n' c → (∀ k u, xs[k]? = some u → w.cell? (ad.add k) = some u) →
      wpListIn F n P ops Q rest (a.put o.dst (.pointer (some (ad.add (j.toNat * sz))))) w) : wpListIn F n P ops Q (o :: rest) a w := by
  obtain ⟨h1, A, c, rfl, h2, h3⟩ := h
  rcases h3 with h3 | ⟨ad, rfl, h4⟩
  · have hp : 0 < n' * sz := Nat.mul_pos (by omega) hpos
    omega
  refine wpListIn_run hg (fun c => by rw [ho]; intro h; cases h) (by simp [Oper.about, ho]) (v := .pointer (some (ad.add (j.toNat * sz)))) (w' := w) ?_ (hK ad c rfl h4)
  cases hq : P.info? e with
  | none => simp [hq] at hsz
  | some i =>
    have hi : i.size = sz := by simpa [hq] using hsz
    simp [execOp, ho, hv, hj, Instr.indexAt, asIntOf, run_underlying ht, h0, hn, sizeOf, typeInfo, hq, hi]
theorem wpListIn_atS (hg : o.guard = none) (hg2 : o2.guard = none) (x ix : Operand) (t e : TypeId) (d : Tmp) (ho : o.op = .indexAddr t x ix) (hd : o.dst = some d) (ho2 : o2.op = .load e (.tmp d)) (hdl : d < a.tmps.size)
    (ht : P.underlying t = some (.slice e)) {sz : Nat} (hpos : 0 < sz) (hsz : (P.info? e).map (·.size) = some sz) (hag : ∀ w, (isAgg e).run P w = .ok true w)
    {v : Value} {n' : Nat} {xs : List Value} (hv : a.eval x = v) (h : Reads w sz v n' xs) {q : IntKind} {j : Int} (hj : a.eval ix = .int q j) (h0 : 0 ≤ j) (hn : j < (n' : Int)) {us : List Value} (hl : us.length = sz) (hu : ∀ i u, us[i]? = some u → xs[j.toNat * sz + i]? = some u)
    (hK : ∀ p, wpListIn F n P ops Q rest ((a.put (some d) p).put o2.dst (.agg us.toArray)) w) : wpListIn F n P ops Q (o :: o2 :: rest) a w := by
  subst hl
  refine wpListIn_index_reads hg x ix t e ho ht hsz hpos hv h hj h0 hn fun ad c _ hc => ?_
  rw [hd]
  refine wpListIn_run hg2 (fun c => by rw [ho2]; intro h; cases h) (by simp [Oper.about, ho2]) (v := .agg us.toArray) (w' := w) ?_ (hK _)
  have hcell := run_loadCells_list (P := P) w (ad.add (j.toNat * us.length)) us (fun i u hi => by
    have hadd : (ad.add (j.toNat * us.length)).add i = ad.add (j.toNat * us.length + i) := by
      unfold Addr.add
      by_cases h1 : j.toNat * us.length = 0 <;> by_cases h2 : i = 0 <;> simp [h1, h2, Nat.add_assoc]
    rw [hadd]
    exact hc _ _ (hu i u hi))
  have he := eval_put a d (.pointer (some (ad.add (j.toNat * us.length)))) hdl
  cases hq : P.info? e with
  | none => simp [hq] at hsz
  | some i =>
    have hi : i.size = us.length := by simpa [hq] using hsz
    simp [execOp, ho2, he, Instr.loadAt, Instr.sureAddr, loadVar, hag, sizeOf, typeInfo, hq, hi, hcell]
theorem in_index {t : TypeId} {x ix : Operand} (_ : o.op = .indexAddr t x ix) (h : wpListIn F n P ops Q (o :: rest) a w) : wpListIn F n P ops Q (o :: rest) a w := h
end

/-- a block of cells lies on where the loop's own blocks are turned -/
theorem heap_kept {W W' : World} {row : Option Nat} {B k : Nat} {o : Obj} (h : W.heap[k]? = some o) (hc : o.isCells = true) (hg : W.grownBy W' row) (hr : ∀ r, row = some r → B ≤ r ∧ ∃ o : Obj, W.heap[r]? = some o ∧ o.isCells = false) : W'.heap[k]? = some o := by
  refine (hg.block k (Array.getElem?_eq_some_iff.1 h).1 (fun e => ?_)).trans h
  obtain ⟨_, o', ho', hc'⟩ := hr k e.symm
  rw [h] at ho'
  cases ho'
  rw [hc] at hc'
  cases hc'
/-- These blocks lie as they lay. -/
def Keep (C : Nat → Prop) (W W' : World) : Prop := W.heap.size ≤ W'.heap.size ∧ ∀ k, C k → k < W.heap.size → W'.heap[k]? = W.heap[k]?
theorem Keep.refl (C : Nat → Prop) (W : World) : Keep C W W := ⟨Nat.le_refl _, fun _ _ _ => rfl⟩
theorem Keep.trans {C : Nat → Prop} {A B D : World} (h : Keep C A B) (k : Keep C B D) : Keep C A D := ⟨Nat.le_trans h.1 k.1, fun i hi hl => (k.2 i hi (Nat.lt_of_lt_of_le hl h.1)).trans (h.2 i hi hl)⟩
theorem Keep.mod {C F : Nat → Prop} {W W' : World} (h : Mod F W W') (hd : ∀ k, C k → ¬ F k) : Keep C W W' := ⟨h.size, fun k hk hl => h.block k hl (hd k hk)⟩
theorem Keep.below {C : Nat → Prop} {W W' : World} (h : Below W.heap.size W W') : Keep C W W' := ⟨h.size, fun k _ hl => h.block k hl⟩
theorem Keep.setCell (C : Nat → Prop) (W : World) (a : Addr) (v : Value) (h : ¬ C a.block) : Keep C W (W.setCell a v) := ⟨by simp [World.setCell], fun k hk _ => Below.heap_setCell _ _ _ _ (fun e => h (e ▸ hk))⟩
theorem Keep.alloc (C : Nat → Prop) (W : World) (o : Obj) : Keep C W (W.alloc o) := ⟨by simp, fun k _ hl => Below.heap_alloc _ _ _ hl⟩
theorem Keep.putObj {C : Nat → Prop} {w : World} (hC : ∀ k, C k → k < w.heap.size) (W : World) (l : Nat) (o o' : Obj) (hl : w.heap.size ≤ l) (_ : W.heap[l]? = some o) (_ : o.isCells = false) (_ : o.isWalk = false) : Keep C W (W.putObj l o') :=
  ⟨by simp, fun k hk _ => World.putObj_heap_other (fun e => by have := hC k hk; omega)⟩
theorem Keep.cell {C : Nat → Prop} {W W' : World} (h : Keep C W W') {p : Addr} {v : Value} (hc : W.cell? p = some v) (hp : C p.block) : W'.cell? p = some v :=
  (World.cell?_of_block (w := W) (h.2 p.block hp (World.block_lt_of_cell? W p hc))).trans hc
theorem Keep.reads {C : Nat → Prop} {W W' : World} (h : Keep C W W') {sz n : Nat} {v : Value} {xs : List Value} (hr : Reads W sz v n xs) (hC : ∀ ad n c, v = .slice (some ad) n c → C ad.block) : Reads W' sz v n xs := by
  obtain ⟨h1, A, c, rfl, h2, h3⟩ := hr
  refine ⟨h1, A, c, rfl, h2, h3.imp id ?_⟩
  rintro ⟨ad, rfl, h4⟩
  exact ⟨ad, rfl, fun j u hj => h.cell (h4 j u hj) (by have := hC ad n c rfl; unfold Addr.add; split <;> exact this)⟩
end Go.Cu
