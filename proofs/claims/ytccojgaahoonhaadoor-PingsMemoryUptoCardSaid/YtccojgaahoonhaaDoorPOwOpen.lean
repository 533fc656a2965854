import Derived.Test.YtccojgaahoonhaaDoorPOps
/- PingsOwed: openers with their room; the walk whatever the most. -/
namespace Go.Cu
open Go Go.RowKit Go.ChangeShapes Go.WideShapes Go.Deep Go.Proofs.YtccojgaahoonhaaDoor
section
variable {H : Type} {enc : TypeId × Value → H} {P : Program} {W : World} {base : Nat} {sp : Nat → Bool} {held : Bool}
theorem list_room {t e : TypeId} {a0 : Option Addr} {len cap : Nat} {d : DataW H} {p : List MemPlace} (ht : P.underlying t = some (.slice e)) (hc : P.cellsOf e = 1)
    (h : DataW.Trod enc P W base sp held t (.slice a0 len cap) d p) {k B : Nat} (hsz : ∀ elems spare, d = .slice elems spare → (elems.length + spare.length) * k ≤ B) : len * k ≤ B := by
  obtain ⟨fuel, hf⟩ := h
  rcases open_slice1 ht hc hf with ⟨hcs, hx⟩ | ⟨a, len', cap', m, n, V, D, Pl, hcs, _, hl, hm, hmm, hx, hi⟩
  · simp [Value.cells] at hcs
    obtain ⟨rfl, rfl, rfl⟩ := hcs
    omega
  · simp [Value.cells] at hcs
    obtain ⟨rfl, rfl, rfl⟩ := hcs
    simp only [Prod.mk.injEq] at hx
    have hroom := hsz _ _ hx.1
    simp only [List.length_map, List.length_range] at hroom
    exact Nat.le_trans (Nat.mul_le_mul_right k (Nat.le_add_right _ _)) hroom
end
end Go.Cu
namespace Go.Proofs.YtccojgaahoonhaaDoor
open Go Go.RowKit Go.Cu Go.ChangeShapes Go.WideShapes Go.Deep Go.Proofs.YtccojgaahoonhaaDoor.errs
theorem bytes_op : Tryd.prog.bytesOf 32 = 16 := by kernel_rfl
theorem bytes_tok : Tryd.prog.bytesOf 30 = 4 := by kernel_rfl
theorem open_tok {H : Type} {enc : TypeId × Value → H} {W : World} {base : Nat} {sp : Nat → Bool} {held : Bool} {a0 : Option Addr} {len cap : Nat} {d : DataW H} {p : List MemPlace} (h : DataW.Trod enc Tryd.prog W base sp held 29 (.slice a0 len cap) d p)
    (hsz : ∀ elems spare, d = .slice elems spare → (elems.length + spare.length) * 4 ≤ 140737488351232) :
    ∃ xs, (Reads W 1 (.slice a0 len cap) len (us xs) ∧ ∀ x ∈ xs, (Lit.int .u32 x).wf = true) ∧ len ≤ 35184372088832 := by
  obtain ⟨xs, h1, h2, _, _⟩ := open_us h
  exact ⟨xs, ⟨h1, h2⟩, by have := list_room Tryd.underlying29 (by kernel_rfl) h hsz; omega⟩
namespace pingsOwed
theorem walk (w : World) (adr : Nat → Addr) (hS : Sent w adr) (most : Int) (tv sv : Value) (nt ns : Nat) (L : List Int) (ops : List (Int × Int)) (hT : Reads w 1 tv nt (us L) ∧ ∀ t ∈ L, (Lit.int .u32 t).wf = true) (hO : Reads w 2 sv ns (opC ops) ∧ ∀ o ∈ ops, (Lit.int .i64 o.1).wf = true ∧ (Lit.int .u32 o.2).wf = true) (hnt : nt ≤ 35184372088832) (hns : ns ≤ 8796093022208) :
    Calls Tryd.prog 5 #[.int .i64 most, tv, sv] w fun e w' => e = .returned (.bool true) ∧ Below w.heap.size w w' := by
  by_cases h : 1 ≤ most ∧ most ≤ 1024
  · obtain ⟨m, rfl⟩ : ∃ m : Nat, most = m := ⟨most.toNat, by omega⟩
    exact walk_big w adr hS m (by omega) (by omega) tv sv nt ns L ops hT.1 hO.1 hT.2 hO.2 hnt hns
  · exact walk_small w adr hS most (by omega) tv sv
end pingsOwed
end Go.Proofs.YtccojgaahoonhaaDoor
