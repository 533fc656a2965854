import Derived.Test.YtlnbgahfelcbiaaDoorLLooks
/- The cache beside the document's; a call's variable. -/
namespace Go.Proofs.YtlnbgahfelcbiaaDoor
open Go Go.RowKit Go.Cu Go.Proofs.YtlnbgahfelcbiaaDoor.errs

structure OpD where
  kd : Int
  k : Int
  v : Int
  wt : Int
  un : Int
def opCell (o : OpD) : List Value := [.int .i64 o.kd, .int .i64 o.k, .int .i64 o.v, .int .i64 o.wt, .int .i64 o.un]
theorem opCell_length (o : OpD) : (opCell o).length = 5 := rfl
abbrev opA (o : OpD) : Array Value := #[.int .i64 o.kd, .int .i64 o.k, .int .i64 o.v, .int .i64 o.wt, .int .i64 o.un]
abbrev opV (o : OpD) : Value := .agg (opA o)
theorem size_op : (Tryd.prog.info? 31).map (·.size) = some 5 := by kernel_rfl
theorem agg_op (w : World) : (isAgg 31).run Tryd.prog w = .ok true w := by kernel_rfl
theorem bytes_op : Tryd.prog.bytesOf 31 = 40 := by kernel_rfl
theorem box5 {w : World} {p : Nat} {x y z u v : Value} {t : TypeId} (h : w.heap[p]? = some (.cells #[x, y, z, u, v] t (0, 0))) :
    w.cell? ⟨p, 0, none⟩ = some x ∧ w.cell? ⟨p, 1, none⟩ = some y ∧ w.cell? ⟨p, 2, none⟩ = some z ∧ w.cell? ⟨p, 3, none⟩ = some u ∧ w.cell? ⟨p, 4, none⟩ = some v :=
  ⟨by rw [cell_of_row w p 0 _ _ _ h]; rfl, by rw [cell_of_row w p 1 _ _ _ h]; rfl, by rw [cell_of_row w p 2 _ _ _ h]; rfl, by rw [cell_of_row w p 3 _ _ _ h]; rfl, by rw [cell_of_row w p 4 _ _ _ h]; rfl⟩

/-- the cache (or none) and the document's, all above a world -/
structure CR (w0 w : World) (p : Option Nat) (c m : Nat) (room : Int) (L : List LE) (A : Option Addr) (n cc : Nat) : Prop where
  cn : CN w p c m room L
  row : Row w (fun _ => True) 105 4 (.slice A n cc) n (rowsC L)
  low : ∀ k, InN p c m L k → w0.heap.size ≤ k
  below : Below w0.heap.size w0 w
section
variable {w0 w w' : World} {p : Option Nat} {c m : Nat} {room : Int} {L L' : List LE} {A : Option Addr} {n cc : Nat}
theorem CR.past (h : CR w0 w p c m room L A n cc) (hb : Below w.heap.size w w') : CR w0 w' p c m room L A n cc :=
  ⟨h.cn.past hb, h.row.kept (Mod.ofBelow hb (fun _ => False)) (fun _ _ _ h => h), h.low, h.below.trans (hb.mono h.below.size)⟩
theorem CR.len (h : CR w0 w p c m room L A n cc) : L.length = n := rows_len h.row.reads
/-- a step of the cache: the document's row lives on -/
theorem CR.mod (h : CR w0 w p c m room L A n cc) (hm : Mod (InN p c m L) w w') : Below w0.heap.size w0 w' := h.below.trans (hm.below h.below.size h.low)
/-- a store into other memory -/
theorem CR.far2 (h : CR w0 w p c m room L A n cc) {b : Nat} {x y : Value} {t : TypeId} (hb : w.heap[b]? = some (.cells #[x, y] t (0, 0))) (h1 : t ≠ 96) (h2 : t ≠ 99) (h3 : t ≠ 105) (hl : w0.heap.size ≤ b) (u v : Value) : CR w0 ((w.setCell ⟨b, 0, none⟩ u).setCell ⟨b, 1, none⟩ v) p c m room L A n cc := by
  have hm : Mod (fun k => k = b) w ((w.setCell ⟨b, 0, none⟩ u).setCell ⟨b, 1, none⟩ v) := ((Mod.refl (fun k => k = b) w).setCell (p := ⟨b, 0, none⟩) (fun _ => rfl) u).setCell (p := ⟨b, 1, none⟩) (fun _ => rfl) v
  refine ⟨?_, row_set2 h.row hb h3 u v, h.low, below_set2 h.below hl u v⟩
  refine h.cn.own hm (fun k hk e => ?_)
  subst e
  exact h.cn.not_row (e := t) (fun e => h1 e.symm) (fun e => h2 e.symm) k hk ⟨_, hb⟩
theorem CR.drewN (h : CR w0 w p c m room L A n cc) (q : Nat) : CR w0 (w.drewN q) p c m room L A n cc := h.past (below_drewN w q)
end
/-- the three boxes of a step -/
structure SB (w0 w : World) (q : Nat) (room : Int) (A : Option Addr) (n cc : Nat) (o : OpD) : Prop where
  b0 : w.heap[q]? = some (.cells #[.int .i64 room, .slice A n cc] 46 (0, 0))
  b1 : w.heap[q + 1]? = some (.cells (opA o) 31 (0, 0))
  b2 : w.heap[q + 2]? = some (.cells #[.int .i64 0, .slice none 0 0] 46 (0, 0))
  low : w0.heap.size ≤ q
section
variable {w0 w w' : World} {q : Nat} {room : Int} {A : Option Addr} {n cc : Nat} {o : OpD}
theorem SB.past (h : SB w0 w q room A n cc o) (hb : Below w.heap.size w w') : SB w0 w' q room A n cc o := ⟨below_at hb h.b0, below_at hb h.b1, below_at hb h.b2, h.low⟩
theorem SB.mod {p : Option Nat} {c m : Nat} {rm : Int} {L : List LE} (h : SB w0 w q room A n cc o) (hc : CN w p c m rm L) (hm : Mod (InN p c m L) w w') : SB w0 w' q room A n cc o :=
  ⟨hc.heap (by decide) (by decide) hm h.b0, hc.heap (by decide) (by decide) hm h.b1, hc.heap (by decide) (by decide) hm h.b2, h.low⟩
theorem boxesS (w0 w : World) (hb : Below w0.heap.size w0 w) (room : Int) (A : Option Addr) (n cc : Nat) (o : OpD) : ∃ w1 q, ((w.alloc (.cells #[.int .i64 room, .slice A n cc] 46)).alloc (.cells (opA o) 31)).alloc (.cells #[.int .i64 0, .slice none 0 0] 46) = w1 ∧ w.heap.size = q ∧ Below w.heap.size w w1 ∧ w1.heap.size = q + 3 ∧ SB w0 w1 q room A n cc o := by
  refine ⟨_, _, rfl, rfl, (below_a2 w _ _).alloc (by simp; omega) _, by simp, ?_, ?_, ?_, hb.size⟩
  · rw [Below.heap_alloc _ _ _ (by simp; omega), Below.heap_alloc _ _ _ (by simp)]
    exact heap_alloc_new w _
  · rw [Below.heap_alloc _ _ _ (by simp)]
    have h := heap_alloc_new (w.alloc (.cells #[.int .i64 room, .slice A n cc] 46)) (.cells (opA o) 31)
    simp only [World.size_alloc] at h
    exact h
  · have h := heap_alloc_new ((w.alloc (.cells #[.int .i64 room, .slice A n cc] 46)).alloc (.cells (opA o) 31)) (.cells #[.int .i64 0, .slice none 0 0] 46)
    simp only [World.size_alloc] at h
    exact h
end
/-- what a step leaves -/
def StepPost (w0 : World) (p : Option Nat) (c m : Nat) (room : Int) (L : List LE) (w : World) (r : Ending) (w' : World) : Prop :=
  ∃ L' A' n' c', r = .returned (.tuple #[cvv room A' n' c', .bool true]) ∧ CR w0 w' p c m room L' A' n' c' ∧ L'.length ≤ L.length + 1 ∧ Mod (InN p c m L) w w'
end Go.Proofs.YtlnbgahfelcbiaaDoor
