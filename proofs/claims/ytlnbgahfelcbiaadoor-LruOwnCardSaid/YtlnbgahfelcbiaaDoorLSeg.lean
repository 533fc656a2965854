import Derived.Test.YtlnbgahfelcbiaaDoorLib
/- Entries in a row, each with a pointer to the one ahead and to the next. -/
namespace Go.Proofs.YtlnbgahfelcbiaaDoor
open Go Go.RowKit Go.Cu

/-- an entry: its block, its key, thing, weight, and until when -/
structure LE where
  b : Nat
  k : Int
  v : Int
  wt : Int
  un : Int
def pt (o : Option Nat) : Value := .pointer (o.map fun b => ⟨b, 0, none⟩)
/-- the first's block -/
def hb : List LE → Option Nat → Option Nat
  | [], d => d
  | e :: _, _ => some e.b
/-- the last's -/
def lb : List LE → Option Nat → Option Nat
  | [], d => d
  | e :: r, _ => lb r (some e.b)
theorem hb_app (a b : List LE) (d : Option Nat) : hb (a ++ b) d = hb a (hb b d) := by cases a <;> rfl
theorem lb_app (a b : List LE) (d : Option Nat) : lb (a ++ b) d = lb b (lb a d) := by
  induction a generalizing d with
  | nil => rfl
  | cons e r ih => exact ih _
theorem lb_last (a : List LE) (x : LE) (d : Option Nat) : lb (a ++ [x]) d = some x.b := by rw [lb_app]; rfl
def eCells (e : LE) (p n : Option Nat) : Array Value := #[.int .i64 e.k, .int .i64 e.v, .int .i64 e.wt, .int .i64 e.un, pt p, pt n]
def Seg (t : TypeId) (w : World) : Option Nat → List LE → Option Nat → Prop
  | _, [], _ => True
  | p, e :: r, n => w.heap[e.b]? = some (.cells (eCells e p (hb r n)) t (0, 0)) ∧ Seg t w (some e.b) r n
section
variable {t : TypeId} {w w' : World}
theorem seg_app {a b : List LE} {p n : Option Nat} : Seg t w p (a ++ b) n ↔ Seg t w p a (hb b n) ∧ Seg t w (lb a p) b n := by
  induction a generalizing p with
  | nil => exact ⟨fun h => ⟨trivial, h⟩, fun h => h.2⟩
  | cons e r ih =>
    show (w.heap[e.b]? = some (.cells (eCells e p (hb (r ++ b) n)) t (0, 0)) ∧ Seg t w (some e.b) (r ++ b) n) ↔ ((_ ∧ Seg t w (some e.b) r (hb b n)) ∧ Seg t w (lb r (some e.b)) b n)
    rw [hb_app, ih, and_assoc]
theorem Seg.kept {l : List LE} {p n : Option Nat} (h : Seg t w p l n) (hk : ∀ e ∈ l, w'.heap[e.b]? = w.heap[e.b]?) : Seg t w' p l n := by
  induction l generalizing p with
  | nil => trivial
  | cons e r ih => exact ⟨(hk e List.mem_cons_self).trans h.1, ih h.2 (fun x hx => hk x (List.mem_cons_of_mem _ hx))⟩
theorem Seg.far {l : List LE} {p n : Option Nat} (h : Seg t w p l n) {a : Addr} (u : Value) (hn : ∀ e ∈ l, e.b ≠ a.block) : Seg t (w.setCell a u) p l n :=
  h.kept (fun e he => Below.heap_setCell _ _ _ _ (hn e he))
theorem Seg.mod {l : List LE} {p n : Option Nat} {G : Nat → Prop} (h : Seg t w p l n) (hm : Mod G w w') (hn : ∀ e ∈ l, ¬ G e.b) : Seg t w' p l n := by
  induction l generalizing p with
  | nil => trivial
  | cons e r ih => exact ⟨hm.heap h.1 (hn e List.mem_cons_self), ih h.2 (fun x hx => hn x (List.mem_cons_of_mem _ hx))⟩
theorem Seg.lt {l : List LE} {p n : Option Nat} (h : Seg t w p l n) : ∀ e ∈ l, e.b < w.heap.size := by
  induction l generalizing p with
  | nil => intro e he; cases he
  | cons e r ih =>
    intro x hx
    rcases List.mem_cons.1 hx with rfl | hx
    · exact (Array.getElem?_eq_some_iff.1 h.1).1
    · exact ih h.2 x hx
/-- an entry within -/
theorem Seg.mid {a b : List LE} {e : LE} {p n : Option Nat} (h : Seg t w p (a ++ e :: b) n) : w.heap[e.b]? = some (.cells (eCells e (lb a p) (hb b n)) t (0, 0)) := (seg_app.1 h).2.1
/-- the last's pointer to the next turned -/
theorem Seg.next {a : List LE} {x : LE} {p n : Option Nat} (h : Seg t w p (a ++ [x]) n) (hd : ∀ e ∈ a, e.b ≠ x.b) (n' : Option Nat) : Seg t (w.setCell ⟨x.b, 5, none⟩ (pt n')) p (a ++ [x]) n' := by
  obtain ⟨h1, h2, _⟩ := seg_app.1 h
  refine seg_app.2 ⟨h1.far _ hd, ?_, trivial⟩
  rw [heap_setCell_same _ x.b 5 _ t (pt n') h2]
  rfl
/-- the first's pointer to the one ahead turned -/
theorem Seg.prev {r : List LE} {y : LE} {p n : Option Nat} (h : Seg t w p (y :: r) n) (hd : ∀ e ∈ r, e.b ≠ y.b) (p' : Option Nat) : Seg t (w.setCell ⟨y.b, 4, none⟩ (pt p')) p' (y :: r) n := by
  obtain ⟨h1, h2⟩ := h
  refine ⟨?_, h2.far _ hd⟩
  rw [heap_setCell_same _ y.b 4 _ t (pt p') h1]
  rfl
/-- what lies in an entry's cells -/
theorem eFacts {e : LE} {p n : Option Nat} (h : w.heap[e.b]? = some (.cells (eCells e p n) t (0, 0))) :
    w.cell? ⟨e.b, 0, none⟩ = some (.int .i64 e.k) ∧ w.cell? ⟨e.b, 1, none⟩ = some (.int .i64 e.v) ∧ w.cell? ⟨e.b, 2, none⟩ = some (.int .i64 e.wt) ∧ w.cell? ⟨e.b, 3, none⟩ = some (.int .i64 e.un) ∧ w.cell? ⟨e.b, 4, none⟩ = some (pt p) ∧ w.cell? ⟨e.b, 5, none⟩ = some (pt n) ∧
      (∀ j, w.frozen? ⟨e.b, j, none⟩ = false) :=
  ⟨by rw [cell_of_row w _ 0 _ _ _ h]; rfl, by rw [cell_of_row w _ 1 _ _ _ h]; rfl, by rw [cell_of_row w _ 2 _ _ _ h]; rfl, by rw [cell_of_row w _ 3 _ _ _ h]; rfl, by rw [cell_of_row w _ 4 _ _ _ h]; rfl, by rw [cell_of_row w _ 5 _ _ _ h]; rfl, fun j => frozen_of_row w _ j _ _ h⟩
end
/-- the cache's cells -/
def cCells (room wt : Int) (m : Nat) (f l : Option Nat) : Array Value := #[.int .i64 room, .int .i64 wt, .map (some m), pt f, pt l]
theorem cFacts {t : TypeId} {w : World} {c m : Nat} {room wt : Int} {f l : Option Nat} (h : w.heap[c]? = some (.cells (cCells room wt m f l) t (0, 0))) :
    w.cell? ⟨c, 0, none⟩ = some (.int .i64 room) ∧ w.cell? ⟨c, 1, none⟩ = some (.int .i64 wt) ∧ w.cell? ⟨c, 2, none⟩ = some (.map (some m)) ∧ w.cell? ⟨c, 3, none⟩ = some (pt f) ∧ w.cell? ⟨c, 4, none⟩ = some (pt l) ∧ (∀ j, w.frozen? ⟨c, j, none⟩ = false) :=
  ⟨by rw [cell_of_row w _ 0 _ _ _ h]; rfl, by rw [cell_of_row w _ 1 _ _ _ h]; rfl, by rw [cell_of_row w _ 2 _ _ _ h]; rfl, by rw [cell_of_row w _ 3 _ _ _ h]; rfl, by rw [cell_of_row w _ 4 _ _ _ h]; rfl, fun j => frozen_of_row w _ j _ _ h⟩
end Go.Proofs.YtlnbgahfelcbiaaDoor
