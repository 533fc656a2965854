import Derived.Test.YtccojgaahoonhaaDoorPRef3
import Derived.Test.YtccojgaahoonhaaDoorPgFix
/- The pings beside the document's; a call's variables. -/
namespace Go.Proofs.YtccojgaahoonhaaDoor
open Go Go.RowKit Go.Cu Go.Proofs.YtccojgaahoonhaaDoor.errs

/-- The pings (W wait, T are to be told, O are owed) and the document's three lists. -/
structure PD (B : Nat) (w : World) (c m q : Nat) (FT FO D : Nat → Prop) (most n : Nat) (W T O L1 L2 L3 : List Int) (A1 : Option Addr) (n1 c1 : Nat) (A2 : Option Addr) (n2 c2 : Nat) (A3 : Option Addr) (n3 c3 : Nat) : Prop where
  pg : PG w c m q FT FO most n W T O
  r1 : Row w D 30 1 (.slice A1 n1 c1) n1 (us L1)
  r2 : Row w D 30 1 (.slice A2 n2 c2) n2 (us L2)
  r3 : Row w D 30 1 (.slice A3 n3 c3) n3 (us L3)
  dl : ∀ k, D k → k < w.heap.size
  sep : ∀ k, PF c m FT FO k → ¬ D k
  lo : ∀ k, PF c m FT FO k → B ≤ k
  le : B ≤ w.heap.size
theorem row_len {w : World} {F : Nat → Prop} {A : Option Addr} {n c : Nat} {L : List Int} (h : Row w F 30 1 (.slice A n c) n (us L)) : L.length = n := by
  have := h.reads.1; rw [us_length] at this; omega
theorem row_cap {w : World} {F : Nat → Prop} {A : Option Addr} {n c : Nat} {L : List Int} (h : Row w F 30 1 (.slice A n c) n (us L)) : n ≤ c := by
  obtain ⟨A', c', he, hn, _⟩ := h.shape
  injection he with _ _ hc
  omega
section
variable {B : Nat} {w w' : World} {c m q : Nat} {FT FO D FT' FO' : Nat → Prop} {most n n' : Nat} {W T O W' T' O' L1 L2 L3 L' : List Int} {A1 A2 A3 A' : Option Addr} {n1 c1 n2 c2 n3 c3 k' c' : Nat}
theorem PD.past (h : PD B w c m q FT FO D most n W T O L1 L2 L3 A1 n1 c1 A2 n2 c2 A3 n3 c3) (hb : Below w.heap.size w w') : PD B w' c m q FT FO D most n W T O L1 L2 L3 A1 n1 c1 A2 n2 c2 A3 n3 c3 :=
  ⟨h.pg.past hb, h.r1.kept (Mod.ofBelow hb (fun _ => False)) (fun _ _ _ h => h), h.r2.kept (Mod.ofBelow hb (fun _ => False)) (fun _ _ _ h => h), h.r3.kept (Mod.ofBelow hb (fun _ => False)) (fun _ _ _ h => h), fun k hk => Nat.lt_of_lt_of_le (h.dl k hk) hb.size, h.sep, h.lo, Nat.le_trans h.le hb.size⟩
/-- a call of the program's -/
theorem PD.prog (h : PD B w c m q FT FO D most n W T O L1 L2 L3 A1 n1 c1 A2 n2 c2 A3 n3 c3) (hp : PG w' c m q FT' FO' most n' W' T' O') (hm : Mod (PF c m FT FO) w w') (hF : ∀ k, PF c m FT' FO' k → PF c m FT FO k ∨ w.heap.size ≤ k) : PD B w' c m q FT' FO' D most n' W' T' O' L1 L2 L3 A1 n1 c1 A2 n2 c2 A3 n3 c3 :=
  ⟨hp, h.r1.kept hm (fun k hk _ hf => h.sep k hf hk), h.r2.kept hm (fun k hk _ hf => h.sep k hf hk), h.r3.kept hm (fun k hk _ hf => h.sep k hf hk), fun k hk => Nat.lt_of_lt_of_le (h.dl k hk) hm.size, fun k hf hk => (hF k hf).elim (fun hf => h.sep k hf hk) (fun hl => by have := h.dl k hk; omega), fun k hf => (hF k hf).elim (h.lo k) (fun hl => Nat.le_trans h.le hl), Nat.le_trans h.le hm.size⟩
theorem PD.sepW (h : PD B w c m q FT FO D most n W T O L1 L2 L3 A1 n1 c1 A2 n2 c2 A3 n3 c3) : ∀ k, PF c m FT FO k → ¬ Wide D w w' k := fun k hf hk => hk.elim (h.sep k hf) (fun hl => by have := h.pg.low k hf; omega)
theorem PD.wl (h : PD B w c m q FT FO D most n W T O L1 L2 L3 A1 n1 c1 A2 n2 c2 A3 n3 c3) (hb : Below w.heap.size w w') : ∀ k, Wide D w w' k → k < w'.heap.size := Wide.lt h.dl hb.size
theorem row_wide {w w' : World} {D : Nat → Prop} {v : Value} {n : Nat} {xs : List Value} (h : Row w D 30 1 v n xs) (hb : Below w.heap.size w w') : Row w' (Wide D w w') 30 1 v n xs :=
  (h.kept (Mod.ofBelow hb (fun _ => False)) (fun _ _ _ h => h)).mono (fun _ hk _ => .inl hk)
theorem row_new {w w' : World} {D : Nat → Prop} {v : Value} {n : Nat} {xs : List Value} (h : Row w' (New w) 30 1 v n xs) : Row w' (Wide D w w') 30 1 v n xs := h.mono (fun _ hk hl => .inr ⟨hk, hl⟩)
theorem PD.doc1 (h : PD B w c m q FT FO D most n W T O L1 L2 L3 A1 n1 c1 A2 n2 c2 A3 n3 c3) (hb : Below w.heap.size w w') (r : Row w' (New w) 30 1 (.slice A' k' c') k' (us L')) : PD B w' c m q FT FO (Wide D w w') most n W T O L' L2 L3 A' k' c' A2 n2 c2 A3 n3 c3 :=
  ⟨h.pg.past hb, row_new r, row_wide h.r2 hb, row_wide h.r3 hb, h.wl hb, h.sepW, h.lo, Nat.le_trans h.le hb.size⟩
theorem PD.doc3 (h : PD B w c m q FT FO D most n W T O L1 L2 L3 A1 n1 c1 A2 n2 c2 A3 n3 c3) (hb : Below w.heap.size w w') (r : Row w' (New w) 30 1 (.slice A' k' c') k' (us L')) : PD B w' c m q FT FO (Wide D w w') most n W T O L1 L2 L' A1 n1 c1 A2 n2 c2 A' k' c' :=
  ⟨h.pg.past hb, row_wide h.r1 hb, row_wide h.r2 hb, row_new r, h.wl hb, h.sepW, h.lo, Nat.le_trans h.le hb.size⟩
theorem PD.doc12 {L'' : List Int} {A'' : Option Addr} {k'' c'' : Nat} (h : PD B w c m q FT FO D most n W T O L1 L2 L3 A1 n1 c1 A2 n2 c2 A3 n3 c3) (hb : Below w.heap.size w w') (r : Row w' (New w) 30 1 (.slice A' k' c') k' (us L')) (s : Row w' (New w) 30 1 (.slice A'' k'' c'') k'' (us L'')) : PD B w' c m q FT FO (Wide D w w') most n W T O L' L'' L3 A' k' c' A'' k'' c'' A3 n3 c3 :=
  ⟨h.pg.past hb, row_new r, row_new s, row_wide h.r3 hb, h.wl hb, h.sepW, h.lo, Nat.le_trans h.le hb.size⟩
/-- the document has told -/
theorem PD.told (h : PD B w c m q FT FO D most n W T O L1 L2 L3 A1 n1 c1 A2 n2 c2 A3 n3 c3) : PD B w c m q FT FO D most n W T O L1 [] L3 A1 n1 c1 none 0 0 A3 n3 c3 :=
  ⟨h.pg, h.r1, Row.nil _ _ _ _, h.r3, h.dl, h.sep, h.lo, h.le⟩
/-- a box is written -/
theorem PD.set5 (h : PD B w c m q FT FO D most n W T O L1 L2 L3 A1 n1 c1 A2 n2 c2 A3 n3 c3) {p : Nat} {x1 x2 x3 x4 x5 : Value} (hb : w.heap[p]? = some (.cells #[x1, x2, x3, x4, x5] 40 (0, 0))) (hp : ¬ PF c m FT FO p) (a b d e f : Value) :
    PD B (((((w.setCell ⟨p, 0, none⟩ a).setCell ⟨p, 1, none⟩ b).setCell ⟨p, 2, none⟩ d).setCell ⟨p, 3, none⟩ e).setCell ⟨p, 4, none⟩ f) c m q FT FO D most n W T O L1 L2 L3 A1 n1 c1 A2 n2 c2 A3 n3 c3 := by
  have hm : Mod (fun k => k = p) w (((((w.setCell ⟨p, 0, none⟩ a).setCell ⟨p, 1, none⟩ b).setCell ⟨p, 2, none⟩ d).setCell ⟨p, 3, none⟩ e).setCell ⟨p, 4, none⟩ f) :=
    (((((Mod.refl (fun k => k = p) w).setCell (p := ⟨p, 0, none⟩) (fun _ => rfl) _).setCell (p := ⟨p, 1, none⟩) (fun _ => rfl) _).setCell (p := ⟨p, 2, none⟩) (fun _ => rfl) _).setCell (p := ⟨p, 3, none⟩) (fun _ => rfl) _).setCell (p := ⟨p, 4, none⟩) (fun _ => rfl) _
  exact ⟨h.pg.kept hm (fun k hk e => hp (e ▸ hk)), row_set5 h.r1 hb (by decide) _ _ _ _ _, row_set5 h.r2 hb (by decide) _ _ _ _ _, row_set5 h.r3 hb (by decide) _ _ _ _ _, fun k hk => Nat.lt_of_lt_of_le (h.dl k hk) hm.size, h.sep, h.lo, Nat.le_trans h.le hm.size⟩
end
theorem below_at {w w' : World} (hb : Below w.heap.size w w') {k : Nat} {o : Obj} (h : w.heap[k]? = some o) : w'.heap[k]? = some o := (hb.block _ (Array.getElem?_eq_some_iff.1 h).1).trans h
theorem cell_far5 {w : World} {t p o : Nat} {v a b d e f : Value} (h : w.cell? ⟨t, o, none⟩ = some v) (hn : t ≠ p) :
    (((((w.setCell ⟨p, 0, none⟩ a).setCell ⟨p, 1, none⟩ b).setCell ⟨p, 2, none⟩ d).setCell ⟨p, 3, none⟩ e).setCell ⟨p, 4, none⟩ f).cell? ⟨t, o, none⟩ = some v := by
  refine (World.cell?_of_block (w := w) ?_).trans h
  show (((((w.setCell ⟨p, 0, none⟩ a).setCell ⟨p, 1, none⟩ b).setCell ⟨p, 2, none⟩ d).setCell ⟨p, 3, none⟩ e).setCell ⟨p, 4, none⟩ f).heap[t]? = w.heap[t]?
  rw [Below.heap_setCell _ _ _ _ hn, Below.heap_setCell _ _ _ _ hn, Below.heap_setCell _ _ _ _ hn, Below.heap_setCell _ _ _ _ hn, Below.heap_setCell _ _ _ _ hn]
/-- the three boxes of a step -/
structure SB (w : World) (q0 : Nat) (a b d e f : Value) (k t : Int) : Prop where
  b0 : w.heap[q0]? = some (.cells #[a, b, d, e, f] 40 (0, 0))
  b1 : w.heap[q0 + 1]? = some (.cells #[.int .i64 k, .int .u32 t] 32 (0, 0))
  b2 : w.heap[q0 + 2]? = some (.cells #[.int .i64 0, .int .i64 0, .slice none 0 0, .slice none 0 0, .slice none 0 0] 40 (0, 0))
theorem bx2 {w : World} {p : Nat} {x y : Value} {t : TypeId} (h : w.heap[p]? = some (.cells #[x, y] t (0, 0))) :
    w.cell? ⟨p, 0, none⟩ = some x ∧ w.cell? ⟨p, 1, none⟩ = some y ∧ w.frozen? ⟨p, 0, none⟩ = false ∧ w.frozen? ⟨p, 1, none⟩ = false :=
  ⟨by rw [cell_of_row w p 0 _ _ _ h]; rfl, by rw [cell_of_row w p 1 _ _ _ h]; rfl, frozen_of_row w p 0 _ _ h, frozen_of_row w p 1 _ _ h⟩
section
variable {w w' : World} {q0 : Nat} {a b d e f : Value} {k t : Int}
theorem SB.past (h : SB w q0 a b d e f k t) (hb : Below w.heap.size w w') : SB w' q0 a b d e f k t := ⟨below_at hb h.b0, below_at hb h.b1, below_at hb h.b2⟩
theorem SB.mod {F : Nat → Prop} (h : SB w q0 a b d e f k t) (hm : Mod F w w') (h0 : ∀ j, q0 ≤ j → j < w.heap.size → ¬ F j) : SB w' q0 a b d e f k t :=
  ⟨hm.heap h.b0 (h0 _ (Nat.le_refl _) (Array.getElem?_eq_some_iff.1 h.b0).1), hm.heap h.b1 (h0 _ (by omega) (Array.getElem?_eq_some_iff.1 h.b1).1), hm.heap h.b2 (h0 _ (by omega) (Array.getElem?_eq_some_iff.1 h.b2).1)⟩
theorem boxesS (w : World) (a b d e f : Value) (k t : Int) : ∃ w1 q0, ((w.alloc (.cells #[a, b, d, e, f] 40)).alloc (.cells #[.int .i64 k, .int .u32 t] 32)).alloc (.cells #[.int .i64 0, .int .i64 0, .slice none 0 0, .slice none 0 0, .slice none 0 0] 40) = w1 ∧ w.heap.size = q0 ∧ Below w.heap.size w w1 ∧ w1.heap.size = q0 + 3 ∧ SB w1 q0 a b d e f k t := by
  refine ⟨_, _, rfl, rfl, (((Below.refl _ _).alloc (Nat.le_refl _) _).alloc (by simp) _).alloc (by simp; omega) _, by simp, ?_, ?_, ?_⟩
  · rw [Below.heap_alloc _ _ _ (by simp; omega), Below.heap_alloc _ _ _ (by simp)]
    exact heap_alloc_new w _
  · rw [Below.heap_alloc _ _ _ (by simp)]
    have h := heap_alloc_new (w.alloc (.cells #[a, b, d, e, f] 40)) (.cells #[.int .i64 k, .int .u32 t] 32)
    simp only [World.size_alloc] at h
    exact h
  · have h := heap_alloc_new ((w.alloc (.cells #[a, b, d, e, f] 40)).alloc (.cells #[.int .i64 k, .int .u32 t] 32)) (.cells #[.int .i64 0, .int .i64 0, .slice none 0 0, .slice none 0 0, .slice none 0 0] 40)
    simp only [World.size_alloc] at h
    exact h
end
/-- what a step leaves: F0 is what it may change -/
def StepPost (B : Nat) (wx : World) (F0 D0 : Nat → Prop) (c m q most K : Nat) (r : Ending) (w' : World) : Prop :=
  ∃ (n : Nat) (A1 : Option Addr) (n1 c1 : Nat) (A2 : Option Addr) (n2 c2 : Nat) (A3 : Option Addr) (n3 c3 : Nat), r = .returned (.tuple #[pv most n A1 n1 c1 A2 n2 c2 A3 n3 c3, .bool true]) ∧ (∃ FT FO D W T O, PD B w' c m q FT FO D most n W T O W T O A1 n1 c1 A2 n2 c2 A3 n3 c3 ∧ n ≤ K + 1 ∧ n2 ≤ K + 1 ∧ (∀ j, PF c m FT FO j → F0 j ∨ wx.heap.size ≤ j) ∧ ∀ j, D j → D0 j ∨ wx.heap.size ≤ j) ∧ Mod F0 wx w'
end Go.Proofs.YtccojgaahoonhaaDoor
