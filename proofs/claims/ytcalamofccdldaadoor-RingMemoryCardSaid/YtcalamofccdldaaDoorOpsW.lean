import Derived.Test.YtcalamofccdldaaDoorRFix
import Derived.Test.YtcalamofccdldaaDoorFlowW
/- A script of calls on rings of numbers. -/
namespace Go.Proofs.YtcalamofccdldaaDoor
open Go Go.RowKit Go.Cu

theorem size_op : (Tryd.prog.info? 43).map (·.size) = some 4 := by kernel_rfl
theorem agg_op (w : World) : (isAgg 43).run Tryd.prog w = .ok true w := by kernel_rfl

theorem size_int : (Tryd.prog.info? 3).map (·.size) = some 1 := by kernel_rfl
theorem agg_int (w : World) : (isAgg 3).run Tryd.prog w = .ok false w := by kernel_rfl

structure OpD where
  kind : Int
  at_ : Int
  n : Int
  A : Option Addr
  len : Nat
  c : Nat
  items : List Int
def opCell (o : OpD) : List Value := [.int .i64 o.kind, .int .i64 o.at_, .int .i64 o.n, .slice o.A o.len o.c]
theorem opCell_length (o : OpD) : (opCell o).length = 4 := rfl
/-- The calls that came in. -/
structure Ops (w : World) (v : Value) (n : Nat) (ops : List OpD) : Prop where
  reads : Reads w 4 v n (ops.flatMap opCell)
  length : ops.length = n
  each : ∀ o ∈ ops, Reads w 1 (.slice o.A o.len o.c) o.len (ints o.items) ∧ o.len ≤ o.c ∧ (Lit.int .i64 o.kind).wf = true ∧ (Lit.int .i64 o.at_).wf = true ∧ (Lit.int .i64 o.n).wf = true
/-- the call's own variable -/
structure OpC (w : World) (p : Nat) (o : OpD) : Prop where
  c0 : w.cell? ⟨p, 0, none⟩ = some (.int .i64 o.kind)
  c1 : w.cell? ⟨p, 1, none⟩ = some (.int .i64 o.at_)
  c2 : w.cell? ⟨p, 2, none⟩ = some (.int .i64 o.n)
  c3 : w.cell? ⟨p, 3, none⟩ = some (.slice o.A o.len o.c)
theorem OpC.made (w : World) (o : OpD) : OpC (w.alloc (.cells #[.int .i64 o.kind, .int .i64 o.at_, .int .i64 o.n, .slice o.A o.len o.c] 43)) w.heap.size o := ⟨by simp, by simp, by simp, by simp⟩
theorem OpC.kept {w w' : World} {F : Nat → Prop} {p : Nat} {o : OpD} (h : OpC w p o) (hm : Mod F w w') (hn : ¬ F p) : OpC w' p o := ⟨hm.cell h.c0 hn, hm.cell h.c1 hn, hm.cell h.c2 hn, hm.cell h.c3 hn⟩
theorem OpC.lt {w : World} {p : Nat} {o : OpD} (h : OpC w p o) : p < w.heap.size := World.block_lt_of_cell? w _ h.c0

/-- what came in lies outside what is made later -/
theorem rdOut_of {w wr : World} {F : Nat → Prop} {A : Option Addr} {n c : Nat} {xs : List Value} (h : Reads w 1 (.slice A n c) n xs) (hb : Below w.heap.size w wr) (hF : ∀ k, F k → w.heap.size ≤ k) : RdOut wr F (.slice A n c) n xs := by
  refine ⟨Reads.below h hb, fun ad c' e => ?_⟩
  by_cases hn0 : n = 0
  · exact .inl hn0
  · right
    obtain ⟨ad', c'', e', hc⟩ := reads_pos h (by omega)
    have hxs : 0 < xs.length := by have := h.1; omega
    have hlt0 := World.block_lt_of_cell? _ _ (hc 0 _ (List.getElem?_eq_getElem hxs))
    rw [add_block] at hlt0
    rw [e] at e'
    injection e' with e' _ _
    injection e' with e'
    subst e'
    exact ⟨fun hf => by have := hF _ hf; omega, by have := hb.size; omega⟩

/-- Two rings of numbers, each in memory of its own. -/
structure R2 (w0 wr : World) (Fa Fb : Nat → Prop) (a b cap : Nat) (La Lb : List Int) : Prop where
  ra : RI.Ring wr Fa a cap (ints La) 0
  rb : RI.Ring wr Fb b cap (ints Lb) 0
  apart : ∀ k, Fa k → ¬ Fb k
  lowA : ∀ k, Fa k → w0.heap.size ≤ k
  lowB : ∀ k, Fb k → w0.heap.size ≤ k
  below : Below w0.heap.size w0 wr
section
variable {w0 wr w' : World} {Fa Fb Fa' : Nat → Prop} {a b cap : Nat} {La Lb La' : List Int} {p : Nat} {o : OpD}
theorem R2.swap (h : R2 w0 wr Fa Fb a b cap La Lb) : R2 w0 wr Fb Fa b a cap Lb La := ⟨h.rb, h.ra, fun k h1 h2 => h.apart k h2 h1, h.lowB, h.lowA, h.below⟩
theorem R2.step (h : R2 w0 wr Fa Fb a b cap La Lb) (hr : RI.Ring w' Fa' a cap (ints La') 0) (hm : Mod Fa wr w') (hF : ∀ k, Fa' k → Fa k ∨ wr.heap.size ≤ k) : R2 w0 w' Fa' Fb a b cap La' Lb := by
  refine ⟨hr, h.rb.kept hm (fun k hk hf => h.apart k hf hk), ?_, ?_, h.lowB, h.below.trans (hm.below h.below.size h.lowA)⟩
  · intro k hk hb
    rcases hF k hk with hk | hk
    · exact h.apart k hk hb
    · have := h.rb.lt k hb; omega
  · intro k hk
    rcases hF k hk with hk | hk
    · exact h.lowA k hk
    · have := h.below.size; omega
theorem R2.past (h : R2 w0 wr Fa Fb a b cap La Lb) (hb : Below wr.heap.size wr w') : R2 w0 w' Fa Fb a b cap La Lb :=
  ⟨h.ra.below hb, h.rb.below hb, h.apart, h.lowA, h.lowB, h.below.trans (hb.mono h.below.size)⟩
/-- .. beside the call's own variable. -/
structure T2 (w0 wr : World) (Fa Fb : Nat → Prop) (a b cap : Nat) (La Lb : List Int) (p : Nat) (o : OpD) : Prop where
  two : R2 w0 wr Fa Fb a b cap La Lb
  cel : OpC wr p o
  pa : ¬ Fa p
  pb : ¬ Fb p
theorem T2.swap (h : T2 w0 wr Fa Fb a b cap La Lb p o) : T2 w0 wr Fb Fa b a cap Lb La p o := ⟨h.two.swap, h.cel, h.pb, h.pa⟩
theorem T2.step (h : T2 w0 wr Fa Fb a b cap La Lb p o) (hr : RI.Ring w' Fa' a cap (ints La') 0) (hm : Mod Fa wr w') (hF : ∀ k, Fa' k → Fa k ∨ wr.heap.size ≤ k) : T2 w0 w' Fa' Fb a b cap La' Lb p o := by
  refine ⟨h.two.step hr hm hF, h.cel.kept hm h.pa, fun hp => ?_, h.pb⟩
  rcases hF p hp with hp | hp
  · exact h.pa hp
  · have := h.cel.lt; omega
theorem T2.past (h : T2 w0 wr Fa Fb a b cap La Lb p o) (hb : Below wr.heap.size wr w') : T2 w0 w' Fa Fb a b cap La Lb p o :=
  ⟨h.two.past hb, h.cel.kept (Mod.ofBelow hb (fun _ => False)) (fun h => h), h.pa, h.pb⟩
theorem T2.made (h : R2 w0 wr Fa Fb a b cap La Lb) (o : OpD) : T2 w0 (wr.alloc (.cells #[.int .i64 o.kind, .int .i64 o.at_, .int .i64 o.n, .slice o.A o.len o.c] 43)) Fa Fb a b cap La Lb wr.heap.size o :=
  ⟨h.past ((Below.refl wr.heap.size wr).alloc (Nat.le_refl _) _), OpC.made wr o, fun hp => by have := h.ra.lt _ hp; omega, fun hp => by have := h.rb.lt _ hp; omega⟩

/-! ### The calls on the first of two rings -/
theorem pushT (h : T2 w0 wr Fa Fb a b cap La Lb p o) {A : Option Addr} {n c : Nat} {xs : List Int} (hr : Reads w0 1 (.slice A n c) n (ints xs)) (hnc : n ≤ c) (k : Nat) (hk : min n (cap - La.length) = k) :
    Calls Tryd.prog 23 #[.pointer (some ⟨a, 0, none⟩), .slice A n c] wr fun e w' => e = .returned (.int .i64 k) ∧ T2 w0 w' (Wide Fa wr w') Fb a b cap (La ++ xs.take k) Lb p o := by
  refine (RI.push_any wr Fa a cap (ints La) 0 A n c (ints xs) k h.two.ra (rdOut_of hr h.two.below h.two.lowA) hnc (ints_one _) (by rw [ints_length]; exact hk)).mono ?_
  rintro e w' ⟨rfl, hr, hm⟩
  rw [ints_take, ints_append] at hr
  exact ⟨rfl, h.step hr hm (fun j hj => hj.imp id (fun h => h.1))⟩
theorem popT (h : T2 w0 wr Fa Fb a b cap La Lb p o) (n : Int) (k : Nat) (hk : min n.toNat La.length = k) :
    Calls Tryd.prog 25 #[.pointer (some ⟨a, 0, none⟩), .int .i64 n] wr fun e w' => ∃ A c, e = .returned (.slice A k c) ∧ Row w' (RI.New wr) 3 1 (.slice A k c) k (ints (La.take k)) ∧ T2 w0 w' Fa Fb a b cap (La.drop k) Lb p o ∧ Mod Fa wr w' := by
  refine (RI.pop_any wr Fa a cap (ints La) 0 n k h.two.ra (by rw [ints_length]; exact hk)).mono ?_
  rintro e w' ⟨A, c, rfl, hrow, hr, hm⟩
  rw [ints_take] at hrow
  rw [ints_drop] at hr
  exact ⟨A, c, rfl, hrow, h.step hr hm (fun j hj => .inl hj), hm⟩
theorem dropT (h : T2 w0 wr Fa Fb a b cap La Lb p o) (n : Int) (k : Nat) (hk : min n.toNat La.length = k) :
    Calls Tryd.prog 26 #[.pointer (some ⟨a, 0, none⟩), .int .i64 n] wr fun e w' => e = .returned (.int .i64 k) ∧ T2 w0 w' Fa Fb a b cap (La.drop k) Lb p o := by
  refine (RI.drop_any wr Fa a cap (ints La) 0 n k h.two.ra (by rw [ints_length]; exact hk)).mono ?_
  rintro e w' ⟨rfl, hr, hm⟩
  rw [ints_drop] at hr
  exact ⟨rfl, h.step hr hm (fun j hj => .inl hj)⟩
theorem clearT (h : T2 w0 wr Fa Fb a b cap La Lb p o) :
    Calls Tryd.prog 27 #[.pointer (some ⟨a, 0, none⟩)] wr fun e w' => e = .returned (.int .i64 La.length) ∧ T2 w0 w' Fa Fb a b cap [] Lb p o := by
  refine (RI.clear_any wr Fa a cap (ints La) 0 h.two.ra).mono ?_
  rintro e w' ⟨rfl, hr, hm⟩
  rw [ints_length]
  exact ⟨rfl, h.step (La' := []) hr hm (fun j hj => .inl hj)⟩
theorem peekT (h : T2 w0 wr Fa Fb a b cap La Lb p o) (n : Int) : ∃ k, Calls Tryd.prog 19 #[.pointer (some ⟨a, 0, none⟩), .int .i64 n] wr fun e w' => ∃ A c, e = .returned (.slice A k c) ∧ T2 w0 w' Fa Fb a b cap La Lb p o := by
  refine ⟨min n.toNat (ints La).length, ?_⟩
  refine (RI.peek_any wr Fa a cap (ints La) 0 n _ h.two.ra rfl).mono ?_
  rintro e w' ⟨A, c, rfl, _, hb⟩
  exact ⟨A, c, rfl, h.past hb⟩
theorem atT (h : T2 w0 wr Fa Fb a b cap La Lb p o) (n : Int) : ∃ x y, Calls Tryd.prog 20 #[.pointer (some ⟨a, 0, none⟩), .int .i64 n] wr fun e w' => e = .returned (.tuple #[x, y]) ∧ T2 w0 w' Fa Fb a b cap La Lb p o := by
  by_cases hn : n < 0 ∨ ((ints La).length : Int) ≤ n
  · refine ⟨.int .i64 0, .bool false, ?_⟩
    refine (RI.at_out wr Fa a cap (ints La) 0 n h.two.ra hn).mono ?_
    rintro e w' ⟨rfl, hb⟩
    exact ⟨rfl, h.past hb⟩
  · obtain ⟨i, rfl⟩ : ∃ i : Nat, n = (i : Int) := ⟨n.toNat, by omega⟩
    refine ⟨(ints La)[i]'(by omega), .bool true, ?_⟩
    refine (RI.at_in wr Fa a cap (ints La) 0 i _ h.two.ra (List.getElem?_eq_getElem (by omega))).mono ?_
    rintro e w' ⟨rfl, hb⟩
    exact ⟨rfl, h.past hb⟩
end
end Go.Proofs.YtcalamofccdldaaDoor
