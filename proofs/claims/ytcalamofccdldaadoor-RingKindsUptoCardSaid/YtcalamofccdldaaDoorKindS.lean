import Derived.Test.YtcalamofccdldaaDoorItoa
import Derived.Test.YtcalamofccdldaaDoorOpsW
import Derived.Test.YtcalamofccdldaaDoorRS
import Derived.OpenShut
import Derived.Lib.SmallJoins
import Derived.Lib.AppendIntMem
/- The texts of numbers; a ring of numbers beside a ring of their texts. -/
namespace Go.Proofs.YtcalamofccdldaaDoor
open Go Go.RowKit Go.Cu

def wfi (x : Int) : Prop := (Lit.int .i64 x).wf = true
def tx (n : Int) : Value := .string ⟨(Lib.itoa n).toArray⟩
def txs (L : List Int) : List Value := L.map tx
theorem txs_length (L : List Int) : (txs L).length = L.length := by simp [txs]
theorem txs_get {L : List Int} {i : Nat} {x : Int} (h : L[i]? = some x) : (txs L)[i]? = some (tx x) := by simp [txs, h]
theorem txs_take (L : List Int) (k : Nat) : (txs L).take k = txs (L.take k) := by simp [txs, List.map_take]
theorem txs_drop (L : List Int) (k : Nat) : (txs L).drop k = txs (L.drop k) := by simp [txs, List.map_drop]
theorem txs_append (L M : List Int) : txs L ++ txs M = txs (L ++ M) := by simp [txs]
theorem txs_one (L : List Int) : ∀ u ∈ txs L, u.oneCell' = true := by
  intro u hu
  obtain ⟨x, _, rfl⟩ := List.mem_map.1 hu
  rfl
/-- the library's table -/
def Tab (w : World) : Prop := Lib.TabIs Tryd.prog w "internal/strconv.uint64pow10" .u64 Lib.pow10Tab
theorem gTab : Tryd.prog.globalNamed "internal/strconv.uint64pow10" = some 42 := by kernel_rfl
theorem Tab.past {w w' : World} (h : Tab w) (hb : Below w.heap.size w w') : Tab w' := Joins.tab_stays gTab h hb (Nat.le_refl _)
theorem wfi_range {x : Int} (h : wfi x) : -9223372036854775808 ≤ x ∧ x ≤ 9223372036854775807 := bounds_i64 h
theorem itoa_any (w : World) (n : Int) (hn : wfi n) (ht : Tab w) : Calls Tryd.prog 39 #[.int .i64 n] w fun e w' => e = .returned (.string ⟨(Lib.itoa n).toArray⟩) ∧ Below w.heap.size w w' := by
  refine (Tryd.strconv_Itoa n (wfi_range hn).1 (wfi_range hn).2 w ht).mono ?_
  rintro e w' ⟨rfl, k, os, rfl⟩
  exact ⟨rfl, Lib.below_grow _ w (Nat.le_refl _) k os⟩

theorem rdOut_row {w : World} {F G : Nat → Prop} {A : Option Addr} {n c : Nat} {xs : List Value} (h : Row w G 9 1 (.slice A n c) n xs) (hG : ∀ k, G k → ¬ F k) : RdOut w F (.slice A n c) n xs := by
  refine ⟨h.reads, fun ad c' e => ?_⟩
  by_cases hn0 : n = 0
  · exact .inl hn0
  · right
    obtain ⟨b, o, c2, e2, _, _, hF, hl, _⟩ := h.open (by omega)
    rw [e] at e2
    injection e2 with e2 _ _
    injection e2 with e2
    subst e2
    exact ⟨hG b hF, hl⟩

/-- Two rings, each in memory of its own. -/
structure K2 (w0 wr : World) (Fa Fb : Nat → Prop) (a b cap : Nat) (La Lb : List Int) : Prop where
  ra : RI.Ring wr Fa a cap (ints La) 0
  rb : RS.Ring wr Fb b cap (txs Lb) 0
  apart : ∀ k, Fa k → ¬ Fb k
  lowA : ∀ k, Fa k → w0.heap.size ≤ k
  lowB : ∀ k, Fb k → w0.heap.size ≤ k
  below : Below w0.heap.size w0 wr
section
variable {w0 wr w' : World} {Fa Fb F' : Nat → Prop} {a b cap : Nat} {La Lb L' : List Int} {p : Nat} {o : OpD}
theorem K2.stepA (h : K2 w0 wr Fa Fb a b cap La Lb) (hr : RI.Ring w' F' a cap (ints L') 0) (hm : Mod Fa wr w') (hF : ∀ k, F' k → Fa k ∨ wr.heap.size ≤ k) : K2 w0 w' F' Fb a b cap L' Lb := by
  refine ⟨hr, h.rb.kept hm (fun k hk hf => h.apart k hf hk), ?_, ?_, h.lowB, h.below.trans (hm.below h.below.size h.lowA)⟩
  · intro k hk hb
    rcases hF k hk with hk | hk
    · exact h.apart k hk hb
    · have := h.rb.lt k hb; omega
  · intro k hk
    rcases hF k hk with hk | hk
    · exact h.lowA k hk
    · have := h.below.size; omega
theorem K2.stepB (h : K2 w0 wr Fa Fb a b cap La Lb) (hr : RS.Ring w' F' b cap (txs L') 0) (hm : Mod Fb wr w') (hF : ∀ k, F' k → Fb k ∨ wr.heap.size ≤ k) : K2 w0 w' Fa F' a b cap La L' := by
  refine ⟨h.ra.kept hm (fun k hk hf => h.apart k hk hf), hr, ?_, h.lowA, ?_, h.below.trans (hm.below h.below.size h.lowB)⟩
  · intro k hk hb
    rcases hF k hb with hb | hb
    · exact h.apart k hk hb
    · have := h.ra.lt k hk; omega
  · intro k hk
    rcases hF k hk with hk | hk
    · exact h.lowB k hk
    · have := h.below.size; omega
theorem K2.past (h : K2 w0 wr Fa Fb a b cap La Lb) (hb : Below wr.heap.size wr w') : K2 w0 w' Fa Fb a b cap La Lb :=
  ⟨h.ra.below hb, h.rb.below hb, h.apart, h.lowA, h.lowB, h.below.trans (hb.mono h.below.size)⟩
/-- .. beside the call's own variable. -/
structure K3 (w0 wr : World) (Fa Fb : Nat → Prop) (a b cap : Nat) (La Lb : List Int) (p : Nat) (o : OpD) : Prop where
  two : K2 w0 wr Fa Fb a b cap La Lb
  cel : OpC wr p o
  pa : ¬ Fa p
  pb : ¬ Fb p
theorem K3.stepA (h : K3 w0 wr Fa Fb a b cap La Lb p o) (hr : RI.Ring w' F' a cap (ints L') 0) (hm : Mod Fa wr w') (hF : ∀ k, F' k → Fa k ∨ wr.heap.size ≤ k) : K3 w0 w' F' Fb a b cap L' Lb p o := by
  refine ⟨h.two.stepA hr hm hF, h.cel.kept hm h.pa, fun hp => ?_, h.pb⟩
  rcases hF p hp with hp | hp
  · exact h.pa hp
  · have := h.cel.lt; omega
theorem K3.stepB (h : K3 w0 wr Fa Fb a b cap La Lb p o) (hr : RS.Ring w' F' b cap (txs L') 0) (hm : Mod Fb wr w') (hF : ∀ k, F' k → Fb k ∨ wr.heap.size ≤ k) : K3 w0 w' Fa F' a b cap La L' p o := by
  refine ⟨h.two.stepB hr hm hF, h.cel.kept hm h.pb, h.pa, fun hp => ?_⟩
  rcases hF p hp with hp | hp
  · exact h.pb hp
  · have := h.cel.lt; omega
theorem K3.past (h : K3 w0 wr Fa Fb a b cap La Lb p o) (hb : Below wr.heap.size wr w') : K3 w0 w' Fa Fb a b cap La Lb p o :=
  ⟨h.two.past hb, h.cel.kept (Mod.ofBelow hb (fun _ => False)) (fun h => h), h.pa, h.pb⟩
theorem K3.made (h : K2 w0 wr Fa Fb a b cap La Lb) (o : OpD) : K3 w0 (wr.alloc (.cells #[.int .i64 o.kind, .int .i64 o.at_, .int .i64 o.n, .slice o.A o.len o.c] 43)) Fa Fb a b cap La Lb wr.heap.size o :=
  ⟨h.past ((Below.refl wr.heap.size wr).alloc (Nat.le_refl _) _), OpC.made wr o, fun hp => by have := h.ra.lt _ hp; omega, fun hp => by have := h.rb.lt _ hp; omega⟩

/-! ### The calls on either ring -/
theorem kPushA (h : K3 w0 wr Fa Fb a b cap La Lb p o) {A : Option Addr} {n c : Nat} {xs : List Int} (hr : Reads w0 1 (.slice A n c) n (ints xs)) (hnc : n ≤ c) (k : Nat) (hk : min n (cap - La.length) = k) :
    Calls Tryd.prog 23 #[.pointer (some ⟨a, 0, none⟩), .slice A n c] wr fun e w' => e = .returned (.int .i64 k) ∧ K3 w0 w' (Wide Fa wr w') Fb a b cap (La ++ xs.take k) Lb p o ∧ Mod Fa wr w' := by
  refine (RI.push_any wr Fa a cap (ints La) 0 A n c (ints xs) k h.two.ra (rdOut_of hr h.two.below h.two.lowA) hnc (ints_one _) (by rw [ints_length]; exact hk)).mono ?_
  rintro e w' ⟨rfl, hr, hm⟩
  rw [ints_take, ints_append] at hr
  exact ⟨rfl, h.stepA hr hm (fun j hj => hj.imp id (fun h => h.1)), hm⟩
theorem kPushB (h : K3 w0 wr Fa Fb a b cap La Lb p o) {A : Option Addr} {n c : Nat} {xs : List Int} {G : Nat → Prop} (hr : Row wr G 9 1 (.slice A n c) n (txs xs)) (hG : ∀ k, G k → ¬ Fb k) (hnc : n ≤ c) (k : Nat) (hk : min n (cap - Lb.length) = k) :
    Calls Tryd.prog 40 #[.pointer (some ⟨b, 0, none⟩), .slice A n c] wr fun e w' => e = .returned (.int .i64 k) ∧ K3 w0 w' Fa (Wide Fb wr w') a b cap La (Lb ++ xs.take k) p o := by
  refine (RS.push_any wr Fb b cap (txs Lb) 0 A n c (txs xs) k h.two.rb (rdOut_row hr hG) hnc (txs_one _) (by rw [txs_length]; exact hk)).mono ?_
  rintro e w' ⟨rfl, hr, hm⟩
  rw [txs_take, txs_append] at hr
  exact ⟨rfl, h.stepB hr hm (fun j hj => hj.imp id (fun h => h.1))⟩
theorem kPopA (h : K3 w0 wr Fa Fb a b cap La Lb p o) (n : Int) (k : Nat) (hk : min n.toNat La.length = k) :
    Calls Tryd.prog 25 #[.pointer (some ⟨a, 0, none⟩), .int .i64 n] wr fun e w' => ∃ A c, e = .returned (.slice A k c) ∧ Row w' (RI.New wr) 3 1 (.slice A k c) k (ints (La.take k)) ∧ K3 w0 w' Fa Fb a b cap (La.drop k) Lb p o := by
  refine (RI.pop_any wr Fa a cap (ints La) 0 n k h.two.ra (by rw [ints_length]; exact hk)).mono ?_
  rintro e w' ⟨A, c, rfl, hrow, hr, hm⟩
  rw [ints_take] at hrow
  rw [ints_drop] at hr
  exact ⟨A, c, rfl, hrow, h.stepA hr hm (fun j hj => .inl hj)⟩
theorem kPopB (h : K3 w0 wr Fa Fb a b cap La Lb p o) (n : Int) (k : Nat) (hk : min n.toNat Lb.length = k) :
    Calls Tryd.prog 41 #[.pointer (some ⟨b, 0, none⟩), .int .i64 n] wr fun e w' => ∃ A c, e = .returned (.slice A k c) ∧ Reads w' 1 (.slice A k c) k (txs (Lb.take k)) ∧ K3 w0 w' Fa Fb a b cap La (Lb.drop k) p o ∧ Mod Fb wr w' := by
  refine (RS.pop_any wr Fb b cap (txs Lb) 0 n k h.two.rb (by rw [txs_length]; exact hk)).mono ?_
  rintro e w' ⟨A, c, rfl, hrow, hr, hm⟩
  rw [txs_take] at hrow
  rw [txs_drop] at hr
  exact ⟨A, c, rfl, hrow.reads, h.stepB hr hm (fun j hj => .inl hj), hm⟩
theorem kDropA (h : K3 w0 wr Fa Fb a b cap La Lb p o) (n : Int) (k : Nat) (hk : min n.toNat La.length = k) :
    Calls Tryd.prog 26 #[.pointer (some ⟨a, 0, none⟩), .int .i64 n] wr fun e w' => e = .returned (.int .i64 k) ∧ K3 w0 w' Fa Fb a b cap (La.drop k) Lb p o := by
  refine (RI.drop_any wr Fa a cap (ints La) 0 n k h.two.ra (by rw [ints_length]; exact hk)).mono ?_
  rintro e w' ⟨rfl, hr, hm⟩
  rw [ints_drop] at hr
  exact ⟨rfl, h.stepA hr hm (fun j hj => .inl hj)⟩
theorem kDropB (h : K3 w0 wr Fa Fb a b cap La Lb p o) (n : Int) (k : Nat) (hk : min n.toNat Lb.length = k) :
    Calls Tryd.prog 42 #[.pointer (some ⟨b, 0, none⟩), .int .i64 n] wr fun e w' => e = .returned (.int .i64 k) ∧ K3 w0 w' Fa Fb a b cap La (Lb.drop k) p o := by
  refine (RS.drop_any wr Fb b cap (txs Lb) 0 n k h.two.rb (by rw [txs_length]; exact hk)).mono ?_
  rintro e w' ⟨rfl, hr, hm⟩
  rw [txs_drop] at hr
  exact ⟨rfl, h.stepB hr hm (fun j hj => .inl hj)⟩
theorem kPeekA (h : K3 w0 wr Fa Fb a b cap La Lb p o) (n : Int) (k : Nat) (hk : min n.toNat La.length = k) :
    Calls Tryd.prog 19 #[.pointer (some ⟨a, 0, none⟩), .int .i64 n] wr fun e w' => ∃ A c, e = .returned (.slice A k c) ∧ Reads w' 1 (.slice A k c) k (ints (La.take k)) ∧ K3 w0 w' Fa Fb a b cap La Lb p o := by
  refine (RI.peek_any wr Fa a cap (ints La) 0 n k h.two.ra (by rw [ints_length]; exact hk)).mono ?_
  rintro e w' ⟨A, c, rfl, hrow, hb⟩
  rw [ints_take] at hrow
  exact ⟨A, c, rfl, hrow.reads, h.past hb⟩
theorem kPeekB (h : K3 w0 wr Fa Fb a b cap La Lb p o) (n : Int) (k : Nat) (hk : min n.toNat Lb.length = k) :
    Calls Tryd.prog 44 #[.pointer (some ⟨b, 0, none⟩), .int .i64 n] wr fun e w' => ∃ A c, e = .returned (.slice A k c) ∧ Reads w' 1 (.slice A k c) k (txs (Lb.take k)) ∧ K3 w0 w' Fa Fb a b cap La Lb p o ∧ Below wr.heap.size wr w' := by
  refine (RS.peek_any wr Fb b cap (txs Lb) 0 n k h.two.rb (by rw [txs_length]; exact hk)).mono ?_
  rintro e w' ⟨A, c, rfl, hrow, hb⟩
  rw [txs_take] at hrow
  exact ⟨A, c, rfl, hrow.reads, h.past hb, hb⟩
end
end Go.Proofs.YtcalamofccdldaaDoor
