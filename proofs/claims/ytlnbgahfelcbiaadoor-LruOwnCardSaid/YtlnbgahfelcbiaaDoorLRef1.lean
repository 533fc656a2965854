import Derived.Test.YtlnbgahfelcbiaaDoorLPut
import Derived.Test.YtlnbgahfelcbiaaDoorFlat
import Derived.Test.YtlnbgahfelcbiaaDoorCpy
import Derived.Handy
/- The document's cache: rows of four numbers; New, At, Weight, Keys; two lists of keys. -/
namespace Go.Proofs.YtlnbgahfelcbiaaDoor
open Go Go.RowKit Go.Cu

def rowC (e : LE) : List Value := [.int .i64 e.k, .int .i64 e.v, .int .i64 e.wt, .int .i64 e.un]
theorem rowC_length (e : LE) : (rowC e).length = 4 := rfl
def rowsC (L : List LE) : List Value := L.flatMap rowC
theorem rowsC_length (L : List LE) : (rowsC L).length = L.length * 4 := flat_length rowC_length L
theorem rowsC_app (a b : List LE) : rowsC a ++ rowsC b = rowsC (a ++ b) := by simp [rowsC]
theorem rowsC_one (L : List LE) : ∀ u ∈ rowsC L, u.oneCell' = true := by
  intro u hu
  obtain ⟨e, _, hu⟩ := List.mem_flatMap.1 hu
  simp only [rowC, List.mem_cons, List.not_mem_nil, or_false] at hu
  rcases hu with rfl | rfl | rfl | rfl <;> rfl
theorem rowsC_take (L : List LE) (i : Nat) : (rowsC L).take (i * 4) = rowsC (L.take i) := by
  induction L generalizing i with
  | nil => simp [rowsC]
  | cons e r ih =>
    cases i with
    | zero => simp [rowsC]
    | succ i =>
      have h := ih i
      unfold rowsC at h ⊢
      rw [List.flatMap_cons, List.take_succ_cons, List.flatMap_cons, Nat.succ_mul, List.take_append, rowC_length]
      rw [List.take_of_length_le (by rw [rowC_length]; omega), show i * 4 + 4 - 4 = i * 4 by omega, h]
theorem rowsC_drop (L : List LE) (i : Nat) : (rowsC L).drop (i * 4) = rowsC (L.drop i) := by
  have h1 : rowsC L = rowsC (L.take i) ++ rowsC (L.drop i) := by rw [rowsC_app, List.take_append_drop]
  have h2 := List.take_append_drop (i * 4) (rowsC L)
  rw [rowsC_take] at h2
  rw [h1] at h2
  exact List.append_cancel_left (by rw [← h1] at h2; rw [← h1]; exact h2)
/-- the document's cache as a value -/
abbrev cvv (room : Int) (A : Option Addr) (n c : Nat) : Value := .agg #[.int .i64 room, .slice A n c]
theorem size_row : (Tryd.prog.info? 105).map (·.size) = some 4 := by kernel_rfl
theorem agg_row (w : World) : (isAgg 105).run Tryd.prog w = .ok true w := by kernel_rfl
theorem info_row : (Tryd.prog.info? 105).map (fun i => (i.zero, i.size, i.bytes)) = some (some (.agg #[.int .i64 0, .int .i64 0, .int .i64 0, .int .i64 0]), 4, 32) := by kernel_rfl

theorem rows_cell {w : World} {A : Option Addr} {n c : Nat} {L : List LE} (hr : Reads w 4 (.slice A n c) n (rowsC L)) {i : Nat} {x : LE} (hx : L[i]? = some x) :
    ∃ ad, A = some ad ∧ w.cell? (ad.add (i * 4)) = some (.int .i64 x.k) ∧ w.cell? ⟨(ad.add (i * 4)).block, (ad.add (i * 4)).off + 1, none⟩ = some (.int .i64 x.v) ∧
      w.cell? ⟨(ad.add (i * 4)).block, (ad.add (i * 4)).off + 2, none⟩ = some (.int .i64 x.wt) ∧ w.cell? ⟨(ad.add (i * 4)).block, (ad.add (i * 4)).off + 3, none⟩ = some (.int .i64 x.un) := by
  have hi : i < L.length := (List.getElem?_eq_some_iff.1 hx).1
  have hg := flat_get rowC_length hx
  obtain ⟨h1, A', c', he, _, h3⟩ := hr
  rw [rowsC_length] at h1
  injection he with he _ _
  rcases h3 with h3 | ⟨ad, hA, h4⟩
  · omega
  · have e : ∀ k, k ≠ 0 → ad.add (i * 4 + k) = ⟨(ad.add (i * 4)).block, (ad.add (i * 4)).off + k, none⟩ := fun k hk => by
      unfold Addr.add
      by_cases h : i * 4 = 0 <;> simp [h, hk, Nat.add_assoc]
    refine ⟨ad, by rw [he, hA], h4 _ _ (hg 0 _ rfl), ?_, ?_, ?_⟩
    · rw [← e 1 (by decide)]; exact h4 _ _ (hg 1 _ rfl)
    · rw [← e 2 (by decide)]; exact h4 _ _ (hg 2 _ rfl)
    · rw [← e 3 (by decide)]; exact h4 _ _ (hg 3 _ rfl)
theorem Reads.past {w w' : World} {sz : Nat} {x : Value} {m : Nat} {news : List Value} (h : Reads w sz x m news) (hb : Below w.heap.size w w') : Reads w' sz x m news :=
  Reads.kept h (fun a _ hc => (hb.cell (World.block_lt_of_cell? w a hc)).trans hc)
theorem rows_len {w : World} {A : Option Addr} {n c : Nat} {L : List LE} (hr : Reads w 4 (.slice A n c) n (rowsC L)) : L.length = n := by
  have := hr.1
  rw [rowsC_length] at this
  omega
theorem wsum_take {L : List LE} {i : Nat} {x : LE} (hx : L[i]? = some x) : wsum (L.take (i + 1)) = wsum (L.take i) + x.wt := by
  rw [List.take_add_one, hx, wsum_app]
  simp [wsum]
theorem wsum_take_le {L : List LE} (h : ∀ x ∈ L, 0 ≤ x.wt) (i : Nat) : 0 ≤ wsum (L.take i) ∧ wsum (L.take i) ≤ wsum L := by
  refine ⟨wsum_nonneg fun x hx => h x (List.mem_of_mem_take hx), ?_⟩
  have h1 : wsum L = wsum (L.take i) + wsum (L.drop i) := by rw [← wsum_app, List.take_append_drop]
  have := wsum_nonneg (l := L.drop i) fun x hx => h x (List.mem_of_mem_drop hx)
  omega

theorem refnew_bad (w : World) (room : Int) (hr : room < 0) : Calls Tryd.prog 20 #[.int .i64 room] w fun r w' => r = .returned (.tuple #[cvv 0 none 0 0, .int .i64 2]) ∧ Below w.heap.size w w' := by
  go_enter Tryd.func20, Tryd.ntmps20
  go_wp2
  go_returns
  exact ⟨rfl, by repeat (first | exact Below.refl _ _ | refine Below.drew ?_ | refine Below.alloc ?_ (Nat.le_refl _) _ | refine Below.setCell ?_ _ _)⟩
theorem refnew_ok (w : World) (room : Int) (hr : 0 ≤ room) : Calls Tryd.prog 20 #[.int .i64 room] w fun r w' => r = .returned (.tuple #[cvv room none 0 0, .int .i64 0]) ∧ Below w.heap.size w w' := by
  have h1 : ¬ room < 0 := by omega
  go_enter Tryd.func20, Tryd.ntmps20
  go_wp2
  go_returns
  exact ⟨rfl, by repeat (first | exact Below.refl _ _ | refine Below.drew ?_ | refine Below.alloc ?_ (Nat.le_refl _) _ | refine Below.setCell ?_ _ _)⟩

set_option maxRecDepth 10000 in
theorem refat_none (w : World) (room : Int) (A : Option Addr) (n c : Nat) (L : List LE) (hr : Reads w 4 (.slice A n c) n (rowsC L)) (k : Int) (hk : ∀ e ∈ L, e.k ≠ k) :
    Calls Tryd.prog 54 #[cvv room A n c, .int .i64 k] w fun r w' => r = .returned (.int .i64 (-1)) ∧ Below w.heap.size w w' := by
  have hal : Below w.heap.size w (w.alloc (.cells #[.int .i64 room, .slice A n c] 46)) := (Below.refl _ _).alloc (Nat.le_refl _) _
  obtain ⟨w1, hw1⟩ : ∃ w1, w.alloc (.cells #[.int .i64 room, .slice A n c] 46) = w1 := ⟨_, rfl⟩
  obtain ⟨p, hp⟩ : ∃ p, w.heap.size = p := ⟨_, rfl⟩
  have HR : Hid (Reads w1 4 (.slice A n c) n (rowsC L)) := by rw [← hw1]; exact hide (Reads.past hr hal)
  have c1 : w1.cell? ⟨p, 1, none⟩ = some (.slice A n c) := by rw [← hw1, ← hp]; simp
  have HB : Hid (Below w.heap.size w w1) := by rw [← hw1]; exact hide hal
  have HN := hide (rows_len hr)
  have hlen : n ≤ 9223372036854775807 := maxLen_lt hr.size
  have HK := hide hk
  clear hal hr hk
  go_enter Tryd.func54, Tryd.ntmps54
  go_wp2
  go_loopw [5] (fun t wr => ∃ i : Nat, i ≤ n ∧ t = .int .i64 i ∧ wr = w1) (fun t _ => n - (intOf t).toNat)
  case atStart => exact ⟨0, Nat.zero_le _, rfl, rfl⟩
  case round =>
    obtain ⟨i, hi, rfl, rfl⟩ := hrel
    by_cases hlt : i < n
    · obtain ⟨x, hx⟩ : ∃ x, L[i]? = some x := ⟨_, List.getElem?_eq_getElem (by rw [HN.out]; exact hlt)⟩
      obtain ⟨ad, hA, q0, q1, q2, q3⟩ := rows_cell HR.out hx
      have hne : (x.k == k) = false := by simpa using HK.out x (List.mem_of_getElem? hx)
      subst hA
      clear hx
      go_wp2
      go_roundw
      case rel => exact ⟨i + 1, by omega, by go_num, trivial⟩
      case measure => simp [intOf]; omega
    · obtain rfl : i = n := by omega
      go_wp2
      go_ret
      exact ⟨rfl, HB.out⟩
set_option maxRecDepth 10000 in
theorem refat_mid (w : World) (room : Int) (A : Option Addr) (n c : Nat) (a b : List LE) (e : LE) (hr : Reads w 4 (.slice A n c) n (rowsC (a ++ e :: b))) (hk : ∀ x ∈ a, x.k ≠ e.k) :
    Calls Tryd.prog 54 #[cvv room A n c, .int .i64 e.k] w fun r w' => r = .returned (.int .i64 a.length) ∧ Below w.heap.size w w' := by
  have hal : Below w.heap.size w (w.alloc (.cells #[.int .i64 room, .slice A n c] 46)) := (Below.refl _ _).alloc (Nat.le_refl _) _
  obtain ⟨w1, hw1⟩ : ∃ w1, w.alloc (.cells #[.int .i64 room, .slice A n c] 46) = w1 := ⟨_, rfl⟩
  obtain ⟨p, hp⟩ : ∃ p, w.heap.size = p := ⟨_, rfl⟩
  have HR : Hid (Reads w1 4 (.slice A n c) n (rowsC (a ++ e :: b))) := by rw [← hw1]; exact hide (Reads.past hr hal)
  have c1 : w1.cell? ⟨p, 1, none⟩ = some (.slice A n c) := by rw [← hw1, ← hp]; simp
  have HB : Hid (Below w.heap.size w w1) := by rw [← hw1]; exact hide hal
  have han : a.length < n := by have := rows_len hr; simp at this; omega
  have hlen : n ≤ 9223372036854775807 := maxLen_lt hr.size
  have HK := hide hk
  clear hal hr hk
  go_enter Tryd.func54, Tryd.ntmps54
  go_wp2
  go_loopw [5] (fun t wr => ∃ i : Nat, i ≤ a.length ∧ t = .int .i64 i ∧ wr = w1) (fun t _ => n - (intOf t).toNat)
  case atStart => exact ⟨0, Nat.zero_le _, rfl, rfl⟩
  case round =>
    obtain ⟨i, hi, rfl, rfl⟩ := hrel
    by_cases hlt : i < a.length
    · obtain ⟨x, hx⟩ : ∃ x, a[i]? = some x := ⟨_, List.getElem?_eq_getElem hlt⟩
      obtain ⟨ad, hA, q0, q1, q2, q3⟩ := rows_cell HR.out (i := i) (x := x) (by rw [List.getElem?_append_left hlt]; exact hx)
      have hne : (x.k == e.k) = false := by simpa using HK.out x (List.mem_of_getElem? hx)
      have hin : i < n := by omega
      subst hA
      clear hx
      go_wp2
      go_roundw
      case rel => exact ⟨i + 1, by omega, by go_num, trivial⟩
      case measure => simp [intOf]; omega
    · obtain rfl : i = a.length := by omega
      obtain ⟨ad, hA, q0, q1, q2, q3⟩ := rows_cell HR.out (i := a.length) (x := e) (by simp)
      subst hA
      go_wp2
      go_ret
      exact ⟨rfl, HB.out⟩
set_option maxRecDepth 10000 in
theorem refweight_any (w : World) (room : Int) (A : Option Addr) (n c : Nat) (L : List LE) (hr : Reads w 4 (.slice A n c) n (rowsC L)) (h0 : ∀ x ∈ L, 0 ≤ x.wt) (hs : wsum L ≤ 9223372036854775807) :
    Calls Tryd.prog 57 #[cvv room A n c] w fun r w' => r = .returned (.int .i64 (wsum L)) ∧ Below w.heap.size w w' := by
  have hal : Below w.heap.size w (w.alloc (.cells #[.int .i64 room, .slice A n c] 46)) := (Below.refl _ _).alloc (Nat.le_refl _) _
  obtain ⟨w1, hw1⟩ : ∃ w1, w.alloc (.cells #[.int .i64 room, .slice A n c] 46) = w1 := ⟨_, rfl⟩
  obtain ⟨p, hp⟩ : ∃ p, w.heap.size = p := ⟨_, rfl⟩
  have HR : Hid (Reads w1 4 (.slice A n c) n (rowsC L)) := by rw [← hw1]; exact hide (Reads.past hr hal)
  have c1 : w1.cell? ⟨p, 1, none⟩ = some (.slice A n c) := by rw [← hw1, ← hp]; simp
  have HB : Hid (Below w.heap.size w w1) := by rw [← hw1]; exact hide hal
  have HN := hide (rows_len hr)
  have hlen : n ≤ 9223372036854775807 := maxLen_lt hr.size
  have H0 := hide h0
  clear hal hr h0
  go_enter Tryd.func57, Tryd.ntmps57
  go_wp2
  go_loopw [3, 4] (fun s t wr => ∃ i : Nat, i ≤ n ∧ s = .int .i64 (wsum (L.take i)) ∧ t = .int .i64 i ∧ wr = w1) (fun _ t _ => n - (intOf t).toNat)
  case atStart => exact ⟨0, Nat.zero_le _, by simp [wsum], rfl, rfl⟩
  case round =>
    obtain ⟨i, hi, rfl, rfl, rfl⟩ := hrel
    by_cases hlt : i < n
    · obtain ⟨x, hx⟩ : ∃ x, L[i]? = some x := ⟨_, List.getElem?_eq_getElem (by rw [HN.out]; exact hlt)⟩
      obtain ⟨ad, hA, q0, q1, q2, q3⟩ := rows_cell HR.out hx
      have hst := wsum_take hx
      have hle := wsum_take_le H0.out (i + 1)
      have hwr : IntKind.i64.wrap (wsum (L.take i) + x.wt) = wsum (L.take i) + x.wt := by rw [IntKind.wrap_i64]; omega
      subst hA
      have HST := hide hst
      clear hst hx
      go_wp2
      go_roundw
      case rel => exact ⟨i + 1, by omega, by rw [HST.out], by go_num, trivial⟩
      case measure => simp [intOf]; omega
    · obtain rfl : i = n := by omega
      have he : L.take i = L := List.take_of_length_le (by rw [HN.out]; exact Nat.le_refl _)
      rw [he]
      go_wp2
      go_ret
      exact ⟨rfl, HB.out⟩
set_option maxRecDepth 10000 in
theorem refkeys_any (w : World) (room : Int) (A : Option Addr) (n c : Nat) (L : List LE) (hr : Reads w 4 (.slice A n c) n (rowsC L)) (hn : n ≤ 17592186044415) :
    Calls Tryd.prog 58 #[cvv room A n c] w fun r w' => ∃ A n cc, r = .returned (.slice A n cc) ∧ n = L.length ∧ Row w' (New w) 3 1 (.slice A n cc) n (ints (keysOf L)) ∧ Below w.heap.size w w' := by
  have hal : Below w.heap.size w (w.alloc (.cells #[.int .i64 room, .slice A n c] 46)) := (Below.refl _ _).alloc (Nat.le_refl _) _
  obtain ⟨w1, hw1⟩ : ∃ w1, w.alloc (.cells #[.int .i64 room, .slice A n c] 46) = w1 := ⟨_, rfl⟩
  obtain ⟨p, hp⟩ : ∃ p, w.heap.size = p := ⟨_, rfl⟩
  have HR : Hid (Reads w1 4 (.slice A n c) n (rowsC L)) := by rw [← hw1]; exact hide (Reads.past hr hal)
  have h1 : w1.heap[p]? = some (.cells #[.int .i64 room, .slice A n c] 46 (0, 0)) := by rw [← hw1, ← hp]; exact heap_alloc_new w _
  have HH := hide h1
  have HB : Hid (Below w.heap.size w w1) := by rw [← hw1]; exact hide hal
  have HN := hide (rows_len hr)
  have hlen : n ≤ 9223372036854775807 := maxLen_lt hr.size
  obtain ⟨i0, hi0, hz0, hz1, hz2⟩ := info_parts info_int
  have hpw : w1.heap.size = p + 1 := by rw [← hw1, ← hp]; simp
  have hwp := hp
  clear hal hr h1
  go_enter Tryd.func58, Tryd.ntmps58
  go_wp2
  go_loopw [3, 4] (fun s t wr => ∃ i : Nat, i ≤ n ∧ t = .int .i64 i ∧ ∃ B cc, s = .slice B i cc ∧ Hid (Row wr (New w1) 3 1 (.slice B i cc) i (ints (keysOf (L.take i)))) ∧ Hid (Below w1.heap.size w1 wr)) (fun _ t _ => n - (intOf t).toNat)
  case atStart => exact ⟨0, Nat.zero_le _, rfl, none, 0, rfl, hide (Row.nil _ _ _ _), hide (Below.refl _ _)⟩
  case round =>
    obtain ⟨i, hi, rfl, B, cc, rfl, HRow, HBr⟩ := hrel
    have hh : wr.heap[p]? = some (.cells #[.int .i64 room, .slice A n c] 46 (0, 0)) := (HBr.out.block p (by omega)).trans HH.out
    have c1 : wr.cell? ⟨p, 1, none⟩ = some (.slice A n c) := by rw [cell_of_row wr p 1 _ _ _ hh]; rfl
    have hws := HBr.out.size
    by_cases hlt : i < n
    · obtain ⟨x, hx⟩ : ∃ x, L[i]? = some x := ⟨_, List.getElem?_eq_getElem (by rw [HN.out]; exact hlt)⟩
      obtain ⟨ad, hA, q0, q1, q2, q3⟩ := rows_cell (Reads.past HR.out HBr.out) hx
      have HT : Hid (L.take (i + 1) = L.take i ++ [x]) := hide (by rw [List.take_add_one, hx]; rfl)
      have HRow1 := hide (HRow.out.alloc (.cells #[.int .i64 x.k] 3))
      subst hA
      clear hx hh q1 q2 q3
      go_wp2_with (first
        | (at_builtin; refine wpList_append_row rfl _ _ 32 rfl 3 i0 (.int .i64 0) 1 8 Tryd.underlying32 hi0 hz0 hz1 hz2 rfl (by decide) rfl HRow1.out rfl (reads_one _ _ _ _) (by simp [Value.oneCell']) (by unfold maxLen; omega) (by omega) ?_
           intro B1 b1 w2 hrow1 hmod1
           have HR1 := hide hrow1
           have HB2 := hide ((HBr.out.alloc hws (.cells #[.int .i64 x.k] 3)).trans (hmod1.below (B := w1.heap.size) (by simp; omega) (fun k hk => hk)))
           clear hrow1 hmod1)
        | fail)
      go_roundw
      case rel =>
        refine ⟨i + 1, by omega, by go_num, B1, b1, rfl, hide ?_, HB2⟩
        rw [HT.out, keysOf_app, ← ints_append]
        exact HR1.out.mono (fun k hk _ => by
          rcases hk with hk | hk
          · exact hk
          · show w1.heap.size ≤ k
            rw [hk]; simp; omega)
      case measure => simp [intOf]; omega
    · obtain rfl : i = n := by omega
      have he : L.take i = L := List.take_of_length_le (by rw [HN.out]; exact Nat.le_refl _)
      rw [he] at HRow
      go_wp2
      go_ret
      exact ⟨B, i, cc, rfl, HN.out.symm, HRow.out.mono (fun k hk _ => by show w.heap.size ≤ k; have : w1.heap.size ≤ k := hk; omega), HB.out.trans (HBr.out.mono (by omega))⟩
end Go.Proofs.YtlnbgahfelcbiaaDoor
