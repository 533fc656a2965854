import Derived.Test.YtipbaffhlekpfaaDoorFifR
/- The document's queue. -/
namespace Go.Proofs.YtipbaffhlekpfaaDoor
open Go Go.RowKit Go.Cu Go.Proofs.YtipbaffhlekpfaaDoor.errs

/-- the document's queue as a value -/
abbrev qv (things most : Int) (A : Option Addr) (n c : Nat) : Value := .agg #[.int .i64 things, .int .i64 most, .slice A n c]
theorem size_thing : (Tryd.prog.info? 55).map (·.size) = some 2 := by kernel_rfl
theorem agg_thing (w : World) : (isAgg 55).run Tryd.prog w = .ok true w := by kernel_rfl
theorem info_thing : (Tryd.prog.info? 55).map (fun i => (i.zero, i.size, i.bytes)) = some (some (.agg #[.int .i64 0, .int .i64 0]), 2, 16) := by kernel_rfl

theorem pairs_cell {w : World} {A : Option Addr} {n c : Nat} {L : List (Int × Int)} (hr : Reads w 2 (.slice A n c) n (pairs L)) {i : Nat} {x : Int × Int} (hx : L[i]? = some x) :
    ∃ ad, A = some ad ∧ w.cell? (ad.add (i * 2)) = some (.int .i64 x.1) ∧ w.cell? ⟨(ad.add (i * 2)).block, (ad.add (i * 2)).off + 1, none⟩ = some (.int .i64 x.2) := by
  have hx1 := pairs_at hx
  have hi : i < L.length := (List.getElem?_eq_some_iff.1 hx).1
  obtain ⟨h1, A', c', he, _, h3⟩ := hr
  rw [pairs_length] at h1
  injection he with he _ _
  rcases h3 with h3 | ⟨ad, hA, h4⟩
  · omega
  · refine ⟨ad, by rw [he, hA], h4 _ _ hx1.1, ?_⟩
    have e : ad.add (i * 2 + 1) = ⟨(ad.add (i * 2)).block, (ad.add (i * 2)).off + 1, none⟩ := by
      unfold Addr.add
      by_cases h : i * 2 = 0 <;> simp [h, Nat.add_assoc]
    rw [← e]
    exact h4 _ _ hx1.2
theorem wsum_take {L : List (Int × Int)} {i : Nat} {x : Int × Int} (hx : L[i]? = some x) : wsum (L.take (i + 1)) = wsum (L.take i) + x.2 := by
  rw [List.take_add_one, hx]
  exact wsum_append _ _
theorem wsum_take_le {L : List (Int × Int)} (h : ∀ x ∈ L, 0 ≤ x.2) (i : Nat) : 0 ≤ wsum (L.take i) ∧ wsum (L.take i) ≤ wsum L := by
  refine ⟨wsum_pos fun x hx => h x (List.mem_of_mem_take hx), ?_⟩
  have h1 : wsum L = wsum (L.take i) + wsum (L.drop i) := by
    conv => lhs; rw [← List.take_append_drop i L]
    simp only [wsum, List.map_append, List.sum_append]
  have := wsum_pos (L := L.drop i) fun x hx => h x (List.mem_of_mem_drop hx)
  omega

set_option maxRecDepth 10000 in
theorem sum_any (w : World) (things most : Int) (A : Option Addr) (n c : Nat) (L : List (Int × Int)) (hr : Reads w 2 (.slice A n c) n (pairs L)) (h0 : ∀ x ∈ L, 0 ≤ x.2) (hs : wsum L ≤ 9223372036854775807) :
    Calls Tryd.prog 19 #[qv things most A n c] w fun e w' => e = .returned (.int .i64 (wsum L)) ∧ Below w.heap.size w w' := by
  have hal : Below w.heap.size w (w.alloc (.cells #[.int .i64 things, .int .i64 most, .slice A n c] 41)) := (Below.refl _ _).alloc (Nat.le_refl _) _
  obtain ⟨w1, hw1⟩ : ∃ w1, w.alloc (.cells #[.int .i64 things, .int .i64 most, .slice A n c] 41) = w1 := ⟨_, rfl⟩
  obtain ⟨p, hp⟩ : ∃ p, w.heap.size = p := ⟨_, rfl⟩
  have HR : Hid (Reads w1 2 (.slice A n c) n (pairs L)) := by rw [← hw1]; exact hide (Reads.kept hr (fun a _ hc => (hal.cell (World.block_lt_of_cell? w a hc)).trans hc))
  have c2 : w1.cell? ⟨p, 2, none⟩ = some (.slice A n c) := by rw [← hw1, ← hp]; simp
  have HB : Hid (Below w.heap.size w w1) := by rw [← hw1]; exact hide hal
  have hnl : L.length = n := by have := hr.1; rw [pairs_length] at this; omega
  have HN := hide hnl
  have hlen : n ≤ 9223372036854775807 := maxLen_lt hr.size
  have H0 := hide h0
  clear hal hr hnl h0
  go_enter Tryd.func19, Tryd.ntmps19
  go_wp2
  go_loopw [3, 4] (fun s t wr => ∃ i : Nat, i ≤ n ∧ s = .int .i64 (wsum (L.take i)) ∧ t = .int .i64 i ∧ wr = w1) (fun _ t _ => n - (intOf t).toNat)
  case atStart => exact ⟨0, Nat.zero_le _, by simp [wsum], rfl, rfl⟩
  case round =>
    obtain ⟨i, hi, rfl, rfl, rfl⟩ := hrel
    by_cases hlt : i < n
    · obtain ⟨x, hx⟩ : ∃ x, L[i]? = some x := ⟨_, List.getElem?_eq_getElem (by rw [HN.out]; exact hlt)⟩
      obtain ⟨ad, hA, q0, q1⟩ := pairs_cell HR.out hx
      have hst := wsum_take hx
      have hle := (wsum_take_le H0.out (i + 1))
      have hwr : IntKind.i64.wrap (wsum (L.take i) + x.2) = wsum (L.take i) + x.2 := by rw [IntKind.wrap_i64]; omega
      subst hA
      have HST := hide hst
      clear hst hx
      go_wp2
      go_roundw
      case rel => exact ⟨i + 1, by omega, by rw [HST.out], by go_num, trivial⟩
      case measure => simp [intOf]; omega
    · obtain rfl : i = n := by omega
      have he : L.take i = L := List.take_of_length_le (by rw [HN.out]; exact Nat.le_refl _)
      rw [he]
      go_wp2
      go_ret
      exact ⟨rfl, HB.out⟩

set_option maxRecDepth 10000 in
set_option maxHeartbeats 1000000 in
theorem copied_any (w : World) (A : Option Addr) (n c : Nat) (L : List (Int × Int)) (hr : Reads w 2 (.slice A n c) n (pairs L)) (hs : n ≤ 4398046511104) :
    Calls Tryd.prog 41 #[.slice A n c] w fun e w' => ∃ A' c', e = .returned (.slice A' n c') ∧ Row w' (fun k => w.heap.size ≤ k) 55 2 (.slice A' n c') n (pairs L) ∧ Below w.heap.size w w' := by
  obtain ⟨i0, hi0, hz0, hz1, hz2⟩ := info_parts info_thing
  have hnl : L.length = n := by have := hr.1; rw [pairs_length] at this; omega
  have HN := hide hnl
  have HR := hide hr
  clear hr hnl
  go_enter Tryd.func41, Tryd.ntmps41
  go_wp2
  go_loopw [3, 4] (fun s t wr => ∃ i : Nat, i ≤ n ∧ t = .int .i64 i ∧ ∃ A' c', s = .slice A' i c' ∧ Hid (Row wr (fun k => w.heap.size ≤ k) 55 2 (.slice A' i c') i (pairs (L.take i))) ∧ Hid (Below w.heap.size w wr)) (fun _ t _ => n - (intOf t).toNat)
  case atStart => exact ⟨0, Nat.zero_le _, rfl, none, 0, rfl, hide (Row.nil _ _ _ _), hide (Below.refl _ _)⟩
  case round =>
    obtain ⟨i, hi, rfl, A', c', rfl, HRow, HB⟩ := hrel
    by_cases hlt : i < n
    · obtain ⟨x, hx⟩ : ∃ x, L[i]? = some x := ⟨_, List.getElem?_eq_getElem (by rw [HN.out]; exact hlt)⟩
      have HX := hide hx
      have HR1 : Hid (Reads wr 2 (.slice A n c) n (pairs L)) := hide (Reads.kept HR.out (fun a _ hc => (HB.out.cell (World.block_lt_of_cell? w a hc)).trans hc))
      have HRow1 := hide (HRow.out.alloc (.cells #[.int .i64 x.1, .int .i64 x.2] 55))
      have HLit : Hid (Reads (wr.alloc (.cells #[.int .i64 x.1, .int .i64 x.2] 55)) 2 (.slice (some ⟨wr.heap.size, 0, none⟩) 1 1) 1 (pairs [x])) := by
        refine hide ⟨rfl, _, 1, rfl, by unfold maxLen; omega, .inr ⟨_, rfl, fun j u hj => ?_⟩⟩
        have hj' : [Value.int .i64 x.1, .int .i64 x.2][j]? = some u := hj
        rw [add_plain, Nat.zero_add]
        exact (cell_of_row (wr.alloc (.cells #[.int .i64 x.1, .int .i64 x.2] 55)) wr.heap.size j _ _ _ (heap_alloc_new wr _)).trans (by simpa using hj')
      clear hx
      go_wp2_with (first
        | ((with_reducible refine at_index rfl ?_); refine wpList_atS rfl rfl _ _ 39 55 _ rfl rfl rfl (by simp) Tryd.underlying39 (by decide) size_thing agg_thing rfl HR1.out rfl (by omega) (by omega) (us := [.int .i64 x.1, .int .i64 x.2]) rfl (pairs_us HX.out) ?_; intro q)
        | (at_builtin; refine wpList_append_row rfl _ _ 39 rfl 55 i0 (.agg #[.int .i64 0, .int .i64 0]) 2 16 Tryd.underlying39 hi0 hz0 hz1 hz2 rfl (by decide) rfl HRow1.out (news := pairs [x]) rfl HLit.out (pairs_one _) (by unfold maxLen; omega) (by omega) ?_
           intro A2 c2 w3 hr3 hm3
           have HR3 := hide hr3
           have HM3 := hide hm3
           clear hr3 hm3))
      have hB3 : Below w.heap.size w w3 := HB.out.trans ((Below.alloc (Below.refl _ _) (by have := HB.out.size; exact this) _).trans (HM3.out.below (by have := HB.out.size; simp; omega) (fun _ h => h)))
      go_roundw
      case rel => exact ⟨i + 1, by omega, by go_num, A2, c2, rfl, hide (by rw [List.take_add_one, HX.out, ← pairs_append]; exact HR3.out.mono (fun k hk _ => by rcases hk with hk | hk; exact hk; have := HB.out.size; rw [hk]; simp; omega)), hide hB3⟩
      case measure => simp [intOf]; omega
    · obtain rfl : i = n := by omega
      have he : L.take i = L := List.take_of_length_le (by rw [HN.out]; exact Nat.le_refl _)
      rw [he] at HRow
      go_wp2
      go_ret
      exact ⟨A', c', rfl, HRow.out, HB.out⟩
end Go.Proofs.YtipbaffhlekpfaaDoor
