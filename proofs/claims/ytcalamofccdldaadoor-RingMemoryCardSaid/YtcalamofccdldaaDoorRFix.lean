import Derived.Test.YtcalamofccdldaaDoorRI
/- same, fixed. -/
namespace Go.Proofs.YtcalamofccdldaaDoor
open Go Go.RowKit Go.Cu

def ints (L : List Int) : List Value := L.map (Value.int .i64)
theorem ints_length (L : List Int) : (ints L).length = L.length := by simp [ints]
theorem ints_get {L : List Int} {i : Nat} {x : Int} (h : L[i]? = some x) : (ints L)[i]? = some (.int .i64 x) := by simp [ints, h]
theorem ints_take (L : List Int) (k : Nat) : (ints L).take k = ints (L.take k) := by simp [ints, List.map_take]
theorem ints_drop (L : List Int) (k : Nat) : (ints L).drop k = ints (L.drop k) := by simp [ints, List.map_drop]
theorem ints_append (L M : List Int) : ints L ++ ints M = ints (L ++ M) := by simp [ints]
theorem ints_one (L : List Int) : ∀ u ∈ ints L, u.oneCell' = true := by
  intro u hu
  obtain ⟨x, _, rfl⟩ := List.mem_map.1 hu
  rfl

/-- The world but for draws. -/
def Drawn (w w' : World) : Prop := ∃ m, w' = w.drewN m
theorem Drawn.refl (w : World) : Drawn w w := ⟨0, rfl⟩
theorem Drawn.below {w w' : World} (h : Drawn w w') : Below w.heap.size w w' := by obtain ⟨m, rfl⟩ := h; exact ⟨rfl, rfl, rfl, Nat.le_refl _, fun _ _ => rfl⟩
theorem Drawn.cell {w w' : World} (h : Drawn w w') (a : Addr) : w'.cell? a = w.cell? a := by obtain ⟨m, rfl⟩ := h; rfl

theorem reads_pos {w : World} {v : Value} {n : Nat} {xs : List Value} (h : Reads w 1 v n xs) (hn : 0 < n) : ∃ ad c, v = .slice (some ad) n c ∧ ∀ j u, xs[j]? = some u → w.cell? (ad.add j) = some u := by
  obtain ⟨_, A, c, rfl, _, h3⟩ := h
  rcases h3 with h3 | ⟨ad, rfl, h4⟩
  · omega
  · exact ⟨ad, c, rfl, h4⟩

/-- a literal -/
theorem reads_lit (w : World) (xs : List Value) (e : TypeId) (n : Nat) (hn : xs.length = n) (hm : n ≤ 1000) : Reads (w.alloc (.cells xs.toArray e)) 1 (.slice (some ⟨w.heap.size, 0, none⟩) n n) n xs := by
  refine ⟨by omega, _, n, rfl, by unfold maxLen; omega, .inr ⟨_, rfl, fun j u hj => ?_⟩⟩
  rw [add_plain, Nat.zero_add, cell_of_row (w.alloc (.cells xs.toArray e)) w.heap.size j _ _ _ (heap_alloc_new w _)]
  simpa using hj

set_option maxRecDepth 10000 in
set_option maxHeartbeats 1000000 in
theorem same_any (w : World) (u v : Value) (n : Nat) (L : List Int) (hu : Reads w 1 u n (ints L)) (hv : Reads w 1 v n (ints L)) :
    Calls Tryd.prog 24 #[u, v] w fun e w' => e = .returned (.bool true) ∧ Drawn w w' := by
  have hn := maxLen_lt hu.size
  have hL : L.length = n := by have := hu.1; rw [ints_length] at this; omega
  rcases Nat.eq_zero_or_pos n with rfl | hpos
  · obtain ⟨A, c, rfl⟩ := hu.shape
    obtain ⟨B, d, rfl⟩ := hv.shape
    clear hu hv hL
    go_enter Tryd.func24, Tryd.ntmps24
    go_wp2
    refine wp_loop_rounds 1 ?_
    rw [rounds_succ]
    go_wp2
    go_ret
    exact ⟨rfl, Drawn.refl _⟩
  · obtain ⟨a, c, rfl, ha⟩ := reads_pos hu hpos
    obtain ⟨b, d, rfl, hb⟩ := reads_pos hv hpos
    have HL := hide hL
    have HA := hide ha
    have HB := hide hb
    clear hu hv hL ha hb
    go_enter Tryd.func24, Tryd.ntmps24
    go_wp2
    go_loopw [13] (fun t wr => ∃ i : Nat, i ≤ n ∧ t = .int .i64 i ∧ Hid (Drawn w wr)) (fun t _ => n - (intOf t).toNat)
    case atStart => exact ⟨0, Nat.zero_le _, rfl, Drawn.refl _⟩
    case round =>
      obtain ⟨i, hi, rfl, hdr⟩ := hrel
      by_cases hlt : i < n
      · obtain ⟨x, hx⟩ : ∃ x, L[i]? = some x := ⟨_, List.getElem?_eq_getElem (by have := HL.out; omega)⟩
        have h1 := (hdr.out.cell _).trans (HA.out i _ (ints_get hx))
        have h2 := (hdr.out.cell _).trans (HB.out i _ (ints_get hx))
        have hne : (x != x) = false := by simp
        clear hx
        go_wp2
        go_quiet (fail)
        go_wp2
        go_roundw
        case rel => 
          obtain ⟨m, hm⟩ := hdr.out
          exact ⟨i + 1, by omega, by go_num, ⟨_, by rw [hm, World.drewN_drewN]⟩⟩
        case measure => simp [intOf]; omega
      · go_wp2
        go_ret
        exact ⟨rfl, hdr.out⟩

set_option maxRecDepth 10000 in
set_option maxHeartbeats 1000000 in
theorem fixed_true (w : World) : Calls Tryd.prog 9 #[] w fun e w' => e = .returned (.bool true) ∧ Below w.heap.size w w' := by
  go_enter Tryd.func9, Tryd.ntmps9
  go_wp2_with fail
  refine (RI.new_any w 2 (by decide)).mono ?_
  rintro e w1 ⟨b, rfl, hr, hb⟩
  have HR1 := hide hr
  have HB1 := hide hb
  clear hr hb
  go_wp2_with fail
  have hlit := reads_lit w1 (ints [7, 8, 9]) 3 3 rfl (by decide)
  have hal := (Below.refl w1.heap.size w1).alloc (Nat.le_refl _) (.cells #[.int .i64 7, .int .i64 8, .int .i64 9] 3)
  refine (RI.push_any _ _ b 2 [] 0 _ 3 3 (ints [7, 8, 9]) 2 (HR1.out.below hal) ⟨hlit, fun ad c e => ?_⟩ (by decide) (ints_one _) rfl).mono ?_
  · injection e with e _ _
    injection e with e
    subst e
    exact .inr ⟨fun h => by have := h.2; simp at this, by simp⟩
  rintro e w2 ⟨rfl, hr, hm⟩
  have HR2 := hide hr
  have HM2 := hide hm
  clear hr hm hlit hal
  have hF2 := HB1.out.size
  go_wp2_with fail
  refine (RI.peek_any w2 _ b 2 _ 0 9 2 HR2.out rfl).mono ?_
  rintro e w3 ⟨A3, c3, rfl, hr, hb⟩
  have HP3 := hide hr
  have HB3 := hide hb
  have HR3 := hide (HR2.out.below hb)
  clear hr hb
  go_wp2_with fail
  have hal := (Below.refl w3.heap.size w3).alloc (Nat.le_refl _) (.cells #[.int .i64 7, .int .i64 8] 3)
  refine (same_any _ _ _ 2 [7, 8] (HP3.out.alloc _).reads (reads_lit w3 (ints [7, 8]) 3 2 rfl (by decide))).mono ?_
  rintro e w4 ⟨rfl, hd⟩
  have HB4 := hide (hal.trans (hd.below.mono (by simp)))
  have HR4 := hide (HR3.out.below HB4.out)
  clear hd hal
  go_wp2_with fail
  refine (RI.pop_any w4 _ b 2 _ 0 1 1 HR4.out rfl).mono ?_
  rintro e w5 ⟨A5, c5, rfl, hr, hr2, hm⟩
  have HP5 := hide hr
  have HR5 := hide hr2
  have HM5 := hide hm
  clear hr hr2 hm
  go_wp2_with fail
  have hal := (Below.refl w5.heap.size w5).alloc (Nat.le_refl _) (.cells #[.int .i64 7] 3)
  refine (same_any _ _ _ 1 [7] (HP5.out.alloc _).reads (reads_lit w5 (ints [7]) 3 1 rfl (by decide))).mono ?_
  rintro e w6 ⟨rfl, hd⟩
  have HB6 := hide (hal.trans (hd.below.mono (by simp)))
  have HR6 := hide (HR5.out.below HB6.out)
  clear hd hal
  go_wp2_with (first
    | (go_at_call 28; refine (RI.len_any _ _ b 2 _ 0 HR6.out).mono ?_; rintro e w7 ⟨rfl, rfl⟩)
    | (go_at_call 21; refine (RI.free_eq _ _ b 2 _ 0 1 HR6.out rfl).mono ?_; rintro e w7 ⟨rfl, rfl⟩))
  go_ret
  have b2 := HM2.out.below (B := w.heap.size) (by simp; omega) (fun k hk => hk.1)
  have s2 := b2.size
  have s3 := HB3.out.size
  have s4 := HB4.out.size
  have b5 := HM5.out.below (B := w.heap.size) (by simp at s2; omega) (fun k hk => by
    rcases hk with hk | hk
    · exact hk.1
    · have := hk.1; simp at this; omega)
  have s5 := b5.size
  simp at s2
  exact ⟨rfl, (((((HB1.out.alloc hF2 _).trans b2).trans (HB3.out.mono (by omega))).trans (HB4.out.mono (by omega))).trans b5).trans (HB6.out.mono (by omega))⟩
end Go.Proofs.YtcalamofccdldaaDoor
