import Derived.Test.YtjajnejijaoblaaLib
import Derived.Test.YtjajnejijaoblaaRows
import Derived.WalkLawsBesides
import Derived.WalkSpells
import Derived.StillTailTactics
import Derived.Deep.QuietTactic
import Derived.BigQuiet
/- Contracts of the library's functions on slices, and of the document's list. -/
namespace Go.Proofs.Ytjajnejijaoblaa
open Go Go.RowKit Go.Cu
open Go.Maps (Keyed)

/-! ### Facts of the types -/
theorem int_law : Keyed Try.prog 3 := Maps.int_keyed Try.underlying3
theorem zero_int (w : World) : (zeroValue 3).run Try.prog w = .ok (.int .i64 0) w := by kernel_rfl
theorem info_int : (Try.prog.info? 3).map (fun i => (i.zero, i.size, i.bytes)) = some (some (.int .i64 0), 1, 8) := by kernel_rfl
theorem size_int : (Try.prog.info? 3).map (·.size) = some 1 := by kernel_rfl

def ints (L : List Int) : List Value := L.map fun x => .int .i64 x
theorem ints_length (L : List Int) : (ints L).length = L.length := by simp [ints]
theorem ints_append (L M : List Int) : ints (L ++ M) = ints L ++ ints M := by simp [ints]

theorem agg_int (w : World) : (isAgg 3).run Try.prog w = .ok false w := by kernel_rfl
theorem ints_get {L : List Int} {i : Nat} {k : Int} (h : L[i]? = some k) : (ints L)[i]? = some (.int .i64 k) := by simp [ints, h]

def rAdd (L : List Int) (k : Int) : List Int := if k ∈ L then L else L ++ [k]

/-- slices.Index, of a slice that can be read. -/
def idx (L : List Int) (k : Int) : Int := if k ∈ L then (L.idxOf k : Int) else -1

theorem drop_cons {α : Type} {L : List α} {i : Nat} {x : α} (h : L[i]? = some x) : L.drop i = x :: L.drop (i + 1) := by
  obtain ⟨hl, hx⟩ := List.getElem?_eq_some_iff.1 h
  rw [List.drop_eq_getElem_cons hl, hx]

theorem idx_hit {L : List Int} {k : Int} {i : Nat} (hx : L[i]? = some k) (hno : ∀ j, j < i → L[j]? ≠ some k) : idx L k = i := by
  have hm : k ∈ L := List.mem_of_getElem? hx
  unfold idx
  rw [if_pos hm]
  have h1 : L[L.idxOf k]? = some k := by
    have hl := List.idxOf_lt_length_of_mem hm
    rw [List.getElem?_eq_getElem hl, List.getElem_idxOf hl]
  have h2 : ¬ L.idxOf k < i := fun h => hno _ h h1
  have h3 : ¬ i < L.idxOf k := fun h => by
    have h4 := List.not_of_lt_findIdx (p := fun x => x == k) (xs := L) (i := i) h
    obtain ⟨hl, hx'⟩ := List.getElem?_eq_some_iff.1 hx
    simp [hx'] at h4
  omega
theorem idx_miss {L : List Int} {k : Int} (hno : ∀ j, j < L.length → L[j]? ≠ some k) : idx L k = -1 := by
  unfold idx
  rw [if_neg]
  intro hm
  obtain ⟨j, hj, hx⟩ := List.getElem_of_mem hm
  exact hno j hj (by rw [List.getElem?_eq_getElem hj, hx])
theorem ret_int {a b : Int} (h : a = b) : Ending.returned (.int .i64 a) = .returned (.int .i64 b) := by rw [h]

theorem index_any (w : World) (v : Value) (n : Nat) (L : List Int) (k : Int) (h : Reads w 1 v n (ints L)) :
    Calls Try.prog 26 #[v, .int .i64 k] w fun e w' => e = .returned (.int .i64 (idx L k)) ∧ w = w' := by
  obtain ⟨A, c, rfl⟩ := h.shape
  have hn := maxLen_lt h.size
  have hL : L.length = n := by have := h.1; rw [ints_length] at this; omega
  have HR := hide h
  have HL := hide hL
  clear h hL
  go_enter Try.func26, Try.ntmps26
  go_wp2
  go_loop [8] (fun t => ∃ i : Nat, i ≤ n ∧ t = .int .i64 i ∧ Hid (∀ j, j < i → L[j]? ≠ some k)) (fun t => n - (intOf t).toNat)
  case atStart => exact ⟨0, Nat.zero_le _, rfl, fun j hj => by omega⟩
  case round =>
    obtain ⟨i, hi, rfl, hno⟩ := hrel
    by_cases hlt : i < n
    · obtain ⟨x, hx⟩ : ∃ x, L[i]? = some x := ⟨_, List.getElem?_eq_getElem (by have := HL.out; omega)⟩
      have HX := hide (ints_get hx)
      have HX2 := hide hx
      clear hx
      by_cases hkx : (k == x) = true
      · go_wp2_with ((with_reducible refine at_index rfl ?_); refine wpList_at1 rfl rfl _ _ 28 3 _ rfl rfl rfl (by simp) Try.underlying28 size_int agg_int rfl HR.out rfl (by omega) (by omega) HX.out ?_; intro p)
        go_ret
        exact ⟨ret_int (idx_hit (by rw [HX2.out, (by simpa using hkx : k = x)]) hno.out).symm, rfl⟩
      · go_wp2_with ((with_reducible refine at_index rfl ?_); refine wpList_at1 rfl rfl _ _ 28 3 _ rfl rfl rfl (by simp) Try.underlying28 size_int agg_int rfl HR.out rfl (by omega) (by omega) HX.out ?_; intro p)
        go_round
        case rel =>
          refine ⟨i + 1, by omega, by go_num, fun j hj => ?_⟩
          rcases Nat.lt_succ_iff_lt_or_eq.1 hj with hj | rfl
          · exact hno.out j hj
          · rw [HX2.out]; intro e; injection e with e; subst e; simp at hkx
        case measure => simp [intOf]; omega
    · go_wp2
      go_ret
      have hin : i = n := by omega
      exact ⟨ret_int (idx_miss (fun j hj => hno.out j (by have := HL.out; omega))).symm, rfl⟩

theorem ints_erase (L : List Int) (i : Nat) : (ints L).take i ++ (ints L).drop (i + 1) = ints (L.eraseIdx i) := by
  rw [List.eraseIdx_eq_take_drop_succ, ints_append]
  simp [ints]
theorem ints_one (L : List Int) : ∀ u ∈ ints L, u.oneCell' = true := by
  intro u hu
  obtain ⟨x, _, rfl⟩ := List.mem_map.1 hu
  rfl

set_option maxHeartbeats 400000 in
theorem delete_any (w : World) (F : Nat → Prop) (v : Value) (n : Nat) (L : List Int) (i : Nat) (hi : i < n) (h : Row w F 3 1 v n (ints L)) :
    Calls Try.prog 27 #[v, .int .i64 i, .int .i64 (i + 1)] w fun e w' => ∃ A c, e = .returned (.slice A (n - 1) c) ∧ Row w' F 3 1 (.slice A (n - 1) c) (n - 1) (ints (L.eraseIdx i)) ∧ Mod F w w' := by
  obtain ⟨i0, hi0, hz0, hz1, hz2⟩ := info_parts info_int
  obtain ⟨b, o, c, rfl, hnc, hcm, hF, hbl, _⟩ := h.open (by omega)
  have hcm' := maxLen_lt hcm
  have hne : ((i : Int) == (i : Int) + 1) = false := by rw [beq_eq_false_iff_ne]; omega
  have h1 := (h.cut (lo := 0) (hi := i) (Nat.zero_le _) (by omega)).drew
  have h2 := ((h.cut (lo := i + 1) (hi := n) (by omega) (Nat.le_refl _)).drew).reads
  have hc1 : ¬ c = 0 := by omega
  have hl1 : ((ints L).drop (i + 1)).length = n - (i + 1) := by have := h.1; simp only [List.length_drop]; omega
  simp only [List.drop_zero, Nat.sub_zero, Nat.mul_one, hc1, if_false, Option.map_some, add_plain, List.take_of_length_le (Nat.le_of_eq hl1)] at h1 h2
  have H1 := hide h1
  have hE := hide (ints_erase L i)
  clear h h1 hl1
  have hc2 : i ≤ c := by omega
  have hc3 : i + 1 ≤ n := by omega
  have hc4 : (i : Int) ≤ (c : Int) := by omega
  have hc5 : (i : Int) + 1 ≤ (n : Int) := by omega
  have hc6 : (0 : Int) ≤ (i : Int) := by omega
  have hc7 : (0 : Int) ≤ (i : Int) + 1 := by omega
  have E4 := hide (show n - 1 = i + (n - (i + 1)) by omega)
  by_cases hc : c = i + 1
  · have hcT : (c = i + 1) = True := by simp [hc]
    clear hc
    simp only [hcT, if_true] at h2
    have H2 := hide h2
    clear h2
    go_enter Try.func27, Try.ntmps27
    go_wp2
    refine wp_region_still_tail 6 (by kernel_rfl) (by kernel_rfl) ?_
    simp only [List.take_succ_cons, List.take_zero, List.drop_succ_cons, List.drop_zero]
    show wpStill _ _ w.drew _ _ _
    repeat still_step
    refine wpStill_nil ?_
    change wpList _ _ _ _ _ w.drew
    refine wpList_append_room rfl _ _ 28 rfl 3 i0 1 Try.underlying28 hi0 hz1 rfl H1.out rfl H2.out (fun u hu => ints_one L u (List.mem_of_mem_drop hu)) (by omega) ?_
    intro w1 hrow1 hmod1
    have HR1 := hide hrow1
    have HM1 := hide hmod1
    clear hrow1 hmod1
    go_wp2_with ((with_reducible refine at_builtin' rfl ?_); refine wpList_clear_spare rfl _ 28 3 rfl (.int .i64 0) Try.underlying28 zero_int rfl rfl HR1.out rfl (by omega) ?_; intro w2 hrow2 hmod2)
    go_ret
    rw [E4.out]
    refine ⟨_, _, rfl, ?_, ((Mod.refl F w).drew.trans HM1.out (fun _ _ h => h)).trans hmod2 (fun _ _ h => h)⟩
    rw [← hE.out]
    exact hrow2
  · simp only [hc, if_false] at h2
    have H2 := hide h2
    clear h2
    go_enter Try.func27, Try.ntmps27
    go_wp2
    refine wp_region_still_tail 6 (by kernel_rfl) (by kernel_rfl) ?_
    simp only [List.take_succ_cons, List.take_zero, List.drop_succ_cons, List.drop_zero]
    show wpStill _ _ w.drew _ _ _
    repeat still_step
    refine wpStill_nil ?_
    change wpList _ _ _ _ _ w.drew
    refine wpList_append_room rfl _ _ 28 rfl 3 i0 1 Try.underlying28 hi0 hz1 rfl H1.out rfl H2.out (fun u hu => ints_one L u (List.mem_of_mem_drop hu)) (by omega) ?_
    intro w1 hrow1 hmod1
    have HR1 := hide hrow1
    have HM1 := hide hmod1
    clear hrow1 hmod1
    go_wp2_with ((with_reducible refine at_builtin' rfl ?_); refine wpList_clear_spare rfl _ 28 3 rfl (.int .i64 0) Try.underlying28 zero_int rfl rfl HR1.out rfl (by omega) ?_; intro w2 hrow2 hmod2)
    go_ret
    rw [E4.out]
    refine ⟨_, _, rfl, ?_, ((Mod.refl F w).drew.trans HM1.out (fun _ _ h => h)).trans hmod2 (fun _ _ h => h)⟩
    rw [← hE.out]
    exact hrow2

theorem mod_below {w w' : World} (h : Below w.heap.size w w') (F : Nat → Prop) : Mod F w w' := Mod.ofBelow h F
/-- What is new. -/
def New (w : World) (k : Nat) : Prop := w.heap.size ≤ k

theorem find_any (w : World) (v : Value) (n : Nat) (L : List Int) (k : Int) (h : Reads w 1 v n (ints L)) :
    Calls Try.prog 31 #[v, .int .i64 k] w fun e w' => e = .returned (.int .i64 (idx L k)) ∧ w = w' := by
  obtain ⟨A, c, rfl⟩ := h.shape
  have hn := maxLen_lt h.size
  have hL : L.length = n := by have := h.1; rw [ints_length] at this; omega
  have HR := hide h
  have HL := hide hL
  clear h hL
  go_enter Try.func31, Try.ntmps31
  go_wp2
  go_loop [5] (fun t => ∃ i : Nat, i ≤ n ∧ t = .int .i64 i ∧ Hid (∀ j, j < i → L[j]? ≠ some k)) (fun t => n - (intOf t).toNat)
  case atStart => exact ⟨0, Nat.zero_le _, rfl, fun j hj => by omega⟩
  case round =>
    obtain ⟨i, hi, rfl, hno⟩ := hrel
    by_cases hlt : i < n
    · obtain ⟨x, hx⟩ : ∃ x, L[i]? = some x := ⟨_, List.getElem?_eq_getElem (by have := HL.out; omega)⟩
      have HX := hide (ints_get hx)
      have HX2 := hide hx
      clear hx
      by_cases hkx : (x == k) = true
      · go_wp2_with ((with_reducible refine at_index rfl ?_); refine wpList_at1 rfl rfl _ _ 28 3 _ rfl rfl rfl (by simp) Try.underlying28 size_int agg_int rfl HR.out rfl (by omega) (by omega) HX.out ?_; intro p)
        go_ret
        exact ⟨ret_int (idx_hit (by rw [HX2.out, (by simpa using hkx : x = k)]) hno.out).symm, rfl⟩
      · go_wp2_with ((with_reducible refine at_index rfl ?_); refine wpList_at1 rfl rfl _ _ 28 3 _ rfl rfl rfl (by simp) Try.underlying28 size_int agg_int rfl HR.out rfl (by omega) (by omega) HX.out ?_; intro p)
        go_round
        case rel =>
          refine ⟨i + 1, by omega, by go_num, fun j hj => ?_⟩
          rcases Nat.lt_succ_iff_lt_or_eq.1 hj with hj | rfl
          · exact hno.out j hj
          · rw [HX2.out]; intro e; injection e with e; subst e; simp at hkx
        case measure => simp [intOf]; omega
    · go_wp2
      go_ret
      exact ⟨ret_int (idx_miss (fun j hj => hno.out j (by have := HL.out; omega))).symm, rfl⟩

/-- slices.Clone. -/
theorem clone_any (w : World) (v : Value) (n : Nat) (L : List Int) (h : Reads w 1 v n (ints L)) (hroom : n ≤ 17592186044416) :
    Calls Try.prog 32 #[v] w fun e w' => ∃ A c, e = .returned (.slice A n c) ∧ Row w' (New w) 3 1 (.slice A n c) n (ints L) ∧ Below w.heap.size w w' := by
  obtain ⟨i0, hi, hz0, hz1, hz2⟩ := info_parts info_int
  obtain ⟨A, c, rfl⟩ := h.shape
  have hq := fun W : World => Lib.run_eql_slice_nil (P := Try.prog) W 28 3 A n c 0 0 Try.underlying28
  have HR := hide h
  cases A with
  | none =>
    have h0 : n = 0 := by
      obtain ⟨_, A, c', he, _, hx⟩ := h
      cases he
      rcases hx with hx | ⟨_, hx, _⟩
      · omega
      · cases hx
    subst h0
    have hL : L = [] := by have := h.1; rw [ints_length] at this; exact List.eq_nil_of_length_eq_zero (by omega)
    subst hL
    clear h
    go_enter Try.func32, Try.ntmps32
    go_wp2
    go_ret
    exact ⟨none, 0, rfl, Row.nil _ _ _ _, Below.refl _ _⟩
  | some ad =>
    have H2 := hide (h.kept (w' := w.alloc (.cells #[] 3)) (fun a v hc => by rw [World.cell?_alloc_lt _ _ _ (World.block_lt_of_cell? w a hc)]; exact hc))
    have H1 : Hid (Row (w.alloc (.cells #[] 3)) (New w) 3 1 (.slice (some ⟨w.heap.size, 0, none⟩) 0 0) 0 []) := ⟨rfl, _, 0, rfl, Nat.le_refl _, Nat.zero_le _, .inl rfl⟩
    clear h
    go_enter Try.func32, Try.ntmps32
    go_wp2_with (at_builtin; refine wpList_append_row rfl _ _ 28 rfl 3 i0 (.int .i64 0) 1 8 Try.underlying28 hi hz0 hz1 hz2 rfl (by decide) rfl H1.out rfl H2.out (ints_one L) (by unfold maxLen; omega) (by omega) ?_; intro A1 c1 w1 hrow1 hmod1; have HR1 := hide hrow1; have HM1 := hide hmod1; clear hrow1 hmod1)
    go_ret
    have hr := HR1.out
    rw [Nat.zero_add, List.nil_append] at hr
    refine ⟨A1, c1, by simp, hr.mono (fun k hk _ => ?_), (((Mod.refl (New w) w).alloc _).trans HM1.out (fun _ _ h => h)).below (Nat.le_refl _) (fun _ h => h)⟩
    rcases hk with hk | hk
    · exact hk
    · show w.heap.size ≤ k
      rw [hk]; simp

/-- culvertref12.Without, as far as it has come. -/
def wo (L : List Int) (a : Int) : Nat → List Int
  | 0 => []
  | i + 1 => wo L a i ++ (if (i : Int) = a then [] else [L.getD i 0])
theorem wo_length (L : List Int) (a : Int) : ∀ i, (wo L a i).length ≤ i
  | 0 => Nat.le_refl _
  | i + 1 => by
    have := wo_length L a i
    simp only [wo, List.length_append]
    split <;> simp <;> omega
theorem wo_take (L : List Int) (a : Int) : ∀ i, i ≤ L.length → (∀ j : Nat, j < i → (j : Int) ≠ a) → wo L a i = L.take i
  | 0, _, _ => by simp [wo]
  | i + 1, hi, h => by
    rw [wo, wo_take L a i (by omega) (fun j hj => h j (by omega)), if_neg (h i (by omega)), List.take_succ_eq_append_getElem (by omega)]
    congr 2
    rw [List.getD_eq_getElem?_getD, List.getElem?_eq_getElem (by omega)]; rfl
theorem wo_erase (L : List Int) (a : Nat) : ∀ d, a + 1 + d ≤ L.length → wo L a (a + 1 + d) = (L.take (a + 1 + d)).eraseIdx a
  | 0, hd => by
    rw [Nat.add_zero, wo, wo_take L a a (by omega) (fun j hj => by omega), if_pos rfl, List.append_nil, List.eraseIdx_eq_take_drop_succ, List.take_take, List.drop_of_length_le (by simp; omega)]
    simp
  | d + 1, hd => by
    rw [show a + 1 + (d + 1) = (a + 1 + d) + 1 from rfl, wo, wo_erase L a d (by omega), if_neg (by omega), List.take_succ_eq_append_getElem (i := a + 1 + d) (by omega), List.eraseIdx_append_of_lt_length (by rw [List.length_take]; omega)]
    congr 2
    rw [List.getD_eq_getElem?_getD, List.getElem?_eq_getElem (by omega)]; rfl
/-- What Without answers. -/
def without (L : List Int) (a : Int) : List Int := wo L a L.length
theorem without_neg (L : List Int) (a : Int) (h : a < 0) : without L a = L := by
  unfold without
  rw [wo_take L a _ (Nat.le_refl _) (fun j hj => by omega), List.take_length]
theorem without_nat (L : List Int) (a : Nat) (h : a < L.length) : without L a = L.eraseIdx a := by
  unfold without
  obtain ⟨d, hd⟩ : ∃ d, L.length = a + 1 + d := ⟨L.length - (a + 1), by omega⟩
  rw [hd, wo_erase L a d (by omega), ← hd, List.take_length]

set_option maxHeartbeats 400000 in
theorem without_any (w : World) (v : Value) (n : Nat) (L : List Int) (a : Int) (h : Reads w 1 v n (ints L)) (hroom : n ≤ 17592186044416) :
    Calls Try.prog 34 #[v, .int .i64 a] w fun e w' => ∃ A c, e = .returned (.slice A (without L a).length c) ∧ Row w' (New w) 3 1 (.slice A (without L a).length c) (without L a).length (ints (without L a)) ∧ Below w.heap.size w w' := by
  obtain ⟨i0, hi, hz0, hz1, hz2⟩ := info_parts info_int
  obtain ⟨A, c, rfl⟩ := h.shape
  have hL : L.length = n := by have := h.1; rw [ints_length] at this; omega
  have HR := hide h
  have HL := hide hL
  clear h hL
  go_enter Try.func34, Try.ntmps34
  go_wp2
  go_loopw [5, 6] (fun v t wr => ∃ i : Nat, i ≤ n ∧ t = .int .i64 i ∧ ∃ A c, v = .slice A (wo L a i).length c ∧ Hid (Row wr (New w) 3 1 (.slice A (wo L a i).length c) (wo L a i).length (ints (wo L a i))) ∧ Hid (Below w.heap.size w wr)) (fun _ t _ => n - (intOf t).toNat)
  case atStart => exact ⟨0, Nat.zero_le _, rfl, none, 0, rfl, Row.nil _ _ _ _, Below.refl _ _⟩
  case round =>
    obtain ⟨i, hi', rfl, A1, c1, rfl, hrow, hbel⟩ := hrel
    have hlw := wo_length L a i
    by_cases hlt : i < n
    · obtain ⟨x, hx⟩ : ∃ x, L[i]? = some x := ⟨_, List.getElem?_eq_getElem (by have := HL.out; omega)⟩
      have HX := hide (ints_get hx)
      have HX2 := hide hx
      have HRr := hide (HR.out.kept (w' := wr) (fun a v hc => (hbel.out.cell (World.block_lt_of_cell? w a hc)).trans hc))
      clear hx
      by_cases hka : ((i : Int) == a) = true
      · have hka' : ((i : Int) != a) = false := by simpa using hka
        go_wp2
        go_roundw
        case rel =>
          have hw : wo L a (i + 1) = wo L a i := by simp only [wo]; rw [if_pos (by simpa using hka)]; simp
          exact ⟨i + 1, by omega, by go_num, A1, c1, by rw [hw], by rw [hw]; exact hrow, hbel⟩
        case measure => simp [intOf]; omega
      · have hka' : ((i : Int) != a) = true := by simpa using hka
        have HRa := hide (hrow.out.alloc (.cells #[.int .i64 x] 3))
        go_wp2_with (first
          | ((with_reducible refine at_index rfl ?_); refine wpList_at1 rfl rfl _ _ 28 3 _ rfl rfl rfl (by simp) Try.underlying28 size_int agg_int rfl HRr.out rfl (by omega) (by omega) HX.out ?_; intro p)
          | (at_builtin; refine wpList_append_row rfl _ _ 28 rfl 3 i0 (.int .i64 0) 1 8 Try.underlying28 hi hz0 hz1 hz2 rfl (by decide) rfl HRa.out rfl (reads_one _ _ _ _) (by simp [Value.oneCell']) (by unfold maxLen; omega) (by omega) ?_; intro A2 c2 w2 hrow2 hmod2
             have HR2 := hide hrow2
             have HM2 := hide hmod2
             clear hrow2 hmod2))
        go_roundw
        case rel =>
          have hw : wo L a (i + 1) = wo L a i ++ [x] := by
            simp only [wo]; rw [if_neg (by simpa using hka), List.getD_eq_getElem?_getD, HX2.out]; rfl
          have hwl : (wo L a (i + 1)).length = (wo L a i).length + 1 := by rw [hw]; simp
          refine ⟨i + 1, by omega, by go_num, A2, c2, by rw [hwl], ?_, ?_⟩
          · rw [hwl, hw, ints_append]
            refine HR2.out.mono (fun k hk _ => ?_)
            rcases hk with hk | hk
            · exact hk
            · have := hbel.out.size
              show w.heap.size ≤ k
              rw [hk]; simp; omega
          · have hb := hbel.out
            exact hb.trans ((((Mod.refl (New w) wr).alloc _).trans HM2.out (fun _ _ h => h)).below hb.size (fun _ h => h))
        case measure => simp [intOf]; omega
    · go_wp2
      go_ret
      have hin : i = L.length := by have := HL.out; omega
      subst hin
      exact ⟨A1, c1, rfl, hrow.out, hbel.out⟩

/-! ### The document's list -/
theorem idx_nonneg {L : List Int} {k : Int} (h : decide (k ∈ L) = true) : 0 ≤ idx L k := by
  unfold idx; rw [if_pos (by simpa using h)]; omega
theorem idx_neg {L : List Int} {k : Int} (h : decide (k ∈ L) = false) : idx L k < 0 := by
  unfold idx; rw [if_neg (by simpa using h)]; omega
theorem idx_mem {L : List Int} {k : Int} (h : decide (k ∈ L) = true) : idx L k = (L.idxOf k : Int) := by
  unfold idx; rw [if_pos (by simpa using h)]

theorem new_or {w wr : World} {F : Nat → Prop} (h : w.heap.size ≤ wr.heap.size) {k : Nat} (hk : New wr k) : F k ∨ New w k := .inr (Nat.le_trans h hk)

set_option maxHeartbeats 400000 in
theorem refAdd_any (w : World) (F : Nat → Prop) (v : Value) (L : List Int) (k : Int) (h : Row w F 3 1 v L.length (ints L)) (hroom : L.length + 1 ≤ 17592186044416) :
    Calls Try.prog 28 #[v, .int .i64 k] w fun e w' => ∃ A c, e = .returned (.tuple #[.slice A (rAdd L k).length c, .bool (!decide (k ∈ L))]) ∧
      Row w' (fun j => F j ∨ New w j) 3 1 (.slice A (rAdd L k).length c) (rAdd L k).length (ints (rAdd L k)) ∧ Below w.heap.size w w' := by
  obtain ⟨i0, hi, hz0, hz1, hz2⟩ := info_parts info_int
  obtain ⟨A, c, rfl, _⟩ := h.shape
  have HR := hide h
  have HS := hide h.reads
  clear h
  cases hk : decide (k ∈ L) with
  | true =>
    have h0 := idx_nonneg hk
    have hra : rAdd L k = L := by unfold rAdd; rw [if_pos (by simpa using hk)]
    rw [hra]
    clear hk hra
    go_enter Try.func28, Try.ntmps28
    go_wp2_with (go_at_call 31; refine (find_any _ _ _ L k HS.out).mono ?_; rintro e w' ⟨rfl, rfl⟩)
    go_ret2
    exact ⟨A, c, rfl, HR.out.mono (fun j hj _ => .inl hj), Below.refl _ _⟩
  | false =>
    have h0 := idx_neg hk
    have hra : rAdd L k = L ++ [k] := by unfold rAdd; rw [if_neg (by simpa using hk)]
    have hlen : (L ++ [k]).length = L.length + 1 := by simp
    rw [hra, hlen]
    clear hk hra hlen
    go_enter Try.func28, Try.ntmps28
    go_wp2_with (first
      | (go_at_call 31; refine (find_any _ _ _ L k HS.out).mono ?_; rintro e w' ⟨rfl, rfl⟩)
      | (go_at_call 34; refine (without_any _ _ _ L (-1) HS.out (by omega)).mono ?_; rintro e w1 ⟨A1, c1, rfl, hrow1, hbel1⟩; rw [without_neg L (-1) (by omega)] at hrow1 ⊢; have HR1 := hide (hrow1.alloc (.cells #[.int .i64 k] 3)); have HB1 := hide hbel1; clear hrow1 hbel1)
      | (at_builtin; refine wpList_append_row rfl _ _ 28 rfl 3 i0 (.int .i64 0) 1 8 Try.underlying28 hi hz0 hz1 hz2 rfl (by decide) rfl HR1.out rfl (reads_one _ _ _ _) (by simp [Value.oneCell']) (by unfold maxLen; omega) (by omega) ?_; intro A2 c2 w2 hrow2 hmod2; have HR2 := hide hrow2; have HM2 := hide hmod2; clear hrow2 hmod2))
    go_ret2
    have hsz := HB1.out.size
    refine ⟨A2, c2, rfl, ?_, HB1.out.trans ((((Mod.refl (New w) w1).alloc _).trans HM2.out (fun _ _ h => h)).below hsz (fun _ h => h))⟩
    rw [ints_append]
    refine HR2.out.mono (fun j hj _ => .inr ?_)
    rcases hj with hj | hj
    · exact hj
    · show w.heap.size ≤ j
      rw [hj]; simp; omega

theorem refRemove_any (w : World) (F : Nat → Prop) (v : Value) (L : List Int) (k : Int) (h : Row w F 3 1 v L.length (ints L)) (hroom : L.length ≤ 17592186044416) :
    Calls Try.prog 29 #[v, .int .i64 k] w fun e w' => ∃ A c, e = .returned (.tuple #[.slice A (L.erase k).length c, .bool (decide (k ∈ L))]) ∧
      Row w' (fun j => F j ∨ New w j) 3 1 (.slice A (L.erase k).length c) (L.erase k).length (ints (L.erase k)) ∧ Below w.heap.size w w' := by
  obtain ⟨A, c, rfl, _⟩ := h.shape
  have HR := hide h
  have HS := hide h.reads
  clear h
  cases hk : decide (k ∈ L) with
  | false =>
    have h0 := idx_neg hk
    have hra : L.erase k = L := List.erase_of_not_mem (by simpa using hk)
    rw [hra]
    clear hk hra
    go_enter Try.func29, Try.ntmps29
    go_wp2_with (go_at_call 31; refine (find_any _ _ _ L k HS.out).mono ?_; rintro e w' ⟨rfl, rfl⟩)
    go_ret2
    exact ⟨A, c, rfl, HR.out.mono (fun j hj _ => .inl hj), Below.refl _ _⟩
  | true =>
    have h0 := idx_nonneg hk
    have hra : without L (idx L k) = L.erase k := by
      rw [idx_mem hk, without_nat L _ (List.idxOf_lt_length_of_mem (by simpa using hk)), List.erase_eq_eraseIdx_of_idxOf]
      rfl
    have HE := hide hra
    clear hk hra
    go_enter Try.func29, Try.ntmps29
    go_wp2_with (first
      | (go_at_call 31; refine (find_any _ _ _ L k HS.out).mono ?_; rintro e w' ⟨rfl, rfl⟩)
      | (go_at_call 34; refine (without_any _ _ _ L (idx L k) HS.out (by omega)).mono ?_; rintro e w1 ⟨A1, c1, rfl, hrow1, hbel1⟩; rw [HE.out] at hrow1 ⊢; have HR1 := hide hrow1; have HB1 := hide hbel1; clear hrow1 hbel1))
    go_ret2
    exact ⟨A1, c1, rfl, HR1.out.mono (fun j hj _ => .inr hj), HB1.out⟩

def rNext : List Int → List Int
  | [] => []
  | x :: r => r ++ [x]
theorem rNext_length (L : List Int) : (rNext L).length = L.length := by cases L <;> simp [rNext]

theorem refNext_nil (w : World) (A : Option Addr) (c : Nat) :
    Calls Try.prog 30 #[.slice A 0 c] w fun e w' => e = .returned (.tuple #[.slice A 0 c, .int .i64 0, .bool false]) ∧ w = w' := by
  go_enter Try.func30, Try.ntmps30
  go_wp2
  go_ret3
  exact ⟨rfl, rfl⟩

set_option maxHeartbeats 400000 in
theorem refNext_cons (w : World) (F : Nat → Prop) (v : Value) (x : Int) (r : List Int) (h : Row w F 3 1 v (r.length + 1) (ints (x :: r))) (hroom : r.length + 1 ≤ 17592186044416) :
    Calls Try.prog 30 #[v] w fun e w' => ∃ A c, e = .returned (.tuple #[.slice A (r.length + 1) c, .int .i64 x, .bool true]) ∧
      Row w' (New w) 3 1 (.slice A (r.length + 1) c) (r.length + 1) (ints (r ++ [x])) ∧ Below w.heap.size w w' := by
  obtain ⟨i0, hi, hz0, hz1, hz2⟩ := info_parts info_int
  obtain ⟨b, o, c, rfl, hnc, hcm, hF, hbl, hcell, _⟩ := h.open (by omega)
  have hcx := hcell 0 (.int .i64 x) (by simp [ints])
  have HS := hide h.reads
  have hw0 : without (x :: r) 0 = r := by
    have := without_nat (x :: r) 0 (by simp)
    simpa using this
  have HW := hide hw0
  have H0 : Hid ((ints (x :: r))[(0 : Int).toNat]? = some (.int .i64 x)) := by show _ = _; simp [ints]
  clear h hcell hw0
  have hne : ((r.length : Int) + 1 == 0) = false := by rw [beq_eq_false_iff_ne]; omega
  go_enter Try.func30, Try.ntmps30
  go_wp2_with (first
    | (go_at_call 34; refine (without_any _ _ _ (x :: r) 0 HS.out (by omega)).mono ?_; rintro e w1 ⟨A1, c1, rfl, hrow1, hbel1⟩; rw [HW.out] at hrow1 ⊢; have hcx1 := (hbel1.cell (p := ⟨b, o, none⟩) hbl).trans hcx; have HR1 := hide (hrow1.alloc (.cells #[.int .i64 x] 3)); have HB1 := hide hbel1; clear hrow1 hbel1)
    | (at_builtin; refine wpList_append_row rfl _ _ 28 rfl 3 i0 (.int .i64 0) 1 8 Try.underlying28 hi hz0 hz1 hz2 rfl (by decide) rfl HR1.out rfl (reads_one _ _ _ _) (by simp [Value.oneCell']) (by unfold maxLen; omega) (by omega) ?_; intro A2 c2 w2 hrow2 hmod2; have HR2 := hide hrow2; have HM2 := hide hmod2; clear hrow2 hmod2))
  have hcx2 : w2.cell? ⟨b, o, none⟩ = some (.int .i64 x) := HM2.out.cell (by rw [World.cell?_alloc_lt _ _ _ (Nat.lt_of_lt_of_le hbl HB1.out.size)]; exact hcx1) (fun hh => by have : w.heap.size ≤ b := hh; omega)
  go_quiet (fail)
  go_wp2
  go_ret3
  have hsz := HB1.out.size
  refine ⟨A2, c2, rfl, ?_, (HB1.out.trans ((((Mod.refl (New w) w1).alloc _).trans HM2.out (fun _ _ h => h)).below hsz (fun _ h => h))).trans ⟨rfl, rfl, rfl, Nat.le_refl _, fun _ _ => rfl⟩⟩
  rw [ints_append]
  refine Row.mono (F := fun k => New w k ∨ k = w1.heap.size + 1) ?_ (fun j hj _ => ?_)
  · have := HR2.out
    simp only [World.size_alloc] at this
    exact this
  · rcases hj with hj | hj
    · exact hj
    · show w.heap.size ≤ j
      omega
end Go.Proofs.Ytjajnejijaoblaa
