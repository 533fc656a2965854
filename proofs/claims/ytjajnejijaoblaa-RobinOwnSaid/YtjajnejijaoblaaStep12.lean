import Derived.Test.YtjajnejijaoblaaRob
import Derived.Test.YtjajnejijaoblaaWakes12
/- The law's own helpers: sameInts, step. -/
namespace Go.Proofs.Ytjajnejijaoblaa
open Go Go.RowKit Go.Cu

/-- The world but for draws. -/
def Drawn (w w' : World) : Prop := ∃ m, w' = w.drewN m
theorem Drawn.refl (w : World) : Drawn w w := ⟨0, rfl⟩
theorem Drawn.below {w w' : World} (h : Drawn w w') : Below w.heap.size w w' := by obtain ⟨m, rfl⟩ := h; exact ⟨rfl, rfl, rfl, Nat.le_refl _, fun _ _ => rfl⟩
theorem Drawn.cell {w w' : World} (h : Drawn w w') (a : Addr) : w'.cell? a = w.cell? a := by obtain ⟨m, rfl⟩ := h; rfl

theorem reads_pos {w : World} {v : Value} {n : Nat} {xs : List Value} (h : Reads w 1 v n xs) (hn : 0 < n) : ∃ ad c, v = .slice (some ad) n c ∧ ∀ j u, xs[j]? = some u → w.cell? (ad.add j) = some u := by
  obtain ⟨_, A, c, rfl, _, h3⟩ := h
  rcases h3 with h3 | ⟨ad, rfl, h4⟩
  · omega
  · exact ⟨ad, c, rfl, h4⟩

theorem same_any (w : World) (u v : Value) (n : Nat) (L : List Int) (hu : Reads w 1 u n (ints L)) (hv : Reads w 1 v n (ints L)) :
    Calls Try.prog 15 #[u, v] w fun e w' => e = .returned (.bool true) ∧ Drawn w w' := by
  have hn := maxLen_lt hu.size
  have hL : L.length = n := by have := hu.1; rw [ints_length] at this; omega
  rcases Nat.eq_zero_or_pos n with rfl | hpos
  · obtain ⟨A, c, rfl⟩ := hu.shape
    obtain ⟨B, d, rfl⟩ := hv.shape
    clear hu hv hL
    go_enter Try.func15, Try.ntmps15
    go_wp2
    refine wp_loop_rounds 1 ?_
    rw [rounds_succ]
    go_wp2
    go_ret
    exact ⟨rfl, Drawn.refl _⟩
  · obtain ⟨a, c, rfl, ha⟩ := reads_pos hu hpos
    obtain ⟨b, d, rfl, hb⟩ := reads_pos hv hpos
    have HL := hide hL
    have HA := hide ha
    have HB := hide hb
    clear hu hv hL ha hb
    go_enter Try.func15, Try.ntmps15
    go_wp2
    go_loopw [5] (fun t wr => ∃ i : Nat, i ≤ n ∧ t = .int .i64 i ∧ Hid (Drawn w wr)) (fun t _ => n - (intOf t).toNat)
    case atStart => exact ⟨0, Nat.zero_le _, rfl, Drawn.refl _⟩
    case round =>
      obtain ⟨i, hi, rfl, hdr⟩ := hrel
      by_cases hlt : i < n
      · obtain ⟨x, hx⟩ : ∃ x, L[i]? = some x := ⟨_, List.getElem?_eq_getElem (by have := HL.out; omega)⟩
        have h1 := (hdr.out.cell _).trans (HA.out i _ (ints_get hx))
        have h2 := (hdr.out.cell _).trans (HB.out i _ (ints_get hx))
        have hne : (x != x) = false := by simp
        clear hx
        go_wp2
        go_quiet (fail)
        go_wp2
        go_roundw
        case rel => 
          obtain ⟨m, hm⟩ := hdr.out
          exact ⟨i + 1, by omega, by go_num, ⟨_, by rw [hm, World.drewN_drewN]⟩⟩
        case measure => simp [intOf]; omega
      · go_wp2
        go_ret
        exact ⟨rfl, hdr.out⟩

/-- What holds of the robin and the document's list: the same keys, each in memory of its own. -/
structure Both (w : World) (F G : Nat → Prop) (b : Nat) (v : Value) (L : List Int) : Prop where
  rob : Rob w F b L
  row : ∃ A c, v = .slice A L.length c ∧ Row w G 3 1 (.slice A L.length c) L.length (ints L)
  apart : ∀ j, G j → ¬ F j
  lt : ∀ j, G j → j < w.heap.size

/-- behind a step -/
def Stepped (w : World) (F G : Nat → Prop) (b : Nat) (L' : List Int) (w' : World) (v : Value) : Prop :=
  ∃ F' G', Both w' F' G' b v L' ∧ (∀ j, F' j → F j ∨ w.heap.size ≤ j) ∧ (∀ j, G' j → G j ∨ w.heap.size ≤ j) ∧ Mod F w w'

theorem Rob.lt {w : World} {F : Nat → Prop} {b : Nat} {L : List Int} (h : Rob w F b L) : ∀ k, F k → k < w.heap.size := h.2.1
theorem Rob.below {w w' : World} {F : Nat → Prop} {b : Nat} {L : List Int} (h : Rob w F b L) (hb : Below w.heap.size w w') : Rob w' F b L :=
  h.kept (Mod.ofBelow hb (fun _ => False)) (fun _ _ h => h)

/-- The document's list is made first (world w1), then the robin takes its step. -/
theorem stepped_mk {w w1 w2 : World} {F G : Nat → Prop} {b : Nat} {L L' : List Int} {A : Option Addr} {c : Nat} {v : Value} (h : Both w F G b v L) (hb1 : Below w.heap.size w w1)
    (hrow : Row w1 (fun j => G j ∨ w.heap.size ≤ j) 3 1 (.slice A L'.length c) L'.length (ints L')) (hrob : Rob w2 (Wide F w1 w2) b L') (hm : Mod F w1 w2) : Stepped w F G b L' w2 (.slice A L'.length c) := by
  have hs := hb1.size
  refine ⟨Wide F w1 w2, fun j => (G j ∨ w.heap.size ≤ j) ∧ j < w1.heap.size ∧ ¬ F j, ⟨hrob, ⟨A, c, rfl, ?_⟩, ?_, ?_⟩, ?_, ?_, (Mod.ofBelow hb1 F).trans hm (fun _ _ h => h)⟩
  · have hr1 : Row w1 (fun j => (G j ∨ w.heap.size ≤ j) ∧ j < w1.heap.size ∧ ¬ F j) 3 1 (.slice A L'.length c) L'.length (ints L') := by
      refine hrow.mono (fun j hj hl => ⟨hj, hl, fun hf => ?_⟩)
      rcases hj with hj | hj
      · exact h.apart j hj hf
      · have := h.rob.lt j hf; omega
    exact hr1.kept hm (fun j hj _ => hj.2.2)
  · rintro j ⟨_, hl, hn⟩ (hf | hf)
    · exact hn hf
    · omega
  · rintro j ⟨_, hl, _⟩
    exact Nat.lt_of_lt_of_le hl hm.size
  · rintro j (hf | hf)
    · exact .inl hf
    · exact .inr (by omega)
  · rintro j ⟨hj, _⟩
    exact hj

/-- nothing of either has turned -/
theorem stepped_same {w w2 : World} {F G : Nat → Prop} {b : Nat} {L : List Int} {v : Value} (h : Both w F G b v L) (hb : Below w.heap.size w w2) : Stepped w F G b L w2 v := by
  obtain ⟨hrob, ⟨A, c, rfl, hrow⟩, hap, hlt⟩ := h
  exact ⟨F, G, ⟨hrob.below hb, ⟨A, c, rfl, hrow.kept (Mod.ofBelow hb (fun _ => False)) (fun _ _ _ h => h)⟩, hap, fun j hj => Nat.lt_of_lt_of_le (hlt j hj) hb.size⟩, fun _ h => .inl h, fun _ h => .inl h, Mod.ofBelow hb F⟩

set_option maxHeartbeats 1000000 in
theorem step_add (w : World) (F G : Nat → Prop) (b : Nat) (v : Value) (L : List Int) (k : Int) (h : Both w F G b v L) (hk : (Lit.int .i64 k).wf = true) (hroom : L.length + 1 ≤ 17592186044416) :
    Calls Try.prog 14 #[.pointer (some ⟨b, 0, none⟩), v, .agg #[.int .i64 1, .int .i64 k]] w fun e w' => ∃ v', e = .returned (.tuple #[v', .bool true]) ∧ Stepped w F G b (rAdd L k) w' v' := by
  have HH := hide h
  obtain ⟨hrob, ⟨A, c, rfl, hrow⟩, hap, hlt⟩ := h
  have HR := hide (hrow.alloc (.cells #[.int .i64 1, .int .i64 k] 30))
  have HO := hide (hrob.below ((Below.refl _ w).alloc (Nat.le_refl _) (.cells #[.int .i64 1, .int .i64 k] 30)))
  clear hrob hrow hap hlt
  go_enter Try.func14, Try.ntmps14
  go_wp2_with (first
    | (go_at_call 28; refine (refAdd_any _ G _ L k HR.out hroom).mono ?_; rintro e w1 ⟨A1, c1, rfl, hrow1, hbel1⟩
       have d1 : w1.cell? ⟨w.heap.size, 1, none⟩ = some (.int .i64 k) := (hbel1.cell (by simp)).trans (by simp)
       have HR1 := hide hrow1
       have HB1 := hide hbel1
       have HO1 := hide (HO.out.below hbel1)
       clear hrow1 hbel1)
    | (go_at_call 9; refine (add_any _ F b L k HO1.out hk hroom).mono ?_; rintro e w2 ⟨rfl, hrob2, hmod2⟩; have HO2 := hide hrob2; have HM2 := hide hmod2; clear hrob2 hmod2))
  go_ret2
  refine ⟨_, rfl, stepped_mk HH.out (((Below.refl _ w).alloc (Nat.le_refl _) _).trans (HB1.out.mono (by simp))) (HR1.out.mono (fun j hj _ => hj.imp id (fun h => ?_))) HO2.out HM2.out⟩
  have : (w.alloc (.cells #[.int .i64 1, .int .i64 k] 30)).heap.size ≤ j := h
  simp at this
  omega

set_option maxHeartbeats 1000000 in
theorem step_remove (w : World) (F G : Nat → Prop) (b : Nat) (v : Value) (L : List Int) (k : Int) (h : Both w F G b v L) (hk : (Lit.int .i64 k).wf = true) (hroom : L.length + 1 ≤ 17592186044416) :
    Calls Try.prog 14 #[.pointer (some ⟨b, 0, none⟩), v, .agg #[.int .i64 2, .int .i64 k]] w fun e w' => ∃ v', e = .returned (.tuple #[v', .bool true]) ∧ Stepped w F G b (L.erase k) w' v' := by
  have HH := hide h
  obtain ⟨hrob, ⟨A, c, rfl, hrow⟩, hap, hlt⟩ := h
  have HR := hide (hrow.alloc (.cells #[.int .i64 2, .int .i64 k] 30))
  have HO := hide (hrob.below ((Below.refl _ w).alloc (Nat.le_refl _) (.cells #[.int .i64 2, .int .i64 k] 30)))
  clear hrob hrow hap hlt
  go_enter Try.func14, Try.ntmps14
  go_wp2_with (first
    | (go_at_call 29; refine (refRemove_any _ G _ L k HR.out (by omega)).mono ?_; rintro e w1 ⟨A1, c1, rfl, hrow1, hbel1⟩
       have d1 : w1.cell? ⟨w.heap.size, 1, none⟩ = some (.int .i64 k) := (hbel1.cell (by simp)).trans (by simp)
       have HR1 := hide hrow1
       have HB1 := hide hbel1
       have HO1 := hide (HO.out.below hbel1)
       clear hrow1 hbel1)
    | (go_at_call 11; refine (remove_any _ F b L k HO1.out hk (by omega)).mono ?_; rintro e w2 ⟨rfl, hrob2, hmod2⟩; have HO2 := hide hrob2; have HM2 := hide hmod2; clear hrob2 hmod2))
  go_ret2
  refine ⟨_, rfl, stepped_mk HH.out (((Below.refl _ w).alloc (Nat.le_refl _) _).trans (HB1.out.mono (by simp))) (HR1.out.mono (fun j hj _ => hj.imp id (fun h => ?_))) HO2.out HM2.out⟩
  have : (w.alloc (.cells #[.int .i64 2, .int .i64 k] 30)).heap.size ≤ j := h
  simp at this
  omega

set_option maxHeartbeats 1000000 in
theorem step_next_nil (w : World) (F G : Nat → Prop) (b : Nat) (v : Value) (k : Int) (h : Both w F G b v []) :
    Calls Try.prog 14 #[.pointer (some ⟨b, 0, none⟩), v, .agg #[.int .i64 3, .int .i64 k]] w fun e w' => ∃ v', e = .returned (.tuple #[v', .bool true]) ∧ Stepped w F G b [] w' v' := by
  have HH := hide h
  obtain ⟨hrob, ⟨A, c, rfl, hrow⟩, hap, hlt⟩ := h
  have HO := hide (hrob.below ((Below.refl _ w).alloc (Nat.le_refl _) (.cells #[.int .i64 3, .int .i64 k] 30)))
  clear hrob hrow hap hlt
  go_enter Try.func14, Try.ntmps14
  go_wp2_with (first
    | (go_at_call 30; refine (refNext_nil _ A c).mono ?_; rintro e w1 ⟨rfl, rfl⟩)
    | (go_at_call 12; refine (next_nil _ F b HO.out).mono ?_; rintro e w2 ⟨rfl, rfl⟩))
  go_ret2
  exact ⟨_, rfl, stepped_same HH.out ((Below.refl _ w).alloc (Nat.le_refl _) _)⟩

set_option maxHeartbeats 1000000 in
theorem step_next_cons (w : World) (F G : Nat → Prop) (b : Nat) (v : Value) (x : Int) (r : List Int) (k : Int) (h : Both w F G b v (x :: r)) (hroom : r.length + 1 ≤ 17592186044416) :
    Calls Try.prog 14 #[.pointer (some ⟨b, 0, none⟩), v, .agg #[.int .i64 3, .int .i64 k]] w fun e w' => ∃ v', e = .returned (.tuple #[v', .bool true]) ∧ Stepped w F G b (r ++ [x]) w' v' := by
  have HH := hide h
  obtain ⟨hrob, ⟨A, c, rfl, hrow⟩, hap, hlt⟩ := h
  have hrow' : Row w G 3 1 (.slice A (r.length + 1) c) (r.length + 1) (ints (x :: r)) := hrow
  have HR := hide (hrow'.alloc (.cells #[.int .i64 3, .int .i64 k] 30))
  have HO := hide (hrob.below ((Below.refl _ w).alloc (Nat.le_refl _) (.cells #[.int .i64 3, .int .i64 k] 30)))
  have hxx : (x == x) = true := by simp
  clear hrob hrow hrow' hap hlt
  go_enter Try.func14, Try.ntmps14
  go_wp2_with (first
    | (go_at_call 30; refine (refNext_cons _ G _ x r HR.out hroom).mono ?_; rintro e w1 ⟨A1, c1, rfl, hrow1, hbel1⟩
       have HR1 := hide hrow1
       have HB1 := hide hbel1
       have HO1 := hide (HO.out.below hbel1)
       clear hrow1 hbel1)
    | (go_at_call 12; refine (next_cons _ F b x r HO1.out hroom).mono ?_; rintro e w2 ⟨rfl, hrob2, hmod2⟩; have HO2 := hide hrob2; have HM2 := hide hmod2; clear hrob2 hmod2))
  go_ret2
  have HR1' : Row w1 (New (w.alloc (.cells #[.int .i64 3, .int .i64 k] 30))) 3 1 (.slice A1 (r ++ [x]).length c1) (r ++ [x]).length (ints (r ++ [x])) := by
    rw [show (r ++ [x]).length = r.length + 1 by simp]; exact HR1.out
  refine ⟨.slice A1 (r ++ [x]).length c1, by simp, stepped_mk HH.out (((Below.refl _ w).alloc (Nat.le_refl _) _).trans (HB1.out.mono (by simp))) (HR1'.mono (fun j hj _ => .inr ?_)) HO2.out HM2.out⟩
  have : (w.alloc (.cells #[.int .i64 3, .int .i64 k] 30)).heap.size ≤ j := hj
  simp at this
  omega

set_option maxHeartbeats 1000000 in
theorem step_has (w : World) (F G : Nat → Prop) (b : Nat) (v : Value) (L : List Int) (k : Int) (h : Both w F G b v L) (hk : (Lit.int .i64 k).wf = true) :
    Calls Try.prog 14 #[.pointer (some ⟨b, 0, none⟩), v, .agg #[.int .i64 4, .int .i64 k]] w fun e w' => ∃ v', e = .returned (.tuple #[v', .bool true]) ∧ Stepped w F G b L w' v' := by
  have HH := hide h
  obtain ⟨hrob, ⟨A, c, rfl, hrow⟩, hap, hlt⟩ := h
  have hbel := (Below.refl w.heap.size w).alloc (Nat.le_refl _) (.cells #[.int .i64 4, .int .i64 k] 30)
  have HR := hide (hrow.alloc (.cells #[.int .i64 4, .int .i64 k] 30)).reads
  have HO := hide (hrob.below hbel)
  clear hrob hrow hap hlt hbel
  obtain ⟨x, hx⟩ : ∃ x, decide (k ∈ L) = x := ⟨_, rfl⟩
  have h1 : decide (0 ≤ idx L k) = x := by
    cases x with
    | true => simpa using idx_nonneg hx
    | false => simpa using idx_neg hx
  have hxx : (x == x) = true := by simp
  have HC : ∀ m, Hid (Calls Try.prog 17 #[.pointer (some ⟨b, 0, none⟩), .int .i64 k] ((w.alloc (.cells #[.int .i64 4, .int .i64 k] 30)).drewN m) fun e w' => e = .returned (.bool x) ∧ w' = (w.alloc (.cells #[.int .i64 4, .int .i64 k] 30)).drewN m) := fun m => by
    refine hide ((has_any _ F b L k (HO.out.kept ((Mod.refl (fun _ => False) _).drewN m) (fun _ _ h => h)) hk).mono ?_)
    rintro e w' ⟨rfl, rfl⟩
    rw [hx]
    exact ⟨rfl, rfl⟩
  have HF : ∀ m, Hid (Calls Try.prog 31 #[.slice A L.length c, .int .i64 k] ((w.alloc (.cells #[.int .i64 4, .int .i64 k] 30)).drewN m) fun e w' => e = .returned (.int .i64 (idx L k)) ∧ w' = (w.alloc (.cells #[.int .i64 4, .int .i64 k] 30)).drewN m) := fun m => by
    refine hide ((find_any ((w.alloc (.cells #[.int .i64 4, .int .i64 k] 30)).drewN m) _ _ L k (HR.out.kept (fun _ _ h => h))).mono ?_)
    rintro e w' ⟨rfl, rfl⟩
    exact ⟨rfl, rfl⟩
  clear hx
  go_enter Try.func14, Try.ntmps14
  go_wp2
  go_quiet ((first | (go_at_call 17; exact Calls.quiet_of_same (HC _).out) | (go_at_call 31; exact Calls.quiet_of_same (HF _).out)))
  go_wp2
  go_ret2
  exact ⟨_, rfl, stepped_same HH.out (((Below.refl _ w).alloc (Nat.le_refl _) _).trans ⟨rfl, rfl, rfl, Nat.le_refl _, fun _ _ => rfl⟩)⟩

set_option maxHeartbeats 1000000 in
theorem step_len (w : World) (F G : Nat → Prop) (b : Nat) (v : Value) (L : List Int) (k : Int) (h : Both w F G b v L) :
    Calls Try.prog 14 #[.pointer (some ⟨b, 0, none⟩), v, .agg #[.int .i64 5, .int .i64 k]] w fun e w' => ∃ v', e = .returned (.tuple #[v', .bool true]) ∧ Stepped w F G b L w' v' := by
  have HH := hide h
  obtain ⟨hrob, ⟨A, c, rfl, hrow⟩, hap, hlt⟩ := h
  have HO := hide (hrob.below ((Below.refl w.heap.size w).alloc (Nat.le_refl _) (.cells #[.int .i64 5, .int .i64 k] 30)))
  clear hrob hrow hap hlt
  go_enter Try.func14, Try.ntmps14
  go_wp2_with (go_at_call 10; refine (len_any _ F b L HO.out).mono ?_; rintro e w2 ⟨rfl, rfl⟩)
  go_ret2
  exact ⟨_, rfl, stepped_same HH.out ((Below.refl _ w).alloc (Nat.le_refl _) _)⟩

set_option maxHeartbeats 1000000 in
theorem step_list (w : World) (F G : Nat → Prop) (b : Nat) (v : Value) (L : List Int) (k : Int) (h : Both w F G b v L) (hroom : L.length + 1 ≤ 17592186044416) :
    Calls Try.prog 14 #[.pointer (some ⟨b, 0, none⟩), v, .agg #[.int .i64 6, .int .i64 k]] w fun e w' => ∃ v', e = .returned (.tuple #[v', .bool true]) ∧ Stepped w F G b L w' v' := by
  have HH := hide h
  obtain ⟨hrob, ⟨A, c, rfl, hrow⟩, hap, hlt⟩ := h
  have HO := hide (hrob.below ((Below.refl w.heap.size w).alloc (Nat.le_refl _) (.cells #[.int .i64 6, .int .i64 k] 30)))
  have HR := hide (hrow.alloc (.cells #[.int .i64 6, .int .i64 k] 30)).reads
  clear hrob hrow hap hlt
  go_enter Try.func14, Try.ntmps14
  go_wp2_with (first
    | (go_at_call 16; refine (list_any _ F b L HO.out (by omega)).mono ?_; rintro e w1 ⟨A1, c1, rfl, hrow1, hbel1⟩
       have HR1 := hide hrow1.reads
       have HB1 := hide hbel1
       have HR2 := hide (HR.out.kept (w' := w1) (fun a v hc => (hbel1.cell (World.block_lt_of_cell? _ a hc)).trans hc))
       clear hrow1 hbel1)
    | (go_at_call 15; refine (same_any _ _ _ _ L HR1.out HR2.out).mono ?_; rintro e w2 ⟨rfl, hd2⟩; have HD2 := hide hd2; clear hd2))
  go_ret2
  exact ⟨_, rfl, stepped_same HH.out ((((Below.refl _ w).alloc (Nat.le_refl _) _).trans (HB1.out.mono (by simp))).trans (HD2.out.below.mono (by have := HB1.out.size; simp at this; omega)))⟩

set_option maxHeartbeats 1000000 in
theorem step_clear (w : World) (F G : Nat → Prop) (b : Nat) (v : Value) (L : List Int) (k : Int) (h : Both w F G b v L) :
    Calls Try.prog 14 #[.pointer (some ⟨b, 0, none⟩), v, .agg #[.int .i64 7, .int .i64 k]] w fun e w' => ∃ v', e = .returned (.tuple #[v', .bool true]) ∧ Stepped w F G b [] w' v' := by
  have HH := hide h
  obtain ⟨hrob, ⟨A, c, rfl, hrow⟩, hap, hlt⟩ := h
  have HO := hide (hrob.below ((Below.refl w.heap.size w).alloc (Nat.le_refl _) (.cells #[.int .i64 7, .int .i64 k] 30)))
  clear hrob hrow hap hlt
  go_enter Try.func14, Try.ntmps14
  go_wp2_with (go_at_call 18; refine (clear_any _ F b L HO.out).mono ?_; rintro e w2 ⟨rfl, hrob2, hmod2⟩; have HO2 := hide hrob2; have HM2 := hide hmod2; clear hrob2 hmod2)
  go_ret2
  exact ⟨.slice none 0 0, rfl, stepped_mk (L' := []) HH.out ((Below.refl _ w).alloc (Nat.le_refl _) _) (Row.nil _ _ _ _) HO2.out HM2.out⟩

set_option maxHeartbeats 1000000 in
theorem step_else (w : World) (F G : Nat → Prop) (b : Nat) (v : Value) (L : List Int) (kind k : Int) (h : Both w F G b v L)
    (h1 : (kind == 1) = false) (h2 : (kind == 2) = false) (h3 : (kind == 3) = false) (h4 : (kind == 4) = false) (h5 : (kind == 5) = false) (h6 : (kind == 6) = false) (h7 : (kind == 7) = false) :
    Calls Try.prog 14 #[.pointer (some ⟨b, 0, none⟩), v, .agg #[.int .i64 kind, .int .i64 k]] w fun e w' => ∃ v', e = .returned (.tuple #[v', .bool true]) ∧ Stepped w F G b L w' v' := by
  have HH := hide h
  obtain ⟨hrob, ⟨A, c, rfl, hrow⟩, hap, hlt⟩ := h
  clear hrob hrow hap hlt
  go_enter Try.func14, Try.ntmps14
  go_wp2
  go_ret2
  exact ⟨_, rfl, stepped_same HH.out ((Below.refl _ w).alloc (Nat.le_refl _) _)⟩

/-- The keys behind a call. -/
def stepL (L : List Int) (kind k : Int) : List Int :=
  if kind = 1 then rAdd L k else if kind = 2 then L.erase k else if kind = 3 then rNext L else if kind = 7 then [] else L
theorem stepL_length (L : List Int) (kind k : Int) : (stepL L kind k).length ≤ L.length + 1 := by
  unfold stepL
  split
  · unfold rAdd; split <;> simp
  · split
    · have := List.length_erase_le (a := k) (l := L); omega
    · split
      · rw [rNext_length]; omega
      · split <;> simp

theorem step_any (w : World) (F G : Nat → Prop) (b : Nat) (v : Value) (L : List Int) (kind k : Int) (h : Both w F G b v L) (hk : (Lit.int .i64 k).wf = true) (hroom : L.length + 1 ≤ 17592186044416) :
    Calls Try.prog 14 #[.pointer (some ⟨b, 0, none⟩), v, .agg #[.int .i64 kind, .int .i64 k]] w fun e w' => ∃ v', e = .returned (.tuple #[v', .bool true]) ∧ Stepped w F G b (stepL L kind k) w' v' := by
  unfold stepL
  by_cases h1 : kind = 1
  · subst h1; rw [if_pos rfl]; exact step_add w F G b v L k h hk hroom
  rw [if_neg h1]
  by_cases h2 : kind = 2
  · subst h2; rw [if_pos rfl]; exact step_remove w F G b v L k h hk hroom
  rw [if_neg h2]
  by_cases h3 : kind = 3
  · subst h3; rw [if_pos rfl]
    cases L with
    | nil => exact step_next_nil w F G b v k h
    | cons x r => exact step_next_cons w F G b v x r k h (by simp only [List.length_cons] at hroom; omega)
  rw [if_neg h3]
  by_cases h7 : kind = 7
  · subst h7; rw [if_pos rfl]; exact step_clear w F G b v L k h
  rw [if_neg h7]
  by_cases h4 : kind = 4
  · subst h4; exact step_has w F G b v L k h hk
  by_cases h5 : kind = 5
  · subst h5; exact step_len w F G b v L k h
  by_cases h6 : kind = 6
  · subst h6; exact step_list w F G b v L k h hroom
  exact step_else w F G b v L kind k h (by simpa using h1) (by simpa using h2) (by simpa using h3) (by simpa using h4) (by simpa using h5) (by simpa using h6) (by simpa using h7)
end Go.Proofs.Ytjajnejijaoblaa
