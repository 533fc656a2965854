/-
  RobinOwn: for every two scripts the law returns true: List answers new memory, and two robins that take their calls in turns do not touch each other.
-/
import Derived.Test.YtjajnejijaoblaaOpen12
import Derived.Test.YtjajnejijaoblaaPut
namespace Go.Proofs.Ytjajnejijaoblaa.robinOwn
open Go Go.ChangeShapes Go.WideShapes Go.ChangeAt Go.RowKit Go.Proofs.Ytjajnejijaoblaa Go.Cu

theorem Both.reads {w : World} {F G : Nat → Prop} {b : Nat} {v : Value} {L : List Int} (h : Both w F G b v L) : Reads w 1 v L.length (ints L) := by
  obtain ⟨A, c, rfl, hr⟩ := h.row
  exact hr.reads
theorem Both.kept {w w' : World} {F G H : Nat → Prop} {b : Nat} {v : Value} {L : List Int} (h : Both w F G b v L) (hm : Mod H w w') (hn : ∀ k, F k ∨ G k → ¬ H k) : Both w' F G b v L := by
  obtain ⟨hrob, ⟨A, c, rfl, hrow⟩, hap, hlt⟩ := h
  exact ⟨hrob.kept hm (fun k hk => hn k (.inl hk)), ⟨A, c, rfl, hrow.kept hm (fun k hk _ => hn k (.inr hk))⟩, hap, fun k hk => Nat.lt_of_lt_of_le (hlt k hk) hm.size⟩

/-- two robins and their lists, each in memory of its own -/
structure Two (w0 w : World) (F1 G1 F2 G2 : Nat → Prop) (b1 b2 : Nat) (v1 v2 : Value) (L1 L2 : List Int) : Prop where
  one : Both w F1 G1 b1 v1 L1
  two : Both w F2 G2 b2 v2 L2
  apart : ∀ k, F1 k ∨ G1 k → ¬ (F2 k ∨ G2 k)
  low1 : ∀ k, F1 k ∨ G1 k → w0.heap.size ≤ k
  low2 : ∀ k, F2 k ∨ G2 k → w0.heap.size ≤ k
theorem Two.swap {w0 w : World} {F1 G1 F2 G2 : Nat → Prop} {b1 b2 : Nat} {v1 v2 : Value} {L1 L2 : List Int} (h : Two w0 w F1 G1 F2 G2 b1 b2 v1 v2 L1 L2) : Two w0 w F2 G2 F1 G1 b2 b1 v2 v1 L2 L1 :=
  ⟨h.two, h.one, fun k h2 h1 => h.apart k h1 h2, h.low2, h.low1⟩
theorem Both.lts {w : World} {F G : Nat → Prop} {b : Nat} {v : Value} {L : List Int} (h : Both w F G b v L) : ∀ k, F k ∨ G k → k < w.heap.size := fun k hk => hk.elim (h.rob.lt k) (Go.Proofs.Ytjajnejijaoblaa.Both.lt h k)
theorem Two.kept {w0 w w' : World} {F1 G1 F2 G2 H : Nat → Prop} {b1 b2 : Nat} {v1 v2 : Value} {L1 L2 : List Int} (h : Two w0 w F1 G1 F2 G2 b1 b2 v1 v2 L1 L2) (hm : Mod H w w') (hn : ∀ k, (F1 k ∨ G1 k) ∨ (F2 k ∨ G2 k) → ¬ H k) : Two w0 w' F1 G1 F2 G2 b1 b2 v1 v2 L1 L2 :=
  ⟨Both.kept h.one hm (fun k hk => hn k (.inl hk)), Both.kept h.two hm (fun k hk => hn k (.inr hk)), h.apart, h.low1, h.low2⟩
theorem Two.below {w0 w w' : World} {F1 G1 F2 G2 : Nat → Prop} {b1 b2 : Nat} {v1 v2 : Value} {L1 L2 : List Int} (h : Two w0 w F1 G1 F2 G2 b1 b2 v1 v2 L1 L2) (hb : Below w.heap.size w w') : Two w0 w' F1 G1 F2 G2 b1 b2 v1 v2 L1 L2 :=
  Two.kept h (Mod.ofBelow hb (fun _ => False)) (fun _ _ h => h)
/-- the first takes a step -/
theorem Two.step {w0 w w' : World} {F1 G1 F2 G2 : Nat → Prop} {b1 b2 : Nat} {v1 v2 v' : Value} {L1 L2 L' : List Int} (h : Two w0 w F1 G1 F2 G2 b1 b2 v1 v2 L1 L2) (hs : Stepped w F1 G1 b1 L' w' v') (hb : Below w0.heap.size w0 w) :
    (∃ F G, Two w0 w' F G F2 G2 b1 b2 v' v2 L' L2) ∧ Below w0.heap.size w0 w' := by
  obtain ⟨F', G', hB, hF, hG, hm⟩ := hs
  have hsz := hb.size
  have hlt2 := Both.lts h.two
  refine ⟨⟨F', G', hB, Both.kept h.two hm (fun k hk hf => h.apart k (.inl hf) hk), ?_, ?_, h.low2⟩, hb.trans (hm.below hsz (fun k hk => h.low1 k (.inl hk)))⟩
  · rintro k (hk | hk) h2
    · rcases hF k hk with hk | hk
      · exact h.apart k (.inl hk) h2
      · have := hlt2 k h2; omega
    · rcases hG k hk with hk | hk
      · exact h.apart k (.inr hk) h2
      · have := hlt2 k h2; omega
  · rintro k (hk | hk)
    · rcases hF k hk with hk | hk
      · exact h.low1 k (.inl hk)
      · omega
    · rcases hG k hk with hk | hk
      · exact h.low1 k (.inr hk)
      · omega

theorem runL_stay {ops : List (Int × Int)} {i : Nat} (h : ops.length ≤ i) : runL ops (i + 1) = runL ops i := by
  unfold runL
  rw [List.take_of_length_le h, List.take_of_length_le (by omega)]
theorem runL_le (ops : List (Int × Int)) (i : Nat) : (runL ops i).length ≤ i := by
  by_cases h : i ≤ ops.length
  · exact runL_length ops i h
  · have e : runL ops i = runL ops ops.length := by unfold runL; rw [List.take_of_length_le (by omega), List.take_of_length_le (Nat.le_refl _)]
    have := runL_length ops ops.length (Nat.le_refl _)
    rw [e]
    omega

set_option maxHeartbeats 1000000 in
/-- what is wiped is turned, its room and new memory, and nothing else -/
theorem wipe_any (w : World) (F : Nat → Prop) (A : Option Addr) (n c : Nat) (xs : List Value) (k : Int) (h : Row w F 3 1 (.slice A n c) n xs) (hroom : n ≤ 8796093022207) :
    Calls Try.prog 19 #[.slice A n c, .int .i64 k] w fun e w' => e = .returned (.tuple #[]) ∧ Mod F w w' := by
  have HR := hide h
  obtain ⟨i0, hi0, hz0, hz1, hz2⟩ := info_parts info_int
  clear h
  go_enter Try.func19, Try.ntmps19
  go_wp2
  go_loopw [9] (fun t wr => ∃ i : Nat, i ≤ n ∧ t = .int .i64 i ∧ Hid (∃ ys, Row wr F 3 1 (.slice A n c) n ys ∧ Mod F w wr)) (fun t _ => n - (intOf t).toNat)
  case atStart => exact ⟨0, Nat.zero_le _, rfl, xs, HR.out, Mod.refl _ _⟩
  case round =>
    obtain ⟨i, hi, rfl, hst⟩ := hrel
    obtain ⟨ys, hr, hm⟩ := hst.out
    have HR1 := hide hr
    have HM1 := hide hm
    clear hst hr hm
    by_cases hlt : i < n
    · go_wp2_with ((with_reducible refine at_index rfl ?_); refine wpList_put1 rfl rfl _ _ _ 28 3 _ rfl rfl rfl rfl (by simp) Try.underlying28 size_int rfl HR1.out rfl (by omega) (by omega) (fun _ => rfl) rfl ?_; intro p w2 hr2 hm2; have HR2 := hide hr2; have HM2 := hide hm2; clear hr2 hm2)
      go_roundw
      case rel => exact ⟨i + 1, by omega, by go_num, _, HR2.out, HM1.out.trans HM2.out (fun _ _ h => h)⟩
      case measure => simp [intOf]; omega
    · obtain ⟨wo, rfl⟩ : ∃ wo : World, wo = wr := ⟨_, rfl⟩
      go_wp2
      go_loopw [5, 6] (fun v t wr => ∃ i : Nat, i ≤ 80 ∧ t = .int .i64 i ∧ ∃ A c, v = .slice A (n + i) c ∧ Hid (∃ G zs, Row wr G 3 1 (.slice A (n + i) c) (n + i) zs ∧ Mod F w wr ∧ ∀ k, G k → F k ∨ w.heap.size ≤ k)) (fun _ t _ => 80 - (intOf t).toNat)
      case atStart => exact ⟨0, Nat.zero_le _, rfl, A, c, rfl, F, _, HR1.out, HM1.out, fun _ h => .inl h⟩
      case round =>
        clear HR1 HM1
        obtain ⟨i, hi, rfl, A1, c1, rfl, hst⟩ := hrel
        obtain ⟨G, zs, hr, hm, hG⟩ := hst.out
        have HR1 := hide hr
        have HM1 := hide hm
        have HG1 := hide hG
        clear hst hr hm hG
        by_cases hlt : i < 80
        · go_wp2_with (at_builtin; refine wpList_append_row rfl _ _ 28 rfl 3 i0 (.int .i64 0) 1 8 Try.underlying28 hi0 hz0 hz1 hz2 rfl (by decide) rfl (HR1.out.alloc (.cells #[.int .i64 k] 3)) rfl (reads_one _ _ _ _) (by simp [Value.oneCell']) (by unfold maxLen; omega) (by omega) ?_; intro A2 c2 w2 hr2 hm2; have HR2 := hide hr2; have HM2 := hide hm2; clear hr2 hm2)
          go_roundw
          case rel =>
            have hs := HM1.out.size
            refine ⟨i + 1, by omega, by go_num, A2, c2, by rw [Nat.add_assoc], _, _, by rw [← Nat.add_assoc]; exact HR2.out, (HM1.out.alloc _).trans HM2.out (fun j hj hg => (HG1.out j hg).elim id (fun h => by omega)), ?_⟩
            rintro j (hj | hj)
            · exact HG1.out j hj
            · subst hj
              right
              simp
              omega
          case measure => simp [intOf]; omega
        · go_wp2
          go_end0
          exact ⟨rfl, HM1.out⟩

set_option maxRecDepth 10000 in
set_option maxHeartbeats 8000000 in
theorem walk (w : World) (va vb : Value) (n1 n2 : Nat) (ops1 ops2 : List (Int × Int)) (h1 : Script w va n1 ops1) (h2 : Script w vb n2 ops2) :
    Calls Try.prog 6 #[va, vb] w fun e w' => e = .returned (.bool true) ∧ Below w.heap.size w w' := by
  have HS1 := hide h1
  have HS2 := hide h2
  obtain ⟨Aa, ca, rfl⟩ := h1.reads.shape
  obtain ⟨Ab, cb, rfl⟩ := h2.reads.shape
  have hroom1 := h1.room
  have hroom2 := h2.room
  have hn1 : n1 ≤ 8796093022207 := by omega
  have hn2 : n2 ≤ 8796093022207 := by omega
  have HL1 := hide h1.length
  have HL2 := hide h2.length
  clear h1 h2 hroom1 hroom2
  go_enter Try.func6, Try.ntmps6
  go_wp2_with fail
  refine (wakes_true _).mono ?_
  rintro e w1 ⟨rfl, hb1⟩
  have HB1 := hide hb1
  clear hb1
  go_wp2_with fail
  refine (new_any _).mono ?_
  rintro e w2 ⟨b1, rfl, hrob2, hb2⟩
  have HO2 := hide hrob2
  have HB2 := hide hb2
  clear hrob2 hb2
  go_wp2_with fail
  refine (new_any _).mono ?_
  rintro e w3 ⟨b2, rfl, hrob3, hb3⟩
  have hs1 := HB1.out.size
  have hs2 := HB2.out.size
  have HB3 := hide ((HB1.out.trans (HB2.out.mono hs1)).trans (hb3.mono (by omega)))
  have HT0 : Hid (Two w w3 (Wide (fun _ => False) w1 w2) (fun _ => False) (Wide (fun _ => False) w2 w3) (fun _ => False) b1 b2 (.slice none 0 0) (.slice none 0 0) [] []) := by
    refine ⟨⟨HO2.out.below hb3, ⟨none, 0, rfl, Row.nil _ _ _ _⟩, fun _ h => h.elim, fun _ h => h.elim⟩, ⟨hrob3, ⟨none, 0, rfl, Row.nil _ _ _ _⟩, fun _ h => h.elim, fun _ h => h.elim⟩, ?_, ?_, ?_⟩
    · rintro k ((hk | hk) | hk) ((hj | hj) | hj) <;> first | exact hk.elim | exact hj.elim | omega
    · rintro k ((hk | hk) | hk) <;> first | exact hk.elim | omega
    · rintro k ((hk | hk) | hk) <;> first | exact hk.elim | omega
  clear hrob3 hb3 hs1 hs2 HO2 HB1 HB2
  go_wp2
  go_loopw [7, 8, 9] (fun v1 v2 t wr => ∃ i : Nat, (i ≤ n1 ∨ i ≤ n2) ∧ t = .int .i64 i ∧ Hid (∃ F1 G1 F2 G2, Two w wr F1 G1 F2 G2 b1 b2 v1 v2 (runL ops1 i) (runL ops2 i)) ∧ Hid (Below w.heap.size w wr)) (fun _ _ t _ => max n1 n2 - (intOf t).toNat)
  case atStart => exact ⟨0, .inl (Nat.zero_le _), rfl, ⟨_, _, _, _, HT0.out⟩, HB3.out⟩
  case round =>
    clear HB3 HT0
    obtain ⟨i, hi, rfl, htwo, hbel⟩ := hrel
    obtain ⟨F1, G1, F2, G2, ht⟩ := htwo.out
    have HT := hide ht
    clear htwo ht
    have hr1 := runL_le ops1 i
    have hr2 := runL_le ops2 i
    have hr1' := runL_le ops1 (i + 1)
    have hr2' := runL_le ops2 (i + 1)
    by_cases hl1 : i < n1
    · by_cases hl2 : i < n2
      · obtain ⟨o1, ho1⟩ : ∃ o, ops1[i]? = some o := ⟨_, List.getElem?_eq_getElem (by have := HL1.out; omega)⟩
        have HU1 := hide (opCells_get ho1)
        have hk1 := (HS1.out.wf o1 (List.mem_of_getElem? ho1)).1
        have HRu1 := hide (runL_succ ho1)
        clear ho1
        obtain ⟨o2, ho2⟩ : ∃ o, ops2[i]? = some o := ⟨_, List.getElem?_eq_getElem (by have := HL2.out; omega)⟩
        have HU2 := hide (opCells_get ho2)
        have hk2 := (HS2.out.wf o2 (List.mem_of_getElem? ho2)).1
        have HRu2 := hide (runL_succ ho2)
        clear ho2
        have HSc1 := hide (HS1.out.below (Nat.le_refl _) hbel.out)
        go_wp2_with ((with_reducible refine at_index rfl ?_); refine wpList_atS rfl rfl _ _ 22 30 _ rfl rfl rfl (by simp) Try.underlying22 (by decide) size_op agg_op rfl HSc1.out.reads rfl (by omega) (by omega) (us := [.int .i64 o1.1, .int .i64 o1.2]) rfl HU1.out ?_; intro p)
        refine (step_any wr _ _ b1 _ (runL ops1 i) o1.1 o1.2 HT.out.one hk1 (by omega)).mono ?_; rintro e wp ⟨v1', rfl, hst⟩
        rw [← HRu1.out] at hst
        obtain ⟨⟨Fwp, Gwp, ht⟩, hb⟩ := (Two.step HT.out hst hbel.out)
        have HTwp := hide ht; have HBwp := hide hb; clear hst ht hb; have HSc2 := hide (HS2.out.below (Nat.le_refl _) HBwp.out)
        go_wp2_with ((with_reducible refine at_index rfl ?_); refine wpList_atS rfl rfl _ _ 22 30 _ rfl rfl rfl (by simp) Try.underlying22 (by decide) size_op agg_op rfl HSc2.out.reads rfl (by omega) (by omega) (us := [.int .i64 o2.1, .int .i64 o2.2]) rfl HU2.out ?_; intro p)
        refine (step_any wp _ _ b2 _ (runL ops2 i) o2.1 o2.2 HTwp.out.two hk2 (by omega)).mono ?_; rintro e wq ⟨v2', rfl, hst⟩
        rw [← HRu2.out] at hst
        obtain ⟨⟨Fwq, Gwq, ht⟩, hb⟩ := (Two.step (Two.swap HTwp.out) hst HBwp.out)
        have HTwq := hide (Two.swap ht); have HBwq := hide hb; clear hst ht hb
        go_wp2_with fail
        refine (list_any wq _ b1 _ HTwq.out.one.rob (by omega)).mono ?_; rintro e wa ⟨A5, c5, rfl, hrow, hb⟩; have HTa := hide (Two.below HTwq.out hb); have HBa := hide hb; have HRa := hide hrow; clear hrow hb
        go_wp2_with fail
        refine (list_any wa _ b1 _ HTa.out.one.rob (by omega)).mono ?_; rintro e wb ⟨A6, c6, rfl, hrow, hb⟩
        have HTb := hide (Two.below HTa.out hb); have HBb := hide hb; have HRb := hide hrow
        have HRa1 := hide ((HRa.out.mono (G := fun k => wq.heap.size ≤ k ∧ k < wa.heap.size) (fun k hk hl => ⟨hk, hl⟩)).kept (Mod.ofBelow hb (fun _ => False)) (fun _ _ _ h => h)); clear hrow hb
        go_wp2_with fail
        refine (wipe_any wb _ _ _ _ _ _ HRa1.out (by omega)).mono ?_; rintro e wc ⟨rfl, hm⟩
        have HTc := hide (Two.kept HTb.out hm (fun k hk hh => by have := hk.elim (Both.lts HTwq.out.one k) (Both.lts HTwq.out.two k); omega))
        have HRb1 := hide ((HRb.out.mono (G := fun k => wa.heap.size ≤ k ∧ k < wb.heap.size) (fun k hk hl => ⟨hk, hl⟩)).kept hm (fun k hk _ hh => by omega))
        have HBc := hide (hm.below (B := wq.heap.size) (by have := HBa.out.size; have := HBb.out.size; omega) (fun k hk => hk.1)); have HCc := hide hm.size; clear hm
        go_wp2_with fail
        refine (same_any wc _ _ _ _ HRb1.out.reads (Both.reads HTc.out.one)).mono ?_; rintro e wd ⟨rfl, hd⟩
        have HTd := hide (Two.below HTc.out hd.below); have HBd := hide hd.below
        have HRb2 := hide (HRb1.out.kept (Mod.ofBelow hd.below (fun _ => False)) (fun _ _ _ h => h)); clear hd
        go_wp2_with fail
        refine (list_any wd _ b1 _ HTd.out.one.rob (by omega)).mono ?_; rintro e we ⟨A7, c7, rfl, hrow, hb⟩
        have HTe := hide (Two.below HTd.out hb); have HBe := hide hb; have HRc := hide hrow
        have HRb3 := hide (HRb2.out.kept (Mod.ofBelow hb (fun _ => False)) (fun _ _ _ h => h)); clear hrow hb
        go_wp2_with fail
        refine (wipe_any we _ _ _ _ _ _ HRb3.out (by omega)).mono ?_; rintro e wf ⟨rfl, hm⟩
        have HTf := hide (Two.kept HTe.out hm (fun k hk hh => by have := hk.elim (Both.lts HTwq.out.one k) (Both.lts HTwq.out.two k); have := HBa.out.size; omega))
        have HRc1 := hide (HRc.out.kept hm (fun k hk _ hh => by have : wd.heap.size ≤ k := hk; have := HBd.out.size; have := HCc.out; omega))
        have HBf := hide (hm.below (B := wq.heap.size) (by have := HBa.out.size; have := HBb.out.size; have := HCc.out; have := HBd.out.size; have := HBe.out.size; omega) (fun k hk => by have := HBa.out.size; omega)); have HCf := hide hm.size; clear hm
        go_wp2_with fail
        refine (same_any wf _ _ _ _ HRc1.out.reads (Both.reads HTf.out.one)).mono ?_; rintro e wg ⟨rfl, hd⟩; have HTg := hide (Two.below HTf.out hd.below); have HBg := hide hd.below; clear hd
        go_wp2_with fail
        refine (list_any wg _ b2 _ HTg.out.two.rob (by omega)).mono ?_; rintro e wh ⟨A8, c8, rfl, hrow, hb⟩; have HTh := hide (Two.below HTg.out hb); have HBh := hide hb; have HRd := hide hrow; clear hrow hb
        go_wp2_with fail
        refine (same_any wh _ _ _ _ HRd.out.reads (Both.reads HTh.out.two)).mono ?_; rintro e wi ⟨rfl, hd⟩; have HTi := hide (Two.below HTh.out hd.below); have HBi := hide hd.below; clear hd
        go_wp2
        go_roundw
        case rel =>
          have s0 := HBwq.out.size; have s1 := HBa.out.size; have s2 := HBb.out.size; have s3 := HCc.out; have s4 := HBd.out.size; have s5 := HBe.out.size; have s6 := HCf.out; have s7 := HBg.out.size; have s8 := HBh.out.size
          refine ⟨i + 1, by omega, by go_num, ⟨_, _, _, _, HTi.out⟩, ?_⟩
          exact ((((((((HBwq.out.trans (HBa.out.mono s0)).trans (HBb.out.mono (by omega))).trans (HBc.out.mono s0)).trans (HBd.out.mono (by omega))).trans (HBe.out.mono (by omega))).trans (HBf.out.mono s0)).trans (HBg.out.mono (by omega))).trans (HBh.out.mono (by omega))).trans (HBi.out.mono (by omega))
        case measure => simp [intOf]; omega
      · obtain ⟨o1, ho1⟩ : ∃ o, ops1[i]? = some o := ⟨_, List.getElem?_eq_getElem (by have := HL1.out; omega)⟩
        have HU1 := hide (opCells_get ho1)
        have hk1 := (HS1.out.wf o1 (List.mem_of_getElem? ho1)).1
        have HRu1 := hide (runL_succ ho1)
        clear ho1
        have HRu2 : Hid (runL ops2 (i + 1) = runL ops2 i) := runL_stay (by have := HL2.out; omega)
        have HSc1 := hide (HS1.out.below (Nat.le_refl _) hbel.out)
        have HT' := HT.out
        rw [← HRu2.out] at HT'
        clear HT
        have HT := hide HT'
        clear HT'
        go_wp2_with ((with_reducible refine at_index rfl ?_); refine wpList_atS rfl rfl _ _ 22 30 _ rfl rfl rfl (by simp) Try.underlying22 (by decide) size_op agg_op rfl HSc1.out.reads rfl (by omega) (by omega) (us := [.int .i64 o1.1, .int .i64 o1.2]) rfl HU1.out ?_; intro p)
        refine (step_any wr _ _ b1 _ (runL ops1 i) o1.1 o1.2 HT.out.one hk1 (by omega)).mono ?_; rintro e wp ⟨v1', rfl, hst⟩
        rw [← HRu1.out] at hst
        obtain ⟨⟨Fwp, Gwp, ht⟩, hb⟩ := (Two.step HT.out hst hbel.out)
        have HTwp := hide ht; have HBwp := hide hb; clear hst ht hb
        go_wp2_with fail
        refine (list_any wp _ b1 _ HTwp.out.one.rob (by omega)).mono ?_; rintro e wa ⟨A5, c5, rfl, hrow, hb⟩; have HTa := hide (Two.below HTwp.out hb); have HBa := hide hb; have HRa := hide hrow; clear hrow hb
        go_wp2_with fail
        refine (list_any wa _ b1 _ HTa.out.one.rob (by omega)).mono ?_; rintro e wb ⟨A6, c6, rfl, hrow, hb⟩
        have HTb := hide (Two.below HTa.out hb); have HBb := hide hb; have HRb := hide hrow
        have HRa1 := hide ((HRa.out.mono (G := fun k => wp.heap.size ≤ k ∧ k < wa.heap.size) (fun k hk hl => ⟨hk, hl⟩)).kept (Mod.ofBelow hb (fun _ => False)) (fun _ _ _ h => h)); clear hrow hb
        go_wp2_with fail
        refine (wipe_any wb _ _ _ _ _ _ HRa1.out (by omega)).mono ?_; rintro e wc ⟨rfl, hm⟩
        have HTc := hide (Two.kept HTb.out hm (fun k hk hh => by have := hk.elim (Both.lts HTwp.out.one k) (Both.lts HTwp.out.two k); omega))
        have HRb1 := hide ((HRb.out.mono (G := fun k => wa.heap.size ≤ k ∧ k < wb.heap.size) (fun k hk hl => ⟨hk, hl⟩)).kept hm (fun k hk _ hh => by omega))
        have HBc := hide (hm.below (B := wp.heap.size) (by have := HBa.out.size; have := HBb.out.size; omega) (fun k hk => hk.1)); have HCc := hide hm.size; clear hm
        go_wp2_with fail
        refine (same_any wc _ _ _ _ HRb1.out.reads (Both.reads HTc.out.one)).mono ?_; rintro e wd ⟨rfl, hd⟩
        have HTd := hide (Two.below HTc.out hd.below); have HBd := hide hd.below
        have HRb2 := hide (HRb1.out.kept (Mod.ofBelow hd.below (fun _ => False)) (fun _ _ _ h => h)); clear hd
        go_wp2_with fail
        refine (list_any wd _ b1 _ HTd.out.one.rob (by omega)).mono ?_; rintro e we ⟨A7, c7, rfl, hrow, hb⟩
        have HTe := hide (Two.below HTd.out hb); have HBe := hide hb; have HRc := hide hrow
        have HRb3 := hide (HRb2.out.kept (Mod.ofBelow hb (fun _ => False)) (fun _ _ _ h => h)); clear hrow hb
        go_wp2_with fail
        refine (wipe_any we _ _ _ _ _ _ HRb3.out (by omega)).mono ?_; rintro e wf ⟨rfl, hm⟩
        have HTf := hide (Two.kept HTe.out hm (fun k hk hh => by have := hk.elim (Both.lts HTwp.out.one k) (Both.lts HTwp.out.two k); have := HBa.out.size; omega))
        have HRc1 := hide (HRc.out.kept hm (fun k hk _ hh => by have : wd.heap.size ≤ k := hk; have := HBd.out.size; have := HCc.out; omega))
        have HBf := hide (hm.below (B := wp.heap.size) (by have := HBa.out.size; have := HBb.out.size; have := HCc.out; have := HBd.out.size; have := HBe.out.size; omega) (fun k hk => by have := HBa.out.size; omega)); have HCf := hide hm.size; clear hm
        go_wp2_with fail
        refine (same_any wf _ _ _ _ HRc1.out.reads (Both.reads HTf.out.one)).mono ?_; rintro e wg ⟨rfl, hd⟩; have HTg := hide (Two.below HTf.out hd.below); have HBg := hide hd.below; clear hd
        go_wp2_with fail
        refine (list_any wg _ b2 _ HTg.out.two.rob (by omega)).mono ?_; rintro e wh ⟨A8, c8, rfl, hrow, hb⟩; have HTh := hide (Two.below HTg.out hb); have HBh := hide hb; have HRd := hide hrow; clear hrow hb
        go_wp2_with fail
        refine (same_any wh _ _ _ _ HRd.out.reads (Both.reads HTh.out.two)).mono ?_; rintro e wi ⟨rfl, hd⟩; have HTi := hide (Two.below HTh.out hd.below); have HBi := hide hd.below; clear hd
        go_wp2
        go_roundw
        case rel =>
          have s0 := HBwp.out.size; have s1 := HBa.out.size; have s2 := HBb.out.size; have s3 := HCc.out; have s4 := HBd.out.size; have s5 := HBe.out.size; have s6 := HCf.out; have s7 := HBg.out.size; have s8 := HBh.out.size
          refine ⟨i + 1, by omega, by go_num, ⟨_, _, _, _, HTi.out⟩, ?_⟩
          exact ((((((((HBwp.out.trans (HBa.out.mono s0)).trans (HBb.out.mono (by omega))).trans (HBc.out.mono s0)).trans (HBd.out.mono (by omega))).trans (HBe.out.mono (by omega))).trans (HBf.out.mono s0)).trans (HBg.out.mono (by omega))).trans (HBh.out.mono (by omega))).trans (HBi.out.mono (by omega))
        case measure => simp [intOf]; omega
    · by_cases hl2 : i < n2
      · have HRu1 : Hid (runL ops1 (i + 1) = runL ops1 i) := runL_stay (by have := HL1.out; omega)
        obtain ⟨o2, ho2⟩ : ∃ o, ops2[i]? = some o := ⟨_, List.getElem?_eq_getElem (by have := HL2.out; omega)⟩
        have HU2 := hide (opCells_get ho2)
        have hk2 := (HS2.out.wf o2 (List.mem_of_getElem? ho2)).1
        have HRu2 := hide (runL_succ ho2)
        clear ho2
        have HSc2 := hide (HS2.out.below (Nat.le_refl _) hbel.out)
        have HT' := HT.out
        rw [← HRu1.out] at HT'
        clear HT
        have HT := hide HT'
        clear HT'
        go_wp2_with ((with_reducible refine at_index rfl ?_); refine wpList_atS rfl rfl _ _ 22 30 _ rfl rfl rfl (by simp) Try.underlying22 (by decide) size_op agg_op rfl HSc2.out.reads rfl (by omega) (by omega) (us := [.int .i64 o2.1, .int .i64 o2.2]) rfl HU2.out ?_; intro p)
        refine (step_any wr _ _ b2 _ (runL ops2 i) o2.1 o2.2 HT.out.two hk2 (by omega)).mono ?_; rintro e wq ⟨v2', rfl, hst⟩
        rw [← HRu2.out] at hst
        obtain ⟨⟨Fwq, Gwq, ht⟩, hb⟩ := (Two.step (Two.swap HT.out) hst hbel.out)
        have HTwq := hide (Two.swap ht); have HBwq := hide hb; clear hst ht hb
        go_wp2_with fail
        refine (list_any wq _ b1 _ HTwq.out.one.rob (by omega)).mono ?_; rintro e wa ⟨A5, c5, rfl, hrow, hb⟩; have HTa := hide (Two.below HTwq.out hb); have HBa := hide hb; have HRa := hide hrow; clear hrow hb
        go_wp2_with fail
        refine (list_any wa _ b1 _ HTa.out.one.rob (by omega)).mono ?_; rintro e wb ⟨A6, c6, rfl, hrow, hb⟩
        have HTb := hide (Two.below HTa.out hb); have HBb := hide hb; have HRb := hide hrow
        have HRa1 := hide ((HRa.out.mono (G := fun k => wq.heap.size ≤ k ∧ k < wa.heap.size) (fun k hk hl => ⟨hk, hl⟩)).kept (Mod.ofBelow hb (fun _ => False)) (fun _ _ _ h => h)); clear hrow hb
        go_wp2_with fail
        refine (wipe_any wb _ _ _ _ _ _ HRa1.out (by omega)).mono ?_; rintro e wc ⟨rfl, hm⟩
        have HTc := hide (Two.kept HTb.out hm (fun k hk hh => by have := hk.elim (Both.lts HTwq.out.one k) (Both.lts HTwq.out.two k); omega))
        have HRb1 := hide ((HRb.out.mono (G := fun k => wa.heap.size ≤ k ∧ k < wb.heap.size) (fun k hk hl => ⟨hk, hl⟩)).kept hm (fun k hk _ hh => by omega))
        have HBc := hide (hm.below (B := wq.heap.size) (by have := HBa.out.size; have := HBb.out.size; omega) (fun k hk => hk.1)); have HCc := hide hm.size; clear hm
        go_wp2_with fail
        refine (same_any wc _ _ _ _ HRb1.out.reads (Both.reads HTc.out.one)).mono ?_; rintro e wd ⟨rfl, hd⟩
        have HTd := hide (Two.below HTc.out hd.below); have HBd := hide hd.below
        have HRb2 := hide (HRb1.out.kept (Mod.ofBelow hd.below (fun _ => False)) (fun _ _ _ h => h)); clear hd
        go_wp2_with fail
        refine (list_any wd _ b1 _ HTd.out.one.rob (by omega)).mono ?_; rintro e we ⟨A7, c7, rfl, hrow, hb⟩
        have HTe := hide (Two.below HTd.out hb); have HBe := hide hb; have HRc := hide hrow
        have HRb3 := hide (HRb2.out.kept (Mod.ofBelow hb (fun _ => False)) (fun _ _ _ h => h)); clear hrow hb
        go_wp2_with fail
        refine (wipe_any we _ _ _ _ _ _ HRb3.out (by omega)).mono ?_; rintro e wf ⟨rfl, hm⟩
        have HTf := hide (Two.kept HTe.out hm (fun k hk hh => by have := hk.elim (Both.lts HTwq.out.one k) (Both.lts HTwq.out.two k); have := HBa.out.size; omega))
        have HRc1 := hide (HRc.out.kept hm (fun k hk _ hh => by have : wd.heap.size ≤ k := hk; have := HBd.out.size; have := HCc.out; omega))
        have HBf := hide (hm.below (B := wq.heap.size) (by have := HBa.out.size; have := HBb.out.size; have := HCc.out; have := HBd.out.size; have := HBe.out.size; omega) (fun k hk => by have := HBa.out.size; omega)); have HCf := hide hm.size; clear hm
        go_wp2_with fail
        refine (same_any wf _ _ _ _ HRc1.out.reads (Both.reads HTf.out.one)).mono ?_; rintro e wg ⟨rfl, hd⟩; have HTg := hide (Two.below HTf.out hd.below); have HBg := hide hd.below; clear hd
        go_wp2_with fail
        refine (list_any wg _ b2 _ HTg.out.two.rob (by omega)).mono ?_; rintro e wh ⟨A8, c8, rfl, hrow, hb⟩; have HTh := hide (Two.below HTg.out hb); have HBh := hide hb; have HRd := hide hrow; clear hrow hb
        go_wp2_with fail
        refine (same_any wh _ _ _ _ HRd.out.reads (Both.reads HTh.out.two)).mono ?_; rintro e wi ⟨rfl, hd⟩; have HTi := hide (Two.below HTh.out hd.below); have HBi := hide hd.below; clear hd
        go_wp2
        go_roundw
        case rel =>
          have s0 := HBwq.out.size; have s1 := HBa.out.size; have s2 := HBb.out.size; have s3 := HCc.out; have s4 := HBd.out.size; have s5 := HBe.out.size; have s6 := HCf.out; have s7 := HBg.out.size; have s8 := HBh.out.size
          refine ⟨i + 1, by omega, by go_num, ⟨_, _, _, _, HTi.out⟩, ?_⟩
          exact ((((((((HBwq.out.trans (HBa.out.mono s0)).trans (HBb.out.mono (by omega))).trans (HBc.out.mono s0)).trans (HBd.out.mono (by omega))).trans (HBe.out.mono (by omega))).trans (HBf.out.mono s0)).trans (HBg.out.mono (by omega))).trans (HBh.out.mono (by omega))).trans (HBi.out.mono (by omega))
        case measure => simp [intOf]; omega
      · go_wp2_with (first
          | (go_at_call 16; refine (list_any wr _ b1 _ HT.out.one.rob (by omega)).mono ?_; rintro e wa ⟨A5, c5, rfl, hrow, hb⟩; have HTa := hide (Two.below HT.out hb); have HBa := hide hb; have HRa := hide hrow; clear hrow hb)
          | (go_at_call 15; refine (same_any wa _ _ _ _ HRa.out.reads (Both.reads HTa.out.one)).mono ?_; rintro e wb ⟨rfl, hd⟩; have HBb := hide hd.below; clear hd))
        go_ret
        have s0 := hbel.out.size
        have s1 := HBa.out.size
        exact ⟨rfl, (hbel.out.trans (HBa.out.mono s0)).trans (HBb.out.mono (by omega))⟩

set_option maxRecDepth 100000 in
theorem lifted (os : Os) (started : os.Started) (H : Type) (enc : TypeId × Value → H) :
    ReturnsInHanded {} Try.checked os 6 .any (Rows.robinOwnSpec.pre6 enc Try.prog Try.f6 Rows.robinOwnRow.domain false) (Rows.robinOwnSpec.post enc Try.prog Try.f6 false true false false) := by
  refine returnsInHanded_of_change_sized (C := Try.checked) own started (by kernel_rfl) Try.func6
    (ChangeSpec.witness6 (enc := enc) (C := Try.checked) false ⟨#[], #[.slice none 0 0, .slice none 0 0], []⟩ 8 (by kernel_rfl) (by kernel_rfl) (by kernel_rfl) (by kernel_rfl)) ?_
  intro W base args ds gs before hval0 hW _ hsz0 _
  have hsz : (DataW.weightsEach Try.prog (Try.f6.params.toList ++ Rows.robinOwnSpec.plain.varTypes Try.prog) (ds ++ gs)).all (· ≤ reachBytes) = true := hsz0
  clear hsz0
  have hval : ∀ (j : Nat) t v, Try.f6.params[j]? = some t → args[j]? = some v → Value.okWide Try.prog W .any base t v := hval0
  have hW' := hW
  obtain ⟨p, q, hA0, hV, rfl, hfz, hnd⟩ := hW
  have hA : DataW.TrodAll enc Try.prog W 0 (fun _ => true) true Try.f6.params.toList args.toList ds p := hA0
  rw [Try.params6] at hA hval hsz
  obtain ⟨v0, vs0, d0, ds0, p0, q0, hargs, rfl, rfl, h0, r0⟩ := trodAll_cons hA
  obtain ⟨v1, vs1, d1, ds1, p1, q1, hargs1, rfl, rfl, h1, r1⟩ := trodAll_cons r0
  obtain ⟨rfl, rfl, rfl⟩ := trodAll_nil r1
  obtain rfl : args = #[v0, v1] := by cases args; simp_all
  obtain ⟨rfl, rfl⟩ := trodVars_none hV
  obtain ⟨a0, len0, cap0, rfl⟩ := okWide_slice Try.underlying22 (hval 0 22 v0 rfl rfl)
  have k0 := h0
  have lt0 : ∀ x ∈ p0, x.block < W.heap.size := by obtain ⟨m, hm⟩ := k0; exact DataW.trod_lt m _ _ _ hm
  obtain ⟨ops0, hs0⟩ := open_script h0 (fun elems spare he => by
    have := sized_slice hsz (j := 0) (t := 22) (e := 30) rfl (by rw [he]; rfl) Try.underlying22
    rw [bytes_op] at this
    exact this)
  obtain ⟨a1, len1, cap1, rfl⟩ := okWide_slice Try.underlying22 (hval 1 22 v1 rfl rfl)
  have k1 := h1
  have lt1 : ∀ x ∈ p1, x.block < W.heap.size := by obtain ⟨m, hm⟩ := k1; exact DataW.trod_lt m _ _ _ hm
  obtain ⟨ops1, hs1⟩ := open_script h1 (fun elems spare he => by
    have := sized_slice hsz (j := 1) (t := 22) (e := 30) rfl (by rw [he]; rfl) Try.underlying22
    rw [bytes_op] at this
    exact this)
  clear hA0 hval0
  refine (walk W _ _ len0 len1 ops0 ops1 hs0 hs1).mono fun e W' ⟨he, bel⟩ => ?_
  subst he
  exact ⟨_, rfl, _, _, _, [], _, [], hW', trodAll_mk1 (shut_bool Try.underlying4 _), (trodAll_cons_mk (Below.trod laidOut (by kernel_rfl) (of_decide_eq_true (by kernel_rfl)) k0 bel lt0) (trodAll_cons_mk (Below.trod laidOut (by kernel_rfl) (of_decide_eq_true (by kernel_rfl)) k1 bel lt1) trodAll_mk0)), rfl, bel.frame _, fun h => by cases h⟩

theorem robinOwn_holds : Rows.RobinOwnSaid :=
  OpenClaim.holds_of_wide 6 Try.f6 rfl rfl rfl rfl rfl rfl rfl ⟨rfl, rfl, rfl, rfl, rfl⟩ rfl rfl rfl rfl rfl (by kernel_rfl) Try.func6 (by kernel_rfl)
    (of_decide_eq_true (by kernel_rfl)) (by unfold Func.isWrapper; first | (rw [if_pos (by decide +kernel)]; kernel_rfl) | (rw [if_neg (by decide +kernel)]; exact ⟨rfl, rfl⟩))
    (fun os started H enc _ => lifted os started H enc)
end Go.Proofs.Ytjajnejijaoblaa.robinOwn
#print axioms Go.Proofs.Ytjajnejijaoblaa.robinOwn.robinOwn_holds
