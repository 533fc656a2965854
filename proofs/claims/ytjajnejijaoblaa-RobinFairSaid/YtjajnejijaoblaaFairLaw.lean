/-
  RobinFair: for every number of keys that stay and every script the law returns true: who stays has each turn in time, and none has two between two of another.
-/
import Derived.Test.YtjajnejijaoblaaOpen12
import Derived.Test.YtjajnejijaoblaaFair12
namespace Go.Proofs.Ytjajnejijaoblaa.robinFair
open Go Go.ChangeShapes Go.WideShapes Go.ChangeAt Go.RowKit Go.Proofs.Ytjajnejijaoblaa Go.Cu

theorem rAdd_eq (L : List Int) (k : Int) : Fair.rAdd L k = rAdd L k := by unfold Fair.rAdd rAdd; simp
theorem rNext_eq (L : List Int) : Fair.rNext L = rNext L := by cases L <;> rfl

def St (stay : Nat) (ops : List (Int × Int)) (i : Nat) : Fair.St := Fair.run stay (ops.take i)
theorem St_succ {stay : Nat} {ops : List (Int × Int)} {i : Nat} {o : Int × Int} (h : ops[i]? = some o) : St stay ops (i + 1) = Fair.step (St stay ops i) o := by
  unfold St Fair.run
  obtain ⟨hl, hx⟩ := List.getElem?_eq_some_iff.1 h
  rw [List.take_succ_eq_append_getElem hl, List.foldl_append, hx]
  rfl
theorem St_stays {stay : Nat} (hs : 1 ≤ stay) (ops : List (Int × Int)) : ∀ i, i ≤ ops.length → (-1 : Int) ∈ (St stay ops i).L
  | 0, _ => by
    have := Fair.mem_init (stay := stay) (k := 0) (by omega)
    simpa [St, Fair.run] using this
  | i + 1, hi => by
    have ih := St_stays hs ops i (by omega)
    rw [St_succ (List.getElem?_eq_getElem (by omega))]
    have hk := Fair.fk_nonneg (ops[i]'(by omega)).2
    unfold Fair.step
    split
    · exact Fair.mem_rAdd _ ih
    · split
      · exact (List.mem_erase_of_ne (by omega)).2 ih
      · exact Fair.mem_rNext.2 ih
theorem St_lengths (stay : Nat) (ops : List (Int × Int)) : ∀ i, i ≤ ops.length → (St stay ops i).L.length ≤ stay + i ∧ (St stay ops i).told.length ≤ i ∧ (St stay ops i).most ≤ stay + i
  | 0, _ => by simp [St, Fair.run, Fair.init]
  | i + 1, hi => by
    obtain ⟨h1, h2, h3⟩ := St_lengths stay ops i (by omega)
    rw [St_succ (List.getElem?_eq_getElem (by omega))]
    unfold Fair.step
    split
    · have : (Fair.rAdd (St stay ops i).L (Fair.fk (ops[i]'(by omega)).2)).length ≤ (St stay ops i).L.length + 1 := by unfold Fair.rAdd; split <;> simp
      simp only []
      omega
    · split
      · have := List.length_erase_le (a := Fair.fk (ops[i]'(by omega)).2) (l := (St stay ops i).L)
        simp only []
        omega
      · have h4 : (Fair.rNext (St stay ops i).L).length = (St stay ops i).L.length := by rw [rNext_eq, rNext_length]
        have h5 : (St stay ops i).L.head?.toList.length ≤ 1 := by cases (St stay ops i).L <;> simp
        simp only [List.length_append]
        omega

/-- what the loop keeps -/
def Keeps (w wr : World) (b : Nat) (A : Option Addr) (c : Nat) (s : Fair.St) : Prop :=
  ∃ F G : Nat → Prop, Rob wr F b s.L ∧ (∀ k, F k → w.heap.size ≤ k) ∧ (∀ k, G k → w.heap.size ≤ k ∧ k < wr.heap.size ∧ ¬ F k) ∧ Row wr G 3 1 (.slice A s.told.length c) s.told.length (ints s.told)

/-- the robin takes a step; what was told lies apart -/
theorem Keeps.step {w wr w' : World} {b : Nat} {A : Option Addr} {c : Nat} {T : List Int} {F G : Nat → Prop} {L : List Int} (hR : Rob w' (Wide F wr w') b L) (hm : Mod F wr w') (hw : w.heap.size ≤ wr.heap.size) (hF : ∀ k, F k → w.heap.size ≤ k)
    (hG : ∀ k, G k → w.heap.size ≤ k ∧ k < wr.heap.size ∧ ¬ F k) (hrow : Row wr G 3 1 (.slice A T.length c) T.length (ints T)) (m : Nat) : Keeps w w' b A c ⟨L, T, m⟩ := by
  refine ⟨Wide F wr w', G, hR, ?_, ?_, hrow.kept hm (fun k hk _ => (hG k hk).2.2)⟩
  · rintro k (hk | hk)
    · exact hF k hk
    · omega
  · intro k hk
    obtain ⟨h1, h2, h3⟩ := hG k hk
    refine ⟨h1, Nat.lt_of_lt_of_le h2 hm.size, ?_⟩
    rintro (hf | hf)
    · exact h3 hf
    · omega

theorem int_nat {a b : Nat} (h : a = b) : Value.int .i64 (a : Int) = .int .i64 (b : Int) := by rw [h]
/-- the same where the step begins behind a new block -/
theorem Keeps.after {w wr w' : World} {b : Nat} {A : Option Addr} {c : Nat} {T : List Int} {F G : Nat → Prop} {L : List Int} {o : Obj} (hR : Rob w' (Wide F (wr.alloc o) w') b L) (hm : Mod F (wr.alloc o) w') (hw : w.heap.size ≤ wr.heap.size) (hF : ∀ k, F k → w.heap.size ≤ k)
    (hG : ∀ k, G k → w.heap.size ≤ k ∧ k < wr.heap.size ∧ ¬ F k) (hrow : Row wr G 3 1 (.slice A T.length c) T.length (ints T)) (m : Nat) : Keeps w w' b A c ⟨L, T, m⟩ :=
  Keeps.step hR hm (by simp; omega) hF (fun k hk => ⟨(hG k hk).1, by have := (hG k hk).2.1; simp; omega, (hG k hk).2.2⟩) (hrow.alloc o) m
theorem Below.after {w wr w' : World} {F : Nat → Prop} {o : Obj} (hb : Below w.heap.size w wr) (hm : Mod F (wr.alloc o) w') (hF : ∀ k, F k → w.heap.size ≤ k) : Below w.heap.size w w' :=
  (hb.alloc hb.size o).trans (hm.below (by have := hb.size; simp; omega) hF)
/-- the robin tells a key, and it is put to what was told -/
theorem Keeps.tell {w wr w3 w4 : World} {b : Nat} {A' : Option Addr} {c' : Nat} {T : List Int} {F G : Nat → Prop} {M : List Int} {x : Int} {o : Obj} (hb : Below w.heap.size w wr) (hR : Rob w3 (Wide F (wr.alloc o) w3) b M) (hm : Mod F (wr.alloc o) w3) (hF : ∀ k, F k → w.heap.size ≤ k)
    (hG : ∀ k, G k → w.heap.size ≤ k ∧ k < wr.heap.size ∧ ¬ F k) (hrow : Row w4 (fun k => G k ∨ k = (w3.alloc (.cells #[.int .i64 x] 3)).heap.size) 3 1 (.slice A' (T.length + 1) c') (T.length + 1) (ints T ++ [.int .i64 x])) (hm4 : Mod G (w3.alloc (.cells #[.int .i64 x] 3)) w4) :
    Rob w4 (Wide F (wr.alloc o) w3) b M ∧ (∀ m, Keeps w w4 b A' c' ⟨M, T ++ [x], m⟩) ∧ Below w.heap.size w w4 := by
  have hs := hb.size
  have hs3 := hm.size
  have hs4 := hm4.size
  simp at hs3 hs4
  have hdis : ∀ k, Wide F (wr.alloc o) w3 k → ¬ G k := by
    rintro k (hk | hk) hg
    · exact (hG k hg).2.2 hk
    · have h1 := (hG k hg).2.1
      have h2 := hk.1
      simp at h2
      omega
  have hR4 : Rob w4 (Wide F (wr.alloc o) w3) b M := hR.kept (((Mod.refl G w3).alloc _).trans hm4 (fun _ _ h => h)) hdis
  refine ⟨hR4, fun m => ⟨Wide F (wr.alloc o) w3, (fun k => (G k ∨ k = (w3.alloc (.cells #[.int .i64 x] 3)).heap.size) ∧ k < w4.heap.size), hR4, ?_, ?_, ?_⟩, ?_⟩
  · rintro k (hk | hk)
    · exact hF k hk
    · have h2 := hk.1
      simp at h2
      omega
  · rintro k ⟨hk | hk, hl⟩
    · obtain ⟨h1, h2, h3⟩ := hG k hk
      exact ⟨h1, by omega, fun h => hdis k h hk⟩
    · subst hk
      refine ⟨by simp; omega, hl, fun h => ?_⟩
      have := hR.lt _ h
      simp at this
      omega
  · have e : (T ++ [x]).length = T.length + 1 := by simp
    rw [ints_append]
    show Row w4 _ 3 1 (.slice A' (T ++ [x]).length c') (T ++ [x]).length _
    rw [e]
    exact hrow.mono (fun k hk hl => ⟨hk, hl⟩)
  · exact (Below.after hb hm hF).trans ((((Below.refl _ w3).alloc (Nat.le_refl _) _).mono (by omega)).trans (hm4.below (by simp; omega) (fun k hk => (hG k hk).1)))
theorem E1 {s t : Fair.St} {o : Int × Int} {k : Int} (h1 : o.1 = 1) (hk : Fair.fk o.2 = k) (h : t = Fair.step s o) : t = ⟨rAdd s.L k, s.told, max s.most (rAdd s.L k).length⟩ := by
  rw [h]; unfold Fair.step; rw [if_pos h1, hk, rAdd_eq]
theorem E2 {s t : Fair.St} {o : Int × Int} {k : Int} (h1 : o.1 = 2) (hk : Fair.fk o.2 = k) (h : t = Fair.step s o) : t = ⟨s.L.erase k, s.told, max s.most (s.L.erase k).length⟩ := by
  rw [h]; unfold Fair.step; rw [if_neg (by omega), if_pos h1, hk]
theorem E3 {s t : Fair.St} {o : Int × Int} (h1 : o.1 ≠ 1) (h2 : o.1 ≠ 2) (h : t = Fair.step s o) {x : Int} {r : List Int} (hL : s.L = x :: r) : t = ⟨r ++ [x], s.told ++ [x], max s.most (r ++ [x]).length⟩ := by
  rw [h]; unfold Fair.step; rw [if_neg h1, if_neg h2, hL]; rfl

theorem fk_wf {k : Int} (h : (Lit.int .i64 k).wf = true) : (Lit.int .i64 (Fair.fk k)).wf = true := by
  have hb := bounds_i64 h
  refine WalkArith.wf_i64 ?_
  unfold Fair.fk
  split <;> omega

theorem init_succ (k : Nat) : Fair.init (k + 1) = Fair.init k ++ [-1 - (k : Int)] := by unfold Fair.init; rw [List.range_succ]; simp
theorem init_new (k : Nat) : decide ((-1 - (k : Int)) ∈ Fair.init k) = false := by
  simp only [decide_eq_false_iff_not]
  intro h
  obtain ⟨j, hj, e⟩ := List.mem_map.1 h
  rw [List.mem_range] at hj
  omega

set_option maxHeartbeats 4000000 in
theorem walk (w : World) (stay : Int) (v : Value) (n : Nat) (ops : List (Int × Int)) (h : Script w v n ops) :
    Calls Try.prog 3 #[.int .i64 stay, v] w fun e w' => e = .returned (.bool true) ∧ Below w.heap.size w w' := by
  have HS := hide h
  obtain ⟨A, c, rfl⟩ := h.reads.shape
  have hroom := h.room
  have hn : n ≤ 8796093022207 := by omega
  have HL := hide h.length
  clear h
  by_cases hst : 1 ≤ stay ∧ stay ≤ 40
  · obtain ⟨hst1, hst2⟩ := hst
    obtain ⟨st, rfl⟩ : ∃ st : Nat, stay = (st : Int) := ⟨stay.toNat, by omega⟩
    have hst1' : 1 ≤ st := by omega
    have hst2' : st ≤ 40 := by omega
    go_enter Try.func3, Try.ntmps3
    go_wp2_with fail
    refine (wakes_true _).mono ?_
    rintro e w1 ⟨rfl, hb1⟩
    have HB1 := hide hb1
    clear hb1
    go_wp2_with fail
    refine (new_any _).mono ?_
    rintro e w2 ⟨b, rfl, hrob2, hb2⟩
    have hs1 := HB1.out.size
    have HB2 := hide (HB1.out.trans (hb2.mono hs1))
    have HO2 := hide hrob2
    have HW : Hid (∀ k, Wide (fun _ => False) w1 w2 k → w.heap.size ≤ k) := fun k hk => by rcases hk with hk | hk; exact hk.elim; omega
    clear hrob2 hb2 hs1
    go_wp2
    go_loopw [6] (fun t wr => ∃ k : Nat, k ≤ st ∧ t = .int .i64 k ∧ Hid (∃ F, Rob wr F b (Fair.init k) ∧ ∀ j, F j → w.heap.size ≤ j) ∧ Hid (Below w.heap.size w wr)) (fun t _ => st - (intOf t).toNat)
    case atStart => exact ⟨0, Nat.zero_le _, rfl, ⟨_, HO2.out, HW.out⟩, HB2.out⟩
    case round =>
      obtain ⟨k, hk, rfl, hrob, hbel⟩ := hrel
      obtain ⟨F, hR, hF⟩ := hrob.out
      have HR := hide hR
      have HF := hide hF
      clear hrob hR hF
      by_cases hlt : k < st
      · have hwf : (Lit.int .i64 (-1 - (k : Int))).wf = true := WalkArith.wf_i64 (by omega)
        have hlen : (Fair.init k).length = k := by simp [Fair.init]
        go_wp2_with (go_at_call 9; refine (add_new _ F b (Fair.init k) _ HR.out hwf (init_new k) (by rw [hlen]; omega)).mono ?_; rintro e w3 ⟨rfl, hr3, hm3⟩; have HR3 := hide hr3; have HM3 := hide hm3; clear hr3 hm3)
        go_roundw
        case rel =>
          refine ⟨k + 1, by omega, by go_num, ⟨_, by rw [init_succ]; exact HR3.out, fun j hj => ?_⟩, hbel.out.trans (HM3.out.below hbel.out.size HF.out)⟩
          have := hbel.out.size
          rcases hj with hj | hj
          · exact HF.out j hj
          · omega
        case measure => simp [intOf]; omega
      · have hkst : k = st := by omega
        have HK := hide hkst
        have hlen : (Fair.init k).length = k := by simp [Fair.init]
        have HLe := hide hlen
        clear hkst hlen
        go_wp2_with (go_at_call 10; refine (len_any _ F b (Fair.init k) HR.out).mono ?_; rintro e w3 ⟨rfl, rfl⟩)
        rw [HLe.out, HK.out]
        obtain ⟨wo, rfl⟩ : ∃ wo : World, wo = wr := ⟨_, rfl⟩
        go_wp2
        go_loopw [7, 8, 9] (fun mo v t wr => ∃ i : Nat, i ≤ n ∧ t = .int .i64 i ∧ mo = .int .i64 (St st ops i).most ∧ ∃ A c, v = .slice A (St st ops i).told.length c ∧ Hid (Keeps w wr b A c (St st ops i)) ∧ Hid (Below w.heap.size w wr)) (fun _ _ t _ => n - (intOf t).toNat)
        case atStart =>
          have h0 : St st ops 0 = ⟨Fair.init st, [], st⟩ := by simp [St, Fair.run]
          refine ⟨0, Nat.zero_le _, rfl, by rw [h0], none, 0, by rw [h0]; rfl, ?_, hbel.out⟩
          rw [h0]
          have hr := HR.out
          rw [HK.out] at hr
          exact ⟨F, fun _ => False, hr, HF.out, fun _ h => h.elim, Row.nil _ _ _ _⟩
        case round =>
          clear HR HF hbel
          obtain ⟨i, hi, rfl, rfl, A1, c1, rfl, hkp, hbel⟩ := hrel
          obtain ⟨F, G, hR, hF, hG, hrow⟩ := hkp.out
          have hlens := St_lengths st ops i (by have := HL.out; omega)
          obtain ⟨hl1, hl2, hl3⟩ := hlens
          have hws := hbel.out.size
          have HR := hide hR
          have HF := hide hF
          have HG := hide hG
          have HRow := hide hrow
          clear hR hF hG hrow hkp
          by_cases hlt : i < n
          · obtain ⟨o, ho⟩ : ∃ o, ops[i]? = some o := ⟨_, List.getElem?_eq_getElem (by have := HL.out; omega)⟩
            have HU := hide (opCells_get ho)
            have HSc := hide (HS.out.below (Nat.le_refl _) hbel.out)
            have hwf := (HSc.out.wf o (List.mem_of_getElem? ho)).1
            have hfw := fk_wf hwf
            have hbd := bounds_i64 hwf
            obtain ⟨hbd1, hbd2⟩ := hbd
            have HSu := hide (St_succ (stay := st) ho)
            have HSt := hide (St_stays hst1' ops i (by have := HL.out; omega))
            clear ho
            obtain ⟨kd, K⟩ := o
            simp only [] at hwf hfw hbd1 hbd2
            by_cases hneg : K < 0
            · have hfk : Fair.fk K = -(K + 1) := by unfold Fair.fk; rw [if_pos hneg]
              rw [hfk] at hfw
              by_cases hk1 : kd = 1
              · subst hk1
                have hE := E1 (by rfl) hfk HSu.out
                have HE := hide hE
                clear hE hfk
                go_wp2_with (first
                  | ((with_reducible refine at_index rfl ?_); refine wpList_atS rfl rfl _ _ 22 30 _ rfl rfl rfl (by simp) Try.underlying22 (by decide) size_op agg_op rfl HSc.out.reads rfl (by omega) (by omega) (us := [.int .i64 1, .int .i64 K]) rfl HU.out ?_; intro p)
                  | (go_at_call 9; refine (add_any _ F b (St st ops i).L (-(K + 1)) (HR.out.below ((Below.refl _ wr).alloc (Nat.le_refl _) _)) hfw (by omega)).mono ?_; rintro e w3 ⟨rfl, hr3, hm3⟩; have HR3 := hide hr3; have HM3 := hide hm3; clear hr3 hm3)
                  | (go_at_call 10; refine (len_any _ _ b _ HR3.out).mono ?_; rintro e w4 ⟨rfl, rfl⟩))
                all_goals
                  go_roundw
                  case rel =>
                    refine ⟨i + 1, by omega, by go_num, ?_, A1, c1, by rw [HE.out], ?_, ?_⟩
                    · rw [HE.out]; exact int_nat (by simp only []; omega)
                    · rw [HE.out]; exact Keeps.after (o := (.cells #[.int .i64 1, .int .i64 (-(K + 1))] 30)) HR3.out HM3.out hws HF.out HG.out HRow.out _
                    · exact Below.after (o := (.cells #[.int .i64 1, .int .i64 (-(K + 1))] 30)) hbel.out HM3.out HF.out
                  case measure => simp [intOf]; omega
              · by_cases hk2 : kd = 2
                · subst hk2
                  have hE := E2 (by rfl) hfk HSu.out
                  have HE := hide hE
                  clear hE hfk
                  go_wp2_with (first
                    | ((with_reducible refine at_index rfl ?_); refine wpList_atS rfl rfl _ _ 22 30 _ rfl rfl rfl (by simp) Try.underlying22 (by decide) size_op agg_op rfl HSc.out.reads rfl (by omega) (by omega) (us := [.int .i64 2, .int .i64 K]) rfl HU.out ?_; intro p)
                    | (go_at_call 11; refine (remove_any _ F b (St st ops i).L (-(K + 1)) (HR.out.below ((Below.refl _ wr).alloc (Nat.le_refl _) _)) hfw (by omega)).mono ?_; rintro e w3 ⟨rfl, hr3, hm3⟩; have HR3 := hide hr3; have HM3 := hide hm3; clear hr3 hm3)
                    | (go_at_call 10; refine (len_any _ _ b _ HR3.out).mono ?_; rintro e w4 ⟨rfl, rfl⟩))
                  all_goals
                    go_roundw
                    case rel =>
                      refine ⟨i + 1, by omega, by go_num, ?_, A1, c1, by rw [HE.out], ?_, ?_⟩
                      · rw [HE.out]; exact int_nat (by simp only []; omega)
                      · rw [HE.out]; exact Keeps.after (o := (.cells #[.int .i64 2, .int .i64 (-(K + 1))] 30)) HR3.out HM3.out hws HF.out HG.out HRow.out _
                      · exact Below.after (o := (.cells #[.int .i64 2, .int .i64 (-(K + 1))] 30)) hbel.out HM3.out HF.out
                    case measure => simp [intOf]; omega
                · have hmem := HSt.out
                  obtain ⟨x, r, hxr⟩ : ∃ x r, (St st ops i).L = x :: r := by
                    cases hq : (St st ops i).L with
                    | nil => rw [hq] at hmem; cases hmem
                    | cons x r => exact ⟨x, r, rfl⟩
                  have hE := E3 hk1 hk2 HSu.out hxr
                  have HE := hide hE
                  have hlr : r.length + 1 ≤ st + i := by rw [hxr] at hl1; simpa using hl1
                  have HRx : Hid (Rob (wr.alloc (.cells #[.int .i64 kd, .int .i64 (-(K + 1))] 30)) F b (x :: r)) := by
                    have := HR.out.below ((Below.refl _ wr).alloc (Nat.le_refl _) (.cells #[.int .i64 kd, .int .i64 (-(K + 1))] 30))
                    rw [hxr] at this
                    exact this
                  have hne1 : (kd == 1) = false := by simpa using hk1
                  have hne2 : (kd == 2) = false := by simpa using hk2
                  obtain ⟨i0, hi0, hz0, hz1, hz2⟩ := info_parts info_int
                  clear hE hfk hmem hk1 hk2
                  go_wp2_with (first
                    | ((with_reducible refine at_index rfl ?_); refine wpList_atS rfl rfl _ _ 22 30 _ rfl rfl rfl (by simp) Try.underlying22 (by decide) size_op agg_op rfl HSc.out.reads rfl (by omega) (by omega) (us := [.int .i64 kd, .int .i64 K]) rfl HU.out ?_; intro p)
                    | (go_at_call 12; refine (next_cons _ F b x r HRx.out (by omega)).mono ?_; rintro e w3 ⟨rfl, hr3, hm3⟩; have HR3 := hide hr3; have HM3 := hide hm3; have HG3 := hide ((HRow.out.alloc (.cells #[.int .i64 kd, .int .i64 (-(K + 1))] 30)).kept hm3 (fun k hk _ => (HG.out k hk).2.2)); clear hr3 hm3)
                    | (at_builtin; refine wpList_append_row rfl _ _ 28 rfl 3 i0 (.int .i64 0) 1 8 Try.underlying28 hi0 hz0 hz1 hz2 rfl (by decide) rfl (HG3.out.alloc (.cells #[.int .i64 x] 3)) rfl (reads_one _ _ _ _) (by simp [Value.oneCell']) (by unfold maxLen; omega) (by omega) ?_; intro A2 c2 w4 hrow4 hmod4
                       have HT := hide (Keeps.tell hbel.out HR3.out HM3.out HF.out HG.out hrow4 hmod4)
                       clear hrow4 hmod4)
                    | (go_at_call 10; refine (len_any _ _ b _ HT.out.1).mono ?_; rintro e w5 ⟨rfl, rfl⟩))
                  all_goals
                    go_roundw
                    case rel =>
                      refine ⟨i + 1, by omega, by go_num, ?_, A2, c2, ?_, ?_, ?_⟩
                      · rw [HE.out]; exact int_nat (by simp only [List.length_append, List.length_cons, List.length_nil]; omega)
                      · rw [HE.out]; simp
                      · rw [HE.out]; exact HT.out.2.1 _
                      · exact HT.out.2.2
                    case measure => simp [intOf]; omega
            · have hfk : Fair.fk K = K := by unfold Fair.fk; rw [if_neg hneg]
              rw [hfk] at hfw
              by_cases hk1 : kd = 1
              · subst hk1
                have hE := E1 (by rfl) hfk HSu.out
                have HE := hide hE
                clear hE hfk
                go_wp2_with (first
                  | ((with_reducible refine at_index rfl ?_); refine wpList_atS rfl rfl _ _ 22 30 _ rfl rfl rfl (by simp) Try.underlying22 (by decide) size_op agg_op rfl HSc.out.reads rfl (by omega) (by omega) (us := [.int .i64 1, .int .i64 K]) rfl HU.out ?_; intro p)
                  | (go_at_call 9; refine (add_any _ F b (St st ops i).L K (HR.out.below ((Below.refl _ wr).alloc (Nat.le_refl _) _)) hfw (by omega)).mono ?_; rintro e w3 ⟨rfl, hr3, hm3⟩; have HR3 := hide hr3; have HM3 := hide hm3; clear hr3 hm3)
                  | (go_at_call 10; refine (len_any _ _ b _ HR3.out).mono ?_; rintro e w4 ⟨rfl, rfl⟩))
                all_goals
                  go_roundw
                  case rel =>
                    refine ⟨i + 1, by omega, by go_num, ?_, A1, c1, by rw [HE.out], ?_, ?_⟩
                    · rw [HE.out]; exact int_nat (by simp only []; omega)
                    · rw [HE.out]; exact Keeps.after (o := (.cells #[.int .i64 1, .int .i64 K] 30)) HR3.out HM3.out hws HF.out HG.out HRow.out _
                    · exact Below.after (o := (.cells #[.int .i64 1, .int .i64 K] 30)) hbel.out HM3.out HF.out
                  case measure => simp [intOf]; omega
              · by_cases hk2 : kd = 2
                · subst hk2
                  have hE := E2 (by rfl) hfk HSu.out
                  have HE := hide hE
                  clear hE hfk
                  go_wp2_with (first
                    | ((with_reducible refine at_index rfl ?_); refine wpList_atS rfl rfl _ _ 22 30 _ rfl rfl rfl (by simp) Try.underlying22 (by decide) size_op agg_op rfl HSc.out.reads rfl (by omega) (by omega) (us := [.int .i64 2, .int .i64 K]) rfl HU.out ?_; intro p)
                    | (go_at_call 11; refine (remove_any _ F b (St st ops i).L K (HR.out.below ((Below.refl _ wr).alloc (Nat.le_refl _) _)) hfw (by omega)).mono ?_; rintro e w3 ⟨rfl, hr3, hm3⟩; have HR3 := hide hr3; have HM3 := hide hm3; clear hr3 hm3)
                    | (go_at_call 10; refine (len_any _ _ b _ HR3.out).mono ?_; rintro e w4 ⟨rfl, rfl⟩))
                  all_goals
                    go_roundw
                    case rel =>
                      refine ⟨i + 1, by omega, by go_num, ?_, A1, c1, by rw [HE.out], ?_, ?_⟩
                      · rw [HE.out]; exact int_nat (by simp only []; omega)
                      · rw [HE.out]; exact Keeps.after (o := (.cells #[.int .i64 2, .int .i64 K] 30)) HR3.out HM3.out hws HF.out HG.out HRow.out _
                      · exact Below.after (o := (.cells #[.int .i64 2, .int .i64 K] 30)) hbel.out HM3.out HF.out
                    case measure => simp [intOf]; omega
                · have hmem := HSt.out
                  obtain ⟨x, r, hxr⟩ : ∃ x r, (St st ops i).L = x :: r := by
                    cases hq : (St st ops i).L with
                    | nil => rw [hq] at hmem; cases hmem
                    | cons x r => exact ⟨x, r, rfl⟩
                  have hE := E3 hk1 hk2 HSu.out hxr
                  have HE := hide hE
                  have hlr : r.length + 1 ≤ st + i := by rw [hxr] at hl1; simpa using hl1
                  have HRx : Hid (Rob (wr.alloc (.cells #[.int .i64 kd, .int .i64 (K)] 30)) F b (x :: r)) := by
                    have := HR.out.below ((Below.refl _ wr).alloc (Nat.le_refl _) (.cells #[.int .i64 kd, .int .i64 (K)] 30))
                    rw [hxr] at this
                    exact this
                  have hne1 : (kd == 1) = false := by simpa using hk1
                  have hne2 : (kd == 2) = false := by simpa using hk2
                  obtain ⟨i0, hi0, hz0, hz1, hz2⟩ := info_parts info_int
                  clear hE hfk hmem hk1 hk2
                  go_wp2_with (first
                    | ((with_reducible refine at_index rfl ?_); refine wpList_atS rfl rfl _ _ 22 30 _ rfl rfl rfl (by simp) Try.underlying22 (by decide) size_op agg_op rfl HSc.out.reads rfl (by omega) (by omega) (us := [.int .i64 kd, .int .i64 K]) rfl HU.out ?_; intro p)
                    | (go_at_call 12; refine (next_cons _ F b x r HRx.out (by omega)).mono ?_; rintro e w3 ⟨rfl, hr3, hm3⟩; have HR3 := hide hr3; have HM3 := hide hm3; have HG3 := hide ((HRow.out.alloc (.cells #[.int .i64 kd, .int .i64 (K)] 30)).kept hm3 (fun k hk _ => (HG.out k hk).2.2)); clear hr3 hm3)
                    | (at_builtin; refine wpList_append_row rfl _ _ 28 rfl 3 i0 (.int .i64 0) 1 8 Try.underlying28 hi0 hz0 hz1 hz2 rfl (by decide) rfl (HG3.out.alloc (.cells #[.int .i64 x] 3)) rfl (reads_one _ _ _ _) (by simp [Value.oneCell']) (by unfold maxLen; omega) (by omega) ?_; intro A2 c2 w4 hrow4 hmod4
                       have HT := hide (Keeps.tell hbel.out HR3.out HM3.out HF.out HG.out hrow4 hmod4)
                       clear hrow4 hmod4)
                    | (go_at_call 10; refine (len_any _ _ b _ HT.out.1).mono ?_; rintro e w5 ⟨rfl, rfl⟩))
                  all_goals
                    go_roundw
                    case rel =>
                      refine ⟨i + 1, by omega, by go_num, ?_, A2, c2, ?_, ?_, ?_⟩
                      · rw [HE.out]; exact int_nat (by simp only [List.length_append, List.length_cons, List.length_nil]; omega)
                      · rw [HE.out]; simp
                      · rw [HE.out]; exact HT.out.2.1 _
                      · exact HT.out.2.2
                    case measure => simp [intOf]; omega
          · have hrun : St st ops i = Fair.run st ops := by unfold St; rw [List.take_of_length_le (by have := HL.out; omega)]
            have hg : ∀ k, k < st → Fair.gaps (St st ops i).most (-1 - (k : Int)) 0 (St st ops i).told = true := fun k hk => by rw [hrun]; exact Fair.run_gaps st ops hk
            have hbt : 1 < st → ∀ k, k < st → Fair.betw (-1 - (k : Int)) (-1 - (((k + 1) % st : Nat) : Int)) 0 (St st ops i).told = true := fun h1 k hk => by rw [hrun]; exact Fair.run_betw st ops hk h1
            have HG1 := hide hg
            have HG2 := hide hbt
            clear hg hbt hrun
            go_wp2_with (go_at_call 13; refine (fair_any _ _ _ (St st ops i).told st (St st ops i).most HRow.out.reads hst1' hst2' (by omega) (by omega) HG1.out HG2.out).mono ?_; rintro e w3 ⟨rfl, rfl⟩)
            go_ret
            exact ⟨rfl, hbel.out⟩
  · have hcase : stay < 1 ∨ ((stay < 1) = False ∧ 40 < stay) := by
      by_cases h1 : stay < 1
      · exact .inl h1
      · exact .inr ⟨by simp [h1], by omega⟩
    clear hst
    rcases hcase with h1 | ⟨h1, h2⟩
    · go_enter Try.func3, Try.ntmps3
      go_wp2_with fail
      refine (wakes_true _).mono ?_
      rintro e w1 ⟨rfl, hb1⟩
      have HB1 := hide hb1
      clear hb1
      go_wp2
      go_ret
      exact ⟨rfl, HB1.out⟩
    · have h2' : (40 < stay) = True := by simp [h2]
      go_enter Try.func3, Try.ntmps3
      go_wp2_with fail
      refine (wakes_true _).mono ?_
      rintro e w1 ⟨rfl, hb1⟩
      have HB1 := hide hb1
      clear hb1
      go_wp2
      go_ret
      exact ⟨rfl, HB1.out⟩

set_option maxRecDepth 100000 in
theorem lifted (os : Os) (started : os.Started) (H : Type) (enc : TypeId × Value → H) :
    ReturnsInHanded {} Try.checked os 3 .any (Rows.robinFairSpec.pre6 enc Try.prog Try.f3 Rows.robinFairRow.domain false) (Rows.robinFairSpec.post enc Try.prog Try.f3 false true false false) := by
  refine returnsInHanded_of_change_sized (C := Try.checked) own started (by kernel_rfl) Try.func3
    (ChangeSpec.witness6 (enc := enc) (C := Try.checked) false ⟨#[], #[.int .i64 0, .slice none 0 0], []⟩ 8 (by kernel_rfl) (by kernel_rfl) (by kernel_rfl) (by kernel_rfl)) ?_
  intro W base args ds gs before hval0 hW _ hsz0 _
  have hsz : (DataW.weightsEach Try.prog (Try.f3.params.toList ++ Rows.robinFairSpec.plain.varTypes Try.prog) (ds ++ gs)).all (· ≤ reachBytes) = true := hsz0
  clear hsz0
  have hval : ∀ (j : Nat) t v, Try.f3.params[j]? = some t → args[j]? = some v → Value.okWide Try.prog W .any base t v := hval0
  have hW' := hW
  obtain ⟨p, q, hA0, hV, rfl, hfz, hnd⟩ := hW
  have hA : DataW.TrodAll enc Try.prog W 0 (fun _ => true) true Try.f3.params.toList args.toList ds p := hA0
  rw [Try.params3] at hA hval hsz
  obtain ⟨v0, vs0, d0, ds0, p0, q0, hargs, rfl, rfl, h0, r0⟩ := trodAll_cons hA
  obtain ⟨v1, vs1, d1, ds1, p1, q1, hargs1, rfl, rfl, h1, r1⟩ := trodAll_cons r0
  obtain ⟨rfl, rfl, rfl⟩ := trodAll_nil r1
  obtain rfl : args = #[v0, v1] := by cases args; simp_all
  obtain ⟨rfl, rfl⟩ := trodVars_none hV
  obtain ⟨a0, rfl, rfl, rfl, w0⟩ := open_int Try.underlying3 (hval 0 3 v0 rfl rfl) h0
  obtain ⟨a1, len1, cap1, rfl⟩ := okWide_slice Try.underlying22 (hval 1 22 v1 rfl rfl)
  have k1 := h1
  have lt1 : ∀ x ∈ p1, x.block < W.heap.size := by obtain ⟨m, hm⟩ := k1; exact DataW.trod_lt m _ _ _ hm
  obtain ⟨ops1, hs1⟩ := open_script h1 (fun elems spare he => by
    have := sized_slice hsz (j := 1) (t := 22) (e := 30) rfl (by rw [he]; rfl) Try.underlying22
    rw [bytes_op] at this
    exact this)
  clear hA0 hval0
  refine (walk W a0 _ len1 ops1 hs1).mono fun e W' ⟨he, bel⟩ => ?_
  subst he
  exact ⟨_, rfl, _, _, _, [], _, [], hW', trodAll_mk1 (shut_bool Try.underlying4 _), (trodAll_cons_mk (shut_int Try.underlying3 w0) (trodAll_cons_mk (Below.trod laidOut (by kernel_rfl) (of_decide_eq_true (by kernel_rfl)) k1 bel lt1) trodAll_mk0)), rfl, bel.frame _, fun h => by cases h⟩

theorem robinFair_holds : Rows.RobinFairSaid :=
  OpenClaim.holds_of_wide 3 Try.f3 rfl rfl rfl rfl rfl rfl rfl ⟨rfl, rfl, rfl, rfl, rfl⟩ rfl rfl rfl rfl rfl (by kernel_rfl) Try.func3 (by kernel_rfl)
    (of_decide_eq_true (by kernel_rfl)) (by unfold Func.isWrapper; first | (rw [if_pos (by decide +kernel)]; kernel_rfl) | (rw [if_neg (by decide +kernel)]; exact ⟨rfl, rfl⟩))
    (fun os started H enc _ => lifted os started H enc)
end Go.Proofs.Ytjajnejijaoblaa.robinFair
#print axioms Go.Proofs.Ytjajnejijaoblaa.robinFair.robinFair_holds
