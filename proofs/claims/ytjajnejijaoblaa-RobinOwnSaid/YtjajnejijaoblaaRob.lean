import Derived.Test.YtjajnejijaoblaaLib
import Derived.Test.YtjajnejijaoblaaSli
import Derived.Test.YtjajnejijaoblaaRows
import Derived.WalkLawsBesides
import Derived.WalkSpells
import Derived.StillTailTactics
/- The robin of whole numbers: what its memory holds; the contracts of its methods. -/
namespace Go.Proofs.Ytjajnejijaoblaa
open Go Go.RowKit Go.Cu
open Go.Maps (Keyed)

open Classical in
/-- The keys that are there. -/
noncomputable def there (L : List Int) (l : Lit) : Option Value := if ∃ k, k ∈ L ∧ l = .int .i64 k then some (.int .i64 1) else none
theorem there_mem {L : List Int} {k : Int} : (there L (.int .i64 k)).isSome = decide (k ∈ L) := by
  unfold there
  by_cases h : k ∈ L
  · rw [if_pos ⟨k, h, rfl⟩]; simp [h]
  · rw [if_neg (by rintro ⟨j, hj, e⟩; injection e with _ e; subst e; exact h hj)]; simp [h]

/-- Block b is a robin of the keys L, in their order; all of its memory lies in F. -/
def Rob (w : World) (F : Nat → Prop) (b : Nat) (L : List Int) : Prop :=
  F b ∧ (∀ k, F k → k < w.heap.size) ∧ L.Nodup ∧ (∀ k ∈ L, (Lit.int .i64 k).wf = true) ∧
    ∃ ov m, w.heap[b]? = some (.cells #[ov, .map (some m)] 51 (0, 0)) ∧ F m ∧ Row w F 3 1 ov L.length (ints L) ∧ Mp w Try.prog 3 m (there L) L.length

theorem has_any (w : World) (F : Nat → Prop) (b : Nat) (L : List Int) (k : Int) (h : Rob w F b L) (hk : (Lit.int .i64 k).wf = true) :
    Calls Try.prog 17 #[.pointer (some ⟨b, 0, none⟩), .int .i64 k] w fun e w' => e = .returned (.bool (decide (k ∈ L))) ∧ w = w' := by
  obtain ⟨hFb, hlt, hnd, hwf, ov, m, hb, hFm, hrow, hmp⟩ := h
  have c1 : w.cell? ⟨b, 1, none⟩ = some (.map (some m)) := by rw [cell_of_row w b 1 _ _ _ hb]; rfl
  have hl := hmp.lookOk (t := 49) int_law Try.underlying49 (zero_int w) (Maps.keyOf_int_mk Try.underlying3 hk)
  rw [there_mem] at hl
  clear hb hrow hmp hwf hlt
  go_enter Try.func17, Try.ntmps17
  go_wp2
  go_ret
  exact ⟨rfl, rfl⟩


theorem there_add {L : List Int} {k : Int} : ∀ l, there (L ++ [k]) l = upd (there L) (.int .i64 k) (some (.int .i64 1)) l := by
  intro l
  by_cases hl : l = .int .i64 k
  · subst hl
    rw [upd_same]
    unfold there
    rw [if_pos ⟨k, by simp, rfl⟩]
  · rw [upd_other hl]
    unfold there
    have : (∃ j, j ∈ L ++ [k] ∧ l = .int .i64 j) ↔ ∃ j, j ∈ L ∧ l = .int .i64 j := by
      constructor
      · rintro ⟨j, hj, rfl⟩
        refine ⟨j, ?_, rfl⟩
        rcases List.mem_append.1 hj with hj | hj
        · exact hj
        · simp at hj; subst hj; exact absurd rfl hl
      · rintro ⟨j, hj, rfl⟩
        exact ⟨j, by simp [hj], rfl⟩
    by_cases hex : ∃ j, j ∈ L ∧ l = .int .i64 j
    · rw [if_pos (this.2 hex), if_pos hex]
    · rw [if_neg (fun h => hex (this.1 h)), if_neg hex]

/-- What the memory holds behind 'r.order = append(r.order, k); r.there[k] = 1'. -/
theorem rob_added {w w1 w2 : World} {F : Nat → Prop} {b m : Nat} {L : List Int} {k : Int} {ov : Value} {A1 : Option Addr} {c1 : Nat} (h : Rob w F b L) (hk : (Lit.int .i64 k).wf = true) (hnew : decide (k ∈ L) = false)
    (hFm : F m) (hbm : b ≠ m)
    (hrow1 : Row w1 (fun j => (F j ∧ OfE w 3 j) ∨ j = (w.alloc (.cells #[.int .i64 k] 3)).heap.size) 3 1 (.slice A1 (L.length + 1) c1) (L.length + 1) (ints L ++ [.int .i64 k]))
    (hmod1 : Mod (fun j => F j ∧ OfE w 3 j) (w.alloc (.cells #[.int .i64 k] 3)) w1) (hb1 : w1.heap[b]? = some (.cells #[ov, .map (some m)] 51 (0, 0)))
    (hmp1 : Mp (w1.setCell ⟨b, 0, none⟩ (.slice A1 (L.length + 1) c1)) Try.prog 3 m (there L) L.length)
    (hmp2 : Mp w2 Try.prog 3 m (upd (there L) (.int .i64 k) (some (.int .i64 1))) (if (there L (.int .i64 k)).isSome = true then L.length else L.length + 1)) (hg2 : (w1.setCell ⟨b, 0, none⟩ (.slice A1 (L.length + 1) c1)).grownBy w2 (some m)) :
    Rob w2 (Wide F w w2) b (L ++ [k]) ∧ Mod F w w2 := by
  obtain ⟨hFb, hlt, hnd, hwf, ov', m', hb', _⟩ := h
  have hmod : Mod F w w2 := ((((Mod.refl F w).alloc (.cells #[.int .i64 k] 3)).trans hmod1 (fun i _ hi => hi.1)).setCell (p := ⟨b, 0, none⟩) (fun _ => hFb) _).grown hg2 (fun _ => hFm)
  have hs1 : (w.alloc (.cells #[.int .i64 k] 3)).heap.size = w.heap.size + 1 := by simp
  have hr2 : Row (w1.setCell ⟨b, 0, none⟩ (.slice A1 (L.length + 1) c1)) (fun j => (F j ∧ OfE w 3 j) ∨ j = w.heap.size + 1) 3 1 (.slice A1 (L.length + 1) c1) (L.length + 1) (ints L ++ [.int .i64 k]) :=
    (hrow1.mono (fun j hj _ => hj.imp id (fun e => by omega))).farE (p := ⟨b, 0, none⟩) hb1 (by decide) _
  have hb2 := grown_heap hg2 (heap_setCell_same w1 b 0 _ 51 (.slice A1 (L.length + 1) c1) hb1) (by intro e; injection e with e; exact hbm e)
  have hr3 := hr2.overMap hmp1 hg2
  rw [there_mem, hnew] at hmp2
  simp only [decide_eq_false_iff_not] at hnew
  refine ⟨⟨.inl hFb, Wide.lt hlt hmod.size, ?_, ?_, _, m, hb2, .inl hFm, ?_, ?_⟩, hmod⟩
  · rw [List.nodup_append]
    refine ⟨hnd, by simp, fun a ha b hb e => ?_⟩
    simp at hb
    subst hb
    subst e
    exact hnew ha
  · intro j hj
    rcases List.mem_append.1 hj with hj | hj
    · exact hwf j hj
    · simp at hj; subst hj; exact hk
  · rw [ints_append, List.length_append]
    exact hr3.mono (fun j hj hl => hj.elim (fun h => .inl h.1) (fun e => .inr ⟨by omega, hl⟩))
  · rw [List.length_append]
    exact hmp2.ext there_add

set_option maxHeartbeats 400000 in
theorem add_new (w : World) (F : Nat → Prop) (b : Nat) (L : List Int) (k : Int) (h : Rob w F b L) (hk : (Lit.int .i64 k).wf = true) (hnew : decide (k ∈ L) = false) (hroom : L.length + 1 ≤ 17592186044416) :
    Calls Try.prog 9 #[.pointer (some ⟨b, 0, none⟩), .int .i64 k] w fun e w' => e = .returned (.bool true) ∧ Rob w' (Wide F w w') b (L ++ [k]) ∧ Mod F w w' := by
  have h' := h
  obtain ⟨hFb, hlt, hnd, hwf, ov, m, hb, hFm, hrow, hmp⟩ := h
  obtain ⟨i0, hi, hz0, hz1, hz2⟩ := info_parts info_int
  have c0 : w.cell? ⟨b, 0, none⟩ = some ov := by rw [cell_of_row w b 0 _ _ _ hb]; rfl
  have hbl := hlt b hFb
  have hml := hlt m hFm
  have hbm := map_ne hb hmp
  have H := hide hb
  have HM := hide hmp
  have HR := hide (hrow.narrow.alloc (.cells #[.int .i64 k] 3))
  have HH := hide h'
  clear hb hmp hrow hwf hlt h'
  go_enter Try.func9, Try.ntmps9
  go_wp2_with (first
    | (go_at_call 17; refine (has_any _ F b L k HH.out hk).mono ?_; rintro e w' ⟨rfl, rfl⟩)
    | (at_builtin; refine wpList_append_row rfl _ _ 28 rfl 3 i0 (.int .i64 0) 1 8 Try.underlying28 hi hz0 hz1 hz2 rfl (by decide) rfl HR.out rfl (reads_one _ _ _ _) (by simp [Value.oneCell']) (by unfold maxLen; omega) (by omega) ?_; intro A1 c1 w1 hrow1 hmod1
       have hb1 : w1.heap[b]? = some (.cells #[ov, .map (some m)] 51 (0, 0)) := hmod1.heap (by rw [Below.heap_alloc _ _ _ hbl]; exact H.out) (fun hh => not_ofE H.out (by decide) hh.2)
       have hmp1 : Mp (w1.setCell ⟨b, 0, none⟩ (.slice A1 (L.length + 1) c1)) Try.prog 3 m (there L) L.length := HM.out.block (by rw [Below.heap_setCell _ _ _ _ hbm.symm, hmod1.block m (by simp; omega) (fun hh => not_ofE_mp HM.out hh.2), Below.heap_alloc _ _ _ hml])
       have d0 : w1.cell? ⟨b, 0, none⟩ = some ov := by rw [cell_of_row w1 b 0 _ _ _ hb1]; rfl
       have d1 : w1.cell? ⟨b, 1, none⟩ = some (.map (some m)) := by rw [cell_of_row w1 b 1 _ _ _ hb1]; rfl
       have f0 := frozen_of_row w1 b 0 _ _ hb1
       have HB1 := hide hb1
       have HR1 := hide hrow1
       have HM1 := hide hmod1
       have HMP1 := hide hmp1
       clear hb1 hrow1 hmod1 hmp1)
    | (at_mapUpdate; refine wpList_store_mp rfl _ _ _ 49 rfl int_law Try.underlying49 rfl HMP1.out (by unfold maxLen; omega) rfl rfl (Maps.keyOf_int_mk Try.underlying3 hk) ?_; intro w2 hmp2 hg2
       have HE := hide (rob_added HH.out hk hnew hFm hbm HR1.out HM1.out HB1.out HMP1.out hmp2 hg2)
       clear hmp2 hg2))
  go_ret
  exact ⟨rfl, HE.out⟩


theorem add_old (w : World) (F : Nat → Prop) (b : Nat) (L : List Int) (k : Int) (h : Rob w F b L) (hk : (Lit.int .i64 k).wf = true) (hold : decide (k ∈ L) = true) :
    Calls Try.prog 9 #[.pointer (some ⟨b, 0, none⟩), .int .i64 k] w fun e w' => e = .returned (.bool false) ∧ w = w' := by
  have HH := hide h
  clear h
  go_enter Try.func9, Try.ntmps9
  go_wp2_with (go_at_call 17; refine (has_any _ F b L k HH.out hk).mono ?_; rintro e w' ⟨rfl, rfl⟩)
  go_ret
  exact ⟨rfl, rfl⟩

theorem Rob.wide {w w' : World} {F : Nat → Prop} {b : Nat} {L : List Int} (h : Rob w' F b L) : Rob w' (Wide F w w') b L := by
  obtain ⟨hFb, hlt, hnd, hwf, ov, m, hb, hFm, hrow, hmp⟩ := h
  refine ⟨.inl hFb, ?_, hnd, hwf, ov, m, hb, .inl hFm, hrow.mono (fun _ hk _ => .inl hk), hmp⟩
  rintro k (hk | hk)
  · exact hlt k hk
  · exact hk.2

/-- Behind a step that does not touch it. -/
theorem Rob.kept {w w' : World} {F G : Nat → Prop} {b : Nat} {L : List Int} (h : Rob w F b L) (hm : Mod G w w') (hn : ∀ k, F k → ¬ G k) : Rob w' F b L := by
  obtain ⟨hFb, hlt, hnd, hwf, ov, m, hb, hFm, hrow, hmp⟩ := h
  refine ⟨hFb, fun k hk => Nat.lt_of_lt_of_le (hlt k hk) hm.size, hnd, hwf, ov, m, hm.heap hb (hn b hFb), hFm, hrow.kept hm (fun k hk _ => hn k hk), hmp.block (hm.block m (hlt m hFm) (hn m hFm))⟩

/-- Add, whatever the key. -/
theorem add_any (w : World) (F : Nat → Prop) (b : Nat) (L : List Int) (k : Int) (h : Rob w F b L) (hk : (Lit.int .i64 k).wf = true) (hroom : L.length + 1 ≤ 17592186044416) :
    Calls Try.prog 9 #[.pointer (some ⟨b, 0, none⟩), .int .i64 k] w fun e w' => e = .returned (.bool (!decide (k ∈ L))) ∧ Rob w' (Wide F w w') b (rAdd L k) ∧ Mod F w w' := by
  cases hd : decide (k ∈ L) with
  | true =>
    refine (add_old w F b L k h hk hd).mono ?_
    rintro e w' ⟨rfl, rfl⟩
    have : rAdd L k = L := by unfold rAdd; rw [if_pos (by simpa using hd)]
    rw [this]
    exact ⟨rfl, h.wide, Mod.refl _ _⟩
  | false =>
    refine (add_new w F b L k h hk hd hroom).mono ?_
    rintro e w' ⟨rfl, h1, h2⟩
    have : rAdd L k = L ++ [k] := by unfold rAdd; rw [if_neg (by simpa using hd)]
    rw [this]
    exact ⟨rfl, h1, h2⟩

theorem len_any (w : World) (F : Nat → Prop) (b : Nat) (L : List Int) (h : Rob w F b L) :
    Calls Try.prog 10 #[.pointer (some ⟨b, 0, none⟩)] w fun e w' => e = .returned (.int .i64 L.length) ∧ w = w' := by
  obtain ⟨hFb, hlt, hnd, hwf, ov, m, hb, hFm, hrow, hmp⟩ := h
  obtain ⟨A, c, rfl, _⟩ := hrow.shape
  have c0 : w.cell? ⟨b, 0, none⟩ = some (.slice A L.length c) := by rw [cell_of_row w b 0 _ _ _ hb]; rfl
  clear hb hrow hmp hwf hlt
  go_enter Try.func10, Try.ntmps10
  go_wp2
  go_ret
  exact ⟨rfl, rfl⟩

theorem list_any (w : World) (F : Nat → Prop) (b : Nat) (L : List Int) (h : Rob w F b L) (hroom : L.length ≤ 17592186044416) :
    Calls Try.prog 16 #[.pointer (some ⟨b, 0, none⟩)] w fun e w' => ∃ A c, e = .returned (.slice A L.length c) ∧ Row w' (New w) 3 1 (.slice A L.length c) L.length (ints L) ∧ Below w.heap.size w w' := by
  obtain ⟨hFb, hlt, hnd, hwf, ov, m, hb, hFm, hrow, hmp⟩ := h
  have c0 : w.cell? ⟨b, 0, none⟩ = some ov := by rw [cell_of_row w b 0 _ _ _ hb]; rfl
  have HS := hide hrow.reads
  clear hb hrow hmp hwf hlt
  go_enter Try.func16, Try.ntmps16
  go_wp2_with (go_at_call 32; refine (clone_any _ _ _ L HS.out hroom).mono ?_; rintro e w' ⟨A, c, rfl, hrow, hbel⟩; have HR1 := hide hrow; have HB1 := hide hbel; clear hrow hbel)
  go_ret
  exact ⟨A, c, rfl, HR1.out, HB1.out⟩

theorem next_nil (w : World) (F : Nat → Prop) (b : Nat) (h : Rob w F b []) :
    Calls Try.prog 12 #[.pointer (some ⟨b, 0, none⟩)] w fun e w' => e = .returned (.tuple #[.int .i64 0, .bool false]) ∧ w = w' := by
  have HH := hide h
  clear h
  go_enter Try.func12, Try.ntmps12
  go_wp2_with (go_at_call 10; refine (len_any _ F b [] HH.out).mono ?_; rintro e w' ⟨rfl, rfl⟩)
  go_ret2
  exact ⟨rfl, rfl⟩

theorem there_perm {L M : List Int} (h : ∀ k, k ∈ L ↔ k ∈ M) : ∀ l, there L l = there M l := by
  intro l
  unfold there
  by_cases hex : ∃ k, k ∈ L ∧ l = .int .i64 k
  · obtain ⟨k, hk, e⟩ := hex
    rw [if_pos ⟨k, hk, e⟩, if_pos ⟨k, (h k).1 hk, e⟩]
  · rw [if_neg hex, if_neg (fun ⟨k, hk, e⟩ => hex ⟨k, (h k).2 hk, e⟩)]

/-- What the memory holds behind 'r.order = v'. -/
theorem rob_stored {w w1 : World} {F G : Nat → Prop} {b m : Nat} {L M : List Int} {ov v : Value} (h : Rob w F b L) (hFm : F m) (hM : M.Nodup) (hML : ∀ k, k ∈ L ↔ k ∈ M) (hlen : L.length = M.length)
    (hb1 : w1.heap[b]? = some (.cells #[ov, .map (some m)] 51 (0, 0))) (hmp1 : Mp w1 Try.prog 3 m (there L) L.length) (hmod : Mod F w w1) (hrow1 : Row w1 G 3 1 v M.length (ints M)) (hG : ∀ k, k < w1.heap.size → G k → F k ∨ w.heap.size ≤ k) :
    Rob (w1.setCell ⟨b, 0, none⟩ v) (Wide F w (w1.setCell ⟨b, 0, none⟩ v)) b M ∧ Mod F w (w1.setCell ⟨b, 0, none⟩ v) := by
  obtain ⟨hFb, hlt, hnd, hwf, _⟩ := h
  have hmod2 : Mod F w (w1.setCell ⟨b, 0, none⟩ v) := hmod.setCell (p := ⟨b, 0, none⟩) (fun _ => hFb) v
  have hsz : (w1.setCell ⟨b, 0, none⟩ v).heap.size = w1.heap.size := by simp
  refine ⟨⟨.inl hFb, Wide.lt hlt hmod2.size, hM, fun k hk => hwf k ((hML k).2 hk), v, m, heap_setCell_same w1 b 0 _ 51 v hb1, .inl hFm, ?_, ?_⟩, hmod2⟩
  · refine (hrow1.farE (p := ⟨b, 0, none⟩) hb1 (by decide) v).mono (fun k hk hl => ?_)
    exact (hG k (by omega) hk).imp id (fun h => ⟨h, hl⟩)
  · rw [← hlen]
    exact (hmp1.block (Below.heap_setCell _ _ _ _ (map_ne hb1 hmp1).symm)).ext (there_perm (fun k => (hML k).symm))

set_option maxHeartbeats 400000 in
theorem next_cons (w : World) (F : Nat → Prop) (b : Nat) (x : Int) (r : List Int) (h : Rob w F b (x :: r)) (hroom : r.length + 1 ≤ 17592186044416) :
    Calls Try.prog 12 #[.pointer (some ⟨b, 0, none⟩)] w fun e w' => e = .returned (.tuple #[.int .i64 x, .bool true]) ∧ Rob w' (Wide F w w') b (r ++ [x]) ∧ Mod F w w' := by
  have HH := hide h
  obtain ⟨hFb, hlt, hnd, hwf, ov, m, hb, hFm, hrow, hmp⟩ := h
  obtain ⟨i0, hi, hz0, hz1, hz2⟩ := info_parts info_int
  rw [List.length_cons] at hrow
  obtain ⟨A, c, rfl, _⟩ := hrow.shape
  have c0 : w.cell? ⟨b, 0, none⟩ = some (.slice A (r.length + 1) c) := by rw [cell_of_row w b 0 _ _ _ hb]; rfl
  have H0 : Hid ((ints (x :: r))[(0 : Int).toNat]? = some (.int .i64 x)) := by show _ = _; simp [ints]
  have hne : ((r.length : Int) + 1 == 0) = false := by rw [beq_eq_false_iff_ne]; omega
  have hbl := hlt b hFb
  have hml := hlt m hFm
  have HB := hide hb
  have HS := hide hrow.reads
  have HR := hide hrow.narrow
  have HND : Hid (r ++ [x]).Nodup := by
    obtain ⟨h1, h2⟩ := List.nodup_cons.1 hnd
    show List.Nodup _
    rw [List.nodup_append]
    refine ⟨h2, by simp, fun a ha b hb e => ?_⟩
    simp at hb
    subst hb
    subst e
    exact h1 ha
  have HMP := hide hmp
  clear hb hrow hmp hwf hlt
  go_enter Try.func12, Try.ntmps12
  go_wp2_with (first
    | (go_at_call 10; refine (len_any _ F b (x :: r) HH.out).mono ?_; rintro e w' ⟨rfl, rfl⟩)
    | ((with_reducible refine at_index rfl ?_); refine wpList_at1 rfl rfl _ _ 28 3 _ rfl rfl rfl (by simp) Try.underlying28 size_int agg_int rfl HS.out rfl (by omega) (by omega) H0.out ?_; intro p)
    | ((with_reducible refine at_slice rfl ?_); refine wpList_slice_lo rfl _ _ 28 3 rfl Try.underlying28 size_int rfl HR.out (l := 1) rfl rfl (by omega) ?_; intro A1 c1 hrow1 _; have hrow1' : Row w (fun k => F k ∧ OfE w 3 k) 3 1 (.slice A1 r.length c1) r.length (ints r) := hrow1; have HR1 := hide (hrow1'.alloc (.cells #[.int .i64 x] 3)); clear hrow1 hrow1')
    | (at_builtin; refine wpList_append_row rfl _ _ 28 rfl 3 i0 (.int .i64 0) 1 8 Try.underlying28 hi hz0 hz1 hz2 rfl (by decide) rfl HR1.out rfl (reads_one _ _ _ _) (by simp [Value.oneCell']) (by unfold maxLen; omega) (by omega) ?_; intro A2 c2 w1 hrow1 hmod1
       have hb1 : w1.heap[b]? = some (.cells #[.slice A (r.length + 1) c, .map (some m)] 51 (0, 0)) := hmod1.heap (by rw [Below.heap_alloc _ _ _ hbl]; exact HB.out) (fun hh => not_ofE HB.out (by decide) hh.2)
       have hmp1 : Mp w1 Try.prog 3 m (there (x :: r)) (x :: r).length := HMP.out.block (by rw [hmod1.block m (by simp; omega) (fun hh => not_ofE_mp HMP.out hh.2), Below.heap_alloc _ _ _ hml])
       have d0 : w1.cell? ⟨b, 0, none⟩ = some (.slice A (r.length + 1) c) := by rw [cell_of_row w1 b 0 _ _ _ hb1]; rfl
       have f0 := frozen_of_row w1 b 0 _ _ hb1
       have HE := hide (rob_stored (G := fun k => (F k ∧ OfE w 3 k) ∨ k = (w.alloc (.cells #[.int .i64 x] 3)).heap.size) (M := r ++ [x]) HH.out hFm HND.out (fun k => by simp [or_comm]) (by simp) hb1 hmp1 (((Mod.refl F w).alloc _).trans hmod1 (fun _ _ h => h.1)) (by rw [ints_append, List.length_append]; exact hrow1) (fun k _ hk => hk.elim (fun h => Or.inl h.1) (fun e => Or.inr (by rw [e]; simp))))
       clear hb1 hrow1 hmod1 hmp1))
  go_ret2
  exact ⟨rfl, HE.out⟩

theorem index_mem (w : World) (v : Value) (n : Nat) (L : List Int) (k : Int) (i : Nat) (h : Reads w 1 v n (ints L)) (hk : decide (k ∈ L) = true) (hi : L.idxOf k = i) :
    Calls Try.prog 26 #[v, .int .i64 k] w fun e w' => e = .returned (.int .i64 i) ∧ w = w' := by
  refine (index_any w v n L k h).mono ?_
  rintro e w' ⟨rfl, rfl⟩
  exact ⟨by rw [idx_mem hk, hi], rfl⟩

theorem there_erase {L : List Int} {k : Int} (hnd : L.Nodup) : ∀ l, there (L.erase k) l = upd (there L) (.int .i64 k) none l := by
  intro l
  by_cases hl : l = .int .i64 k
  · subst hl
    rw [upd_same]
    unfold there
    rw [if_neg]
    rintro ⟨j, hj, e⟩
    injection e with _ e
    subst e
    exact (hnd.mem_erase_iff.1 hj).1 rfl
  · rw [upd_other hl]
    unfold there
    have : (∃ j, j ∈ L.erase k ∧ l = .int .i64 j) ↔ ∃ j, j ∈ L ∧ l = .int .i64 j := by
      constructor
      · rintro ⟨j, hj, e⟩
        exact ⟨j, List.mem_of_mem_erase hj, e⟩
      · rintro ⟨j, hj, rfl⟩
        exact ⟨j, hnd.mem_erase_iff.2 ⟨fun e => hl (by rw [e]), hj⟩, rfl⟩
    by_cases hex : ∃ j, j ∈ L ∧ l = .int .i64 j
    · rw [if_pos (this.2 hex), if_pos hex]
    · rw [if_neg (fun h => hex (this.1 h)), if_neg hex]

/-- What the memory holds behind 'r.order = v; delete(r.there, k)'. -/
theorem rob_removed {w w1 w2 : World} {F G : Nat → Prop} {b m : Nat} {L : List Int} {k : Int} {ov v : Value} (h : Rob w F b L) (hFm : F m) (hold : decide (k ∈ L) = true)
    (hb1 : w1.heap[b]? = some (.cells #[ov, .map (some m)] 51 (0, 0))) (hmod : Mod F w w1) (hrow1 : Row w1 G 3 1 v (L.length - 1) (ints (L.erase k))) (hG : ∀ k, k < w1.heap.size → G k → F k)
    (hmp1 : Mp (w1.setCell ⟨b, 0, none⟩ v) Try.prog 3 m (there L) L.length)
    (hmp2 : Mp w2 Try.prog 3 m (upd (there L) (.int .i64 k) none) (if (there L (.int .i64 k)).isSome = true then L.length - 1 else L.length)) (hg2 : (w1.setCell ⟨b, 0, none⟩ v).grownBy w2 (some m)) :
    Rob w2 (Wide F w w2) b (L.erase k) ∧ Mod F w w2 := by
  obtain ⟨hFb, hlt, hnd, hwf, _⟩ := h
  have hb1' := heap_setCell_same w1 b 0 _ 51 v hb1
  have hbm : b ≠ m := map_ne hb1' hmp1
  have hmod2 : Mod F w w2 := (hmod.setCell (p := ⟨b, 0, none⟩) (fun _ => hFb) v).grown hg2 (fun _ => hFm)
  have hlen : (L.erase k).length = L.length - 1 := by rw [List.length_erase_of_mem (by simpa using hold)]
  rw [there_mem, hold, if_pos rfl] at hmp2
  refine ⟨⟨.inl hFb, Wide.lt hlt hmod2.size, hnd.erase k, fun j hj => hwf j (List.mem_of_mem_erase hj), v, m, grown_heap hg2 hb1' (by intro e; injection e with e; exact hbm e), .inl hFm, ?_, ?_⟩, hmod2⟩
  · rw [hlen]
    refine Row.overMap ?_ hmp1 hg2
    exact (hrow1.farE (p := ⟨b, 0, none⟩) hb1 (by decide) v).mono (fun j hj hl => .inl (hG j (by simpa using hl) hj))
  · rw [hlen]
    exact hmp2.ext (there_erase hnd)

theorem remove_not (w : World) (F : Nat → Prop) (b : Nat) (L : List Int) (k : Int) (h : Rob w F b L) (hk : (Lit.int .i64 k).wf = true) (hold : decide (k ∈ L) = false) :
    Calls Try.prog 11 #[.pointer (some ⟨b, 0, none⟩), .int .i64 k] w fun e w' => e = .returned (.bool false) ∧ w = w' := by
  have HH := hide h
  clear h
  go_enter Try.func11, Try.ntmps11
  go_wp2_with (go_at_call 17; refine (has_any _ F b L k HH.out hk).mono ?_; rintro e w' ⟨rfl, rfl⟩)
  go_ret
  exact ⟨rfl, rfl⟩

set_option maxHeartbeats 400000 in
theorem remove_old (w : World) (F : Nat → Prop) (b : Nat) (L : List Int) (k : Int) (h : Rob w F b L) (hk : (Lit.int .i64 k).wf = true) (hold : decide (k ∈ L) = true) (hroom : L.length ≤ 17592186044416) :
    Calls Try.prog 11 #[.pointer (some ⟨b, 0, none⟩), .int .i64 k] w fun e w' => e = .returned (.bool true) ∧ Rob w' (Wide F w w') b (L.erase k) ∧ Mod F w w' := by
  have HH := hide h
  obtain ⟨hFb, hlt, hnd, hwf, ov, m, hb, hFm, hrow, hmp⟩ := h
  obtain ⟨i, hi⟩ : ∃ i, L.idxOf k = i := ⟨_, rfl⟩
  have hil : i < L.length := by rw [← hi]; exact List.idxOf_lt_length_of_mem (by simpa using hold)
  have HI := hide hi
  have HER : Hid (L.eraseIdx i = L.erase k) := by show _ = _; rw [List.erase_eq_eraseIdx_of_idxOf hi]
  obtain ⟨A, c, rfl, _⟩ := hrow.shape
  have c0 : w.cell? ⟨b, 0, none⟩ = some (.slice A L.length c) := by rw [cell_of_row w b 0 _ _ _ hb]; rfl
  have hbl := hlt b hFb
  have hml := hlt m hFm
  have HB := hide hb
  have HS := hide hrow.reads
  have HR := hide hrow.narrow
  have HMP := hide hmp
  have HBM := hide (map_ne hb hmp)
  clear hb hrow hmp hwf hlt hi hnd
  go_enter Try.func11, Try.ntmps11
  go_wp2_with (first
    | (go_at_call 17; refine (has_any _ F b L k HH.out hk).mono ?_; rintro e w' ⟨rfl, rfl⟩)
    | (go_at_call 26; refine (index_mem _ _ _ L k i HS.out hold HI.out).mono ?_; rintro e w' ⟨rfl, rfl⟩)
    | (go_at_call 27; refine (delete_any _ _ _ _ L i hil HR.out).mono ?_; rintro e w1 ⟨A1, c1, rfl, hrow1, hmod1⟩
       have hb1 : w1.heap[b]? = some (.cells #[.slice A L.length c, .map (some m)] 51 (0, 0)) := hmod1.heap HB.out (fun hh => not_ofE HB.out (by decide) hh.2)
       have hmp1 : Mp (w1.setCell ⟨b, 0, none⟩ (.slice A1 (L.length - 1) c1)) Try.prog 3 m (there L) L.length := HMP.out.block (by rw [Below.heap_setCell _ _ _ _ HBM.out.symm, hmod1.block m hml (fun hh => not_ofE_mp HMP.out hh.2)])
       have d0 : w1.cell? ⟨b, 0, none⟩ = some (.slice A L.length c) := by rw [cell_of_row w1 b 0 _ _ _ hb1]; rfl
       have d1 : w1.cell? ⟨b, 1, none⟩ = some (.map (some m)) := by rw [cell_of_row w1 b 1 _ _ _ hb1]; rfl
       have f0 := frozen_of_row w1 b 0 _ _ hb1
       rw [HER.out] at hrow1
       have HB1 := hide hb1
       have HR1 := hide hrow1
       have HM1 := hide hmod1
       have HMP1 := hide hmp1
       clear hb1 hrow1 hmod1 hmp1)
    | ((with_reducible refine at_builtin' rfl ?_); refine wpList_drop_mp rfl _ _ 49 3 rfl int_law Try.underlying49 rfl HMP1.out rfl (Maps.keyOf_int_mk Try.underlying3 hk) ?_; intro w2 hmp2 hg2
       have HE := hide (rob_removed HH.out hFm hold HB1.out (HM1.out.mono (fun _ _ h => h.1)) HR1.out (fun _ _ h => h.1) HMP1.out hmp2 hg2)
       clear hmp2 hg2))
  go_ret
  exact ⟨rfl, HE.out⟩

/-- Remove, whatever the key. -/
theorem remove_any (w : World) (F : Nat → Prop) (b : Nat) (L : List Int) (k : Int) (h : Rob w F b L) (hk : (Lit.int .i64 k).wf = true) (hroom : L.length ≤ 17592186044416) :
    Calls Try.prog 11 #[.pointer (some ⟨b, 0, none⟩), .int .i64 k] w fun e w' => e = .returned (.bool (decide (k ∈ L))) ∧ Rob w' (Wide F w w') b (L.erase k) ∧ Mod F w w' := by
  cases hd : decide (k ∈ L) with
  | false =>
    refine (remove_not w F b L k h hk hd).mono ?_
    rintro e w' ⟨rfl, rfl⟩
    rw [List.erase_of_not_mem (by simpa using hd)]
    exact ⟨rfl, h.wide, Mod.refl _ _⟩
  | true => exact remove_old w F b L k h hk hd hroom

theorem new_any (w : World) :
    Calls Try.prog 8 #[] w fun e w' => ∃ b, e = .returned (.pointer (some ⟨b, 0, none⟩)) ∧ Rob w' (Wide (fun _ => False) w w') b [] ∧ Below w.heap.size w w' := by
  have hmm := @run_makeMap Try.prog
  go_enter Try.func8, Try.ntmps8
  go_wp2
  go_ret
  refine ⟨_, rfl, ⟨.inr ⟨by simp, by simp⟩, Wide.lt (fun _ h => h.elim) (by simp; omega), List.nodup_nil, fun k hk => (by cases hk), .slice none 0 0, w.heap.size, ?_, .inr ⟨Nat.le_refl _, by simp; omega⟩, Row.nil _ _ _ _, ?_⟩,
    ((Below.refl _ _).alloc (Nat.le_refl _) _).alloc (by simp) _⟩
  · have := heap_alloc_new (w.alloc (.map #[] 0)) (.cells #[.slice none 0 0, .map (some w.heap.size)] 51)
    simpa using this
  · exact ((Mp.made w Try.prog 3).block (Below.heap_alloc _ _ _ (by simp))).ext (fun l => by unfold there; rw [if_neg]; rintro ⟨k, hk, _⟩; cases hk)

set_option maxHeartbeats 400000 in
theorem clear_any (w : World) (F : Nat → Prop) (b : Nat) (L : List Int) (h : Rob w F b L) :
    Calls Try.prog 18 #[.pointer (some ⟨b, 0, none⟩)] w fun e w' => e = .returned (.int .i64 L.length) ∧ Rob w' (Wide F w w') b [] ∧ Mod F w w' := by
  have HH := hide h
  obtain ⟨hFb, hlt, hnd, hwf, ov, m, hb, hFm, hrow, hmp⟩ := h
  cases L with
  | nil =>
    clear hb hrow hmp hwf hnd hlt
    go_enter Try.func18, Try.ntmps18
    go_wp2_with (go_at_call 10; refine (len_any _ F b [] HH.out).mono ?_; rintro e w' ⟨rfl, rfl⟩)
    go_ret
    exact ⟨rfl, HH.out.wide, Mod.refl _ _⟩
  | cons x r =>
    have c0 : w.cell? ⟨b, 0, none⟩ = some ov := by rw [cell_of_row w b 0 _ _ _ hb]; rfl
    have c1 : w.cell? ⟨b, 1, none⟩ = some (.map (some m)) := by rw [cell_of_row w b 1 _ _ _ hb]; rfl
    have f0 := frozen_of_row w b 0 _ _ hb
    have HB := hide hb
    have HBM := hide (map_ne hb hmp)
    have HMP := hide (hmp.block (w' := w.setCell ⟨b, 0, none⟩ (.slice none 0 0)) (Below.heap_setCell _ _ _ _ (map_ne hb hmp).symm))
    have HLT := hide hlt
    clear hb hrow hmp hwf hnd hlt
    go_enter Try.func18, Try.ntmps18
    go_wp2_with (first
      | (go_at_call 10; refine (len_any _ F b (x :: r) HH.out).mono ?_; rintro e w' ⟨rfl, rfl⟩)
      | ((with_reducible refine at_builtin' rfl ?_); refine wpList_clear_mp rfl _ 49 rfl Try.underlying49 rfl HMP.out ?_; intro w2 hmp2 hg2; have HMP2 := hide hmp2; have HG2 := hide hg2; clear hmp2 hg2))
    go_ret
    have hmod : Mod F w w2 := ((Mod.refl F w).setCell (p := ⟨b, 0, none⟩) (fun _ => hFb) _).grown HG2.out (fun _ => hFm)
    refine ⟨by simp, ⟨.inl hFb, Wide.lt HLT.out hmod.size, List.nodup_nil, fun k hk => (by cases hk), .slice none 0 0, m, grown_heap HG2.out (heap_setCell_same w b 0 _ 51 _ HB.out) (by intro e; injection e with e; exact HBM.out e), .inl hFm, Row.nil _ _ _ _, ?_⟩, hmod⟩
    exact HMP2.out.ext (fun l => by unfold there; rw [if_neg]; rintro ⟨k, hk, _⟩; cases hk)

/-! ### A nil one -/
theorem has_none (w : World) (k : Int) : Calls Try.prog 17 #[.pointer none, .int .i64 k] w fun e w' => e = .returned (.bool false) ∧ w = w' := by
  go_enter Try.func17, Try.ntmps17
  go_wp2
  go_ret
  exact ⟨rfl, rfl⟩
theorem len_none (w : World) : Calls Try.prog 10 #[.pointer none] w fun e w' => e = .returned (.int .i64 0) ∧ w = w' := by
  go_enter Try.func10, Try.ntmps10
  go_wp2
  go_ret
  exact ⟨rfl, rfl⟩
theorem add_none (w : World) (k : Int) : Calls Try.prog 9 #[.pointer none, .int .i64 k] w fun e w' => e = .returned (.bool false) ∧ w = w' := by
  go_enter Try.func9, Try.ntmps9
  go_wp2
  go_ret
  exact ⟨rfl, rfl⟩
theorem remove_none (w : World) (k : Int) : Calls Try.prog 11 #[.pointer none, .int .i64 k] w fun e w' => e = .returned (.bool false) ∧ w = w' := by
  go_enter Try.func11, Try.ntmps11
  go_wp2_with (go_at_call 17; refine (has_none _ k).mono ?_; rintro e w' ⟨rfl, rfl⟩)
  go_ret
  exact ⟨rfl, rfl⟩
theorem next_none (w : World) : Calls Try.prog 12 #[.pointer none] w fun e w' => e = .returned (.tuple #[.int .i64 0, .bool false]) ∧ w = w' := by
  go_enter Try.func12, Try.ntmps12
  go_wp2_with (go_at_call 10; refine (len_none _).mono ?_; rintro e w' ⟨rfl, rfl⟩)
  go_ret2
  exact ⟨rfl, rfl⟩
theorem list_none (w : World) : Calls Try.prog 16 #[.pointer none] w fun e w' => e = .returned (.slice none 0 0) ∧ w = w' := by
  go_enter Try.func16, Try.ntmps16
  go_wp2
  go_ret
  exact ⟨rfl, rfl⟩
theorem clear_none (w : World) : Calls Try.prog 18 #[.pointer none] w fun e w' => e = .returned (.int .i64 0) ∧ w = w' := by
  go_enter Try.func18, Try.ntmps18
  go_wp2_with (go_at_call 10; refine (len_none _).mono ?_; rintro e w' ⟨rfl, rfl⟩)
  go_ret
  exact ⟨rfl, rfl⟩
end Go.Proofs.Ytjajnejijaoblaa
