import Derived.Test.YtccojgaahoonhaaDoorFifU
import Derived.Test.YtccojgaahoonhaaDoorPgPure
import Derived.DeepKeys4
import Derived.DataShut
import Derived.Deep.RegionHeld3
/- The pings: what their memory holds; the contracts of their methods but Waiting. -/
namespace Go.Proofs.YtccojgaahoonhaaDoor
open Go Go.RowKit Go.Cu Go.Proofs.YtccojgaahoonhaaDoor.errs
open Go.Maps (Keyed)

theorem law_u32 : Keyed Tryd.prog 30 := Maps.int_keyed Tryd.underlying30
abbrev ptr (c : Nat) : Value := .pointer (some ⟨c, 0, none⟩)
theorem info_u : (Tryd.prog.info? 30).map (fun i => (i.zero, i.size, i.bytes)) = some (some (.int .u32 0), 1, 4) := by kernel_rfl
theorem key_u {t : Int} (h : (Lit.int .u32 t).wf = true) : keyOf Tryd.prog 30 (.int .u32 t) = some (.int .u32 t) := Maps.keyOf_int_mk Tryd.underlying30 h
theorem zero_int (w : World) : (zeroValue 3).run Tryd.prog w = .ok (.int .i64 0) w := by kernel_rfl
def ones (O : List Int) : List (Int × Int) := O.map fun x => (x, 1)
theorem ones_length (O : List Int) : (ones O).length = O.length := by simp [ones]
theorem ones_append (O : List Int) (x : Int) : ones O ++ [(x, 1)] = ones (O ++ [x]) := by simp [ones]
theorem wsum_ones (O : List Int) : FU.wsum (ones O) = O.length := by
  induction O with
  | nil => simp [ones, FU.wsum]
  | cons x r ih => rw [show ones (x :: r) = (x, 1) :: ones r from rfl, FU.wsum_cons, ih]; simp; omega

/-- Block c holds pings: most so many, n asked, W wait, T are to be told, O are owed. -/
structure PG (w : World) (c m q : Nat) (FT FO : Nat → Prop) (most n : Nat) (W T O : List Int) : Prop where
  cells : ∃ A d, w.heap[c]? = some (.cells #[.int .i64 most, .int .u32 n, .map (some m), .int .i64 n, .slice A T.length d, ptr q] 56 (0, 0)) ∧ Row w FT 30 1 (.slice A T.length d) T.length (us T)
  mp : Mp w Tryd.prog 30 m (mf W) W.length
  ff : FU.Fifo w FO q most most (ones O)
  lt : ∀ k, FT k → k < w.heap.size
  tO : ∀ k, FT k → ¬ FO k
  cT : ¬ FT c
  cO : ¬ FO c
  mT : ¬ FT m
  mO : ¬ FO m
  inc : Inc W n
  room : W.length ≤ most
  m1 : 1 ≤ most
  m2 : most ≤ 1024
  nn : n ≤ 2097152
/-- all of their memory -/
def PF (c m : Nat) (FT FO : Nat → Prop) (k : Nat) : Prop := k = c ∨ k = m ∨ FT k ∨ FO k
section
variable {w w' : World} {c m q : Nat} {FT FO G : Nat → Prop} {most n : Nat} {W T O : List Int}
theorem PG.block (h : PG w c m q FT FO most n W T O) : c < w.heap.size := by
  obtain ⟨A, d, hc, _⟩ := h.cells
  exact (Array.getElem?_eq_some_iff.1 hc).1
theorem PG.low (h : PG w c m q FT FO most n W T O) : ∀ k, PF c m FT FO k → k < w.heap.size := by
  rintro k (rfl | rfl | hk | hk)
  · exact h.block
  · exact h.mp.lt
  · exact h.lt k hk
  · exact h.ff.lt k hk
theorem PG.kept (h : PG w c m q FT FO most n W T O) (hm : Mod G w w') (hn : ∀ k, PF c m FT FO k → ¬ G k) : PG w' c m q FT FO most n W T O := by
  obtain ⟨A, d, hc, hr⟩ := h.cells
  have hs := hm.size
  have hlt := h.mp.lt
  refine ⟨⟨A, d, hm.heap hc (hn c (.inl rfl)), hr.kept hm (fun k hk _ => hn k (.inr (.inr (.inl hk))))⟩, h.mp.block (hm.block m hlt (hn m (.inr (.inl rfl)))), h.ff.kept hm (fun k hk => hn k (.inr (.inr (.inr hk)))), fun k hk => Nat.lt_of_lt_of_le (h.lt k hk) hs, h.tO, h.cT, h.cO, h.mT, h.mO, h.inc, h.room, h.m1, h.m2, h.nn⟩
theorem PG.past (h : PG w c m q FT FO most n W T O) (hb : Below w.heap.size w w') : PG w' c m q FT FO most n W T O := h.kept (Mod.ofBelow hb (fun _ => False)) (fun _ _ h => h)
theorem PG.cm (h : PG w c m q FT FO most n W T O) : c ≠ m := by
  obtain ⟨A, d, hc, _⟩ := h.cells
  exact map_ne hc h.mp
end

theorem new_bad (w : World) (most : Int) (hn : most < 1 ∨ 1024 < most) (v : Value) (hE : w.cell? ⟨0, 0, none⟩ = some v) : Calls Tryd.prog 8 #[.int .i64 most] w fun e w' => e = .returned (.tuple #[.pointer none, v]) ∧ Below w.heap.size w w' := by
  have hcs : most < 1 ∨ (¬ most < 1 ∧ 1024 < most) := by omega
  clear hn
  rcases hcs with h1 | ⟨h1, h2⟩
  all_goals
    go_enter Tryd.func8, Tryd.ntmps8
    go_wp2
    go_quiet (fail)
    go_wp2
    go_ret2
    exact ⟨rfl, ((Mod.refl (fun _ => False) w).drewN _).below (Nat.le_refl _) (fun _ h => h.elim)⟩
theorem new_ok (w : World) (most : Nat) (h1 : 1 ≤ most) (h2 : most ≤ 1024) : Calls Tryd.prog 8 #[.int .i64 most] w fun e w' => ∃ c m q FT FO, e = .returned (.tuple #[ptr c, .nilIface]) ∧ PG w' c m q FT FO most 0 [] [] [] ∧ (∀ k, PF c m FT FO k → w.heap.size ≤ k) ∧ Below w.heap.size w w' := by
  have hmm := @run_makeMap Tryd.prog
  have hi1 : ¬ ((most : Int) < 1) := by omega
  have hi2 : ¬ ((1024 : Int) < (most : Int)) := by omega
  go_enter Tryd.func8, Tryd.ntmps8
  go_wp2_with fail
  refine (FU.new_any w most most (by omega) (by omega) (by omega)).mono ?_
  rintro e w1 ⟨q, rfl, hf, hb1⟩
  have HF := hide hf
  have HB1 := hide hb1
  clear hf hb1
  go_wp2
  go_ret2
  have hs1 := HB1.out.size
  have hal : Below w1.heap.size w1 (w1.alloc (.map #[] 0)) := (Below.refl _ _).alloc (Nat.le_refl _) _
  have hb2 : Below w1.heap.size w1 ((w1.alloc (.map #[] 0)).alloc (.cells #[.int .i64 most, .int .u32 0, .map (some w1.heap.size), .int .i64 0, .slice none 0 0, ptr q] 56)) := hal.alloc hal.size _
  refine ⟨w1.heap.size + 1, w1.heap.size, q, fun _ => False, _, rfl, ⟨⟨none, 0, ?_, Row.nil _ _ _ _⟩, ?_, HF.out.below hb2, fun _ h => h.elim, fun _ h => h.elim, fun h => h.elim, fun h => by have := h.2; omega, fun h => h.elim, fun h => by have := h.2; omega, Inc.nil _, Nat.zero_le _, h1, h2, by omega⟩, ?_, HB1.out.trans (hb2.mono hs1)⟩
  · have := heap_alloc_new (w1.alloc (.map #[] 0)) (.cells #[.int .i64 most, .int .u32 0, .map (some w1.heap.size), .int .i64 0, .slice none 0 0, ptr q] 56)
    rw [World.size_alloc] at this
    exact this
  · exact ((Mp.made w1 Tryd.prog 30).ext (fun l => mf_nil l)).block (Below.heap_alloc _ _ _ (by simp))
  · rintro k (rfl | rfl | hk | hk)
    · omega
    · omega
    · exact hk.elim
    · exact hk.1
section
variable {c m q : Nat} {FT FO : Nat → Prop} {most n : Nat} {W T O : List Int}
theorem owed_any (w : World) (h : PG w c m q FT FO most n W T O) : Calls Tryd.prog 17 #[ptr c] w fun e w' => e = .returned (.int .i64 O.length) ∧ w = w' := by
  obtain ⟨A, d, hc, _⟩ := h.cells
  have c5 : w.cell? ⟨c, 5, none⟩ = some (ptr q) := by rw [cell_of_row w c 5 _ _ _ hc]; rfl
  have HF := hide h.ff
  clear h hc
  go_enter Tryd.func17, Tryd.ntmps17
  go_wp2_with fail
  refine (FU.len_any w FO q most most (ones O) HF.out).mono ?_
  rintro e w1 ⟨rfl, rfl⟩
  rw [ones_length]
  go_wp2
  go_ret
  exact ⟨rfl, rfl⟩
theorem answered_any (w : World) (h : PG w c m q FT FO most n W T O) : Calls Tryd.prog 11 #[ptr c] w fun e w' => ∃ A d, e = .returned (.slice A T.length d) ∧ Row w' FT 30 1 (.slice A T.length d) T.length (us T) ∧ PG w' c m q (fun _ => False) FO most n W [] O ∧ Mod (fun k => k = c) w w' := by
  obtain ⟨A, d, hc, hr⟩ := h.cells
  have c4 : w.cell? ⟨c, 4, none⟩ = some (.slice A T.length d) := by rw [cell_of_row w c 4 _ _ _ hc]; rfl
  have f4 := frozen_of_row w c 4 _ _ hc
  have HH := hide h
  have HC := hide hc
  have HR := hide hr
  clear h hc hr
  go_enter Tryd.func11, Tryd.ntmps11
  go_wp2
  go_ret
  have hm := (Mod.refl (fun k => k = c) w).setCell (p := ⟨c, 4, none⟩) (fun _ => rfl) (.slice none 0 0)
  have hn := HH.out.cm
  refine ⟨A, d, rfl, HR.out.kept hm (fun k hk _ e => HH.out.cT (e ▸ hk)), ⟨⟨none, 0, heap_setCell_same _ c 4 _ 56 _ HC.out, Row.nil _ _ _ _⟩, HH.out.mp.block (hm.block m HH.out.mp.lt (fun e => hn e.symm)), HH.out.ff.kept hm (fun k hk e => HH.out.cO (e ▸ hk)), fun _ h => h.elim, fun _ h => h.elim, fun h => h.elim, HH.out.cO, fun h => h.elim, HH.out.mO, HH.out.inc, HH.out.room, HH.out.m1, HH.out.m2, HH.out.nn⟩, hm⟩
theorem replied_none (w : World) (h : PG w c m q FT FO most n W T []) : Calls Tryd.prog 18 #[ptr c] w fun e w' => e = .returned (.tuple #[.int .u32 0, .bool false]) ∧ w = w' := by
  obtain ⟨A, d, hc, _⟩ := h.cells
  have c5 : w.cell? ⟨c, 5, none⟩ = some (ptr q) := by rw [cell_of_row w c 5 _ _ _ hc]; rfl
  have HF := hide h.ff
  clear h hc
  go_enter Tryd.func18, Tryd.ntmps18
  go_wp2_with fail
  refine (FU.get_none w FO q most most HF.out).mono ?_
  rintro e w1 ⟨rfl, rfl⟩
  go_wp2
  go_ret2
  exact ⟨rfl, rfl⟩
theorem replied_some (w : World) (x : Int) (h : PG w c m q FT FO most n W T (x :: O)) : Calls Tryd.prog 18 #[ptr c] w fun e w' => e = .returned (.tuple #[.int .u32 x, .bool true]) ∧ PG w' c m q FT FO most n W T O ∧ Mod FO w w' := by
  obtain ⟨A, d, hc, hr⟩ := h.cells
  have c5 : w.cell? ⟨c, 5, none⟩ = some (ptr q) := by rw [cell_of_row w c 5 _ _ _ hc]; rfl
  have HF := hide h.ff
  have HH := hide h
  have HC := hide hc
  have HR := hide hr
  clear h hc hr
  go_enter Tryd.func18, Tryd.ntmps18
  go_wp2_with fail
  refine (FU.get_some w FO q most most (x, 1) (ones O) HF.out).mono ?_
  rintro e w1 ⟨rfl, hf, hm⟩
  have HF1 := hide hf
  have HM1 := hide hm
  clear hf hm
  go_wp2
  go_ret2
  exact ⟨rfl, ⟨⟨A, d, HM1.out.heap HC.out HH.out.cO, HR.out.kept HM1.out (fun k hk _ => HH.out.tO k hk)⟩, HH.out.mp.block (HM1.out.block m HH.out.mp.lt HH.out.mO), HF1.out, fun k hk => Nat.lt_of_lt_of_le (HH.out.lt k hk) HM1.out.size, HH.out.tO, HH.out.cT, HH.out.cO, HH.out.mT, HH.out.mO, HH.out.inc, HH.out.room, HH.out.m1, HH.out.m2, HH.out.nn⟩, HM1.out⟩
theorem dn_below (w : World) (j : Nat) : Below w.heap.size w (w.drewN j) := ((Mod.refl (fun _ => False) w).drewN j).below (Nat.le_refl _) (fun _ h => h.elim)
theorem len_q (w : World) (h : PG w c m q FT FO most n W T O) (j : Nat) : Calls Tryd.prog 31 #[ptr q] (w.drewN j) fun e w' => e = .returned (.int .i64 O.length) ∧ w' = w.drewN j :=
  (FU.len_any (w.drewN j) FO q most most (ones O) (h.ff.below (dn_below w j))).mono (fun _ _ ⟨he, hw⟩ => ⟨he.trans (by rw [ones_length]), hw.symm⟩)
theorem asked_full (w : World) (h : PG w c m q FT FO most n W T O) (hl : most ≤ O.length) (t : Int) (ev : Value) (hE : w.cell? ⟨4, 0, none⟩ = some ev) : Calls Tryd.prog 19 #[ptr c, .int .u32 t] w fun e w' => e = .returned ev ∧ Below w.heap.size w w' := by
  obtain ⟨A, d, hc, _⟩ := h.cells
  have c5 : w.cell? ⟨c, 5, none⟩ = some (ptr q) := by rw [cell_of_row w c 5 _ _ _ hc]; rfl
  have c0 : w.cell? ⟨c, 0, none⟩ = some (.int .i64 most) := by rw [cell_of_row w c 0 _ _ _ hc]; rfl
  have HC : ∀ j, Hid (Calls Tryd.prog 31 #[ptr q] (w.drewN j) fun e w' => e = .returned (.int .i64 O.length) ∧ w' = w.drewN j) := fun j => hide (len_q w h j)
  have hg : decide (most ≤ O.length) = true := by simpa using hl
  clear h hc hl
  go_enter Tryd.func19, Tryd.ntmps19
  go_wp2_with fail
  go_quiet ((go_at_call 31; exact Calls.quiet_of_same (HC _).out))
  go_wp2
  go_ret
  exact ⟨rfl, dn_below w _⟩
theorem asked_ok (w : World) (h : PG w c m q FT FO most n W T O) (hl : O.length < most) (t : Int) : Calls Tryd.prog 19 #[ptr c, .int .u32 t] w fun e w' => e = .returned .nilIface ∧ PG w' c m q FT (Wide FO w w') most n W T (O ++ [t]) ∧ Mod FO w w' := by
  obtain ⟨A, d, hc, hr⟩ := h.cells
  have c5 : w.cell? ⟨c, 5, none⟩ = some (ptr q) := by rw [cell_of_row w c 5 _ _ _ hc]; rfl
  have c0 : w.cell? ⟨c, 0, none⟩ = some (.int .i64 most) := by rw [cell_of_row w c 0 _ _ _ hc]; rfl
  have HC : ∀ j, Hid (Calls Tryd.prog 31 #[ptr q] (w.drewN j) fun e w' => e = .returned (.int .i64 O.length) ∧ w' = w.drewN j) := fun j => hide (len_q w h j)
  have hg : decide (most ≤ O.length) = false := by simpa using hl
  have HH := hide h
  have HCl := hide hc
  have HR := hide hr
  have HL := hide hl
  clear h hc hr hl
  go_enter Tryd.func19, Tryd.ntmps19
  go_wp2_with fail
  go_quiet ((go_at_call 31; exact Calls.quiet_of_same (HC _).out))
  go_wp2_with fail
  have hw := wsum_ones O
  have hm2 := HH.out.m2
  have hl := HL.out
  refine (FU.put_ok (w.drewN _) FO q most most (ones O) (HH.out.ff.below (dn_below w _)) t 1 (by omega) (by rw [ones_length]; omega) (by rw [hw]; omega) (by rw [ones_length]; omega)).mono ?_
  rintro e w1 ⟨rfl, hf, hm⟩
  rw [ones_append] at hf
  have HF1 := hide hf
  have HM1 := hide (((Mod.refl FO w).drewN nq).trans hm (fun _ _ h => h))
  clear hf hm hw hm2 hl
  go_wp2
  go_ret
  have hs := HM1.out.size
  refine ⟨rfl, ⟨⟨A, d, HM1.out.heap HCl.out HH.out.cO, HR.out.kept HM1.out (fun k hk _ => HH.out.tO k hk)⟩, HH.out.mp.block (HM1.out.block m HH.out.mp.lt HH.out.mO), HF1.out, fun k hk => Nat.lt_of_lt_of_le (HH.out.lt k hk) hs, fun k hk hf => hf.elim (HH.out.tO k hk) (fun h => by have := HH.out.lt k hk; have := h.1; omega), HH.out.cT, fun hf => hf.elim HH.out.cO (fun h => by have := HH.out.block; have := h.1; omega), HH.out.mT, fun hf => hf.elim HH.out.mO (fun h => by have := HH.out.mp.lt; have := h.1; omega), HH.out.inc, HH.out.room, HH.out.m1, HH.out.m2, HH.out.nn⟩, HM1.out⟩
theorem heard_bad (w : World) (h : PG w c m q FT FO most n W T O) (t : Int) (ht : (Lit.int .u32 t).wf = true) (hn : t ∉ W) (ev : Value) (hE : w.cell? ⟨3, 0, none⟩ = some ev) : Calls Tryd.prog 10 #[ptr c, .int .u32 t] w fun e w' => e = .returned ev ∧ w = w' := by
  obtain ⟨A, d, hc, _⟩ := h.cells
  have c2 : w.cell? ⟨c, 2, none⟩ = some (.map (some m)) := by rw [cell_of_row w c 2 _ _ _ hc]; rfl
  have hl := h.mp.lookOk (t := 54) law_u32 Tryd.underlying54 (zero_int w) (key_u ht)
  rw [mf_at, if_neg hn] at hl
  clear h hc ht hn
  go_enter Tryd.func10, Tryd.ntmps10
  go_wp2
  go_ret
  exact ⟨rfl, rfl⟩
theorem wf_u {t : Int} (h0 : 0 ≤ t) (h1 : t ≤ 4294967295) : (Lit.int .u32 t).wf = true := (Lit.wf_int_iff .u32 t).2 ⟨h0, h1⟩
theorem ask_full (w : World) (h : PG w c m q FT FO most n W T O) (hl : most ≤ W.length) (ev : Value) (hE : w.cell? ⟨2, 0, none⟩ = some ev) : Calls Tryd.prog 9 #[ptr c] w fun e w' => e = .returned (.tuple #[.int .u32 0, ev]) ∧ Below w.heap.size w w' := by
  obtain ⟨A, d, hc, _⟩ := h.cells
  have c2 : w.cell? ⟨c, 2, none⟩ = some (.map (some m)) := by rw [cell_of_row w c 2 _ _ _ hc]; rfl
  have c0 : w.cell? ⟨c, 0, none⟩ = some (.int .i64 most) := by rw [cell_of_row w c 0 _ _ _ hc]; rfl
  have hlen : ∀ j ty, (Builtin.len_ #[54] ty #[.map (some m)]).run Tryd.prog (w.drewN j) = .ok (.int .i64 W.length) (w.drewN j) := fun j ty => (h.mp.block (w' := w.drewN j) rfl).len Tryd.underlying54 ty
  have hlen0 : ∀ ty, (Builtin.len_ #[54] ty #[.map (some m)]).run Tryd.prog w.drew = .ok (.int .i64 W.length) w.drew := fun ty => (h.mp.block (w' := w.drew) rfl).len Tryd.underlying54 ty
  have hg : decide (most ≤ W.length) = true := by simpa using hl
  clear h hc hl
  go_enter Tryd.func9, Tryd.ntmps9
  go_wp2_with fail
  go_quiet (fail)
  go_wp2
  go_quiet (fail)
  go_wp2
  go_ret2
  exact ⟨rfl, by rw [World.drewN_drewN]; exact dn_below w _⟩
set_option maxRecDepth 10000 in
set_option maxHeartbeats 1000000 in
theorem ask_ok (w : World) (h : PG w c m q FT FO most n W T O) (hl : W.length < most) (hn : n < 2097152) : Calls Tryd.prog 9 #[ptr c] w fun e w' => e = .returned (.tuple #[.int .u32 ((n + 1 : Nat) : Int), .nilIface]) ∧ PG w' c m q FT FO most (n + 1) (W ++ [((n + 1 : Nat) : Int)]) T O ∧ Mod (PF c m FT FO) w w' := by
  obtain ⟨A, d, hc, hr⟩ := h.cells
  have c2 : w.cell? ⟨c, 2, none⟩ = some (.map (some m)) := by rw [cell_of_row w c 2 _ _ _ hc]; rfl
  have c0 : w.cell? ⟨c, 0, none⟩ = some (.int .i64 most) := by rw [cell_of_row w c 0 _ _ _ hc]; rfl
  have hlen : ∀ j ty, (Builtin.len_ #[54] ty #[.map (some m)]).run Tryd.prog (w.drewN j) = .ok (.int .i64 W.length) (w.drewN j) := fun j ty => (h.mp.block (w' := w.drewN j) rfl).len Tryd.underlying54 ty
  have hlen0 : ∀ ty, (Builtin.len_ #[54] ty #[.map (some m)]).run Tryd.prog w.drew = .ok (.int .i64 W.length) w.drew := fun ty => (h.mp.block (w' := w.drew) rfl).len Tryd.underlying54 ty
  have hg : decide (most ≤ W.length) = false := by simpa using hl
  have HH := hide h
  have HC := hide hc
  have HR := hide hr
  have HL := hide hl
  clear h hc hr hl
  go_enter Tryd.func9, Tryd.ntmps9
  go_wp2_with fail
  go_quiet (fail)
  obtain ⟨w1, hw1⟩ : ∃ w1, w.drewN nq = w1 := ⟨_, rfl⟩
  have hb1 : Mod (PF c m FT FO) w w1 := by rw [← hw1]; exact (Mod.refl _ w).drewN nq
  have hc1 : w1.heap[c]? = some (.cells #[.int .i64 most, .int .u32 n, .map (some m), .int .i64 n, .slice A T.length d, ptr q] 56 (0, 0)) := by rw [← hw1]; exact HC.out
  have HMp1 : Hid (Mp w1 Tryd.prog 30 m (mf W) W.length) := hide (by rw [← hw1]; exact HH.out.mp.block rfl)
  have HR1 : Hid (Row w1 FT 30 1 (.slice A T.length d) T.length (us T)) := hide (by rw [← hw1]; exact HR.out.drewN _)
  have HF1 : Hid (FU.Fifo w1 FO q most most (ones O)) := hide (by rw [← hw1]; exact HH.out.ff.below (dn_below w _))
  rw [hw1]
  clear hw1 c0 c2 hlen hlen0 hg
  have d1 : w1.cell? ⟨c, 1, none⟩ = some (.int .u32 n) := by rw [cell_of_row w1 c 1 _ _ _ hc1]; rfl
  have d2 : w1.cell? ⟨c, 2, none⟩ = some (.map (some m)) := by rw [cell_of_row w1 c 2 _ _ _ hc1]; rfl
  have d3 : w1.cell? ⟨c, 3, none⟩ = some (.int .i64 n) := by rw [cell_of_row w1 c 3 _ _ _ hc1]; rfl
  have f1 := frozen_of_row w1 c 1 _ _ hc1
  have f3 := frozen_of_row w1 c 3 _ _ hc1
  have hu : IntKind.u32.wrap ((n : Int) + 1) = (n : Int) + 1 := by simp [IntKind.wrap, IntKind.signed, IntKind.bits]; omega
  have HC1 := hide hc1
  clear hc1
  go_wp2_with fail
  have b2 := heap_setCell_same _ c 1 _ 56 (.int .u32 ((n : Int) + 1)) HC1.out
  have b3 := heap_setCell_same _ c 3 _ 56 (.int .i64 ((n : Int) + 1)) b2
  have hmc : Mod (fun k => k = c) w1 ((w1.setCell ⟨c, 1, none⟩ (.int .u32 ((n : Int) + 1))).setCell ⟨c, 3, none⟩ (.int .i64 ((n : Int) + 1))) := ((Mod.refl (fun k => k = c) w1).setCell (p := ⟨c, 1, none⟩) (fun _ => rfl) _).setCell (p := ⟨c, 3, none⟩) (fun _ => rfl) _
  obtain ⟨w2, hw2⟩ : ∃ w2, (w1.setCell ⟨c, 1, none⟩ (.int .u32 ((n : Int) + 1))).setCell ⟨c, 3, none⟩ (.int .i64 ((n : Int) + 1)) = w2 := ⟨_, rfl⟩
  rw [hw2] at b3 hmc
  rw [hw2]
  have hc3 : w2.heap[c]? = some (.cells #[.int .i64 most, .int .u32 ((n : Int) + 1), .map (some m), .int .i64 ((n : Int) + 1), .slice A T.length d, ptr q] 56 (0, 0)) := b3
  have hcm := HH.out.cm
  have HMp2 := hide (HMp1.out.block (hmc.block m HMp1.out.lt (fun e => hcm e.symm)))
  have HR2 := hide (HR1.out.kept hmc (fun k hk _ e => HH.out.cT (e ▸ hk)))
  have HF2 := hide (HF1.out.kept hmc (fun k hk e => HH.out.cO (e ▸ hk)))
  have HM2 := hide (hb1.trans hmc (fun k _ e => .inl e))
  have HC3 := hide hc3
  have e1 : w2.cell? ⟨c, 1, none⟩ = some (.int .u32 ((n : Int) + 1)) := by rw [cell_of_row w2 c 1 _ _ _ hc3]; rfl
  have e2 : w2.cell? ⟨c, 2, none⟩ = some (.map (some m)) := by rw [cell_of_row w2 c 2 _ _ _ hc3]; rfl
  have e3 : w2.cell? ⟨c, 3, none⟩ = some (.int .i64 ((n : Int) + 1)) := by rw [cell_of_row w2 c 3 _ _ _ hc3]; rfl
  have HWf : Hid ((Lit.int .u32 ((n : Int) + 1)).wf = true) := hide (wf_u (by omega) (by omega))
  clear b2 b3 hmc hw2 hc3 d1 d2 d3 f1 f3 hu hb1 HC1 HMp1 HR1 HF1 hcm
  go_still_tail 12, (by kernel_rfl)
  change wpList _ _ _ _ _ w2.drew
  refine wpList_store_mp rfl _ _ _ 54 rfl law_u32 Tryd.underlying54 rfl (show Mp w2.drew Tryd.prog 30 m (mf W) W.length from HMp2.out) (by have := HH.out.room; have := HH.out.m2; unfold maxLen; omega) (key := .int .u32 ((n : Int) + 1)) (val := .int .i64 ((n : Int) + 1)) rfl rfl (key_u HWf.out) ?_
  intro w3 hmp3 hg3
  have hg3 : w2.grownBy w3 (some m) := ⟨hg3.os, hg3.tape, hg3.output, hg3.size, hg3.block⟩
  have hnew : ((n + 1 : Nat) : Int) ∉ W := fun hm => by have := (HH.out.inc.bd _ hm).2; omega
  have hcast : ((n + 1 : Nat) : Int) = (n : Int) + 1 := rfl
  rw [hcast] at hnew
  rw [mf_at, if_neg hnew] at hmp3
  have hc4 := grown_heap hg3 HC3.out (fun e => HH.out.cm (Option.some.inj e))
  have hm3 : Mod (PF c m FT FO) w w3 := HM2.out.grown hg3 (fun _ => .inr (.inl rfl))
  have hmm : Mod (fun k => k = m) w2 w3 := (Mod.refl _ w2).grown hg3 (fun _ => rfl)
  have hr3 := HR2.out.kept hmm (fun k hk _ e => HH.out.mT (e ▸ hk))
  have hf3 := HF2.out.kept hmm (fun k hk e => HH.out.mO (e ▸ hk))
  have hs3 := hm3.size
  have hmp4 : Mp w3 Tryd.prog 30 m (mf (W ++ [(n : Int) + 1])) (W ++ [(n : Int) + 1]).length := by
    rw [List.length_append]
    exact (Mp.ext hmp3 (fun l => mf_ask l))
  have HE : Hid (PG w3 c m q FT FO most (n + 1) (W ++ [((n + 1 : Nat) : Int)]) T O) := hide
    ⟨⟨A, d, hc4, hr3⟩, hmp4, hf3, fun k hk => Nat.lt_of_lt_of_le (HH.out.lt k hk) hs3, HH.out.tO, HH.out.cT, HH.out.cO, HH.out.mT, HH.out.mO, HH.out.inc.ask, by rw [List.length_append]; exact HL.out, HH.out.m1, HH.out.m2, by omega⟩
  have HM3 := hide hm3
  have k1 : w3.cell? ⟨c, 1, none⟩ = some (.int .u32 ((n : Int) + 1)) := by rw [cell_of_row w3 c 1 _ _ _ hc4]; rfl
  clear hmp3 hg3 hnew hcast hc4 hm3 hmm hr3 hf3 hs3 hmp4 e1 e2 e3
  go_wp2
  go_ret2
  exact ⟨rfl, HE.out, HM3.out⟩
set_option maxRecDepth 10000 in
set_option maxHeartbeats 1000000 in
theorem heard_ok (w : World) (h : PG w c m q FT FO most n W T O) (t : Int) (ht : t ∈ W) (hT : T.length ≤ 4194304) : Calls Tryd.prog 10 #[ptr c, .int .u32 t] w fun e w' => e = .returned .nilIface ∧ ∃ FT', PG w' c m q FT' FO most n (W.erase t) (T ++ [t]) O ∧ Mod (PF c m FT FO) w w' ∧ ∀ k, FT' k → FT k ∨ w.heap.size ≤ k := by
  obtain ⟨A, d, hc, hr⟩ := h.cells
  obtain ⟨i0, hi0, hz0, hz1, hz2⟩ := info_parts info_u
  have c2 : w.cell? ⟨c, 2, none⟩ = some (.map (some m)) := by rw [cell_of_row w c 2 _ _ _ hc]; rfl
  have hb := h.inc.bd t ht
  have hnn := h.nn
  have hwf : (Lit.int .u32 t).wf = true := wf_u (by omega) (by omega)
  have hl := h.mp.lookOk (t := 54) law_u32 Tryd.underlying54 (zero_int w) (key_u hwf)
  rw [mf_at, if_pos ht] at hl
  have HH := hide h
  have HC := hide hc
  have HR := hide hr
  have HWf := hide hwf
  have HMp := hide h.mp
  have HT := hide ht
  clear h hc hr hb hnn hwf ht
  go_enter Tryd.func10, Tryd.ntmps10
  go_wp2_with (first
    | ((with_reducible refine at_builtin' rfl ?_); refine wpList_drop_mp rfl _ _ 54 30 rfl law_u32 Tryd.underlying54 rfl HMp.out rfl (key_u HWf.out) ?_; intro w1 hmp1 hg1
       have hc1 := grown_heap hg1 HC.out (fun e => HH.out.cm (Option.some.inj e))
       have d4 : w1.cell? ⟨c, 4, none⟩ = some (.slice A T.length d) := by rw [cell_of_row w1 c 4 _ _ _ hc1]; rfl
       have hmm : Mod (fun k => k = m) w w1 := (Mod.refl _ w).grown hg1 (fun _ => rfl)
       have hr1 := HR.out.kept hmm (fun k hk _ e => HH.out.mT (e ▸ hk))
       have HC1 := hide hc1
       have HMp1 := hide hmp1
       have HMm := hide hmm
       have HR1 := hide (hr1.narrow.alloc (.cells #[.int .u32 t] 30))
       have HO1 := hide (reads_one w1 (.int .u32 t) 30 1)
       clear hmp1 hg1 hc1 hmm hr1 c2 hl)
    | (at_builtin; refine wpList_append_row rfl _ _ 29 rfl 30 i0 (.int .u32 0) 1 4 Tryd.underlying29 hi0 hz0 hz1 hz2 rfl (by decide) rfl HR1.out rfl HO1.out (us_one [t]) (by unfold maxLen; omega) (by omega) ?_; intro A2 c2' w2 hr2 hm2
       have hb1 := (Below.heap_alloc w1 (.cells #[.int .u32 t] 30) c (Array.getElem?_eq_some_iff.1 HC1.out).1).trans HC1.out
       have hc2 := hm2.heap hb1 (fun h => HH.out.cT h.1)
       have f4 := frozen_of_row w2 c 4 _ _ hc2
       have d42 : w2.cell? ⟨c, 4, none⟩ = some (.slice A T.length d) := by rw [cell_of_row w2 c 4 _ _ _ hc2]; rfl
       have HC2 := hide hc2
       have HR2 := hide hr2
       have HM2 := hide hm2
       clear hr2 hm2 hb1 hc2 d4)
    | fail)
  go_ret
  have hs1 := HMm.out.size
  have hsa : (w1.alloc (.cells #[.int .u32 t] 30)).heap.size = w1.heap.size + 1 := by simp
  have hs2 := HM2.out.size
  have hlen : (T ++ [t]).length = T.length + 1 := by simp
  have hmc := (Mod.refl (fun k => k = c) w2).setCell (p := ⟨c, 4, none⟩) (fun _ => rfl) (.slice A2 (T.length + 1) c2')
  have hsc := hmc.size
  have hcb := HH.out.block
  have hmlt := HH.out.mp.lt
  have hcm := HH.out.cm
  have hmp2 : Mp w2 Tryd.prog 30 m (upd (mf W) (.int .u32 t) none) (if (mf W (.int .u32 t)).isSome then W.length - 1 else W.length) := (HMp1.out.block (Below.heap_alloc w1 (.cells #[.int .u32 t] 30) m (by omega))).block (HM2.out.block m (by omega) (fun h => HH.out.mT h.1))
  have hmp3 := hmp2.block (hmc.block m (by omega) (fun e => hcm e.symm))
  have hmp4 : Mp (w2.setCell ⟨c, 4, none⟩ (.slice A2 (T.length + 1) c2')) Tryd.prog 30 m (mf (W.erase t)) (W.erase t).length := by
    have h1 : (mf W (.int .u32 t)).isSome = true := by rw [mf_at, if_pos HT.out]; rfl
    rw [if_pos h1] at hmp3
    rw [List.length_erase_of_mem HT.out]
    exact hmp3.ext (fun l => mf_erase HH.out.inc.nodup l)
  have hff := (((HH.out.ff.kept HMm.out (fun k hk e => HH.out.mO (e ▸ hk))).kept ((Mod.refl (fun _ => False) w1).alloc (.cells #[.int .u32 t] 30)) (fun _ _ h => h)).kept HM2.out (fun k hk hf => HH.out.tO k hf.1 hk)).kept hmc (fun k hk e => HH.out.cO (e ▸ hk))
  have hrow := (HR2.out.mono (G := fun k => FT k ∨ (k = w1.heap.size + 1 ∧ k < w2.heap.size)) (fun k hk hl => hk.imp (fun h => h.1) (fun e => ⟨by omega, hl⟩))).farE (p := ⟨c, 4, none⟩) HC2.out (by decide) (.slice A2 (T.length + 1) c2')
  refine ⟨rfl, fun k => FT k ∨ (k = w1.heap.size + 1 ∧ k < w2.heap.size), ⟨⟨A2, c2', by rw [hlen]; exact heap_setCell_same _ c 4 _ 56 _ HC2.out, by rw [hlen, ← us_append]; exact hrow⟩, hmp4, hff,
    fun k hk => hk.elim (fun h => by have := HH.out.lt k h; omega) (fun h => by have := h.2; omega),
    fun k hk hf => hk.elim (fun h => HH.out.tO k h hf) (fun h => by have := HH.out.ff.lt k hf; omega),
    fun h => h.elim HH.out.cT (fun h => by omega), HH.out.cO, fun h => h.elim HH.out.mT (fun h => by omega), HH.out.mO, HH.out.inc.erase t, by have := HH.out.room; have := List.length_erase_of_mem HT.out; omega, HH.out.m1, HH.out.m2, HH.out.nn⟩, ?_, ?_⟩
  · exact (((HMm.out.mono (G := PF c m FT FO) (fun k _ e => .inr (.inl e))).alloc (.cells #[.int .u32 t] 30)).trans HM2.out (fun k _ h => .inr (.inr (.inl h.1)))).trans hmc (fun k _ e => .inl e)
  · exact fun k hk => hk.imp id (fun h => by have := h.1; omega)
end
end Go.Proofs.YtccojgaahoonhaaDoor
