import Derived.Test.YtcalamofccdldaaDoorRingP
import Derived.Test.YtcalamofccdldaaDoorPut
import Derived.Test.YtcalamofccdldaaDoorProg
import Derived.WalkLawsBesides
import Derived.WalkSpells
import Derived.StillTailTactics
import Derived.Deep.QuietTactic
import Derived.BigQuiet
import Derived.Handy
/- The ring's functions: contracts. -/
namespace Go.Proofs.YtcalamofccdldaaDoor.RI
open Go Go.RowKit Go.Cu

theorem info_e : (Tryd.prog.info? 3).map (fun i => (i.zero, i.size, i.bytes)) = some (some (.int .i64 0), 1, 8) := by kernel_rfl
theorem size_e : (Tryd.prog.info? 3).map (·.size) = some 1 := by kernel_rfl

/-- The ring in block b, its memory in F: of capacity cap it holds L; there is room for lo at least. -/
def Ring (w : World) (F : Nat → Prop) (b cap : Nat) (L : List Value) (lo : Nat) : Prop :=
  F b ∧ (∀ k, F k → k < w.heap.size) ∧ cap ≤ 2147483647 ∧ ∃ (A : Option Addr) (m c h : Nat) (xs : List Value), w.heap[b]? = some (.cells #[.int .i64 cap, .slice A m c, .int .i64 h, .int .i64 L.length] 85 (0, 0)) ∧ Row w F 3 1 (.slice A m c) m xs ∧
    L.length ≤ m ∧ lo ≤ m ∧ m ≤ cap ∧ h ≤ m ∧ (0 < m → h < m) ∧ Holds xs m h L ∧ ∀ u ∈ xs, u.oneCell' = true

theorem Ring.lt {w : World} {F : Nat → Prop} {b cap : Nat} {L : List Value} {lo : Nat} (h : Ring w F b cap L lo) : ∀ k, F k → k < w.heap.size := h.2.1
theorem Ring.kept {w w' : World} {F G : Nat → Prop} {b cap : Nat} {L : List Value} {lo : Nat} (h : Ring w F b cap L lo) (hm : Mod G w w') (hn : ∀ k, F k → ¬ G k) : Ring w' F b cap L lo := by
  obtain ⟨hFb, hlt, hcap, A, m, c, h, xs, hb, hrow, h1⟩ := h
  exact ⟨hFb, fun k hk => Nat.lt_of_lt_of_le (hlt k hk) hm.size, hcap, A, m, c, h, xs, hm.heap hb (hn b hFb), hrow.kept hm (fun k hk _ => hn k hk), h1⟩
theorem Ring.below {w w' : World} {F : Nat → Prop} {b cap : Nat} {L : List Value} {lo : Nat} (h : Ring w F b cap L lo) (hb : Below w.heap.size w w') : Ring w' F b cap L lo :=
  h.kept (Mod.ofBelow hb (fun _ => False)) (fun _ _ h => h)
theorem Ring.low {w : World} {F : Nat → Prop} {b cap : Nat} {L : List Value} {lo : Nat} (h : Ring w F b cap L lo) : Ring w F b cap L 0 := by
  obtain ⟨hFb, hlt, hcap, A, m, c, h, xs, hb, hrow, h1, h2, h3⟩ := h
  exact ⟨hFb, hlt, hcap, A, m, c, h, xs, hb, hrow, h1, Nat.zero_le _, h3⟩
theorem Ring.wide {w w0 : World} {F : Nat → Prop} {b cap : Nat} {L : List Value} {lo : Nat} (h : Ring w F b cap L lo) : Ring w (Wide F w0 w) b cap L lo := by
  obtain ⟨hFb, hlt, hcap, A, m, c, h, xs, hb, hrow, h1⟩ := h
  refine ⟨.inl hFb, ?_, hcap, A, m, c, h, xs, hb, hrow.mono (fun _ hk _ => .inl hk), h1⟩
  rintro k (hk | hk)
  · exact hlt k hk
  · exact hk.2

theorem len_any (w : World) (F : Nat → Prop) (b cap : Nat) (L : List Value) (lo : Nat) (h : Ring w F b cap L lo) :
    Calls Tryd.prog 28 #[.pointer (some ⟨b, 0, none⟩)] w fun e w' => e = .returned (.int .i64 L.length) ∧ w = w' := by
  obtain ⟨hFb, hlt, hcap, A, m, c, h, xs, hb, h1⟩ := h
  have c3 : w.cell? ⟨b, 3, none⟩ = some (.int .i64 L.length) := by rw [cell_of_row w b 3 _ _ _ hb]; rfl
  clear hb h1 hlt
  go_enter Tryd.func28, Tryd.ntmps28
  go_wp2
  go_ret
  exact ⟨rfl, rfl⟩
theorem cap_any (w : World) (F : Nat → Prop) (b cap : Nat) (L : List Value) (lo : Nat) (h : Ring w F b cap L lo) :
    Calls Tryd.prog 22 #[.pointer (some ⟨b, 0, none⟩)] w fun e w' => e = .returned (.int .i64 cap) ∧ w = w' := by
  obtain ⟨hFb, hlt, hcap, A, m, c, h, xs, hb, h1⟩ := h
  have c0 : w.cell? ⟨b, 0, none⟩ = some (.int .i64 cap) := by rw [cell_of_row w b 0 _ _ _ hb]; rfl
  clear hb h1 hlt
  go_enter Tryd.func22, Tryd.ntmps22
  go_wp2
  go_ret
  exact ⟨rfl, rfl⟩
theorem Ring.fits {w : World} {F : Nat → Prop} {b cap : Nat} {L : List Value} {lo : Nat} (h : Ring w F b cap L lo) : L.length ≤ cap ∧ cap ≤ 2147483647 := by
  obtain ⟨hFb, hlt, hcap, A, m, c, h, xs, hb, hrow, h1, h2, h3, _⟩ := h
  exact ⟨by omega, hcap⟩
theorem free_any (w : World) (F : Nat → Prop) (b cap : Nat) (L : List Value) (lo : Nat) (h : Ring w F b cap L lo) :
    Calls Tryd.prog 21 #[.pointer (some ⟨b, 0, none⟩)] w fun e w' => e = .returned (.int .i64 ((cap - L.length : Nat) : Int)) ∧ w = w' := by
  have HH := hide h
  have hf1 := h.fits.1
  have hf2 := h.fits.2
  clear h
  go_enter Tryd.func21, Tryd.ntmps21
  go_wp2_with (first
    | (go_at_call 22; refine (cap_any _ F b cap L lo HH.out).mono ?_; rintro e w' ⟨rfl, rfl⟩)
    | (go_at_call 28; refine (len_any _ F b cap L lo HH.out).mono ?_; rintro e w' ⟨rfl, rfl⟩))
  go_ret
  have e : ((cap - L.length : Nat) : Int) = (cap : Int) - (L.length : Int) := by omega
  rw [e]
  exact ⟨rfl, rfl⟩

set_option maxRecDepth 10000 in
set_option maxHeartbeats 1000000 in
theorem copyTo_any (w : World) (F G : Nat → Prop) (b cap : Nat) (L : List Value) (lo : Nat) (A' : Option Addr) (k M C' : Nat) (os : List Value) (i : Nat) (h : Ring w F b cap L lo) (hout : Row w G 3 1 (.slice A' M C') M os) (hkM : k ≤ M) (hik : i + k ≤ L.length) (hGF : ∀ j, G j → ¬ F j) :
    Calls Tryd.prog 48 #[.pointer (some ⟨b, 0, none⟩), .slice A' k C', .int .i64 i] w fun e w' => e = .returned (.tuple #[]) ∧ Row w' G 3 1 (.slice A' M C') M ((L.drop i).take k ++ os.drop k) ∧ Mod G w w' := by
  rcases Nat.eq_zero_or_pos k with rfl | hk
  · have HO := hide hout
    clear hout h
    go_enter Tryd.func48, Tryd.ntmps48
    go_wp2
    go_returns
    exact ⟨rfl, by simpa using HO.out, Mod.refl _ _⟩
  · obtain ⟨hFb, hlt, hcap, A, m, c, h, xs, hb, hrow, h1, h2, h3, h4, h5, h6, h7⟩ := h
    have hm0 : 0 < m := by omega
    have hhm := h5 hm0
    obtain ⟨a, hat⟩ : ∃ a, (h + i) % m = a := ⟨_, rfl⟩
    have ham : a < m := by rw [← hat]; exact Nat.mod_lt _ hm0
    have hati : ((h : Int) + (i : Int)) % (m : Int) = (a : Int) := by rw [← hat]; simp
    obtain ⟨b0, o0, c', hA, hmc, _⟩ := hrow.open hm0
    injection hA with hA _ hcc
    subst hA
    subst hcc
    have c1 : w.cell? ⟨b, 1, none⟩ = some (.slice (some ⟨b0, o0, none⟩) m c) := by rw [cell_of_row w b 1 _ _ _ hb]; rfl
    have c2 : w.cell? ⟨b, 2, none⟩ = some (.int .i64 h) := by rw [cell_of_row w b 2 _ _ _ hb]; rfl
    have hxm : xs.length = m := by have := hrow.1; omega
    have hos : os.length = M := by have := hout.1; omega
    have hmm0 : ((m : Int) == 0) = false := by rw [beq_eq_false_iff_ne]; omega
    have hkk0 : ((k : Int) == 0) = false := by rw [beq_eq_false_iff_ne]; omega
    obtain ⟨n1, hn1⟩ : ∃ n1, min (m - a) (k - 0) = n1 := ⟨_, rfl⟩
    have hn1k : n1 ≤ k := by omega
    have HE := hide (copied hxm hk hik h1 h6 hat (by omega : k ≤ os.length))
    have HX := hide hrow
    have HO := hide hout
    have HRd := hide (hrow.reads.cut hmc (Nat.le_of_lt ham) (Nat.le_refl m))
    have HBs := hide hb
    have H1 := hide h7
    have HN := hide hn1
    have HG := hide hGF
    have hkC : k ≤ C' := by obtain ⟨_, _, e, h, _⟩ := hout.shape; injection e with _ _ e; omega
    clear hb hrow hout h6 h7 hGF hlt hn1 hat
    go_enter Tryd.func48, Tryd.ntmps48
    go_wp2
    go_quiet (fail)
    go_wp2_with (first
      | ((with_reducible refine at_slice rfl ?_); refine wpList_cut_lo rfl _ _ 38 3 rfl Tryd.underlying38 size_e rfl rfl hati (by omega) ?_)
      | ((with_reducible refine at_builtin' rfl ?_); refine wpList_copy_into rfl _ _ 38 38 3 rfl Tryd.underlying38 size_e (HO.out.drewN _) (Nat.zero_le k) hkM (by rw [cutV_zero]; rfl) rfl (Reads.kept HRd.out (fun _ _ h => h)) (fun u hu => H1.out u (List.mem_of_mem_drop (List.mem_of_mem_take hu))) ?_; intro w1 hr1 hm1; rw [Nat.mul_one, Nat.mul_one, HN.out] at hr1; rw [HN.out]; have hb1 := hm1.heap (show (w.drewN _).heap[b]? = _ from HBs.out) (fun hg => HG.out b hg hFb)
         have d1 : w1.cell? ⟨b, 1, none⟩ = some (.slice (some ⟨b0, o0, none⟩) m c) := by rw [cell_of_row w1 b 1 _ _ _ hb1]; rfl
         have HX1 := hide ((HX.out.drewN _).kept hm1 (fun j hj _ hg => HG.out j hg hj))
         have HR1 := hide hr1; have HM1 := hide hm1; clear hr1 hm1 hb1))
    have hs1 : ∀ w, (Instr.sliceAt 38 (.slice A' k C') (some (.int .i64 n1)) none none).run Tryd.prog w = .ok (cutV A' C' n1 k 1) w := fun w => run_sliceAt_lo w 38 3 1 Tryd.underlying38 size_e A' k C' .i64 n1 hn1k
    refine wp_region_still_tail 7 (by kernel_rfl) (by kernel_rfl) ?_
    simp only [List.take_succ_cons, List.take_zero, List.drop_succ_cons, List.drop_zero]
    show wpStill _ _ w1.drew _ _ _
    repeat still_step
    refine wpStill_nil ?_
    change wpList _ _ _ _ _ w1.drew
    refine wpList_copy_into rfl _ _ 38 38 3 rfl Tryd.underlying38 size_e HR1.out.drew hn1k hkM rfl rfl (HX1.out.drew).reads H1.out ?_
    intro w2 hr2 hm2
    have HR2 := hide hr2
    have HM2 := hide hm2
    clear hr2 hm2
    go_wp2
    go_returns
    refine ⟨rfl, ?_, (((Mod.refl G w).drewN _).trans HM1.out (fun _ _ h => h)).drew.trans HM2.out (fun _ _ h => h)⟩
    rw [← HE.out, HN.out]
    exact HR2.out

theorem laid_holds {L : List Value} {n z : Nat} {v : Value} (hn : n = L.length) (hz : n ≤ z) : Holds ((L.drop 0).take n ++ (List.replicate z v).drop n) z 0 L := by
  intro i x hi
  have hl := (List.getElem?_eq_some_iff.1 hi).1
  rw [Nat.zero_add, Nat.mod_eq_of_lt (by omega), List.drop_zero, List.getElem?_append_left (by rw [List.length_take]; omega), List.getElem?_take_of_lt (by omega)]
  exact hi

/-- the ring as it lies behind a step -/
theorem Ring.made {w w3 : World} {F G : Nat → Prop} {b cap : Nat} {L : List Value} {lo lo' : Nat} {L' : List Value} (h0 : Ring w F b cap L lo) (hmod : Mod F w w3) {A : Option Addr} {m c h : Nat} {xs : List Value} (hb : w3.heap[b]? = some (.cells #[.int .i64 cap, .slice A m c, .int .i64 h, .int .i64 L'.length] 85 (0, 0)))
    (hrow : Row w3 G 3 1 (.slice A m c) m xs) (hG : ∀ k, k < w3.heap.size → G k → F k ∨ w.heap.size ≤ k) (h1 : L'.length ≤ m) (h2 : lo' ≤ m) (h3 : m ≤ cap) (h4 : h ≤ m) (h5 : 0 < m → h < m) (h6 : Holds xs m h L') (h7 : ∀ u ∈ xs, u.oneCell' = true) : Ring w3 (Wide F w w3) b cap L' lo' := by
  obtain ⟨hFb, hlt, hcap, _⟩ := h0
  refine ⟨.inl hFb, ?_, hcap, A, m, c, h, xs, hb, hrow.mono (fun k hk hl => (hG k hl hk).imp id (fun h => ⟨h, hl⟩)), h1, h2, h3, h4, h5, h6, h7⟩
  rintro k (hk | hk)
  · exact Nat.lt_of_lt_of_le (hlt k hk) hmod.size
  · exact hk.2

set_option maxRecDepth 10000 in
set_option maxHeartbeats 1000000 in
theorem lay_any (w : World) (F : Nat → Prop) (b cap : Nat) (L : List Value) (lo want : Nat) (h : Ring w F b cap L lo) (h1 : ∀ u ∈ L, u.oneCell' = true) (hw : want ≤ cap) (hL : L.length ≤ want) :
    Calls Tryd.prog 49 #[.pointer (some ⟨b, 0, none⟩), .int .i64 want] w fun e w' => e = .returned (.tuple #[]) ∧ Ring w' (Wide F w w') b cap L want ∧ Mod F w w' := by
  have HH := hide h
  have HL1 := hide h1
  clear h1
  obtain ⟨hFb, hlt, hcap, A, m, c, h', xs, hb, hrow, h1, h2, h3, h4, h5, h6, h7⟩ := h
  have c0 : w.cell? ⟨b, 0, none⟩ = some (.int .i64 cap) := by rw [cell_of_row w b 0 _ _ _ hb]; rfl
  have c1 : w.cell? ⟨b, 1, none⟩ = some (.slice A m c) := by rw [cell_of_row w b 1 _ _ _ hb]; rfl
  have c3 : w.cell? ⟨b, 3, none⟩ = some (.int .i64 L.length) := by rw [cell_of_row w b 3 _ _ _ hb]; rfl
  by_cases hwm : want ≤ m
  · have HR : Hid (Ring w F b cap L want) := ⟨hFb, hlt, hcap, A, m, c, h', xs, hb, hrow, h1, hwm, h3, h4, h5, h6, h7⟩
    clear hb hrow h6 h7 hlt
    go_enter Tryd.func49, Tryd.ntmps49
    go_wp2
    go_returns
    exact ⟨rfl, HR.out.wide, Mod.refl _ _⟩
  · have HB := hide hb
    clear hb hrow h6 h7 hlt
    go_enter Tryd.func49, Tryd.ntmps49
    go_wp2
    go_quiet (fail)
    obtain ⟨i0, hi0, hz0, hz1, hz2⟩ := info_parts info_e
    go_wp2_with (first
        | ((with_reducible refine at_makeSlice rfl ?_); refine wpList_make_rowI rfl _ _ 38 3 rfl Tryd.underlying38 i0 (.int .i64 0) 8 hi0 hz0 hz1 hz2 rfl rfl rfl rfl (by omega) (by omega) (by decide) ?_; intro s hs w1 hr1 hm1
           have d3 : w1.cell? ⟨b, 3, none⟩ = some (.int .i64 L.length) := hm1.cell c3 (fun h => h)
           have HR1 := hide hr1; have HM1 := hide hm1; clear hr1 hm1)
        | ((with_reducible refine at_slice rfl ?_); refine wpList_cut_hi rfl _ _ 38 3 rfl Tryd.underlying38 size_e rfl rfl rfl (by omega) ?_)
        | (go_at_call 48; refine (copyTo_any w1 F (fun k => k = w.heap.size) b cap L lo _ L.length s s _ 0 (HH.out.kept (((Mod.refl (fun _ => False) w).drewN _).trans HM1.out (fun _ _ h => h)) (fun _ _ h => h)) HR1.out (by omega) (by omega) (fun j hj hf => by have := HH.out.lt j hf; omega)).mono ?_; rintro e w2 ⟨rfl, hr2, hm2⟩
           have hm := (((Mod.refl F w).drewN _).trans (HM1.out.mono (G := F) (fun _ _ h => h.elim)) (fun _ _ h => h)).trans hm2 (fun k hk e => by omega)
           have hb2 := hm2.heap (HM1.out.heap (show (w.drewN _).heap[b]? = _ from HB.out) (fun h => h)) (fun e => by have := HH.out.lt b hFb; omega)
           have e1 : w2.cell? ⟨b, 1, none⟩ = some (.slice A m c) := by rw [cell_of_row w2 b 1 _ _ _ hb2]; rfl
           have e2 : w2.cell? ⟨b, 2, none⟩ = some (.int .i64 h') := by rw [cell_of_row w2 b 2 _ _ _ hb2]; rfl
           have f1 := frozen_of_row w2 b 1 _ _ hb2
           have f2 := frozen_of_row w2 b 2 _ _ hb2
           have HB2 := hide hb2; have HR2 := hide hr2; have HM2 := hide hm; clear hr2 hm2 hm hb2))
    all_goals
      go_returns
      have hsb : want ≤ s ∧ s ≤ cap := by
        constructor
        all_goals
          (repeat' split at hs) <;> omega
      obtain ⟨hs1, hs2⟩ := hsb
      have hb3 := heap_setCell_same _ b 2 _ 85 (.int .i64 0) (heap_setCell_same _ b 1 _ 85 (.slice (some ⟨w.heap.size, 0, none⟩) s s) HB2.out)
      have hr3 := (HR2.out.farE (p := ⟨b, 1, none⟩) HB2.out (by decide) (.slice (some ⟨w.heap.size, 0, none⟩) s s)).farE (p := ⟨b, 2, none⟩) (heap_setCell_same _ b 1 _ 85 (.slice (some ⟨w.heap.size, 0, none⟩) s s) HB2.out) (by decide) (.int .i64 0)
      have hm3 := (HM2.out.setCell (p := ⟨b, 1, none⟩) (fun _ => hFb) (.slice (some ⟨w.heap.size, 0, none⟩) s s)).setCell (p := ⟨b, 2, none⟩) (fun _ => hFb) (.int .i64 0)
      refine ⟨rfl, Ring.made (h := 0) HH.out hm3 hb3 hr3 (fun k _ e => .inr (by omega)) (by omega) (by omega) (by omega) (by omega) (fun h => h) (laid_holds rfl (by omega)) ?_, hm3⟩
      intro u hu
      rcases List.mem_append.1 hu with hu | hu
      · exact HL1.out u (List.mem_of_mem_drop (List.mem_of_mem_take hu))
      · rw [List.eq_of_mem_replicate (List.mem_of_mem_drop hu)]; rfl

theorem Ring.one {w : World} {F : Nat → Prop} {b cap : Nat} {L : List Value} {lo : Nat} (h : Ring w F b cap L lo) : ∀ u ∈ L, u.oneCell' = true := by
  obtain ⟨hFb, hlt, hcap, A, m, c, h, xs, hb, hrow, h1, h2, h3, h4, h5, h6, h7⟩ := h
  intro u hu
  obtain ⟨i, hi, rfl⟩ := List.getElem_of_mem hu
  exact h7 _ (List.mem_of_getElem? (h6 i _ (List.getElem?_eq_getElem hi)))

theorem free_eq (w : World) (F : Nat → Prop) (b cap : Nat) (L : List Value) (lo fr : Nat) (h : Ring w F b cap L lo) (hfr : cap - L.length = fr) :
    Calls Tryd.prog 21 #[.pointer (some ⟨b, 0, none⟩)] w fun e w' => e = .returned (.int .i64 fr) ∧ w = w' := by
  refine (free_any w F b cap L lo h).mono ?_
  rintro e w' ⟨rfl, rfl⟩
  exact ⟨by rw [hfr], rfl⟩

theorem Mod.past {F : Nat → Prop} {w w1 w2 : World} (h : Mod F w w1) (h2 : Mod (Wide F w w1) w1 w2) : Mod F w w2 :=
  h.trans h2 (fun k hk hw => hw.elim id (fun h => by omega))

set_option maxRecDepth 10000 in
set_option maxHeartbeats 2000000 in
theorem push_any (w : World) (F : Nat → Prop) (b cap : Nat) (L : List Value) (lo : Nat) (B : Option Addr) (n c' : Nat) (news : List Value) (k : Nat) (h : Ring w F b cap L lo) (hx : RdOut w F (.slice B n c') n news) (hnc : n ≤ c') (h1 : ∀ u ∈ news, u.oneCell' = true) (hk : min n (cap - L.length) = k) :
    Calls Tryd.prog 23 #[.pointer (some ⟨b, 0, none⟩), .slice B n c'] w fun e w' => e = .returned (.int .i64 k) ∧ Ring w' (Wide F w w') b cap (L ++ news.take k) 0 ∧ Mod F w w' := by
  have HH := hide h
  have HRd := hide hx
  have HN1 := hide h1
  have hone := h.one
  have HO := hide hone
  obtain ⟨hf1, hf2⟩ := h.fits
  obtain ⟨fr, hfr⟩ : ∃ fr, cap - L.length = fr := ⟨_, rfl⟩
  have HFr := hide hfr
  have HK := hide hk
  have hfc : fr ≤ 2147483647 := by omega
  have hcs : (fr < n ∧ fr = k) ∨ (¬ fr < n ∧ n = k) := by omega
  rcases Nat.eq_zero_or_pos k with rfl | hk0
  · clear h hx h1 hone hfr hk
    rcases hcs with ⟨hlt, he⟩ | ⟨hlt, he⟩
    all_goals
      have hc := congrArg (fun x : Nat => (x : Int)) he
      clear he
      go_enter Tryd.func23, Tryd.ntmps23
      go_wp2_with (go_at_call 21; refine (free_eq _ F b cap L lo fr HH.out HFr.out).mono ?_; rintro e w' ⟨rfl, rfl⟩)
      go_ret
      exact ⟨rfl, by simpa using HH.out.low.wide, Mod.refl _ _⟩
  · have hkk : ((k : Int) == 0) = false := by rw [beq_eq_false_iff_ne]; omega
    have hkn : k ≤ n := by omega
    have hkc : L.length + k ≤ cap := by omega
    have hkc' : k ≤ c' := by omega
    obtain ⟨hFb, _, _, A0, m0, c0', h0, xs0, hb0, _⟩ := h
    have c3 : w.cell? ⟨b, 3, none⟩ = some (.int .i64 L.length) := by rw [cell_of_row w b 3 _ _ _ hb0]; rfl
    clear hx h1 hone hfr hk hb0
    rcases hcs with ⟨hlt, he⟩ | ⟨hlt, he⟩
    all_goals
      have hc := congrArg (fun x : Nat => (x : Int)) he
      clear he
      go_enter Tryd.func23, Tryd.ntmps23
      go_wp2_with (go_at_call 21; refine (free_eq _ F b cap L lo fr HH.out HFr.out).mono ?_; rintro e w' ⟨rfl, rfl⟩)
      refine (lay_any w F b cap L lo (L.length + k) HH.out HO.out hkc (by omega)).mono ?_
      rintro e w1 ⟨rfl, hr1, hm1⟩
      have HH1 := hide hr1
      have HM1 := hide hm1
      have HRd1 := hide (HRd.out.kept hm1)
      clear hr1 hm1 c3
      obtain ⟨hFb1, hlt1, _, A, m, c, h, xs, hb, hrow, q1, q2, q3, q4, q5, q6, q7⟩ := HH1.out
      have hm0 : 0 < m := by omega
      have hhm := q5 hm0
      obtain ⟨a, hat⟩ : ∃ a, (h + L.length) % m = a := ⟨_, rfl⟩
      have ham : a < m := by rw [← hat]; exact Nat.mod_lt _ hm0
      have hati : ((h : Int) + (L.length : Int)) % (m : Int) = (a : Int) := by rw [← hat]; simp
      obtain ⟨b0, o0, cx, hA, hmc, _⟩ := hrow.open hm0
      injection hA with hA _ hcc
      subst hA
      subst hcc
      have c1 : w1.cell? ⟨b, 1, none⟩ = some (.slice (some ⟨b0, o0, none⟩) m c) := by rw [cell_of_row w1 b 1 _ _ _ hb]; rfl
      have c2 : w1.cell? ⟨b, 2, none⟩ = some (.int .i64 h) := by rw [cell_of_row w1 b 2 _ _ _ hb]; rfl
      have c3 : w1.cell? ⟨b, 3, none⟩ = some (.int .i64 L.length) := by rw [cell_of_row w1 b 3 _ _ _ hb]; rfl
      have hxm : xs.length = m := by have := hrow.1; omega
      have hmm0 : ((m : Int) == 0) = false := by rw [beq_eq_false_iff_ne]; omega
      obtain ⟨n1, hn1⟩ : ∃ n1, min k (m - a) = n1 := ⟨_, rfl⟩
      have hn1k : n1 ≤ k := by omega
      have hnl : k ≤ news.length := by have := HRd.out.reads.1; omega
      have HP := hide (pushed (news := news) hxm hm0 rfl (by omega) hnl q6 hat hn1.symm)
      have HX := hide hrow.narrow
      have HB := hide hb
      have H1 := hide q7
      have HN := hide hn1
      have hs1 : ∀ w, (Instr.sliceAt 38 (.slice (some ⟨b0, o0, none⟩) m c) (some (.int .i64 a)) none none).run Tryd.prog w = .ok (cutV (some ⟨b0, o0, none⟩) c a m 1) w := fun w => run_sliceAt_lo w 38 3 1 Tryd.underlying38 size_e _ m c .i64 a (by omega)
      have hs2 : ∀ w, (Instr.sliceAt 38 (.slice B n c') none (some (.int .i64 k)) none).run Tryd.prog w = .ok (.slice B k c') w := fun w => by
        have := run_sliceAt_hi (P := Tryd.prog) w 38 3 1 Tryd.underlying38 size_e B n c' .i64 k hkc'
        rw [show (Value.slice (if c' = 0 then B else B.map (·.add (0 * 1))) (k - 0) (c' - 0)) = .slice B k c' from cutV_zero B c' k 1] at this
        exact this
      have hs3 : ∀ w, (Instr.sliceAt 38 (.slice B n c') (some (.int .i64 n1)) (some (.int .i64 k)) none).run Tryd.prog w = .ok (cutV B c' n1 k 1) w := fun w => run_sliceAt_both w 38 3 1 Tryd.underlying38 size_e B n c' .i64 .i64 n1 k hn1k hkc'
      clear hb hrow q6 q7 hlt1 hn1 hat
      go_wp2
      go_quiet (fail)
      go_wp2
      simp only [hati]
      refine wp_region_still_tail 9 (by kernel_rfl) (by kernel_rfl) ?_
      simp only [List.take_succ_cons, List.take_zero, List.drop_succ_cons, List.drop_zero]
      show wpStill _ _ ((w1.drewN _).drew) _ _ _
      repeat still_step
      refine wpStill_nil ?_
      change wpList _ _ _ _ _ ((w1.drewN _).drew)
      refine wpList_copy_into rfl _ _ 38 38 3 rfl Tryd.underlying38 size_e (HX.out.drewN _).drew (Nat.le_of_lt ham) (Nat.le_refl m) rfl (news := news.take k) (n := k) rfl ?_ (fun u hu => HN1.out u (List.mem_of_mem_take hu)) ?_
      · have hcut := HRd1.out.reads.cut hnc (Nat.zero_le k) hkn
        rw [cutV_zero, Nat.zero_mul, List.drop_zero, Nat.sub_zero, Nat.mul_one] at hcut
        exact Reads.kept hcut (fun _ _ h => h)
      intro w2 hr2 hm2
      rw [HN.out] at hr2
      rw [HN.out]
      have hm2' : Mod (Wide F w w1) w1 w2 := (((Mod.refl _ w1).drewN _).drew).trans (hm2.mono (G := Wide F w w1) (fun _ _ h => h.1)) (fun _ _ h => h)
      have hb2 := hm2.heap (show ((w1.drewN _).drew).heap[b]? = _ from HB.out) (fun hh => not_ofE HB.out (by decide) hh.2)
      have d1 : w2.cell? ⟨b, 1, none⟩ = some (.slice (some ⟨b0, o0, none⟩) m c) := by rw [cell_of_row w2 b 1 _ _ _ hb2]; rfl
      have HRd2 := hide (HRd1.out.kept hm2').reads
      have HB2 := hide hb2
      have HR2 := hide hr2
      have HM2 := hide hm2'
      clear hb2 hr2 hm2 hm2'
      go_wp2
      refine wp_region_still_tail 8 (by kernel_rfl) (by kernel_rfl) ?_
      simp only [List.take_succ_cons, List.take_zero, List.drop_succ_cons, List.drop_zero]
      show wpStill _ _ w2.drew _ _ _
      repeat still_step
      refine wpStill_nil ?_
      change wpList _ _ _ _ _ w2.drew
      refine wpList_copy_into rfl _ _ 38 38 3 rfl Tryd.underlying38 size_e HR2.out.drew (Nat.zero_le m) (Nat.le_refl m) (by rw [cutV_zero]; rfl) (news := (news.drop n1).take (k - n1)) (n := k - n1) rfl ?_ (fun u hu => HN1.out u (List.mem_of_mem_drop (List.mem_of_mem_take hu))) ?_
      · have hcut := HRd2.out.cut hnc hn1k hkn
        rw [Nat.mul_one, Nat.mul_one] at hcut
        exact Reads.kept hcut (fun _ _ h => h)
      intro w3 hr3 hm3
      have hm3' : Mod (Wide F w w1) w2 w3 := (Mod.refl _ w2).drew.trans (hm3.mono (G := Wide F w w1) (fun _ _ h => h.1)) (fun _ _ h => h)
      have hb3 := hm3.heap (show (w2.drew).heap[b]? = _ from HB2.out) (fun hh => not_ofE HB.out (by decide) hh.2)
      have e3 : w3.cell? ⟨b, 3, none⟩ = some (.int .i64 L.length) := by rw [cell_of_row w3 b 3 _ _ _ hb3]; rfl
      have f3 := frozen_of_row w3 b 3 _ _ hb3
      have HB3 := hide hb3
      have HR3 := hide hr3
      have HM3 := hide (Mod.past HM1.out (HM2.out.trans hm3' (fun _ _ h => h)))
      clear hb3 hr3 hm3 hm3'
      go_wp2
      go_ret
      have el : (L ++ news.take k).length = L.length + k := by rw [List.length_append, List.length_take]; omega
      have hm4 := HM3.out.setCell (p := ⟨b, 3, none⟩) (fun _ => hFb) (.int .i64 ((L.length : Int) + (k : Int)))
      have hb4 := heap_setCell_same _ b 3 _ 85 (.int .i64 ((L.length : Int) + (k : Int))) HB3.out
      have hr4 := HR3.out.farE (p := ⟨b, 3, none⟩) HB3.out (by decide) (.int .i64 ((L.length : Int) + (k : Int)))
      refine ⟨rfl, Ring.made (h := h) HH.out hm4 (by rw [el, Int.natCast_add]; exact hb4) hr4 (fun j _ hj => hj.1.imp id (fun h => h.1)) (by rw [el]; omega) (Nat.zero_le _) q3 q4 q5 HP.out ?_, hm4⟩
      intro u hu
      rcases ins_mem hu with hu | hu
      · rcases ins_mem hu with hu | hu
        · exact H1.out u hu
        · exact HN1.out u (List.mem_of_mem_take (List.mem_of_mem_take hu))
      · exact HN1.out u (List.mem_of_mem_drop (List.mem_of_mem_take (List.mem_of_mem_take hu)))

def New (w : World) (k : Nat) : Prop := w.heap.size ≤ k
/-- how many a number means here -/
def cnt (n : Int) (L : List Value) : Nat := min n.toNat L.length
theorem cnt_cases (n : Int) (len : Nat) : ∃ k : Nat, min n.toNat len = k ∧ k ≤ len ∧ ((n < 0 ∧ k = 0) ∨ (¬ n < 0 ∧ ¬ (len : Int) < n ∧ n = k) ∨ (¬ n < 0 ∧ (len : Int) < n ∧ len = k)) := ⟨_, rfl, by omega, by omega⟩

set_option maxRecDepth 10000 in
set_option maxHeartbeats 2000000 in
theorem peek_any (w : World) (F : Nat → Prop) (b cap : Nat) (L : List Value) (lo : Nat) (n : Int) (k : Nat) (h : Ring w F b cap L lo) (hk : min n.toNat L.length = k) :
    Calls Tryd.prog 19 #[.pointer (some ⟨b, 0, none⟩), .int .i64 n] w fun e w' => ∃ A c, e = .returned (.slice A k c) ∧ Row w' (New w) 3 1 (.slice A k c) k (L.take k) ∧ Below w.heap.size w w' := by
  have HH := hide h
  obtain ⟨hf1, hf2⟩ := h.fits
  obtain ⟨i0, hi0, hz0, hz1, hz2⟩ := info_parts info_e
  obtain ⟨k', hk', hkl, hcs⟩ := cnt_cases n L.length
  obtain rfl : k' = k := by omega
  clear h hk hk'
  rcases Nat.eq_zero_or_pos k' with hz | hp
  · subst hz
    rcases hcs with ⟨h1, _⟩ | ⟨h1, h2, h3⟩ | ⟨h1, h2, h3⟩
    all_goals
      try subst h3
      go_enter Tryd.func19, Tryd.ntmps19
      go_wp2_with (go_at_call 28; refine (len_any _ F b cap L lo HH.out).mono ?_; rintro e w' ⟨rfl, rfl⟩)
      all_goals
        go_ret
        exact ⟨none, 0, rfl, Row.nil _ _ _ _, Below.refl _ _⟩
  · have hkk : ((k' : Int) == 0) = false := by rw [beq_eq_false_iff_ne]; omega
    rcases hcs with ⟨h1, h2⟩ | ⟨h1, h2, rfl⟩ | ⟨h1, h2, h3⟩
    · omega
    all_goals
      try have hc : (L.length : Int) = (k' : Int) := by omega
      go_enter Tryd.func19, Tryd.ntmps19
      go_wp2_with (first
        | (go_at_call 28; refine (len_any _ F b cap L lo HH.out).mono ?_; rintro e w' ⟨rfl, rfl⟩)
        | ((with_reducible refine at_makeSlice rfl ?_); refine wpList_make_row rfl _ _ 38 3 rfl Tryd.underlying38 i0 (.int .i64 0) 8 hi0 hz0 hz1 hz2 rfl (n := k') rfl rfl rfl rfl (by omega) (by unfold maxLen; omega) ?_; intro w1 hr1 hm1
           have HR1 := hide hr1; have HM1 := hide hm1; clear hr1 hm1)
        | (go_at_call 48; refine (copyTo_any w1 F (fun k => k = w.heap.size) b cap L lo _ k' k' k' _ 0 (HH.out.kept HM1.out (fun _ _ h => h)) HR1.out (Nat.le_refl _) (by omega) (fun j hj hf => by have := HH.out.lt j hf; omega)).mono ?_; rintro e w2 ⟨rfl, hr2, hm2⟩
           have HR2 := hide hr2; have HM2 := hide hm2; clear hr2 hm2))
      go_ret
      refine ⟨_, _, rfl, ?_, (HM1.out.below (Nat.le_refl _) (fun _ h => h.elim)).trans (HM2.out.below HM1.out.size (fun j hj => by omega))⟩
      have hr := HR2.out
      rw [List.drop_zero, List.drop_of_length_le (by rw [List.length_replicate]; exact Nat.le_refl _), List.append_nil] at hr
      exact hr.mono (fun j hj _ => by show _ ≤ j; omega)

set_option maxRecDepth 10000 in
set_option maxHeartbeats 2000000 in
theorem drop_any (w : World) (F : Nat → Prop) (b cap : Nat) (L : List Value) (lo : Nat) (n : Int) (k : Nat) (h : Ring w F b cap L lo) (hk : min n.toNat L.length = k) :
    Calls Tryd.prog 26 #[.pointer (some ⟨b, 0, none⟩), .int .i64 n] w fun e w' => e = .returned (.int .i64 k) ∧ Ring w' F b cap (L.drop k) 0 ∧ Mod F w w' := by
  have HH := hide h
  obtain ⟨hf1, hf2⟩ := h.fits
  obtain ⟨hFb, hlt, hcap, A, m, c, h', xs, hb, hrow, q1, q2, q3, q4, q5, q6, q7⟩ := h
  obtain ⟨k', hk', hkl, hcs⟩ := cnt_cases n L.length
  obtain rfl : k' = k := by omega
  rcases Nat.eq_zero_or_pos k' with hz | hp
  · subst hz
    clear hk hk' hb hrow q6 q7 hlt
    rcases hcs with ⟨h1, _⟩ | ⟨h1, h2, h3⟩ | ⟨h1, h2, h3⟩
    all_goals
      try subst h3
      try have hc : (L.length : Int) = 0 := by omega
      go_enter Tryd.func26, Tryd.ntmps26
      go_wp2_with (go_at_call 28; refine (len_any _ F b cap L lo HH.out).mono ?_; rintro e w' ⟨rfl, rfl⟩)
      all_goals
        go_ret
        exact ⟨rfl, HH.out.low, Mod.refl _ _⟩
  · have hkk : ((k' : Int) == 0) = false := by rw [beq_eq_false_iff_ne]; omega
    have hm0 : 0 < m := by omega
    have hhm := q5 hm0
    have hmm0 : ((m : Int) == 0) = false := by rw [beq_eq_false_iff_ne]; omega
    obtain ⟨a, hat⟩ : ∃ a, (h' + k') % m = a := ⟨_, rfl⟩
    have ham : a < m := by rw [← hat]; exact Nat.mod_lt _ hm0
    have hati : ((h' : Int) + (k' : Int)) % (m : Int) = (a : Int) := by rw [← hat]; simp
    have c1 : w.cell? ⟨b, 1, none⟩ = some (.slice A m c) := by rw [cell_of_row w b 1 _ _ _ hb]; rfl
    have c2 : w.cell? ⟨b, 2, none⟩ = some (.int .i64 h') := by rw [cell_of_row w b 2 _ _ _ hb]; rfl
    have c3 : w.cell? ⟨b, 3, none⟩ = some (.int .i64 L.length) := by rw [cell_of_row w b 3 _ _ _ hb]; rfl
    have f1 := frozen_of_row w b 1 _ _ hb
    have f2 := frozen_of_row w b 2 _ _ hb
    have f3 := frozen_of_row w b 3 _ _ hb
    have hwr : IntKind.i64.wrap ((h' : Int) + (k' : Int)) = (h' : Int) + (k' : Int) := by rw [IntKind.wrap_i64]; omega
    have hwa : IntKind.i64.wrap (a : Int) = (a : Int) := by rw [IntKind.wrap_i64]; omega
    have hm0' : ¬ m = 0 := by omega
    have hwt : ((h' : Int) + (k' : Int)).tmod (m : Int) = (a : Int) := by rw [Int.tmod_eq_emod_of_nonneg (by omega)]; exact hati
    have hrem : ∀ w, (binOp .rem 3 (.int .i64 ((h' : Int) + (k' : Int))) (.int .i64 (m : Int))).run Tryd.prog w = .ok (.int .i64 (a : Int)) w := fun w => by simp [binOp, Op.intDiv, hm0', hwt]
    have HB := hide hb
    have HX := hide hrow
    have HD := hide (dropped (k := k') q6)
    have HT := hide hat
    have HLT := hide hlt
    have H7 := hide q7
    clear hk hk' hb hrow q6 q7 hlt hat
    have hcs' : (¬ n < 0 ∧ ¬ (L.length : Int) < n ∧ n = k' ∧ L.length ≠ k') ∨ (¬ n < 0 ∧ ¬ (L.length : Int) < n ∧ n = k' ∧ L.length = k') ∨ (¬ n < 0 ∧ (L.length : Int) < n ∧ L.length = k') := by omega
    clear hcs
    rcases hcs' with ⟨h1, h2, rfl, h4⟩ | hcs'
    · have hne : (((L.length : Int) - (k' : Int)) == 0) = false := by rw [beq_eq_false_iff_ne]; omega
      go_enter Tryd.func26, Tryd.ntmps26
      go_wp2_with (go_at_call 28; refine (len_any _ F b cap L lo HH.out).mono ?_; rintro e w' ⟨rfl, rfl⟩)
      refine wp_region_still_tail 15 (by kernel_rfl) (by kernel_rfl) ?_
      simp only [List.take_succ_cons, List.take_zero, List.drop_succ_cons, List.drop_zero]
      show wpStill _ _ w.drew _ _ _
      repeat still_step
      refine wpStill_nil ?_
      change wpList _ _ _ _ _ w.drew
      go_wp2
      go_ret
      have el : (L.drop k').length = L.length - k' := by rw [List.length_drop]
      have hb2 := heap_setCell_same _ b 3 _ 85 (.int .i64 ((L.length : Int) - (k' : Int))) (heap_setCell_same _ b 2 _ 85 (.int .i64 (a : Int)) HB.out)
      have hr2 := (HX.out.farE (p := ⟨b, 2, none⟩) HB.out (by decide) (.int .i64 (a : Int))).farE (p := ⟨b, 3, none⟩) (heap_setCell_same _ b 2 _ 85 (.int .i64 (a : Int)) HB.out) (by decide) (.int .i64 ((L.length : Int) - (k' : Int)))
      have hm2 := ((Mod.refl F w).setCell (p := ⟨b, 2, none⟩) (fun _ => hFb) (.int .i64 (a : Int))).setCell (p := ⟨b, 3, none⟩) (fun _ => hFb) (.int .i64 ((L.length : Int) - (k' : Int)))
      refine ⟨rfl, ⟨hFb, fun j hj => Nat.lt_of_lt_of_le (HLT.out j hj) hm2.size, hcap, A, m, c, a, xs, ?_, hr2, by omega, Nat.zero_le _, q3, by omega, fun _ => ham, ?_, H7.out⟩, hm2.drew⟩
      · rw [el, show ((L.length - k' : Nat) : Int) = (L.length : Int) - (k' : Int) by omega]; exact hb2
      · rw [← HT.out]; exact HD.out
    · have hc : (L.length : Int) = (k' : Int) := by omega
      rcases hcs' with ⟨h1, h2, rfl, h4⟩ | ⟨h1, h2, h4⟩
      all_goals
        go_enter Tryd.func26, Tryd.ntmps26
        go_wp2_with (go_at_call 28; refine (len_any _ F b cap L lo HH.out).mono ?_; rintro e w' ⟨rfl, rfl⟩)
        refine wp_region_still_tail 15 (by kernel_rfl) (by kernel_rfl) ?_
        simp only [List.take_succ_cons, List.take_zero, List.drop_succ_cons, List.drop_zero]
        show wpStill _ _ w.drew _ _ _
        repeat still_step
        refine wpStill_nil ?_
        change wpList _ _ _ _ _ w.drew
        go_wp2
        go_ret
        have el : L.drop k' = [] := by rw [List.drop_eq_nil_iff]; omega
        have g1 := heap_setCell_same _ b 2 _ 85 (.int .i64 (a : Int)) HB.out
        have g2 := heap_setCell_same _ b 3 _ 85 (.int .i64 0) g1
        have g3 := heap_setCell_same _ b 1 _ 85 (.slice none 0 0) g2
        have g4 := heap_setCell_same _ b 2 _ 85 (.int .i64 0) g3
        have hm2 := ((((Mod.refl F w).setCell (p := ⟨b, 2, none⟩) (fun _ => hFb) (.int .i64 (a : Int))).setCell (p := ⟨b, 3, none⟩) (fun _ => hFb) (.int .i64 0)).setCell (p := ⟨b, 1, none⟩) (fun _ => hFb) (.slice none 0 0)).setCell (p := ⟨b, 2, none⟩) (fun _ => hFb) (.int .i64 0)
        rw [el]
        exact ⟨rfl, ⟨hFb, fun j hj => Nat.lt_of_lt_of_le (HLT.out j hj) hm2.size, hcap, none, 0, 0, 0, [], g4, Row.nil _ _ _ _, Nat.le_refl _, Nat.le_refl _, Nat.zero_le _, Nat.le_refl _, fun h => by omega, fun i x hx => by simp at hx, fun u hu => by cases hu⟩, hm2.drew⟩

theorem pop_any (w : World) (F : Nat → Prop) (b cap : Nat) (L : List Value) (lo : Nat) (n : Int) (k : Nat) (h : Ring w F b cap L lo) (hk : min n.toNat L.length = k) :
    Calls Tryd.prog 25 #[.pointer (some ⟨b, 0, none⟩), .int .i64 n] w fun e w' => ∃ A c, e = .returned (.slice A k c) ∧ Row w' (New w) 3 1 (.slice A k c) k (L.take k) ∧ Ring w' F b cap (L.drop k) 0 ∧ Mod F w w' := by
  have HH := hide h
  clear h
  go_enter Tryd.func25, Tryd.ntmps25
  go_wp2_with fail
  refine (peek_any w F b cap L lo n k HH.out hk).mono ?_
  rintro e w1 ⟨A, c, rfl, hr, hb⟩
  have HR := hide hr
  have HB := hide hb
  have HH1 := hide (HH.out.below hb)
  clear hr hb
  go_wp2_with fail
  refine (drop_any w1 F b cap L lo n k HH1.out hk).mono ?_
  rintro e w2 ⟨rfl, hr, hm⟩
  have HR2 := hide hr
  have HM2 := hide hm
  clear hr hm
  go_wp2
  go_ret
  exact ⟨A, c, rfl, HR.out.kept HM2.out (fun j hj _ hf => by have := HH.out.lt j hf; have : w.heap.size ≤ j := hj; omega), HR2.out, (Mod.ofBelow HB.out F).trans HM2.out (fun _ _ h => h)⟩

/-- the ring is made -/
theorem new_any (w : World) (n : Nat) (hn : n ≤ 2147483647) :
    Calls Tryd.prog 18 #[.int .i64 n] w fun e w' => ∃ b, e = .returned (.tuple #[.pointer (some ⟨b, 0, none⟩), .nilIface]) ∧ Ring w' (fun j => w.heap.size ≤ j ∧ j < w'.heap.size) b n [] 0 ∧ Below w.heap.size w w' := by
  go_enter Tryd.func18, Tryd.ntmps18
  go_wp2
  go_ret2
  refine ⟨w.heap.size, rfl, ⟨⟨Nat.le_refl _, by simp⟩, fun _ h => h.2, hn, none, 0, 0, 0, [], heap_alloc_new w _, Row.nil _ _ _ _, Nat.le_refl _, Nat.le_refl _, Nat.zero_le _, Nat.le_refl _, fun h => by omega, fun i x hx => by simp at hx, fun u hu => by cases hu⟩, (Below.refl _ w).alloc (Nat.le_refl _) _⟩

theorem clear_any (w : World) (F : Nat → Prop) (b cap : Nat) (L : List Value) (lo : Nat) (h : Ring w F b cap L lo) :
    Calls Tryd.prog 27 #[.pointer (some ⟨b, 0, none⟩)] w fun e w' => e = .returned (.int .i64 L.length) ∧ Ring w' F b cap [] 0 ∧ Mod F w w' := by
  have HH := hide h
  clear h
  go_enter Tryd.func27, Tryd.ntmps27
  go_wp2_with (go_at_call 28; refine (len_any _ F b cap L lo HH.out).mono ?_; rintro e w' ⟨rfl, rfl⟩)
  refine (drop_any w F b cap L lo L.length L.length HH.out (by simp)).mono ?_
  rintro e w2 ⟨rfl, hr, hm⟩
  have HR2 := hide hr
  have HM2 := hide hm
  clear hr hm
  go_wp2
  go_ret
  exact ⟨rfl, by simpa using HR2.out, HM2.out⟩

/-- no ring is made -/
theorem new_bad (w : World) (n : Int) (hn : n < 0 ∨ 2147483647 < n) (ev : Value) (hE : w.cell? ⟨0, 0, none⟩ = some ev) :
    Calls Tryd.prog 18 #[.int .i64 n] w fun e w' => e = .returned (.tuple #[.pointer none, ev]) ∧ Below w.heap.size w w' := by
  rcases hn with h1 | h1
  · go_enter Tryd.func18, Tryd.ntmps18
    go_wp2
    go_quiet (fail)
    go_wp2
    go_ret2
    exact ⟨rfl, ⟨rfl, rfl, rfl, Nat.le_refl _, fun _ _ => rfl⟩⟩
  · have h2 : ¬ n < 0 := by omega
    go_enter Tryd.func18, Tryd.ntmps18
    go_wp2
    go_quiet (fail)
    go_wp2
    go_ret2
    exact ⟨rfl, ⟨rfl, rfl, rfl, Nat.le_refl _, fun _ _ => rfl⟩⟩

theorem at_in (w : World) (F : Nat → Prop) (b cap : Nat) (L : List Value) (lo i : Nat) (x : Value) (h : Ring w F b cap L lo) (hx : L[i]? = some x) :
    Calls Tryd.prog 20 #[.pointer (some ⟨b, 0, none⟩), .int .i64 i] w fun e w' => e = .returned (.tuple #[x, .bool true]) ∧ Below w.heap.size w w' := by
  have HH := hide h
  obtain ⟨hFb, hlt, hcap, A, m, c, h', xs, hb, hrow, q1, q2, q3, q4, q5, q6, q7⟩ := h
  have hil := (List.getElem?_eq_some_iff.1 hx).1
  have hm0 : 0 < m := by omega
  have hhm := q5 hm0
  obtain ⟨a, hat⟩ : ∃ a, (h' + i) % m = a := ⟨_, rfl⟩
  have ham : a < m := by rw [← hat]; exact Nat.mod_lt _ hm0
  have hati : ((h' : Int) + (i : Int)) % (m : Int) = (a : Int) := by rw [← hat]; simp
  obtain ⟨b0, o0, c', hA, hmc, _, _, _, hcells, _⟩ := hrow.open hm0
  injection hA with hA _ hcc
  subst hA
  subst hcc
  have hxa := q6 i x hx
  rw [hat] at hxa
  have c1 : w.cell? ⟨b, 1, none⟩ = some (.slice (some ⟨b0, o0, none⟩) m c) := by rw [cell_of_row w b 1 _ _ _ hb]; rfl
  have c2 : w.cell? ⟨b, 2, none⟩ = some (.int .i64 h') := by rw [cell_of_row w b 2 _ _ _ hb]; rfl
  have cx : w.cell? ⟨b0, o0 + a, none⟩ = some x := hcells a x hxa
  have hmm0 : ((m : Int) == 0) = false := by rw [beq_eq_false_iff_ne]; omega
  clear hb hrow q6 q7 hlt hat hxa hcells hx
  go_enter Tryd.func20, Tryd.ntmps20
  go_wp2_with (go_at_call 28; refine (len_any _ F b cap L lo HH.out).mono ?_; rintro e w' ⟨rfl, rfl⟩)
  go_quiet (fail)
  go_wp2
  go_ret2
  exact ⟨rfl, ⟨rfl, rfl, rfl, Nat.le_refl _, fun _ _ => rfl⟩⟩
theorem at_out (w : World) (F : Nat → Prop) (b cap : Nat) (L : List Value) (lo : Nat) (i : Int) (h : Ring w F b cap L lo) (hi : i < 0 ∨ (L.length : Int) ≤ i) :
    Calls Tryd.prog 20 #[.pointer (some ⟨b, 0, none⟩), .int .i64 i] w fun e w' => e = .returned (.tuple #[.int .i64 0, .bool false]) ∧ Below w.heap.size w w' := by
  have HH := hide h
  clear h
  have hi' : i < 0 ∨ (¬ i < 0 ∧ (L.length : Int) ≤ i) := by omega
  clear hi
  rcases hi' with h1 | ⟨h1, h2⟩
  all_goals
    go_enter Tryd.func20, Tryd.ntmps20
    go_wp2_with (go_at_call 28; refine (len_any _ F b cap L lo HH.out).mono ?_; rintro e w' ⟨rfl, rfl⟩)
    go_ret2
    exact ⟨rfl, Below.refl _ _⟩
end Go.Proofs.YtcalamofccdldaaDoor.RI
