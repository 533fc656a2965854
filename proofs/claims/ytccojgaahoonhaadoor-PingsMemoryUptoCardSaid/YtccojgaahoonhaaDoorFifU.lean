import Derived.Test.YtccojgaahoonhaaDoorCpy
import Derived.Test.YtccojgaahoonhaaDoorErrs
import Derived.Test.YtccojgaahoonhaaDoorRows
import Derived.WalkLawsBesides
import Derived.WalkSpells
import Derived.StillTailTactics
import Derived.Deep.QuietTactic
import Derived.BigQuiet
import Derived.Handy
import Derived.Deep.RegionHeld3
/- The queue of numbers: what its memory holds; the contracts of its methods. -/
namespace Go.Proofs.YtccojgaahoonhaaDoor.FU
open Go Go.RowKit Go.Cu Go.Proofs.YtccojgaahoonhaaDoor Go.Proofs.YtccojgaahoonhaaDoor.errs

theorem info_row : (Tryd.prog.info? 87).map (fun i => (i.size, i.bytes)) = some (2, 16) := by kernel_rfl
theorem size_row : (Tryd.prog.info? 87).map (·.size) = some 2 := by kernel_rfl

def pairs (L : List (Int × Int)) : List Value := L.flatMap fun x => [.int .u32 x.1, .int .i64 x.2]
theorem pairs_length (L : List (Int × Int)) : (pairs L).length = L.length * 2 := by
  unfold pairs
  induction L with
  | nil => rfl
  | cons x r ih => rw [List.flatMap_cons, List.length_append, ih, List.length_cons]; simp; omega
theorem pairs_cons (x : Int × Int) (L : List (Int × Int)) : pairs (x :: L) = .int .u32 x.1 :: .int .i64 x.2 :: pairs L := rfl
theorem pairs_append (L M : List (Int × Int)) : pairs L ++ pairs M = pairs (L ++ M) := by simp [pairs]
theorem pairs_one (L : List (Int × Int)) : ∀ u ∈ pairs L, u.oneCell' = true := by
  intro u hu
  obtain ⟨x, _, hx⟩ := List.mem_flatMap.1 hu
  simp at hx
  rcases hx with rfl | rfl <;> rfl
def wsum (L : List (Int × Int)) : Int := (L.map (·.2)).sum
theorem wsum_cons (x : Int × Int) (L : List (Int × Int)) : wsum (x :: L) = x.2 + wsum L := by simp [wsum]
theorem wsum_append (L : List (Int × Int)) (x : Int × Int) : wsum (L ++ [x]) = wsum L + x.2 := by simp [wsum]
theorem wsum_pos {L : List (Int × Int)} (h : ∀ x ∈ L, 0 ≤ x.2) : 0 ≤ wsum L := by
  induction L with
  | nil => simp [wsum]
  | cons x r ih =>
    rw [wsum_cons]
    have := h x (by simp)
    have := ih (fun y hy => h y (by simp [hy]))
    omega

/-- Block b is a queue of these rooms that holds L. -/
def Fifo (w : World) (F : Nat → Prop) (b : Nat) (things most : Int) (L : List (Int × Int)) : Prop :=
  F b ∧ (∀ k, F k → k < w.heap.size) ∧ (0 ≤ most ∧ most ≤ 9223372036854775807) ∧ (∀ x ∈ L, 0 ≤ x.2) ∧ wsum L ≤ most ∧ (L.length : Int) ≤ things ∧
    ∃ A c, w.heap[b]? = some (.cells #[.int .i64 things, .int .i64 most, .slice A L.length c, .int .i64 (wsum L)] 76 (0, 0)) ∧ Row w F 87 2 (.slice A L.length c) L.length (pairs L)
section
variable {w w' : World} {F G : Nat → Prop} {b : Nat} {things most : Int} {L : List (Int × Int)}
theorem Fifo.lt (h : Fifo w F b things most L) : ∀ k, F k → k < w.heap.size := h.2.1
theorem Fifo.kept (h : Fifo w F b things most L) (hm : Mod G w w') (hn : ∀ k, F k → ¬ G k) : Fifo w' F b things most L := by
  obtain ⟨h1, h2, h3, h4, h5, h6, A, c, hb, hr⟩ := h
  exact ⟨h1, fun k hk => Nat.lt_of_lt_of_le (h2 k hk) hm.size, h3, h4, h5, h6, A, c, hm.heap hb (hn b h1), hr.kept hm (fun k hk _ => hn k hk)⟩
theorem Fifo.below (h : Fifo w F b things most L) (hb : Below w.heap.size w w') : Fifo w' F b things most L := h.kept (Mod.ofBelow hb (fun _ => False)) (fun _ _ h => h)
theorem Fifo.fits (h : Fifo w F b things most L) : (L.length : Int) ≤ things ∧ 0 ≤ wsum L ∧ wsum L ≤ most ∧ most ≤ 9223372036854775807 ∧ L.length ≤ 9223372036854775807 := by
  obtain ⟨h1, h2, h3, h4, h5, h6, A, c, hb, hr⟩ := h
  exact ⟨h6, wsum_pos h4, h5, h3.2, maxLen_lt hr.size⟩

theorem len_any (w : World) (F : Nat → Prop) (b : Nat) (things most : Int) (L : List (Int × Int)) (h : Fifo w F b things most L) :
    Calls Tryd.prog 31 #[.pointer (some ⟨b, 0, none⟩)] w fun e w' => e = .returned (.int .i64 L.length) ∧ w = w' := by
  obtain ⟨h1, h2, h3, h4, h5, h6, A, c, hb, hr⟩ := h
  have c2 : w.cell? ⟨b, 2, none⟩ = some (.slice A L.length c) := by rw [cell_of_row w b 2 _ _ _ hb]; rfl
  clear hb hr h4 h2
  go_enter Tryd.func31, Tryd.ntmps31
  go_wp2
  go_ret
  exact ⟨rfl, rfl⟩
theorem new_any (w : World) (things most : Int) (h1 : 0 ≤ things) (h2 : 0 ≤ most) (h3 : most ≤ 9223372036854775807) :
    Calls Tryd.prog 20 #[.int .i64 things, .int .i64 most] w fun e w' => ∃ b, e = .returned (.tuple #[.pointer (some ⟨b, 0, none⟩), .nilIface]) ∧ Fifo w' (fun j => w.heap.size ≤ j ∧ j < w'.heap.size) b things most [] ∧ Below w.heap.size w w' := by
  go_enter Tryd.func20, Tryd.ntmps20
  go_wp2
  go_ret2
  exact ⟨w.heap.size, rfl, ⟨⟨Nat.le_refl _, by simp⟩, fun _ h => h.2, ⟨h2, h3⟩, fun x hx => (by cases hx), by simpa [wsum] using h2, by simpa using h1, none, 0, heap_alloc_new w _, Row.nil _ _ _ _⟩, (Below.refl _ _).alloc (Nat.le_refl _) _⟩
theorem head_none (w : World) (F : Nat → Prop) (b : Nat) (things most : Int) (h : Fifo w F b things most []) :
    Calls Tryd.prog 41 #[.pointer (some ⟨b, 0, none⟩)] w fun e w' => e = .returned (.tuple #[.int .u32 0, .int .i64 0, .bool false]) ∧ w = w' := by
  have HH := hide h
  clear h
  go_enter Tryd.func41, Tryd.ntmps41
  go_wp2_with (go_at_call 31; refine (len_any _ F b things most [] HH.out).mono ?_; rintro e w' ⟨rfl, rfl⟩)
  go_returns
  exact ⟨rfl, rfl⟩
theorem head_some (w : World) (F : Nat → Prop) (b : Nat) (things most : Int) (x : Int × Int) (L : List (Int × Int)) (h : Fifo w F b things most (x :: L)) :
    Calls Tryd.prog 41 #[.pointer (some ⟨b, 0, none⟩)] w fun e w' => e = .returned (.tuple #[.int .u32 x.1, .int .i64 x.2, .bool true]) ∧ Below w.heap.size w w' := by
  have HH := hide h
  obtain ⟨h1, h2, h3, h4, h5, h6, A, c, hb, hr⟩ := h
  obtain ⟨b0, o0, c', hA, hmc, _, _, _, hcells, _⟩ := hr.open (by simp)
  injection hA with hA _ hcc
  subst hA
  subst hcc
  have c2 : w.cell? ⟨b, 2, none⟩ = some (.slice (some ⟨b0, o0, none⟩) (L.length + 1) c) := by rw [cell_of_row w b 2 _ _ _ hb]; rfl
  have x0 : w.cell? ⟨b0, o0, none⟩ = some (.int .u32 x.1) := hcells 0 _ rfl
  have x1 : w.cell? ⟨b0, o0 + 1, none⟩ = some (.int .i64 x.2) := hcells 1 _ rfl
  clear hb hr h4 h2 hcells
  go_enter Tryd.func41, Tryd.ntmps41
  go_wp2_with (go_at_call 31; refine (len_any _ F b things most (x :: L) HH.out).mono ?_; rintro e w' ⟨rfl, rfl⟩)
  go_quiet (fail)
  go_wp2
  go_returns
  exact ⟨rfl, ⟨rfl, rfl, rfl, Nat.le_refl _, fun _ _ => rfl⟩⟩
theorem get_none (w : World) (F : Nat → Prop) (b : Nat) (things most : Int) (h : Fifo w F b things most []) :
    Calls Tryd.prog 32 #[.pointer (some ⟨b, 0, none⟩)] w fun e w' => e = .returned (.tuple #[.int .u32 0, .int .i64 0, .bool false]) ∧ w = w' := by
  have HH := hide h
  clear h
  go_enter Tryd.func32, Tryd.ntmps32
  go_wp2_with (go_at_call 41; refine (head_none _ F b things most HH.out).mono ?_; rintro e w' ⟨rfl, rfl⟩)
  go_returns
  exact ⟨rfl, rfl⟩
set_option maxRecDepth 10000 in
set_option maxHeartbeats 1000000 in
theorem get_some (w : World) (F : Nat → Prop) (b : Nat) (things most : Int) (x : Int × Int) (L : List (Int × Int)) (h : Fifo w F b things most (x :: L)) :
    Calls Tryd.prog 32 #[.pointer (some ⟨b, 0, none⟩)] w fun e w' => e = .returned (.tuple #[.int .u32 x.1, .int .i64 x.2, .bool true]) ∧ Fifo w' F b things most L ∧ Mod F w w' := by
  have HH := hide h
  go_enter Tryd.func32, Tryd.ntmps32
  go_wp2_with fail
  refine (head_some w F b things most x L h).mono ?_
  rintro e w2 ⟨rfl, hb2⟩
  have hf2 := h.below hb2
  have hfit := hf2.fits
  have HB2 := hide hb2
  obtain ⟨h1, h2, h3, h4, h5, h6, A, c, hb, hr⟩ := hf2
  obtain ⟨b0, o0, c', hA, hmc, hcm, ⟨hF0, hof⟩, hlt0, hcells, hfr⟩ := hr.narrow.open (by simp)
  injection hA with hA _ hcc
  subst hA
  subst hcc
  have hx2 := h4 x (by simp)
  have hL0 := wsum_pos (L := L) (fun y hy => h4 y (by simp [hy]))
  obtain ⟨A1, c1, hcut⟩ : ∃ A1 c1, cutV (some ⟨b0, o0, none⟩) c 1 (L.length + 1) 2 = .slice A1 L.length c1 := ⟨_, _, rfl⟩
  have hne : b0 ≠ b := fun e => not_ofE hb (by decide) (e ▸ hof)
  have hne2 : b ≠ b0 := fun e => hne e.symm
  rw [wsum_cons] at hb hfit h5
  have c2 : w2.cell? ⟨b, 2, none⟩ = some (.slice (some ⟨b0, o0, none⟩) (L.length + 1) c) := by rw [cell_of_row w2 b 2 _ _ _ hb]; rfl
  have c3 : w2.cell? ⟨b, 3, none⟩ = some (.int .i64 (x.2 + wsum L)) := by rw [cell_of_row w2 b 3 _ _ _ hb]; rfl
  have x0 : w2.cell? ⟨b0, o0, none⟩ = some (.int .u32 x.1) := hcells 0 _ rfl
  have x1 : w2.cell? ⟨b0, o0 + 1, none⟩ = some (.int .i64 x.2) := hcells 1 _ rfl
  have f0 := hfr o0
  have f1 := hfr (o0 + 1)
  have g2 := frozen_of_row w2 b 2 _ _ hb
  have g3 := frozen_of_row w2 b 3 _ _ hb
  have HHb := hide hb
  have HR := hide hr
  have HF0 := hide hF0
  have HF1 := hide h1
  have H4 := hide h4
  have HC := hide hcells
  clear hb hr h4 h h2 hcells hfr hb2
  have hwr : IntKind.i64.wrap (x.2 + wsum L - x.2) = wsum L := by rw [IntKind.wrap_i64]; omega
  go_wp2_with (first
    | ((with_reducible refine at_slice rfl ?_); refine wpList_cut_lo rfl _ _ 74 87 rfl Tryd.underlying74 size_row rfl rfl (l := 1) rfl (by omega) ?_; rw [hcut])
    | fail)
  go_returns
  have r1 := (HR.out.set (b := b0) (o := o0) rfl (j := 0) (show 0 < (L.length + 1) * 2 by omega) (.int .u32 0)).set (b := b0) (o := o0) rfl (j := 1) (show 1 < (L.length + 1) * 2 by omega) (.int .i64 0)
  have b1 : ((w2.setCell ⟨b0, o0 + 0, none⟩ (.int .u32 0)).setCell ⟨b0, o0 + 1, none⟩ (.int .i64 0)).heap[b]? = some (.cells #[.int .i64 things, .int .i64 most, .slice (some ⟨b0, o0, none⟩) (L.length + 1) c, .int .i64 (x.2 + wsum L)] 76 (0, 0)) := by
    rw [Below.heap_setCell _ _ _ _ hne2, Below.heap_setCell _ _ _ _ hne2]
    exact HHb.out
  have b2 := heap_setCell_same _ b 2 _ 76 (.slice A1 L.length c1) b1
  have b3 := heap_setCell_same _ b 3 _ 76 (.int .i64 (wsum L)) b2
  have r3 := ((r1.farE (p := ⟨b, 2, none⟩) b1 (by decide) (.slice A1 L.length c1)).farE (p := ⟨b, 3, none⟩) b2 (by decide) (.int .i64 (wsum L))).cut (lo := 1) (hi := L.length + 1) (by omega) (Nat.le_refl _)
  have e1 : ((((pairs (x :: L)).set 0 (.int .u32 0)).set 1 (.int .i64 0)).drop (1 * 2)).take ((L.length + 1 - 1) * 2) = pairs L := by
    rw [pairs_cons]
    simp only [List.set_cons_zero, List.set_cons_succ]
    show (pairs L).take (L.length * 2) = pairs L
    exact List.take_of_length_le (by rw [pairs_length]; exact Nat.le_refl _)
  rw [e1] at r3
  have hm0 : Mod F w w2 := Mod.ofBelow HB2.out F
  refine ⟨rfl, ⟨HF1.out, fun k hk => ?_, h3, fun y hy => H4.out y (by simp [hy]), by omega, by have := hfit.1; simp at this; omega, A1, c1, by simpa using b3, ?_⟩, (((hm0.setCell (p := ⟨b0, o0 + 0, none⟩) (fun _ => HF0.out) _).setCell (p := ⟨b0, o0 + 1, none⟩) (fun _ => HF0.out) _).setCell (p := ⟨b, 2, none⟩) (fun _ => HF1.out) _).setCell (p := ⟨b, 3, none⟩) (fun _ => HF1.out) _⟩
  · have := HH.out.lt k hk
    have := HB2.out.size
    simp [World.setCell]
    omega
  · have hc : cutV (some ⟨b0, o0, none⟩) c 1 (L.length + 1) 2 = .slice A1 L.length c1 := hcut
    unfold cutV at hc
    rw [hc] at r3
    exact r3
theorem info_e : (Tryd.prog.info? 87).map (fun i => (i.zero, i.size, i.bytes)) = some (some (.agg #[.int .u32 0, .int .i64 0]), 2, 16) := by kernel_rfl
set_option maxRecDepth 10000 in
set_option maxHeartbeats 1000000 in
theorem put_ok (w : World) (F : Nat → Prop) (b : Nat) (things most : Int) (L : List (Int × Int)) (h : Fifo w F b things most L) (v wt : Int) (hw : ¬ wt < 0) (hroom : ¬ things ≤ (L.length : Int)) (hfit : ¬ most - wsum L < wt) (hs : L.length ≤ 4398046511104) :
    Calls Tryd.prog 33 #[.pointer (some ⟨b, 0, none⟩), .int .u32 v, .int .i64 wt] w fun e w' => e = .returned .nilIface ∧ Fifo w' (Wide F w w') b things most (L ++ [(v, wt)]) ∧ Mod F w w' := by
  have HH := hide h
  have hfits := h.fits
  obtain ⟨h1, h2, h3, h4, h5, h6, A, c, hb, hr⟩ := h
  have c0 : w.cell? ⟨b, 0, none⟩ = some (.int .i64 things) := by rw [cell_of_row w b 0 _ _ _ hb]; rfl
  have c1 : w.cell? ⟨b, 1, none⟩ = some (.int .i64 most) := by rw [cell_of_row w b 1 _ _ _ hb]; rfl
  have c2 : w.cell? ⟨b, 2, none⟩ = some (.slice A L.length c) := by rw [cell_of_row w b 2 _ _ _ hb]; rfl
  have c3 : w.cell? ⟨b, 3, none⟩ = some (.int .i64 (wsum L)) := by rw [cell_of_row w b 3 _ _ _ hb]; rfl
  have hwr : IntKind.i64.wrap (most - wsum L) = most - wsum L := by rw [IntKind.wrap_i64]; omega
  have hwr2 : IntKind.i64.wrap (wsum L + wt) = wsum L + wt := by rw [IntKind.wrap_i64]; omega
  have g2 : decide (things ≤ (L.length : Int)) = false := by simpa using hroom
  obtain ⟨i0, hi0, hz0, hz1, hz2⟩ := info_parts info_e
  have HB := hide hb
  have HR := hide hr
  have H4 := hide h4
  have H1 := hide h1
  clear hb hr h4 h2
  go_enter Tryd.func33, Tryd.ntmps33
  go_wp2_with fail
  go_quiet (fail)
  have HR1 := hide (((HR.out.drewN nq).alloc (.cells #[.int .u32 v, .int .i64 wt] 87)).narrow)
  have hlt := (Array.getElem?_eq_some_iff.1 HB.out).1
  have hb1 : ((w.drewN nq).alloc (.cells #[.int .u32 v, .int .i64 wt] 87)).heap[b]? = some (.cells #[.int .i64 things, .int .i64 most, .slice A L.length c, .int .i64 (wsum L)] 76 (0, 0)) := by
    exact (Below.heap_alloc (w.drewN nq) _ b hlt).trans HB.out
  have HB1 := hide hb1
  have HLit : Hid (Reads ((w.drewN nq).alloc (.cells #[.int .u32 v, .int .i64 wt] 87)) 2 (.slice (some ⟨w.heap.size, 0, none⟩) 1 1) 1 (pairs [(v, wt)])) := by
    refine ⟨rfl, _, 1, rfl, by unfold maxLen; omega, .inr ⟨_, rfl, fun j u hj => ?_⟩⟩
    have hj' : [Value.int .u32 v, .int .i64 wt][j]? = some u := hj
    rw [add_plain, Nat.zero_add]
    exact (cell_of_row ((w.drewN nq).alloc (.cells #[.int .u32 v, .int .i64 wt] 87)) w.heap.size j _ _ _ (heap_alloc_new (w.drewN nq) _)).trans (by simpa using hj')
  have hal : Mod F w ((w.drewN nq).alloc (.cells #[.int .u32 v, .int .i64 wt] 87)) := ((Mod.refl F w).drewN nq).alloc _
  have HAl := hide hal
  clear hb1 hal
  go_wp2_with (first
    | (at_builtin; refine wpList_append_row rfl _ _ 74 rfl 87 i0 (.agg #[.int .u32 0, .int .i64 0]) 2 16 Tryd.underlying74 hi0 hz0 hz1 hz2 rfl (by decide) rfl HR1.out (news := pairs [(v, wt)]) rfl HLit.out (pairs_one _) (by unfold maxLen; omega) (by omega) ?_
       intro A' c' w3 hr3 hm3
       have hb3 := hm3.heap HB1.out (fun h => not_ofE HB1.out (by decide) h.2)
       have d2 : w3.cell? ⟨b, 2, none⟩ = some (.slice A L.length c) := by rw [cell_of_row w3 b 2 _ _ _ hb3]; rfl
       have d3 : w3.cell? ⟨b, 3, none⟩ = some (.int .i64 (wsum L)) := by rw [cell_of_row w3 b 3 _ _ _ hb3]; rfl
       have f2 := frozen_of_row w3 b 2 _ _ hb3
       have f3 := frozen_of_row w3 b 3 _ _ hb3
       have HB3 := hide hb3
       have HR3 := hide hr3
       have HM3 := hide hm3
       clear hb3 hr3 hm3 c0 c1 c2 c3))
  go_ret
  have b4 := heap_setCell_same _ b 2 _ 76 (.slice A' (L.length + 1) c') HB3.out
  have b5 := heap_setCell_same _ b 3 _ 76 (.int .i64 (wsum L + wt)) b4
  have r5 := (HR3.out.farE (p := ⟨b, 2, none⟩) HB3.out (by decide) (.slice A' (L.length + 1) c')).farE (p := ⟨b, 3, none⟩) b4 (by decide) (.int .i64 (wsum L + wt))
  have hm : Mod F w ((w3.setCell ⟨b, 2, none⟩ (.slice A' (L.length + 1) c')).setCell ⟨b, 3, none⟩ (.int .i64 (wsum L + wt))) :=
    ((HAl.out.trans HM3.out (fun i _ h => h.1)).setCell (p := ⟨b, 2, none⟩) (fun _ => H1.out) _).setCell (p := ⟨b, 3, none⟩) (fun _ => H1.out) _
  have hlen : (L ++ [(v, wt)]).length = L.length + 1 := by simp
  refine ⟨rfl, ⟨Wide.old H1.out, Wide.lt HH.out.lt hm.size, h3, fun y hy => ?_, by rw [wsum_append]; show wsum L + wt ≤ most; omega, by rw [hlen]; omega, A', c', ?_, ?_⟩, hm⟩
  · rcases List.mem_append.1 hy with hy | hy
    · exact H4.out y hy
    · simp at hy
      subst hy
      show 0 ≤ wt
      omega
  · rw [hlen, wsum_append]
    simpa using b5
  · rw [hlen, ← pairs_append]
    refine r5.mono (fun k hk hlk => ?_)
    rcases hk with hk | hk
    · exact .inl hk.1
    · right
      refine ⟨?_, hlk⟩
      rw [hk]
      simp
end
end Go.Proofs.YtccojgaahoonhaaDoor.FU

