import Derived.Test.YtipbaffhlekpfaaDoorFifV
/- Remove, with a function that asks. -/
namespace Go.Proofs.YtipbaffhlekpfaaDoor
open Go Go.RowKit Go.Cu Go.Proofs.YtipbaffhlekpfaaDoor.errs

theorem ask_not_nil (w : World) (v1 v2 v3 v4 : Value) : (binOp .eql 58 (.func (.func 48) #[] #[v1, v2, v3, v4]) .nilFunc).run Tryd.prog w = .ok (.bool false) w := by kernel_rfl

theorem remove_none (w : World) (F : Nat → Prop) (b : Nat) (things most : Int) (h : Fifo w F b things most []) (v1 v2 v3 v4 : Value) :
    Calls Tryd.prog 21 #[.pointer (some ⟨b, 0, none⟩), .func (.func 48) #[] #[v1, v2, v3, v4]] w fun e w' => e = .returned (.int .i64 0) ∧ w = w' := by
  have HH := hide h
  clear h
  go_enter Tryd.func21, Tryd.ntmps21
  go_wp2_with (go_at_call 11; refine (len_any _ F b things most [] HH.out).mono ?_; rintro e w' ⟨rfl, rfl⟩)
  go_ret
  exact ⟨rfl, rfl⟩
set_option maxRecDepth 10000 in
theorem remove_nofn (w : World) (F : Nat → Prop) (b : Nat) (things most : Int) (L : List (Int × Int)) (h : Fifo w F b things most L) :
    Calls Tryd.prog 21 #[.pointer (some ⟨b, 0, none⟩), .nilFunc] w fun e w' => e = .returned (.int .i64 0) ∧ w = w' := by
  have HH := hide h
  clear h
  have hnf : (binOp .eql 58 .nilFunc .nilFunc).run Tryd.prog w = .ok (.bool true) w := by kernel_rfl
  have hz : ((L.length : Int) == 0) = true ∨ ((L.length : Int) == 0) = false := by cases ((L.length : Int) == 0) <;> simp
  rcases hz with hz | hz
  all_goals
    go_enter Tryd.func21, Tryd.ntmps21
    go_wp2_with (go_at_call 11; refine (len_any _ F b things most L HH.out).mono ?_; rintro e w' ⟨rfl, rfl⟩)
    go_ret
    exact ⟨rfl, rfl⟩

theorem wsum_filter_le {L : List (Int × Int)} (f : Int × Int → Bool) (h : ∀ x ∈ L, 0 ≤ x.2) : wsum (L.filter f) ≤ wsum L := by
  induction L with
  | nil => simp [wsum]
  | cons x r ih =>
    have h1 := h x (by simp)
    have h2 := ih (fun y hy => h y (by simp [hy]))
    rw [List.filter_cons]
    split
    · rw [wsum_cons, wsum_cons]; omega
    · rw [wsum_cons]; omega
theorem wsum_keep (W : List Int) {L : List (Int × Int)} (h : ∀ x ∈ L, 0 ≤ x.2) (i : Nat) : wsum (keepL W (L.take i)) ≤ wsum L := by
  have h1 := wsum_filter_le (L := L.take i) (fun x => !decide (x.1 ∈ W)) (fun x hx => h x (List.mem_of_mem_take hx))
  have h2 := (wsum_take_le h i).2
  unfold keepL
  omega

set_option maxRecDepth 10000 in
set_option maxHeartbeats 2000000 in
theorem remove_any (w : World) (F : Nat → Prop) (b : Nat) (things most : Int) (L : List (Int × Int)) (h : Fifo w F b things most L) (hpos : 0 < L.length) (hn : L.length ≤ 4398046511103) (W : List Int) (v1 v2 v3 v4 : Value) (C : Nat → Prop) (S : Nat → World → Prop)
    (hC : ∀ k, C k → k < w.heap.size ∧ ¬ F k) (h0 : S 0 w) (hS : ∀ i a b', S i a → Mod (fun k => F k ∨ w.heap.size ≤ k) a b' → S i b')
    (hcall : ∀ i x wr, L[i]? = some x → S i wr → Calls Tryd.prog 48 #[.int .i64 x.1, v1, v2, v3, v4] wr fun e w' => e = .returned (.bool (decide (x.1 ∈ W))) ∧ S (i + 1) w' ∧ Mod C wr w') :
    Calls Tryd.prog 21 #[.pointer (some ⟨b, 0, none⟩), .func (.func 48) #[] #[v1, v2, v3, v4]] w fun e w' =>
      e = .returned (.int .i64 (L.length - (keepL W L).length : Nat)) ∧ S L.length w' ∧ Fifo w' (Wide F w w') b things most (keepL W L) ∧ Mod (fun k => F k ∨ C k) w w' := by
  have HH := hide h
  have HC := hide hC
  have H0 := hide h0
  have HS := hide hS
  have HCall := hide hcall
  have hnn := ask_not_nil w v1 v2 v3 v4
  have hlz : ((L.length : Int) == 0) = false := by simp; intro e; subst e; simp at hpos
  have hfit := h.fits
  obtain ⟨h1, h2, h3, h4, h5, h6, A, c, hb, hr⟩ := h
  have c2 : w.cell? ⟨b, 2, none⟩ = some (.slice A L.length c) := by rw [cell_of_row w b 2 _ _ _ hb]; rfl
  obtain ⟨i0, hi0, hz0, hz1, hz2⟩ := info_parts info_e
  have HR := hide hr
  have HB := hide hb
  have H1 := hide h1
  have H2 := hide h2
  have H4 := hide h4
  clear hC h0 hS hcall hb hr h4 h2
  go_enter Tryd.func21, Tryd.ntmps21
  go_wp2_with (go_at_call 11; refine (len_any _ F b things most L HH.out).mono ?_; rintro e w' ⟨rfl, rfl⟩)
  go_loopw [5, 6, 22] (fun s g t wr => ∃ i : Nat, i ≤ L.length ∧ t = .int .i64 i ∧ ∃ M A' c', s = .slice A' M.length c' ∧ g = .int .i64 (wsum M) ∧ M.length ≤ i ∧ Hid (M = keepL W (L.take i)) ∧ Hid (Row wr (fun k => w.heap.size ≤ k) 86 2 (.slice A' M.length c') M.length (pairs M)) ∧ Hid (Mod C w wr) ∧ Hid (S i wr)) (fun _ _ t _ => L.length - (intOf t).toNat)
  case atStart => exact ⟨0, Nat.zero_le _, rfl, [], none, 0, rfl, rfl, Nat.le_refl _, hide rfl, hide (Row.nil _ _ _ _), hide (Mod.refl _ _), H0⟩
  case round =>
    obtain ⟨i, hi, rfl, M, A', c', rfl, rfl, hMi, HM, HRow, HMod, HSi⟩ := hrel
    have hsz := HMod.out.size
    by_cases hlt : i < L.length
    · obtain ⟨x, hx⟩ : ∃ x, L[i]? = some x := ⟨_, List.getElem?_eq_getElem hlt⟩
      have HX := hide hx
      have HR1 : Hid (Reads wr 2 (.slice A L.length c) L.length (pairs L)) := hide (HR.out.kept HMod.out (fun k hk _ hc => (HC.out k hc).2 hk)).reads
      clear hx
      go_upto_region 8 with ((with_reducible refine at_index rfl ?_); refine wpList_atS rfl rfl _ _ 80 86 _ rfl rfl rfl (by simp) Tryd.underlying80 (by decide) size_row agg_row rfl HR1.out rfl (by omega) (by omega) (us := [.int .i64 x.1, .int .i64 x.2]) rfl (pairs_us HX.out) ?_; intro q)
      have hal3 : Mod (fun _ => False) wr (wr.alloc (.cells #[.int .i64 x.1, .int .i64 x.2] 86)) := (Mod.refl _ _).alloc _
      have hb3 : (wr.alloc (.cells #[.int .i64 x.1, .int .i64 x.2] 86)).heap[wr.heap.size]? = some (.cells #[.int .i64 x.1, .int .i64 x.2] 86 (0, 0)) := heap_alloc_new wr _
      have hsz3 : (wr.alloc (.cells #[.int .i64 x.1, .int .i64 x.2] 86)).heap.size = wr.heap.size + 1 := by simp
      obtain ⟨w3, hw3⟩ : ∃ w3, wr.alloc (.cells #[.int .i64 x.1, .int .i64 x.2] 86) = w3 := ⟨_, rfl⟩
      obtain ⟨pr, hpr⟩ : ∃ pr, wr.heap.size = pr := ⟨_, rfl⟩
      rw [hw3] at hal3
      rw [hw3, hpr] at hb3 hsz3
      rw [hw3, hpr]
      have hS3 := HS.out i wr w3 HSi.out (hal3.mono (fun _ _ h => h.elim))
      have y0 : w3.cell? ⟨pr, 0, none⟩ = some (.int .i64 x.1) := by rw [cell_of_row w3 _ 0 _ _ _ hb3]; rfl
      have y1 : w3.cell? ⟨pr, 1, none⟩ = some (.int .i64 x.2) := by rw [cell_of_row w3 _ 1 _ _ _ hb3]; rfl
      have HMod3 := hide (HMod.out.trans (hal3.mono (G := C) (fun _ _ h => h.elim)) (fun _ _ h => h))
      have HRow3 := hide ((HRow.out.mono (G := fun k => w.heap.size ≤ k ∧ k < pr) (fun k hk hl => ⟨hk, by omega⟩)).kept hal3 (fun _ _ _ h => h))
      have HS3 := hide hS3
      have HB3 := hide hb3
      have hprw : w.heap.size ≤ pr := by omega
      clear hal3 hb3 hS3 hw3
      go_wp2_with fail
      refine (HCall.out i x w3 HX.out HS3.out).mono ?_
      rintro e w4 ⟨rfl, hS4, hm4⟩
      have hb4 := hm4.heap HB3.out (fun h => by have := (HC.out pr h).1; omega)
      have z0 : w4.cell? ⟨pr, 0, none⟩ = some (.int .i64 x.1) := by rw [cell_of_row w4 _ 0 _ _ _ hb4]; rfl
      have z1 : w4.cell? ⟨pr, 1, none⟩ = some (.int .i64 x.2) := by rw [cell_of_row w4 _ 1 _ _ _ hb4]; rfl
      have HMod4 := hide (HMod3.out.trans hm4 (fun _ _ h => h))
      have HRow4 := hide (HRow3.out.kept hm4 (fun k hk _ hc => by have := (HC.out k hc).1; have := hk.1; omega))
      have HB4 := hide hb4
      have HS4 := hide hS4
      have hsz4 := hm4.size
      have hk := keepL_take (W := W) HX.out
      clear hb4 hS4 hm4 y0 y1
      have hx0 : 0 ≤ x.2 := H4.out x (List.mem_of_getElem? HX.out)
      by_cases hin : x.1 ∈ W
      · have hM2 : Hid (M = keepL W (L.take (i + 1))) := hide (by rw [hk, if_pos hin, List.append_nil]; exact HM.out)
        clear hk
        go_wp2
        go_roundw
        case rel => exact ⟨i + 1, by omega, by go_num, M, A', c', rfl, rfl, by omega, hM2, hide (HRow4.out.mono (fun k hk _ => hk.1)), HMod4, HS4⟩
        case measure => simp [intOf]; omega
      · have hM2 : Hid (M ++ [x] = keepL W (L.take (i + 1))) := hide (by rw [hk, if_neg hin, ← HM.out])
        have hlM : (M ++ [x]).length = M.length + 1 := by simp
        have hsM : wsum (M ++ [x]) = wsum M + x.2 := wsum_append M x
        have hle : 0 ≤ wsum M ∧ wsum M + x.2 ≤ wsum L := by
          have hMk := HM.out
          have h2 := wsum_keep W (L := L) H4.out (i + 1)
          have h3 := hM2.out
          rw [← h3, hsM] at h2
          have h4 : 0 ≤ wsum M := by
            rw [hMk]
            exact wsum_pos fun y hy => H4.out y (List.mem_of_mem_take (List.mem_filter.1 hy).1)
          exact ⟨h4, h2⟩
        have hwr : IntKind.i64.wrap (wsum M + x.2) = wsum M + x.2 := by rw [IntKind.wrap_i64]; omega
        have HRow5 := hide (HRow4.out.alloc (.cells #[.int .i64 x.1, .int .i64 x.2] 86))
        have HLit : Hid (Reads (w4.alloc (.cells #[.int .i64 x.1, .int .i64 x.2] 86)) 2 (.slice (some ⟨w4.heap.size, 0, none⟩) 1 1) 1 (pairs [x])) := by
          refine hide ⟨rfl, _, 1, rfl, by unfold maxLen; omega, .inr ⟨_, rfl, fun j u hj => ?_⟩⟩
          have hj' : [Value.int .i64 x.1, .int .i64 x.2][j]? = some u := hj
          rw [add_plain, Nat.zero_add]
          exact (cell_of_row (w4.alloc (.cells #[.int .i64 x.1, .int .i64 x.2] 86)) w4.heap.size j _ _ _ (heap_alloc_new w4 _)).trans (by simpa using hj')
        have HLE := hide hle
        have HSM := hide hsM
        clear hk hle hsM
        go_wp2_with (first
          | (at_builtin; refine wpList_append_row rfl _ _ 80 rfl 86 i0 (.agg #[.int .i64 0, .int .i64 0]) 2 16 Tryd.underlying80 hi0 hz0 hz1 hz2 rfl (by decide) rfl HRow5.out (news := pairs [x]) rfl HLit.out (pairs_one _) (by unfold maxLen; omega) (by omega) ?_
             intro A2 c2' w5 hr5 hm5
             have hb5 := hm5.heap ((Below.heap_alloc w4 (.cells #[.int .i64 x.1, .int .i64 x.2] 86) pr (Array.getElem?_eq_some_iff.1 HB4.out).1).trans HB4.out) (fun h => by have := h.2; omega)
             have q1 : w5.cell? ⟨pr, 1, none⟩ = some (.int .i64 x.2) := by rw [cell_of_row w5 _ 1 _ _ _ hb5]; rfl
             have HR5 := hide hr5
             have HM5 := hide hm5
             clear hr5 hm5 hb5 z0 z1))
        have hm5 : Mod C w w5 := (HMod4.out.trans ((Mod.refl C w4).alloc _) (fun _ _ h => h)).trans (HM5.out.mono (G := fun k => w.heap.size ≤ k) (fun _ _ h => h.1)) (fun k hk h => by omega)
        have hs5 := HS.out (i + 1) w4 w5 HS4.out (((Mod.refl _ w4).alloc _).trans (HM5.out.mono (G := fun k => F k ∨ w.heap.size ≤ k) (fun _ _ h => .inr h.1)) (fun _ _ h => h))
        go_roundw
        case rel => exact ⟨i + 1, by omega, by go_num, M ++ [x], A2, c2', by rw [hlM], by rw [HSM.out], by omega, hM2, hide (by rw [hlM, ← pairs_append]; exact HR5.out.mono (fun k hk _ => by rcases hk with hk | hk; exact hk.1; rw [hk]; simp; omega)), hide hm5, hide hs5⟩
        case measure => simp [intOf]; omega
    · obtain rfl : i = L.length := by omega
      have he : L.take L.length = L := List.take_of_length_le (Nat.le_refl _)
      have hMe : M = keepL W L := by have := HM.out; rwa [he] at this
      subst hMe
      have hbw := HMod.out.heap HB.out (fun h => (HC.out b h).2 H1.out)
      have x2 : wr.cell? ⟨b, 2, none⟩ = some (.slice A L.length c) := by rw [cell_of_row wr _ 2 _ _ _ hbw]; rfl
      have x3 : wr.cell? ⟨b, 3, none⟩ = some (.int .i64 (wsum L)) := by rw [cell_of_row wr _ 3 _ _ _ hbw]; rfl
      have f2 := frozen_of_row wr b 2 _ _ hbw
      have f3 := frozen_of_row wr b 3 _ _ hbw
      have HBw := hide hbw
      have hgone : ((L.length : Int) - ((keepL W L).length : Int)) = ((L.length - (keepL W L).length : Nat) : Int) := by omega
      have hwg : IntKind.i64.wrap ((L.length - (keepL W L).length : Nat) : Int) = ((L.length - (keepL W L).length : Nat) : Int) := by rw [IntKind.wrap_i64]; omega
      clear he hbw
      go_wp2
      go_ret
      have b4 := heap_setCell_same _ b 2 _ 82 (.slice A' (keepL W L).length c') HBw.out
      have b5 := heap_setCell_same _ b 3 _ 82 (.int .i64 (wsum (keepL W L))) b4
      have r5 := (HRow.out.farE (p := ⟨b, 2, none⟩) HBw.out (by decide) (.slice A' (keepL W L).length c')).farE (p := ⟨b, 3, none⟩) b4 (by decide) (.int .i64 (wsum (keepL W L)))
      have hmF : Mod F wr ((wr.setCell ⟨b, 2, none⟩ (.slice A' (keepL W L).length c')).setCell ⟨b, 3, none⟩ (.int .i64 (wsum (keepL W L)))) := ((Mod.refl F wr).setCell (p := ⟨b, 2, none⟩) (fun _ => H1.out) _).setCell (p := ⟨b, 3, none⟩) (fun _ => H1.out) _
      have hm : Mod (fun k => F k ∨ C k) w ((wr.setCell ⟨b, 2, none⟩ (.slice A' (keepL W L).length c')).setCell ⟨b, 3, none⟩ (.int .i64 (wsum (keepL W L)))) :=
        (HMod.out.mono (fun _ _ h => .inr h)).trans hmF (fun _ _ h => .inl h)
      have hwl := wsum_keep W (L := L) H4.out L.length
      rw [List.take_of_length_le (Nat.le_refl _)] at hwl
      refine ⟨rfl, HS.out _ _ _ HSi.out (hmF.mono (fun _ _ h => .inl h)), ⟨Wide.old H1.out, Wide.lt HH.out.lt hm.size, h3, fun y hy => H4.out y (List.mem_filter.1 hy).1, by omega, by have := keepL_le W L; omega, A', c', by simpa using b5, r5.mono (fun k hk hlk => .inr ⟨hk, hlk⟩)⟩, hm⟩
end Go.Proofs.YtipbaffhlekpfaaDoor
