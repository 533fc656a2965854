import Derived.Test.YtccojgaahoonhaaDoorPgWait
import Derived.Test.YtccojgaahoonhaaDoorErrs
/- Same; the fixed fact. -/
namespace Go.Proofs.YtccojgaahoonhaaDoor
open Go Go.RowKit Go.Cu Go.Proofs.YtccojgaahoonhaaDoor.errs

theorem reads_pos {w : World} {v : Value} {n : Nat} {xs : List Value} (h : Reads w 1 v n xs) (hn : 0 < n) : ∃ ad c, v = .slice (some ad) n c ∧ ∀ j u, xs[j]? = some u → w.cell? (ad.add j) = some u := by
  obtain ⟨_, A, c, rfl, _, h3⟩ := h
  rcases h3 with h3 | ⟨ad, rfl, h4⟩
  · omega
  · exact ⟨ad, c, rfl, h4⟩
/-- nothing but answers has been drawn -/
def Drawn (w w' : World) : Prop := ∃ n, w' = w.drewN n
theorem Drawn.refl (w : World) : Drawn w w := ⟨0, rfl⟩
theorem Drawn.below {w w' : World} (h : Drawn w w') : Below w.heap.size w w' := by obtain ⟨n, rfl⟩ := h; exact dn_below w n
set_option maxRecDepth 10000 in
set_option maxHeartbeats 1000000 in
theorem same_true (w : World) (u v : Value) (n m : Nat) (hnm : n = m) (L : List Int) (hu : Reads w 1 u n (us L)) (hv : Reads w 1 v m (us L)) :
    Calls Tryd.prog 12 #[u, v] w fun e w' => e = .returned (.bool true) ∧ Drawn w w' := by
  subst hnm
  have hn := maxLen_lt hu.size
  have hL : L.length = n := by have := hu.1; rw [us_length] at this; omega
  rcases Nat.eq_zero_or_pos n with rfl | hpos
  · obtain ⟨A, c, rfl⟩ := hu.shape
    obtain ⟨B, d, rfl⟩ := hv.shape
    clear hu hv hL
    go_enter Tryd.func12, Tryd.ntmps12
    go_wp2
    refine wp_loop_rounds 1 ?_
    rw [rounds_succ]
    go_wp2
    go_ret
    exact ⟨rfl, Drawn.refl _⟩
  · obtain ⟨a, c, rfl, ha⟩ := reads_pos hu hpos
    obtain ⟨b, d, rfl, hb⟩ := reads_pos hv hpos
    have HL := hide hL
    have HA := hide ha
    have HB := hide hb
    clear hu hv hL ha hb
    go_enter Tryd.func12, Tryd.ntmps12
    go_wp2
    go_loopw [13] (fun t wr => ∃ i : Nat, i ≤ n ∧ t = .int .i64 i ∧ Hid (Drawn w wr)) (fun t _ => n - (intOf t).toNat)
    case atStart => exact ⟨0, Nat.zero_le _, rfl, Drawn.refl _⟩
    case round =>
      obtain ⟨i, hi, rfl, hdr⟩ := hrel
      obtain ⟨q, hq⟩ := hdr.out
      by_cases hlt : i < n
      · obtain ⟨x, hx⟩ : ∃ x, L[i]? = some x := ⟨_, List.getElem?_eq_getElem (by have := HL.out; omega)⟩
        have h1 : wr.cell? (a.add i) = some (.int .u32 x) := by rw [hq]; exact HA.out i _ (us_get hx)
        have h2 : wr.cell? (b.add i) = some (.int .u32 x) := by rw [hq]; exact HB.out i _ (us_get hx)
        have hne : (x != x) = false := by simp
        have HQ := hide hq
        clear hx hq
        go_wp2
        go_quiet (fail)
        go_wp2
        go_roundw
        case rel => exact ⟨i + 1, by omega, by go_num, ⟨_, by rw [HQ.out, World.drewN_drewN]⟩⟩
        case measure => simp [intOf]; omega
      · obtain rfl : i = n := by omega
        have HQ := hide hq
        clear hq
        go_wp2
        go_ret
        exact ⟨rfl, hdr.out⟩
theorem Reads.past' {w w' : World} {sz n : Nat} {v : Value} {xs : List Value} (h : Reads w sz v n xs) (hb : Below w.heap.size w w') : Reads w' sz v n xs := h.kept (fun a _ hc => (hb.cell (World.block_lt_of_cell? w a hc)).trans hc)
theorem built (w : World) (x : Int) : Reads (w.alloc (.cells #[.int .u32 x] 30)) 1 (.slice (some ⟨w.heap.size, 0, none⟩) 1 1) 1 (us [x]) := by
  refine ⟨rfl, _, 1, rfl, by decide, .inr ⟨_, rfl, fun j u hj => ?_⟩⟩
  cases j with
  | succ j => simp [us] at hj
  | zero =>
    simp [us] at hj
    subst hj
    rw [add_plain, cell_of_row _ w.heap.size (0 + 0) _ _ _ (heap_alloc_new w _)]
    rfl
set_option maxRecDepth 10000 in
set_option maxHeartbeats 4000000 in
theorem fixed_true (w : World) (adr : Nat → Addr) (hS : Sent w adr) : Calls Tryd.prog 7 #[] w fun e w' => e = .returned (.bool true) ∧ Below w.heap.size w w' := by
  have HS := hide hS
  clear hS
  go_enter Tryd.func7, Tryd.ntmps7
  go_wp2_with fail
  refine (new_ok w 2 (by decide) (by decide)).mono ?_
  rintro e w1 ⟨c, m, q, FT, FO, rfl, h1, hl, hb1⟩
  have H1 := hide h1
  have HL := hide hl
  have HB1 := hide hb1
  clear h1 hb1 hl
  go_wp2_with fail
  refine (ask_ok w1 H1.out (by decide) (by decide)).mono ?_
  rintro e w2 ⟨rfl, h2, hm2⟩
  have H2 := hide h2
  have HB2 := hide (HB1.out.trans (hm2.below HB1.out.size HL.out))
  clear h2 hm2
  go_wp2_with fail
  refine (ask_ok w2 H2.out (by decide) (by decide)).mono ?_
  rintro e w3 ⟨rfl, h3, hm3⟩
  have H3 := hide h3
  have HB3 := hide (HB2.out.trans (hm3.below HB2.out.size HL.out))
  clear h3 hm3
  go_wp2_with fail
  refine (ask_full w3 H3.out (by decide) _ ((HS.out.below HB3.out).cell 31 (by decide) (by decide))).mono ?_
  rintro e w4 ⟨rfl, hb4⟩
  have H4 := hide (H3.out.past hb4)
  have HB4 := hide (HB3.out.trans (hb4.mono HB3.out.size))
  clear hb4
  go_wp2_with fail
  refine (heard_ok w4 H4.out 2 (by decide) (by decide)).mono ?_
  rintro e w5 ⟨rfl, FT2, h5, hm5, hl5⟩
  have hB4 := HB4.out.size
  have HL5 : Hid (∀ k, PF c m FT2 FO k → w.heap.size ≤ k) := hide fun k hk => by
    rcases hk with rfl | rfl | hk | hk
    · exact HL.out _ (.inl rfl)
    · exact HL.out _ (.inr (.inl rfl))
    · rcases hl5 k hk with hk | hk
      · exact HL.out _ (.inr (.inr (.inl hk)))
      · omega
    · exact HL.out _ (.inr (.inr (.inr hk)))
  have H5 := hide h5
  have HB5 := hide (HB4.out.trans (hm5.below HB4.out.size HL.out))
  clear h5 hm5 hl5 hB4
  go_wp2_with fail
  refine (heard_bad w5 H5.out 2 (by decide) (by decide) _ ((HS.out.below HB5.out).cell 22 (by decide) (by decide))).mono ?_
  rintro e w6 ⟨rfl, rfl⟩
  go_wp2_with fail
  refine (asked_ok w5 H5.out (by decide) 9).mono ?_
  rintro e w7 ⟨rfl, h7, hm7⟩
  have H7 := hide h7
  have HB7 := hide (HB5.out.trans (hm7.below HB5.out.size (fun k hk => HL5.out k (.inr (.inr (.inr hk))))))
  have hB5 := HB5.out.size
  have HL7 : Hid (∀ k, PF c m FT2 (Wide FO w5 w7) k → w.heap.size ≤ k) := hide fun k hk => by
    rcases hk with rfl | rfl | hk | hk
    · exact HL.out _ (.inl rfl)
    · exact HL.out _ (.inr (.inl rfl))
    · exact HL5.out _ (.inr (.inr (.inl hk)))
    · rcases hk with hk | hk
      · exact HL5.out _ (.inr (.inr (.inr hk)))
      · omega
  clear h7 hm7 hB5
  go_wp2_with fail
  refine (replied_some w7 9 H7.out).mono ?_
  rintro e w8 ⟨rfl, h8, hm8⟩
  have H8 := hide h8
  have HB8 := hide (HB7.out.trans (hm8.below HB7.out.size (fun k hk => HL7.out k (.inr (.inr (.inr hk))))))
  clear h8 hm8
  go_wp2_with fail
  refine (code_err w8 adr (HS.out.below HB8.out) 31 (by decide) (by decide) (by decide)).mono ?_
  rintro e w8 ⟨rfl, rfl⟩
  go_wp2_with fail
  refine (code_err w8 adr (HS.out.below HB8.out) 22 (by decide) (by decide) (by decide)).mono ?_
  rintro e w8 ⟨rfl, rfl⟩
  go_wp2_with fail
  refine (waiting_any w8 H8.out).mono ?_
  rintro e w9 ⟨v, rfl, hr, _, hb9⟩
  have H9 := hide (H8.out.past hb9)
  have HB9 := hide (HB8.out.trans (hb9.mono HB8.out.size))
  have hal : Below w9.heap.size w9 (w9.alloc (.cells #[.int .u32 1] 30)) := (Below.refl _ _).alloc (Nat.le_refl _) _
  have HR := hide (Reads.past' hr.reads hal)
  have HA := hide (H9.out.past hal)
  have HBA := hide (HB9.out.trans (hal.mono HB9.out.size))
  clear hr hb9 hal
  go_wp2_with fail
  refine (same_true _ v _ 1 1 rfl [1] HR.out (built w9 1)).mono ?_
  rintro e w10 ⟨rfl, hd⟩
  have H10 := hide (HA.out.past hd.below)
  have HB10 := hide (HBA.out.trans (hd.below.mono HBA.out.size))
  clear hd
  go_wp2_with fail
  refine (answered_any w10 H10.out).mono ?_
  rintro e w11 ⟨A, d, rfl, hr, h11, hm11⟩
  have HB11 := hide (HB10.out.trans (hm11.below HB10.out.size (fun k hk => HL.out k (.inl hk))))
  have hal : Below w11.heap.size w11 (w11.alloc (.cells #[.int .u32 2] 30)) := (Below.refl _ _).alloc (Nat.le_refl _) _
  have HR := hide (Reads.past' hr.reads hal)
  have HBA := hide (HB11.out.trans (hal.mono HB11.out.size))
  clear hr h11 hm11 hal
  go_wp2_with fail
  refine (same_true _ _ _ 1 1 rfl [2] HR.out (built w11 2)).mono ?_
  rintro e w12 ⟨rfl, hd⟩
  have HB12 := hide (HBA.out.trans (hd.below.mono HBA.out.size))
  clear hd
  go_wp2
  go_ret
  exact ⟨rfl, HB12.out⟩
end Go.Proofs.YtccojgaahoonhaaDoor
