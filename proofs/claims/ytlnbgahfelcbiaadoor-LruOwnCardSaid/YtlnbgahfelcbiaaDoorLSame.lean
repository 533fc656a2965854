import Derived.Test.YtlnbgahfelcbiaaDoorLN
import Derived.Test.YtlnbgahfelcbiaaDoorErrs
/- Two lists of keys held against one another; codes; the fixed fact. -/
namespace Go.Proofs.YtlnbgahfelcbiaaDoor
open Go Go.RowKit Go.Cu Go.Proofs.YtlnbgahfelcbiaaDoor.errs

/-- nothing but answers has been drawn -/
def Drawn (w w' : World) : Prop := ∃ n, w' = w.drewN n
theorem Drawn.refl (w : World) : Drawn w w := ⟨0, rfl⟩
theorem Drawn.below {w w' : World} (h : Drawn w w') : Below w.heap.size w w' := by obtain ⟨n, rfl⟩ := h; exact below_drewN w n
theorem reads_pos {w : World} {v : Value} {n : Nat} {xs : List Value} (h : Reads w 1 v n xs) (hn : 0 < n) : ∃ ad c, v = .slice (some ad) n c ∧ ∀ j u, xs[j]? = some u → w.cell? (ad.add j) = some u := by
  obtain ⟨_, A, c, rfl, _, h3⟩ := h
  rcases h3 with h3 | ⟨ad, rfl, h4⟩
  · omega
  · exact ⟨ad, c, rfl, h4⟩
set_option maxRecDepth 10000 in
set_option maxHeartbeats 1000000 in
theorem same_true (w : World) (u v : Value) (n m : Nat) (hnm : n = m) (L : List Int) (hu : Reads w 1 u n (ints L)) (hv : Reads w 1 v m (ints L)) :
    Calls Tryd.prog 17 #[u, v] w fun e w' => e = .returned (.bool true) ∧ Below w.heap.size w w' := by
  subst hnm
  have hn := maxLen_lt hu.size
  have hL : L.length = n := by have := hu.1; rw [ints_length] at this; omega
  rcases Nat.eq_zero_or_pos n with rfl | hpos
  · obtain ⟨A, c, rfl⟩ := hu.shape
    obtain ⟨B, d, rfl⟩ := hv.shape
    clear hu hv hL
    go_enter Tryd.func17, Tryd.ntmps17
    go_wp2
    refine wp_loop_rounds 1 ?_
    rw [rounds_succ]
    go_wp2
    go_ret
    exact ⟨rfl, Below.refl _ _⟩
  · obtain ⟨a, c, rfl, ha⟩ := reads_pos hu hpos
    obtain ⟨b, d, rfl, hb⟩ := reads_pos hv hpos
    have HL := hide hL
    have HA := hide ha
    have HB := hide hb
    clear hu hv hL ha hb
    go_enter Tryd.func17, Tryd.ntmps17
    go_wp2
    go_loopw [5] (fun t wr => ∃ i : Nat, i ≤ n ∧ t = .int .i64 i ∧ Hid (Drawn w wr)) (fun t _ => n - (intOf t).toNat)
    case atStart => exact ⟨0, Nat.zero_le _, rfl, Drawn.refl _⟩
    case round =>
      obtain ⟨i, hi, rfl, hdr⟩ := hrel
      obtain ⟨q, hq⟩ := hdr.out
      by_cases hlt : i < n
      · obtain ⟨x, hx⟩ : ∃ x, L[i]? = some x := ⟨_, List.getElem?_eq_getElem (by have := HL.out; omega)⟩
        have h1 : wr.cell? (a.add i) = some (.int .i64 x) := by rw [hq]; exact HA.out i _ (ints_get hx)
        have h2 : wr.cell? (b.add i) = some (.int .i64 x) := by rw [hq]; exact HB.out i _ (ints_get hx)
        have hne : (x != x) = false := by simp
        have HQ := hide hq
        clear hx hq
        go_wp2
        go_quiet (fail)
        go_wp2
        go_roundw
        case rel => exact ⟨i + 1, by omega, by go_num, ⟨_, by rw [HQ.out, World.drewN_drewN]⟩⟩
        case measure => simp [intOf]; omega
      · obtain rfl : i = n := by omega
        have HQ := hide hq
        clear hq
        go_wp2
        go_ret
        exact ⟨rfl, hdr.out.below⟩

set_option maxRecDepth 10000 in
set_option maxHeartbeats 2000000 in
theorem awake_true (w : World) (adr : Nat → Addr) (hS : Sent w adr) : Calls Tryd.prog 11 #[] w fun e w' => e = .returned (.bool true) ∧ Below w.heap.size w w' := by
  have HS := hide hS
  clear hS
  go_enter Tryd.func11, Tryd.ntmps11
  go_wp2_with fail
  refine (new_ok w 5 (by decide) (by decide)).mono ?_
  rintro e w1 ⟨c, rfl, m, h1, hm, hc, hb1⟩
  have H1 := hide h1
  have HB1 := hide hb1
  have hml := h1.lt m (.inl rfl)
  clear h1 hb1
  go_wp2_with fail
  refine (put_ok w1 c m 5 [] H1.out (by simp) 7 70 5 9 (by decide) (by decide) (by decide)).mono ?_
  rintro e w2 ⟨b, A, n, cc, rfl, hb, hn, _, h2, hm2⟩
  have hst : stay (5 - 5) (without [] 7) = [] := by simp [without, stay, stayN]
  rw [hst] at h2 hn
  have hn0 : n = 0 := hn
  subst hn0
  have H2 := hide h2
  have hlow : ∀ k, InC c m [] k → w.heap.size ≤ k := by
    rintro k (rfl | rfl | ⟨x, hx, _⟩)
    · exact hm
    · exact hc
    · cases hx
  have HB2 := hide (HB1.out.trans (hm2.below HB1.out.size hlow))
  have hb2 : w.heap.size ≤ b := by have := HB1.out.size; omega
  clear h2 hm2 hst hn
  go_wp2_with fail
  refine (get_good w2 c m 5 [] [] ⟨b, 7, 70, 5, 9⟩ H2.out 8 (show (8 : Int) < 9 by decide)).mono ?_
  rintro e w3 ⟨rfl, h3, hm3⟩
  have H3 := hide h3
  have hlow2 : ∀ k, InC c m [⟨b, 7, 70, 5, 9⟩] k → w.heap.size ≤ k := by
    rintro k (rfl | rfl | ⟨x, hx, rfl⟩)
    · exact hm
    · exact hc
    · simp at hx; subst hx; exact hb2
  have HB3 := hide (HB2.out.trans (hm3.below HB2.out.size hlow2))
  clear h3 hm3
  have hE3 := hide ((HS.out.below HB3.out).cell 6 (by decide) (by decide))
  go_wp2_with fail
  refine (put_full w3 c m 5 _ H3.out 7 71 6 9 (by decide) (by decide) _ hE3.out).mono ?_
  rintro e w4 ⟨rfl, hb4⟩
  have HB4 := hide (HB3.out.trans (hb4.mono HB3.out.size))
  have H4 := hide (H3.out.past hb4)
  clear hb4
  go_wp2_with fail
  refine (code_err w4 adr (HS.out.below HB4.out) 6 (by decide) (by decide) (by decide)).mono ?_
  rintro e w6 ⟨rfl, rfl⟩
  go_wp2_with fail
  refine (len_any w6 c m 5 _ H4.out).mono ?_
  rintro e w7 ⟨rfl, rfl⟩
  go_wp2
  go_ret
  exact ⟨rfl, HB4.out⟩
end Go.Proofs.YtlnbgahfelcbiaaDoor
