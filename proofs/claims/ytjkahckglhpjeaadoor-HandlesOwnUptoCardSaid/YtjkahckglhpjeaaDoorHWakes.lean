import Derived.Test.YtjkahckglhpjeaaDoorHOn
import Derived.Test.YtjkahckglhpjeaaDoorErrs
import Derived.Laws.StructEq
/- One handles object above a world; the document's example. -/
namespace Go.Proofs.YtjkahckglhpjeaaDoor
open Go Go.RowKit Go.Cu Go.Proofs.YtjkahckglhpjeaaDoor.errs

structure H1 (w0 w : World) (c m1 m2 g : Nat) (L : List HE) : Prop where
  hs : HS w c m1 m2 g L
  low : ∀ k, InH c m1 m2 k → w0.heap.size ≤ k
  below : Below w0.heap.size w0 w
section
variable {w0 w w' : World} {c m1 m2 g g' : Nat} {L L' : List HE}
theorem H1.past (h : H1 w0 w c m1 m2 g L) (hb : Below w.heap.size w w') : H1 w0 w' c m1 m2 g L := ⟨h.hs.past hb, h.low, h.below.trans (hb.mono h.below.size)⟩
theorem H1.turn (h : H1 w0 w c m1 m2 g L) (hs : HS w' c m1 m2 g' L') (hm : Mod (InH c m1 m2) w w') : H1 w0 w' c m1 m2 g' L' := ⟨hs, h.low, h.below.trans (hm.below h.below.size h.low)⟩
theorem H1.made (hb : Below w0.heap.size w0 w) (hs : HS w' c m1 m2 g L) (h1 : w.heap.size ≤ c) (h2 : w.heap.size ≤ m1) (h3 : w.heap.size ≤ m2) (hb2 : Below w.heap.size w w') : H1 w0 w' c m1 m2 g L :=
  ⟨hs, by have := hb.size; rintro k (rfl | rfl | rfl) <;> omega, hb.trans (hb2.mono hb.size)⟩
end
/-- w', some draws on -/
def Drawn (w w' : World) : Prop := ∃ n, w' = w.drewN n
theorem Drawn.below {w w' : World} (h : Drawn w w') : Below w.heap.size w w' := by
  obtain ⟨n, rfl⟩ := h
  exact below_drewN w n
theorem reads_pos {w : World} {v : Value} {n : Nat} {xs : List Value} (h : Reads w 1 v n xs) (hn : 0 < n) : ∃ ad c, v = .slice (some ad) n c ∧ ∀ i u, xs[i]? = some u → w.cell? (ad.add i) = some u := by
  obtain ⟨h1, A, c, rfl, h2, h3⟩ := h
  rcases h3 with h3 | ⟨ad, rfl, h4⟩
  · omega
  · exact ⟨ad, c, rfl, h4⟩
set_option maxRecDepth 10000 in
set_option maxHeartbeats 1000000 in
theorem same_any (w : World) (u v : Value) (n m : Nat) (hnm : n = m) (L : List Int) (hu : Reads w 1 u n (ints L)) (hv : Reads w 1 v m (ints L)) :
    Calls Tryd.prog 21 #[u, v] w fun e w' => e = .returned (.bool true) ∧ Below w.heap.size w w' := by
  subst hnm
  have hn := maxLen_lt hu.size
  have hL : L.length = n := by have := hu.1; rw [ints_length] at this; omega
  rcases Nat.eq_zero_or_pos n with rfl | hpos
  · obtain ⟨A, c, rfl⟩ := hu.shape
    obtain ⟨B, d, rfl⟩ := hv.shape
    clear hu hv hL
    go_enter Tryd.func21, Tryd.ntmps21
    go_wp2
    refine wp_loop_rounds 1 ?_
    rw [rounds_succ]
    go_wp2
    go_ret
    exact ⟨rfl, Below.refl _ _⟩
  · obtain ⟨a, c, rfl, ha⟩ := reads_pos hu hpos
    obtain ⟨b, d, rfl, hb⟩ := reads_pos hv hpos
    have HL := hide hL
    have HA := hide ha
    have HB := hide hb
    clear hu hv hL ha hb
    go_enter Tryd.func21, Tryd.ntmps21
    go_wp2
    go_loopw [5] (fun t wr => ∃ i : Nat, i ≤ n ∧ t = .int .i64 i ∧ Hid (Drawn w wr)) (fun t _ => n - (intOf t).toNat)
    case atStart => exact ⟨0, Nat.zero_le _, rfl, hide ⟨0, rfl⟩⟩
    case round =>
      obtain ⟨i, hi, rfl, hdr⟩ := hrel
      obtain ⟨q, hq⟩ := hdr.out
      by_cases hlt : i < n
      · obtain ⟨x, hx⟩ : ∃ x, L[i]? = some x := ⟨_, List.getElem?_eq_getElem (by have := HL.out; omega)⟩
        have h1 : wr.cell? (a.add i) = some (.int .i64 x) := by rw [hq]; exact HA.out i _ (ints_get hx)
        have h2 : wr.cell? (b.add i) = some (.int .i64 x) := by rw [hq]; exact HB.out i _ (ints_get hx)
        have hne : (x != x) = false := by simp
        have HQ := hide hq
        clear hx hq
        go_wp2
        go_quiet (fail)
        go_wp2
        go_roundw
        case rel => exact ⟨i + 1, by omega, by go_num, ⟨_, by rw [HQ.out, World.drewN_drewN]⟩⟩
        case measure => simp [intOf]; omega
      · obtain rfl : i = n := by omega
        have HQ := hide hq
        clear hq
        go_wp2
        go_ret
        exact ⟨rfl, hdr.out.below⟩
theorem wf_pl (a b c : Int) (h1 : (Lit.int .i64 a).wf = true) (h2 : (Lit.int .i64 b).wf = true) (h3 : (Lit.int .u32 c).wf = true) : (⟨a, b, c⟩ : Pl).wf := ⟨h1, h2, h3⟩
set_option maxRecDepth 10000 in
set_option maxHeartbeats 1000000 in
theorem wakes_true (w : World) (adr : Nat → Addr) (hS : Sent w adr) : Calls Tryd.prog 8 #[] w fun e w' => e = .returned (.bool true) ∧ Below w.heap.size w w' := by
  have HS0 := hide hS
  clear hS
  go_enter Tryd.func8, Tryd.ntmps8
  go_wp2_with fail
  refine (new_any w).mono ?_
  rintro e w1 ⟨c, rfl, m1, m2, h1, l1, l2, l3, hb1⟩
  have HH1 := hide (H1.made (Below.refl _ _) h1 l1 l2 l3 hb1)
  clear h1 l1 l2 l3 hb1
  go_wp2_with fail
  refine (bind_ok w1 c m1 m2 0 [] HH1.out.hs ⟨0, 1, 1⟩ (wf_pl 0 1 1 rfl rfl rfl) (fun e he => (List.not_mem_nil he).elim) (by decide)).mono ?_
  rintro e w2 ⟨rfl, h2, hm2⟩
  have HH2 := hide (HH1.out.turn h2 hm2)
  clear h2 hm2
  go_wp2_with fail
  refine (bind_ok w2 c m1 m2 _ _ HH2.out.hs ⟨0, 1, 3⟩ (wf_pl 0 1 3 rfl rfl rfl) (fun e he => by simp at he; subst he; intro h; injection h with _ _ h; cases h) (by decide)).mono ?_
  rintro e w3 ⟨rfl, h3, hm3⟩
  have HH3 := hide (HH2.out.turn h3 hm3)
  clear h3 hm3
  have hE := hide ((HS0.out.below HH3.out.below).cell 8 (by decide) (by decide))
  go_wp2_with fail
  refine (bind_twice w3 c m1 m2 _ [] _ ⟨1, ⟨0, 1, 1⟩⟩ HH3.out.hs _ hE.out).mono ?_
  rintro e w4 ⟨rfl, hb4⟩
  have HH4 := hide (HH3.out.past hb4)
  clear hb4
  go_wp2_with fail
  refine (of_yes w4 c m1 m2 _ [⟨1, ⟨0, 1, 1⟩⟩] [] ⟨2, ⟨0, 1, 3⟩⟩ HH4.out.hs).mono ?_
  rintro e w5 ⟨rfl, hb5⟩
  have HH5 := hide (HH4.out.past hb5)
  clear hb5
  go_wp2_with fail
  refine (code_err w5 adr (HS0.out.below HH5.out.below) 8 (by decide) (by decide) (by decide)).mono ?_
  rintro e w6 ⟨rfl, rfl⟩
  go_wp2_with fail
  refine (on_any w6 c m1 m2 _ _ HH5.out.hs 0 1).mono ?_
  rintro e w7 ⟨A, n, cc, rfl, hn, hr7, hb7⟩
  have HR7 := hide hr7
  have HB7 := hide (HH5.out.below.trans (hb7.mono HH5.out.below.size))
  have hn2 : n = 2 := hn.trans rfl
  subst hn2
  clear hr7 hb7 hn
  have hrd : Reads (w7.alloc (.cells #[.int .i64 1, .int .i64 2] 3)) 1 (.slice (some ⟨w7.heap.size, 0, none⟩) 2 2) 2 (ints [1, 2]) := reads_new w7 [.int .i64 1, .int .i64 2] 3 2 2 1 rfl (by unfold maxLen; omega)
  have HRd := hide hrd
  have HR8 := hide (HR7.out.alloc (.cells #[.int .i64 1, .int .i64 2] 3)).reads
  clear hrd
  go_wp2_with fail
  refine (same_any _ _ _ 2 2 rfl [1, 2] HR8.out HRd.out).mono ?_
  rintro e w8 ⟨rfl, hb8⟩
  have HB8 := hide (HB7.out.trans (((Below.refl _ _).alloc (Nat.le_refl _) (.cells #[.int .i64 1, .int .i64 2] 3)).mono HB7.out.size))
  have HB9 := hide (HB8.out.trans (hb8.mono HB8.out.size))
  clear hb8
  go_wp2
  go_ret
  exact ⟨rfl, HB9.out⟩
end Go.Proofs.YtjkahckglhpjeaaDoor
