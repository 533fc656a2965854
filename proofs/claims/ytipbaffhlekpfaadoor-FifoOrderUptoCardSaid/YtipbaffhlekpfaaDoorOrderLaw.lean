/-
  FifoOrder (bulk of the arguments at most 1048576): for every room, weights and gets the law returns true: things come out in the order in which they went in.
-/
import Derived.Test.YtipbaffhlekpfaaDoorFifS
import Derived.Deep.CutBlock
namespace Go.Proofs.YtipbaffhlekpfaaDoor.fifoOrder
open Go Go.RowKit Go.Cu Go.Proofs.YtipbaffhlekpfaaDoor Go.Proofs.YtipbaffhlekpfaaDoor.errs

def ints (L : List Int) : List Value := L.map (Value.int .i64)
def bools (L : List Bool) : List Value := L.map Value.bool
theorem ints_length (L : List Int) : (ints L).length = L.length := by simp [ints]
theorem bools_length (L : List Bool) : (bools L).length = L.length := by simp [bools]
theorem reads_pos {w : World} {v : Value} {n : Nat} {xs : List Value} (h : Reads w 1 v n xs) (hn : 0 < n) : ∃ ad c, v = .slice (some ad) n c ∧ ∀ j u, xs[j]? = some u → w.cell? (ad.add j) = some u := by
  obtain ⟨_, A, c, rfl, _, h3⟩ := h
  rcases h3 with h3 | ⟨ad, rfl, h4⟩
  · omega
  · exact ⟨ad, c, rfl, h4⟩
theorem ints_get {L : List Int} {i : Nat} {x : Int} (h : L[i]? = some x) : (ints L)[i]? = some (.int .i64 x) := by simp [ints, h]
theorem bools_get {L : List Bool} {i : Nat} {x : Bool} (h : L[i]? = some x) : (bools L)[i]? = some (.bool x) := by simp [bools, h]

/-- What is in the queue came later than what came out, in its order, each with its weight. -/
structure Good (W : List Int) (i : Nat) (last : Int) (L : List (Int × Int)) : Prop where
  low : -1 ≤ last
  high : last < i
  each : ∀ x ∈ L, last < x.1 ∧ x.1 < i ∧ W[x.1.toNat]? = some x.2
  rise : L.Pairwise (fun x y => x.1 < y.1)
theorem Good.start (W : List Int) : Good W 0 (-1) [] := ⟨by decide, by decide, fun x hx => (by cases hx), List.Pairwise.nil⟩
theorem Good.keep {W : List Int} {i : Nat} {last : Int} {L : List (Int × Int)} (h : Good W i last L) : Good W (i + 1) last L :=
  ⟨h.low, by have := h.high; omega, fun x hx => by have := h.each x hx; exact ⟨this.1, by omega, this.2.2⟩, h.rise⟩
theorem Good.put {W : List Int} {i : Nat} {last : Int} {L : List (Int × Int)} {wt : Int} (h : Good W i last L) (hw : W[i]? = some wt) : Good W (i + 1) last (L ++ [((i : Int), wt)]) := by
  refine ⟨h.low, by have := h.high; omega, fun x hx => ?_, ?_⟩
  · rcases List.mem_append.1 hx with hx | hx
    · have := h.each x hx; exact ⟨this.1, by omega, this.2.2⟩
    · simp at hx
      subst hx
      exact ⟨h.high, by show (i : Int) < ((i + 1 : Nat) : Int); omega, by simpa using hw⟩
  · refine List.pairwise_append.2 ⟨h.rise, List.pairwise_singleton _ _, fun x hx y hy => ?_⟩
    simp at hy
    subst hy
    exact (h.each x hx).2.1
theorem Good.pop {W : List Int} {i : Nat} {last : Int} {x : Int × Int} {L : List (Int × Int)} (h : Good W i last (x :: L)) : Good W i x.1 L := by
  have hx := h.each x (by simp)
  have hr := List.pairwise_cons.1 h.rise
  have := h.low
  exact ⟨by omega, hx.2.1, fun y hy => ⟨hr.1 y hy, (h.each y (by simp [hy])).2⟩, hr.2⟩

section
variable {w : World} {F : Nat → Prop} {b : Nat} {things most : Int} {L : List (Int × Int)} {X Y : Prop}
theorem lenS (h : X ∧ Y ∧ Fifo w F b things most L) : Calls Tryd.prog 11 #[.pointer (some ⟨b, 0, none⟩)] w fun e w' => e = .returned (.int .i64 L.length) ∧ w = w' := len_any w F b things most L h.2.2
theorem weightS (h : X ∧ Y ∧ Fifo w F b things most L) : Calls Tryd.prog 12 #[.pointer (some ⟨b, 0, none⟩)] w fun e w' => e = .returned (.int .i64 (wsum L)) ∧ w = w' := weight_any w F b things most L h.2.2
end

set_option maxRecDepth 10000 in
set_option maxHeartbeats 8000000 in
theorem walk (w : World) (adr : Nat → Addr) (hS : Sent w adr) (things most : Int) (ht : -9223372036854775808 ≤ things ∧ things ≤ 9223372036854775807) (hmst : most ≤ 9223372036854775807) (wv : Value) (n : Nat) (W : List Int) (hw : Reads w 1 wv n (ints W)) (gv : Value) (m : Nat) (G : List Bool) (hg : Reads w 1 gv m (bools G)) (hn : n ≤ 1048576) :
    Calls Tryd.prog 3 #[.agg #[.int .i64 things, .int .i64 most], wv, gv] w fun e w' => e = .returned (.bool true) ∧ Below w.heap.size w w' := by
  obtain ⟨WA, wc, rfl⟩ := hw.shape
  obtain ⟨GA, gc, rfl⟩ := hg.shape
  have hWl := hw.1
  have hGl := hg.1
  rw [ints_length, Nat.mul_one] at hWl
  rw [bools_length, Nat.mul_one] at hGl
  have hm := maxLen_lt hg.size
  have hal : Below w.heap.size w (w.alloc (.cells #[.int .i64 things, .int .i64 most] 23)) := (Below.refl _ _).alloc (Nat.le_refl _) _
  obtain ⟨w0, hw0⟩ : ∃ w0, w.alloc (.cells #[.int .i64 things, .int .i64 most] 23) = w0 := ⟨_, rfl⟩
  obtain ⟨p0, hp0⟩ : ∃ p0, w.heap.size = p0 := ⟨_, rfl⟩
  have hc0 : w0.cell? ⟨p0, 0, none⟩ = some (.int .i64 things) := by rw [← hw0, ← hp0]; simp
  have hc1 : w0.cell? ⟨p0, 1, none⟩ = some (.int .i64 most) := by rw [← hw0, ← hp0]; simp
  have HAl : Hid (Below w.heap.size w w0) := by rw [← hw0]; exact hal
  have HWr : Hid (Reads w0 1 (.slice WA n wc) n (ints W)) := Reads.kept hw (fun a _ hc => (HAl.out.cell (World.block_lt_of_cell? w a hc)).trans hc)
  have HGr : Hid (Reads w0 1 (.slice GA m gc) m (bools G)) := Reads.kept hg (fun a _ hc => (HAl.out.cell (World.block_lt_of_cell? w a hc)).trans hc)
  have HS : Hid (Sent w0 adr) := hS.below HAl.out
  have HWl := hide hWl
  have HGl := hide hGl
  have HC0 := hide hc0
  have HC1 := hide hc1
  clear hw hg hWl hGl hal hS hc0 hc1
  go_enter Tryd.func3, Tryd.ntmps3
  go_wp2_with fail
  refine (wakes_true w0 adr HS.out).mono ?_
  rintro e w1 ⟨rfl, hb1⟩
  have HB1 := hide hb1
  have a0 := (hb1.cell (World.block_lt_of_cell? w0 _ HC0.out)).trans HC0.out
  have a1 := (hb1.cell (World.block_lt_of_cell? w0 _ HC1.out)).trans HC1.out
  clear hb1
  by_cases hbad : things < 0 ∨ most < 0
  · have hbad' : things < 0 ∨ (¬ things < 0 ∧ most < 0) := by omega
    have HBad := hide hbad
    clear hbad
    rcases hbad' with h1 | ⟨h1, h2⟩
    all_goals
      go_wp2_with fail
      have hE := (HS.out.below HB1.out).cell 2 (by decide) (by decide)
      refine (new_bad w1 things most HBad.out _ hE).mono ?_
      rintro e w2 ⟨rfl, hb2⟩
      have HB2 := hide (HB1.out.trans (hb2.mono HB1.out.size))
      have b0 := (hb2.cell (World.block_lt_of_cell? w1 _ a0)).trans a0
      have b1 := (hb2.cell (World.block_lt_of_cell? w1 _ a1)).trans a1
      clear hb2 hE a0 a1
      go_wp2
      go_ret
      exact ⟨rfl, HAl.out.trans (HB2.out.mono (by have := HAl.out.size; omega))⟩
  · have t1 : ¬ things < 0 := by omega
    have t2 : ¬ most < 0 := by omega
    clear hbad
    go_wp2_with fail
    refine (new_any w1 things most (by omega) (by omega) hmst).mono ?_
    rintro e w2 ⟨b, rfl, hq, hb2⟩
    have HQ := hide (Fq.made HB1.out hq hb2)
    have b0 := (hb2.cell (World.block_lt_of_cell? w1 _ a0)).trans a0
    have b1 := (hb2.cell (World.block_lt_of_cell? w1 _ a1)).trans a1
    clear hq hb2 a0 a1
    go_wp2
    go_loopw [9, 10, 11, 12, 13] (fun v9 v10 v11 v12 v13 wr => ∃ i put out : Nat, ∃ last : Int, ∃ L : List (Int × Int), i ≤ n ∧ put ≤ i ∧ put = out + L.length ∧ v13 = .int .i64 i ∧ v9 = .int .i64 put ∧ v10 = .int .i64 out ∧ v11 = .int .i64 last ∧ v12 = .int .i64 (wsum L) ∧ Hid (Good W i last L) ∧ Hid (∃ F, Fq w0 wr F b things most L)) (fun _ _ _ _ v13 _ => n - (intOf v13).toNat)
    case atStart => exact ⟨0, 0, 0, -1, [], Nat.zero_le _, Nat.le_refl _, rfl, rfl, rfl, rfl, rfl, rfl, Good.start W, _, HQ.out⟩
    case round =>
      clear HQ HB1 b0 b1
      obtain ⟨i, put, out, last, L, hi, hpi, hpo, rfl, rfl, rfl, rfl, rfl, HG, hst⟩ := hrel
      obtain ⟨F, hq⟩ := hst.out
      have HQ := hide hq
      have hfit := hq.q.fits
      have HPO := hide hpo
      clear hst hq hpo
      by_cases hlt : i < n
      · obtain ⟨wt, hwt⟩ : ∃ wt, W[i]? = some wt := ⟨_, List.getElem?_eq_getElem (by have := HWl.out; omega)⟩
        obtain ⟨ad, wc', hWA, hwcell⟩ := reads_pos HWr.out (by omega)
        injection hWA with hWA _ hwcc
        subst hWA
        subst hwcc
        have HWc := hide hwcell
        have HWt := hide hwt
        have q0 := (HQ.out.below.cell (World.block_lt_of_cell? w0 _ (HWc.out i _ (ints_get hwt)))).trans (HWc.out i _ (ints_get hwt))
        have hglow := HG.out.low
        have hghigh := HG.out.high
        have hlen : L.length ≤ 4398046511104 := by have := HPO.out; omega
        clear hwcell hwt
        go_wp2_with fail
        refine (len_any wr F b things most L HQ.out.q).mono ?_
        rintro e wz ⟨rfl, rfl⟩
        go_wp2_with fail
        refine (weight_any wr F b things most L HQ.out.q).mono ?_
        rintro e wz ⟨rfl, rfl⟩
        go_upto_region 13 with fail
        go_cut [16] from 50 to 212 (fun s16 wc => ∃ (cd : Int) (L3 : List (Int × Int)), s16 = .int .i64 cd ∧ Hid ((cd = 2 ∧ wt < 0 ∧ L3 = L) ∨ (cd = 6 ∧ ¬ wt < 0 ∧ (things ≤ (L.length : Int) ∨ most - wsum L < wt) ∧ L3 = L) ∨ (cd = 0 ∧ ¬ wt < 0 ∧ (L.length : Int) < things ∧ L3 = L ++ [((i : Int), wt)])) ∧ Hid (∃ F, Fq w0 wc F b things most L3))
        case first => as_aux_lemma =>
          by_cases hneg : wt < 0
          · have hE := (HS.out.below HQ.out.below).cell 2 (by decide) (by decide)
            go_wp2_with fail
            refine (put_neg wr b i wt hneg _ hE).mono ?_
            rintro e wz ⟨rfl, rfl⟩
            clear hE
            go_wp2_with fail
            refine (code_err wr adr (HS.out.below HQ.out.below) 2 (by decide) (by decide) (by decide)).mono ?_
            rintro e w9 ⟨rfl, rfl⟩
            have HN := hide hneg
            clear hneg
            go_wp2
            go_meet
            case rel => exact ⟨2, L, rfl, hide (.inl ⟨rfl, HN.out, rfl⟩), hide ⟨_, HQ.out⟩⟩
          · by_cases hfull : things ≤ (L.length : Int) ∨ most - wsum L < wt
            · have hE := (HS.out.below HQ.out.below).cell 6 (by decide) (by decide)
              have HFull := hide hfull
              clear hfull
              go_wp2_with fail
              refine (put_full wr F b things most L HQ.out.q i wt (by omega) HFull.out _ hE).mono ?_
              rintro e w3 ⟨rfl, hb3⟩
              have HQ3 := hide (HQ.out.past hb3)
              have HN := hide hneg
              clear hE hb3 q0 hneg
              go_wp2_with fail
              refine (code_err w3 adr (HS.out.below HQ3.out.below) 6 (by decide) (by decide) (by decide)).mono ?_
              rintro e w9 ⟨rfl, rfl⟩
              go_wp2
              go_meet
              case rel => exact ⟨6, L, rfl, hide (.inr (.inl ⟨rfl, HN.out, HFull.out, rfl⟩)), hide ⟨_, HQ3.out⟩⟩
            · have hroom : ¬ things ≤ (L.length : Int) := by omega
              have hfit2 : ¬ most - wsum L < wt := by omega
              go_wp2_with fail
              refine (put_ok wr F b things most L HQ.out.q i wt (by omega) (by omega) (by omega) hlen).mono ?_
              rintro e w3 ⟨rfl, hq, hm3⟩
              have HQ3 := hide (HQ.out.wide hq hm3)
              have HN := hide hneg
              have HR := hide hroom
              clear hq hm3 q0 hneg hroom hfit2 hfull
              go_wp2_with fail
              refine (code_nil w3).mono ?_
              rintro e w9 ⟨rfl, rfl⟩
              go_wp2
              go_meet
              case rel => exact ⟨0, L ++ [((i : Int), wt)], rfl, hide (.inr (.inr ⟨rfl, HN.out, by have := HR.out; omega, rfl⟩)), hide ⟨_, HQ3.out⟩⟩
        case rest => as_aux_lemma =>
          obtain ⟨cd, L3, rfl, HC, hst3⟩ := hcut
          obtain ⟨F3, hq3⟩ := hst3.out
          have HQ3 := hide hq3
          clear hst3 hq3 q0
          go_upto_block 2 with fail
          go_cut [9, 12] from 50 to 212 (fun s9 s12 wd => ∃ put3 : Nat, s9 = .int .i64 put3 ∧ s12 = .int .i64 (wsum L3) ∧ Hid (put3 = out + L3.length) ∧ Hid (put3 ≤ i + 1) ∧ Hid (Good W (i + 1) last L3) ∧ Hid (∃ F, Fq w0 wd F b things most L3))
          case first => as_aux_lemma =>
            have q3 := (HQ3.out.below.cell (World.block_lt_of_cell? w0 _ (HWc.out i _ (ints_get HWt.out)))).trans (HWc.out i _ (ints_get HWt.out))
            have r0 := (HQ3.out.below.cell (World.block_lt_of_cell? w0 _ HC0.out)).trans HC0.out
            have r1 := (HQ3.out.below.cell (World.block_lt_of_cell? w0 _ HC1.out)).trans HC1.out
            rcases HC.out with ⟨rfl, hneg, rfl⟩ | ⟨rfl, hneg, hfull, rfl⟩ | ⟨rfl, hneg, hroom, hL3⟩
            · clear HC
              go_wp2
              go_meet
              case rel => exact ⟨put, rfl, rfl, HPO, hide (by omega), hide HG.out.keep, _, HQ3.out⟩
            · have hwm : IntKind.i64.wrap (most - wsum L3) = most - wsum L3 := by rw [IntKind.wrap_i64]; omega
              have hcs : (decide ((L3.length : Int) < things) = false) ∨ (decide ((L3.length : Int) < things) = true ∧ decide (wt ≤ most - wsum L3) = false) := by
                by_cases hh : (L3.length : Int) < things
                · exact .inr ⟨by simpa using hh, by simp; omega⟩
                · exact .inl (by simpa using hh)
              clear HC hfull
              rcases hcs with g1 | ⟨g1, g2⟩
              all_goals
                go_upto_region 22 with fail
                have hb0 : decide (wt < 0) = false := by simp; omega
                go_quiet (fail)
                go_wp2
                go_meet
                case rel => exact ⟨put, rfl, rfl, HPO, hide (by omega), hide HG.out.keep, _, HQ3.out.past ⟨rfl, rfl, rfl, Nat.le_refl _, fun _ _ => rfl⟩⟩
            · have HG3 : Hid (Good W (i + 1) last L3) := by rw [hL3]; exact hide (HG.out.put HWt.out)
              have hll : ((L.length : Int) + 1) = (L3.length : Int) := by rw [hL3]; simp
              have hww : wsum L + wt = wsum L3 := by rw [hL3, wsum_append]
              have HL3 : Hid (L3.length = L.length + 1) := by rw [hL3]; exact hide (by simp)
              have hf3 := HQ3.out.q.fits
              have hwl3 : IntKind.i64.wrap (L3.length : Int) = (L3.length : Int) := by rw [IntKind.wrap_i64]; omega
              have hww3 : IntKind.i64.wrap (wsum L3) = wsum L3 := by rw [IntKind.wrap_i64]; omega
              clear HC hL3
              go_wp2_with fail
              refine (len_any _ F3 b things most L3 HQ3.out.q).mono ?_
              rintro e wz ⟨rfl, rfl⟩
              go_wp2_with fail
              refine (weight_any _ F3 b things most L3 HQ3.out.q).mono ?_
              rintro e wz ⟨rfl, rfl⟩
              have hput : ((put : Int) + 1) = ((put + 1 : Nat) : Int) := by omega
              obtain ⟨put3, hp3⟩ : ∃ put3, put + 1 = put3 := ⟨_, rfl⟩
              rw [hp3] at hput
              have HP3 := hide hp3
              clear hp3 q3 r0
              go_wp2
              go_meet
              case rel => exact ⟨put3, by go_num, rfl, hide (by have := HL3.out; have := HP3.out; have := HPO.out; omega), hide (by have := HP3.out; omega), HG3, _, HQ3.out⟩
          case rest => as_aux_lemma =>
            obtain ⟨put3, rfl, rfl, HPOn, HPI, HG3, hst9⟩ := hcut
            obtain ⟨F9, hq9⟩ := hst9.out
            have HQ9 := hide hq9
            clear hst9 hq9 HC HQ3
            have HPO3 : Hid (put3 = out + L3.length) := HPOn
            have hfz := HQ9.out.q.fits
            have hout : out ≤ i + 1 := by have := HPO3.out; have := HPI.out; omega
            obtain ⟨gB, hgB⟩ : ∃ gB : Bool, (decide (i < m) && (G[i]?).getD false) = gB := ⟨_, rfl⟩
            have HGB := hide hgB
            clear hgB
            go_upto_region 24 with fail
            go_cut [147] from 50 to 212 (fun s147 wd => s147 = .bool gB ∧ wd = wc)
            case first => as_aux_lemma =>
              by_cases hgm : i < m
              · obtain ⟨g, hgi⟩ : ∃ g, G[i]? = some g := ⟨_, List.getElem?_eq_getElem (by have := HGl.out; omega)⟩
                obtain ⟨gad, gc', hGA, hgcell⟩ := reads_pos HGr.out (by omega)
                injection hGA with hGA _ hgcc
                subst hGA
                subst hgcc
                have q1 := (HQ9.out.below.cell (World.block_lt_of_cell? w0 _ (hgcell i _ (bools_get hgi)))).trans (hgcell i _ (bools_get hgi))
                have hbb : gB = g := by rw [← HGB.out, hgi]; simp [hgm]
                clear hgi hgcell
                go_wp2
                go_meet
                case rel => exact ⟨by first | rfl | rw [hbb], rfl⟩
              · have hbb : gB = false := by rw [← HGB.out]; simp [hgm]
                go_wp2
                go_meet
                case rel => exact ⟨by first | rfl | rw [hbb], rfl⟩
            case rest => as_aux_lemma =>
              obtain ⟨rfl, rfl⟩ := hcut
              go_upto_if 147 with fail
              go_cut [10, 11, 12] from 50 to 212 (fun s10 s11 s12 wc => ∃ (out' : Nat) (last' : Int) (L' : List (Int × Int)), s10 = .int .i64 out' ∧ s11 = .int .i64 last' ∧ s12 = .int .i64 (wsum L') ∧ Hid (put3 = out' + L'.length) ∧ Hid (Good W (i + 1) last' L') ∧ Hid (∃ F, Fq w0 wc F b things most L'))
              case first => as_aux_lemma =>
                cases gB with
                | false =>
                  go_wp2
                  go_meet
                  case rel => exact ⟨out, last, L3, rfl, rfl, rfl, HPO3, HG3, _, HQ9.out⟩
                | true =>
                  have hLs : L3 = [] ∨ ∃ x LT, L3 = x :: LT := by
                    cases hq : L3 with
                    | nil => exact .inl rfl
                    | cons x LT => exact .inr ⟨x, LT, rfl⟩
                  rcases hLs with hLL | ⟨x, LT, hLL⟩
                  · have hl0 : L3.length = 0 := by rw [hLL]; rfl
                    have hqn := HQ9.out.q
                    rw [hLL] at hqn
                    have HQn := hide hqn
                    have hgt : ¬ out < put3 := by have := HPO3.out; omega
                    clear hLL hl0 hqn
                    go_wp2_with fail
                    refine (get_none _ F9 b things most HQn.out).mono ?_
                    rintro e wz ⟨rfl, rfl⟩
                    go_wp2
                    go_meet
                    case rel => exact ⟨out, last, L3, rfl, rfl, rfl, HPO3, HG3, _, HQ9.out⟩
                  · have hl1 : L3.length = LT.length + 1 := by rw [hLL]; rfl
                    have hqn := HQ9.out
                    have hgn := HG3.out
                    rw [hLL] at hqn hgn
                    have hx := hgn.each x (by simp)
                    obtain ⟨xv, xw⟩ := x
                    obtain ⟨j, rfl⟩ : ∃ j : Nat, xv = (j : Int) := ⟨xv.toNat, by have := hx.1; simp at this; omega⟩
                    have hgt : out < put3 := by have := HPO3.out; omega
                    have hlv : decide ((j : Int) ≤ last) = false := by have := hx.1; simp at this ⊢; omega
                    have hji : (j : Int) < ((i + 1 : Nat) : Int) := hx.2.1
                    have hlv2 : ¬ i < j := by omega
                    have hlv3 : j ≤ i := by omega
                    have hj2 : (j : Int) < (n : Int) := by omega
                    have hWj : W[j]? = some xw := by simpa using hx.2.2
                    have HPO5 : Hid (put3 = (out + 1) + LT.length) := hide (by have := HPO3.out; omega)
                    have HLL := hide hLL
                    have HQn := hide hqn
                    have HGn := hide hgn
                    clear hx hqn hgn hLL hl1
                    go_wp2_with fail
                    refine (get_some _ F9 b things most ((j : Int), xw) LT HQn.out.q).mono ?_
                    rintro e w5 ⟨rfl, hq, hm5⟩
                    have HQ5 := hide (HQn.out.step hq hm5)
                    have HG5 := hide HGn.out.pop
                    have qj := (HQ5.out.below.cell (World.block_lt_of_cell? w0 _ (HWc.out j _ (ints_get hWj)))).trans (HWc.out j _ (ints_get hWj))
                    have hwsub : wsum L3 - xw = wsum LT := by rw [HLL.out, wsum_cons]; show xw + wsum LT - xw = wsum LT; omega
                    have hwr5 : IntKind.i64.wrap (wsum LT) = wsum LT := by have := HQ5.out.q.fits; rw [IntKind.wrap_i64]; omega
                    clear hq hm5 hWj
                    go_wp2
                    go_meet
                    case rel => exact ⟨out + 1, j, LT, by go_num, rfl, rfl, HPO5, HG5, _, HQ5.out⟩
              case rest => as_aux_lemma =>
                obtain ⟨out', last', L', rfl, rfl, rfl, HPO6, HG6, hst6⟩ := hcut
                obtain ⟨F6, hq6⟩ := hst6.out
                have HQ6 := hide hq6
                have hf6 := hq6.q.fits
                have z0 := (hq6.below.cell (World.block_lt_of_cell? w0 _ HC0.out)).trans HC0.out
                have z1 := (hq6.below.cell (World.block_lt_of_cell? w0 _ HC1.out)).trans HC1.out
                clear hst6 hq6
                go_wp2_with fail
                have HQd := hide (HQ6.out.past (w' := wc.drew) ⟨rfl, rfl, rfl, Nat.le_refl _, fun _ _ => rfl⟩)
                have hS32 : wc.drew.cell? ⟨p0, 0, none⟩ = some (.int .i64 things) ∧ wc.drew.cell? ⟨p0, 1, none⟩ = some (.int .i64 most) ∧ Fifo wc.drew F6 b things most L' := ⟨z0, z1, HQd.out.q⟩
                have hsub32 : (put3 : Int) - (out' : Int) = (L'.length : Int) := by have := HPO6.out; omega
                have hwl32 : IntKind.i64.wrap (L'.length : Int) = (L'.length : Int) := by rw [IntKind.wrap_i64]; omega
                have hd32 : decide ((L'.length : Int) > things) = false := by simp; omega
                have he32 : decide (wsum L' > most) = false := by simp; omega
                go_region_held3 (fun w' => w'.cell? ⟨p0, 0, none⟩ = some (.int .i64 things) ∧ w'.cell? ⟨p0, 1, none⟩ = some (.int .i64 most) ∧ Fifo w' F6 b things most L') (first | assumption) (first
                  | (go_at_call 11; refine (lenS (by assumption)).mono ?_; rintro e wz ⟨rfl, rfl⟩)
                  | (go_at_call 12; refine (weightS (by assumption)).mono ?_; rintro e wz ⟨rfl, rfl⟩))
                clear hS32
                go_wp2
                go_roundw
                case rel => exact ⟨i + 1, put3, out', last', L', by omega, by have := HPI.out; omega, HPO6.out, by go_num, rfl, rfl, rfl, rfl, HG6.out, _, HQd.out⟩
                case measure => simp [intOf]; omega
      · obtain rfl : i = n := by omega
        go_wp2
        go_ret
        exact ⟨rfl, HAl.out.trans (HQ.out.below.mono (by have := HAl.out.size; omega))⟩
end Go.Proofs.YtipbaffhlekpfaaDoor.fifoOrder
