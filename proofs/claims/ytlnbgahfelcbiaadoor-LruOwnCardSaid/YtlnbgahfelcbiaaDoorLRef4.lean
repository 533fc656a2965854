import Derived.Test.YtlnbgahfelcbiaaDoorLRef3
/- The document's cache: Expire; two lists of keys held against one another. -/
namespace Go.Cu
open Go Go.RowKit
/-- a row of other things lives on -/
theorem Row.other {w w' : World} {F G : Nat → Prop} {e e' : TypeId} {sz n : Nat} {v : Value} {xs : List Value} (h : Row w F e sz v n xs) (hm : Mod (fun k => G k ∧ OfE w e' k) w w') (hne : e ≠ e') : Row w' F e sz v n xs :=
  (h.narrow.kept (G := fun k => G k ∧ OfE w e' k) hm (fun k hk _ hg => by
    obtain ⟨c1, h1⟩ := hk.2
    obtain ⟨c2, h2⟩ := hg.2
    rw [h1] at h2
    injection h2 with h2
    injection h2 with _ h2
    exact hne h2)).mono (fun _ hk _ => hk.1)
end Go.Cu
namespace Go.Proofs.YtlnbgahfelcbiaaDoor
open Go Go.RowKit Go.Cu

set_option maxRecDepth 10000 in
set_option maxHeartbeats 2000000 in
theorem refexpire_any (w : World) (room : Int) (A : Option Addr) (n c : Nat) (L : List LE) (hr : Reads w 4 (.slice A n c) n (rowsC L)) (hn : n ≤ 4398046511103) (now : Int) :
    Calls Tryd.prog 56 #[cvv room A n c, .int .i64 now] w fun r w' => ∃ v B m cc, r = .returned (.tuple #[v, .slice B m cc]) ∧ RefIs w room (keepT now L) v w' ∧ m = (goneT now L).length ∧ Row w' (New w) 3 1 (.slice B m cc) m (ints (keysOf (goneT now L))) := by
  obtain ⟨w1, p, hw1, hp, hal, hs1, b0, b1⟩ := boxes2 w room A n c
  have HR : Hid (Reads w1 4 (.slice A n c) n (rowsC L)) := hide (Reads.past hr hal)
  have HB0 := hide b0
  have HB1 := hide b1
  have HAl := hide hal
  have HN := hide (rows_len hr)
  obtain ⟨i0, hi0, hz0, hz1, hz2⟩ := info_parts info_int
  obtain ⟨j0, hj0, hy0, hy1, hy2⟩ := info_parts info_row
  clear hal hr b0 b1
  go_enter Tryd.func56, Tryd.ntmps56
  go_wp2
  go_loopw [6, 7, 8] (fun s g t wr => ∃ i : Nat, i ≤ n ∧ t = .int .i64 i ∧ ∃ B m cb C k cc, s = .slice B m cb ∧ g = .slice C k cc ∧ m ≤ i ∧ k ≤ i ∧ Hid (m = (keepT now (L.take i)).length) ∧ Hid (k = (goneT now (L.take i)).length) ∧
    Hid (Row wr (New w1) 105 4 (.slice B m cb) m (rowsC (keepT now (L.take i)))) ∧ Hid (Row wr (New w1) 3 1 (.slice C k cc) k (ints (keysOf (goneT now (L.take i))))) ∧ Hid (Below w1.heap.size w1 wr)) (fun _ _ t _ => n - (intOf t).toNat)
  case atStart => exact ⟨0, Nat.zero_le _, rfl, none, 0, 0, none, 0, 0, rfl, rfl, Nat.le_refl _, Nat.le_refl _, hide rfl, hide rfl, hide (Row.nil _ _ _ _), hide (Row.nil _ _ _ _), hide (Below.refl _ _)⟩
  case round =>
    obtain ⟨i, hi, rfl, B, m, cb, C, k, cc, rfl, rfl, hmi, hki, HM, HK, HRow, HGone, HB⟩ := hrel
    have hh := below_at HB.out HB0.out
    obtain ⟨c0, c1, e0, e1⟩ := box2 hh
    have hws := HB.out.size
    by_cases hlt : i < n
    · obtain ⟨x, hx⟩ : ∃ x, L[i]? = some x := ⟨_, List.getElem?_eq_getElem (by rw [HN.out]; exact hlt)⟩
      have hrr := Reads.past HR.out HB.out
      have HRr := hide hrr
      obtain ⟨ad, hA, q0, q1, q2, q3⟩ := rows_cell hrr hx
      have HT : Hid (L.take (i + 1) = L.take i ++ [x]) := hide (by rw [List.take_add_one, hx]; rfl)
      have HU := hide (rows_us hx)
      subst hA
      clear hx hh hrr q1 q2
      by_cases hold : x.un ≤ now
      · have HRow1 := hide (HGone.out.alloc (.cells #[.int .i64 x.k] 3)).narrow
        have HSt1 := hide (HRow.out.alloc (.cells #[.int .i64 x.k] 3))
        go_wp2_with (first
          | (at_builtin; refine wpList_append_row rfl _ _ 32 rfl 3 i0 (.int .i64 0) 1 8 Tryd.underlying32 hi0 hz0 hz1 hz2 rfl (by decide) rfl HRow1.out rfl (reads_one _ _ _ _) (by simp [Value.oneCell']) (by unfold maxLen; omega) (by omega) ?_
             intro B1 b1 w2 hrow1 hmod1
             have HR1 := hide hrow1
             have HS1 := hide (HSt1.out.other hmod1 (by decide))
             have HB2 := hide ((HB.out.alloc hws (.cells #[.int .i64 x.k] 3)).trans (hmod1.below (B := w1.heap.size) (by simp; omega) (fun k hk => hk.1)))
             clear hrow1 hmod1)
          | fail)
        go_roundw
        case rel =>
          refine ⟨i + 1, by omega, by go_num, B, m, cb, B1, k + 1, b1, rfl, rfl, by omega, by omega, hide ?_, hide ?_, hide ?_, hide ?_, HB2⟩
          · rw [HT.out, keepT_no _ hold]; exact HM.out
          · rw [HT.out, goneT_yes _ hold, List.length_append, ← HK.out]; rfl
          · rw [HT.out, keepT_no _ hold]; exact HS1.out
          · rw [HT.out, goneT_yes _ hold, keysOf_app, ← ints_append]
            exact HR1.out.mono (fun k hk _ => by
              rcases hk with hk | hk
              · exact hk.1
              · show w1.heap.size ≤ k
                rw [hk]; simp; omega)
        case measure => simp [intOf]; omega
      · have hyoung : now < x.un := by omega
        have HRow1 := hide (HRow.out.alloc (.cells #[.int .i64 x.k, .int .i64 x.v, .int .i64 x.wt, .int .i64 x.un] 105)).narrow
        have HGo1 := hide (HGone.out.alloc (.cells #[.int .i64 x.k, .int .i64 x.v, .int .i64 x.wt, .int .i64 x.un] 105))
        have HOne := hide (row_one x (heap_alloc_new wr (.cells #[.int .i64 x.k, .int .i64 x.v, .int .i64 x.wt, .int .i64 x.un] 105))).reads
        go_wp2_with (first
          | ((with_reducible refine at_index rfl ?_); refine wpList_atS rfl rfl _ _ 44 105 _ rfl rfl rfl (by simp) Tryd.underlying44 (by decide) size_row agg_row rfl HRr.out rfl (by omega) (by omega) (us := [.int .i64 x.k, .int .i64 x.v, .int .i64 x.wt, .int .i64 x.un]) rfl HU.out ?_; intro q)
          | (at_builtin; refine wpList_append_row rfl _ _ 44 rfl 105 j0 (.agg #[.int .i64 0, .int .i64 0, .int .i64 0, .int .i64 0]) 4 32 Tryd.underlying44 hj0 hy0 hy1 hy2 rfl (by decide) rfl HRow1.out rfl HOne.out (rowsC_one _) (by unfold maxLen; omega) (by omega) ?_
             intro B1 b1 w2 hrow1 hmod1
             have HR1 := hide hrow1
             have HG1 := hide (HGo1.out.other hmod1 (by decide))
             have HB2 := hide ((HB.out.alloc hws (.cells #[.int .i64 x.k, .int .i64 x.v, .int .i64 x.wt, .int .i64 x.un] 105)).trans (hmod1.below (B := w1.heap.size) (by simp; omega) (fun k hk => hk.1)))
             clear hrow1 hmod1)
          | fail)
        go_roundw
        case rel =>
          refine ⟨i + 1, by omega, by go_num, B1, m + 1, b1, C, k, cc, rfl, rfl, by omega, by omega, hide ?_, hide ?_, hide ?_, hide ?_, HB2⟩
          · rw [HT.out, keepT_yes _ hyoung, List.length_append, ← HM.out]; rfl
          · rw [HT.out, goneT_no _ hyoung]; exact HK.out
          · rw [HT.out, keepT_yes _ hyoung, ← rowsC_app]
            exact HR1.out.mono (fun k hk _ => by
              rcases hk with hk | hk
              · exact hk.1
              · show w1.heap.size ≤ k
                rw [hk]; simp; omega)
          · rw [HT.out, goneT_no _ hyoung]; exact HG1.out
        case measure => simp [intOf]; omega
    · obtain rfl : i = n := by omega
      have he : L.take i = L := List.take_of_length_le (by rw [HN.out]; exact Nat.le_refl _)
      rw [he] at HRow HGone HM HK
      have HH0 := hide hh
      have HH1 := hide (below_at HB.out HB1.out)
      obtain ⟨y0, y1, z0, z1⟩ := box2 HH1.out
      clear hh
      go_wp2
      have d1 : (wr.setCell ⟨p, 1, none⟩ (.slice B m cb)).heap[p + 1]? = some (.cells #[.int .i64 0, .slice none 0 0] 46 (0, 0)) := by
        rw [Below.heap_setCell _ _ _ _ (show p + 1 ≠ p by omega)]
        exact HH1.out
      have d2 := box2_set d1 (.int .i64 room) (.slice B m cb)
      obtain ⟨m0, m1, _, _⟩ := box2 d2
      have r5 := row_set2 (HRow.out.farE (p := ⟨p, 1, none⟩) HH0.out (by decide) (.slice B m cb)) d1 (by decide) (.int .i64 room) (.slice B m cb)
      have r6 := row_set2 (HGone.out.farE (p := ⟨p, 1, none⟩) HH0.out (by decide) (.slice B m cb)) d1 (by decide) (.int .i64 room) (.slice B m cb)
      have hs5 := HAl.out.size
      have hb5 : Below w.heap.size w wr := HAl.out.trans (HB.out.mono hs5)
      refine bodyPost_ret (by simp [results, Tryd.results56, go_sem, m0, m1]; rfl) rfl ?_
      have hnew : ∀ q, New w1 q → New w q := fun q hq => by
        show w.heap.size ≤ q
        have : w1.heap.size ≤ q := hq
        omega
      exact ⟨_, C, k, cc, rfl, ⟨B, m, cb, rfl, HM.out, r5.mono (fun q hq _ => hnew q hq), below_set2 (hb5.setCell (p := ⟨p, 1, none⟩) (show w.heap.size ≤ p by omega) _) (show w.heap.size ≤ p + 1 by omega) _ _⟩, HK.out, r6.mono (fun q hq _ => hnew q hq)⟩
end Go.Proofs.YtlnbgahfelcbiaaDoor
