import Derived.Test.YtjkahckglhpjeaaDoorHRef
/- The document's handles: without, On. -/
namespace Go.Proofs.YtjkahckglhpjeaaDoor
open Go Go.RowKit Go.Cu

def wo (L : List HE) (x : Int) : List HE := L.filter (fun e => decide (e.h ≠ x))
theorem wo_le (L : List HE) (x : Int) : (wo L x).length ≤ L.length := List.length_filter_le _ _
theorem wo_snoc_in {L : List HE} {x : Int} {e : HE} (h : e.h ≠ x) : wo (L ++ [e]) x = wo L x ++ [e] := by simp [wo, List.filter_append, h]
theorem wo_snoc_out {L : List HE} {x : Int} {e : HE} (h : e.h = x) : wo (L ++ [e]) x = wo L x := by simp [wo, List.filter_append, h]
theorem wo_all {L : List HE} {x : Int} (h : ∀ e ∈ L, e.h ≠ x) : wo L x = L := List.filter_eq_self.2 (fun e he => by simpa using h e he)
theorem wo_mid {a b : List HE} {e : HE} (h : (a ++ e :: b).Pairwise (fun x y => x.h ≠ y.h)) : wo (a ++ e :: b) e.h = a ++ b := by
  obtain ⟨h1, h2, _⟩ := mid_ne h
  unfold wo
  rw [List.filter_append, List.filter_cons_of_neg (by simp)]
  congr 1
  · exact List.filter_eq_self.2 (fun x hx => by simpa using h1 x hx)
  · exact List.filter_eq_self.2 (fun x hx => by simpa using fun hh => h2 x hx hh.symm)
theorem onF_snoc_in {L : List HE} {conn life : Int} {e : HE} (h : sel conn life e = true) : onF (L ++ [e]) conn life = onF L conn life ++ [e.h] := by simp [onF, List.filter_append, h]
theorem onF_snoc_out {L : List HE} {conn life : Int} {e : HE} (h : sel conn life e = false) : onF (L ++ [e]) conn life = onF L conn life := by simp [onF, List.filter_append, h]

set_option maxRecDepth 10000 in
set_option maxHeartbeats 2000000 in
theorem without_r (w : World) (A : Option Addr) (n c : Nat) (L : List HE) (hr : Reads w 4 (.slice A n c) n (prs L)) (hn : n ≤ 1048576) (x : Int) :
    Calls Tryd.prog 31 #[.slice A n c, .int .i64 x] w fun r w' => ∃ B m cc, r = .returned (.slice B m cc) ∧ m = (wo L x).length ∧ Row w' (New w) 70 4 (.slice B m cc) m (prs (wo L x)) ∧ Below w.heap.size w w' := by
  have hnl := prs_len hr
  obtain ⟨i0, hi0, hz0, hz1, hz2⟩ := info_parts info_pr
  have HR := hide hr
  have HL := hide hnl
  clear hr hnl
  go_enter Tryd.func31, Tryd.ntmps31
  go_wp2_with fail
  go_loopw [5, 6] (fun v t wr => ∃ i : Nat, i ≤ n ∧ t = .int .i64 i ∧ ∃ B m cc, v = .slice B m cc ∧ m ≤ i ∧ Hid (Row wr (New w) 70 4 (.slice B m cc) m (prs (wo (L.take i) x))) ∧ Hid (Below w.heap.size w wr)) (fun _ t _ => n - (intOf t).toNat)
  case atStart => exact ⟨0, Nat.zero_le _, rfl, none, 0, 0, rfl, Nat.le_refl _, hide (Row.nil _ _ _ _), hide (Below.refl _ _)⟩
  case round =>
    obtain ⟨i, hi, rfl, B, m, cc, rfl, hmi, HRow, HB⟩ := hrel
    by_cases hlt : i < n
    · obtain ⟨e, he, hd, ht⟩ := step_on L i (by have := HL.out; omega)
      have HRd := hide (reads_past HR.out HB.out)
      obtain ⟨ad, hA, s0, s1, s2, s3⟩ := prs_cell HRd.out he
      subst hA
      have HU := hide (flat_get prC_length he)
      have HT := hide ht
      by_cases hex : e.h = x
      · have e1 : (e.h != x) = false := by simpa using hex
        have HX := hide hex
        clear hd he hex ht s1 s2 s3
        go_wp2
        go_roundw
        case rel => exact ⟨i + 1, by omega, by go_num, B, m, cc, rfl, by omega, hide (by rw [HT.out, wo_snoc_out HX.out]; exact HRow.out), HB⟩
        case measure => simp [intOf]; omega
      · have e1 : (e.h != x) = true := by simpa using hex
        have HX := hide hex
        have hal : Below wr.heap.size wr (wr.alloc (.cells #[.int .i64 e.h, .int .i64 e.p.conn, .int .i64 e.p.life, .int .u32 e.p.id] 70)) := (Below.refl _ _).alloc (Nat.le_refl _) _
        have HB2 := hide (HB.out.trans (hal.mono HB.out.size))
        have HRow2 := hide (HRow.out.alloc (.cells #[.int .i64 e.h, .int .i64 e.p.conn, .int .i64 e.p.life, .int .u32 e.p.id] 70)).narrow
        have HOne : Hid (Reads (wr.alloc (.cells #[.int .i64 e.h, .int .i64 e.p.conn, .int .i64 e.p.life, .int .u32 e.p.id] 70)) 4 (.slice (some ⟨wr.heap.size, 0, none⟩) 1 1) 1 (prs [e])) := hide (reads_new wr (prs [e]) 70 1 1 4 rfl (by unfold maxLen; omega))
        clear hd he hex ht s1 s2 s3 hal
        go_wp2_with (first
          | ((with_reducible refine at_index rfl ?_); refine wpList_atS rfl rfl _ _ 41 70 _ rfl rfl rfl (by simp) Tryd.underlying41 (by decide) size_pr agg_pr rfl HRd.out rfl (by omega) (by omega) (us := [.int .i64 e.h, .int .i64 e.p.conn, .int .i64 e.p.life, .int .u32 e.p.id]) rfl HU.out ?_; intro zz)
          | (at_builtin; refine wpList_append_row rfl _ _ 41 rfl 70 i0 (.agg #[.int .i64 0, .int .i64 0, .int .i64 0, .int .u32 0]) 4 32 Tryd.underlying41 hi0 hz0 hz1 hz2 rfl (by decide) rfl HRow2.out rfl HOne.out (prs_one _) (by unfold maxLen; omega) (by omega) ?_
             intro B3 c3 w3 hr3 hm3
             have HB3 := hide (HB2.out.trans (hm3.below (B := w.heap.size) HB2.out.size (fun k hk => hk.1)))
             have HRow3 := hide (hr3.mono (G := New w) (fun k hk _ => hk.elim (fun h => h.1) (fun h => by rw [h]; exact HB2.out.size)))
             clear hr3 hm3)
          | fail)
        go_roundw
        case rel => exact ⟨i + 1, by omega, by go_num, B3, m + 1, c3, rfl, by omega, hide (by rw [HT.out, wo_snoc_in HX.out, ← prs_app]; exact HRow3.out), HB3⟩
        case measure => simp [intOf]; omega
    · obtain rfl : i = n := by omega
      have HRo := HRow
      rw [List.take_of_length_le (by have := HL.out; omega)] at HRo
      have hml : m = (wo L x).length := by
        have := HRo.out.1
        rw [prs_length] at this
        omega
      have HMl := hide hml
      clear hml
      go_wp2
      go_ret
      exact ⟨B, _, cc, rfl, HMl.out, HRo.out, HB.out⟩

set_option maxRecDepth 10000 in
set_option maxHeartbeats 2000000 in
theorem on_r (w : World) (g : Nat) (A : Option Addr) (n c : Nat) (L : List HE) (hr : Reads w 4 (.slice A n c) n (prs L)) (hn : n ≤ 1048576) (conn life : Int) :
    Calls Tryd.prog 19 #[cvv g A n c, .int .i64 conn, .int .i64 life] w fun r w' => ∃ B m cc, r = .returned (.slice B m cc) ∧ m = (onF L conn life).length ∧ Row w' (New w) 3 1 (.slice B m cc) m (ints (onF L conn life)) ∧ Below w.heap.size w w' := by
  have hnl := prs_len hr
  obtain ⟨i0, hi0, hz0, hz1, hz2⟩ := info_parts info_int
  have hal : Below w.heap.size w (w.alloc (.cells #[.int .i64 g, .slice A n c] 43)) := (Below.refl _ _).alloc (Nat.le_refl _) _
  have hb0 := heap_alloc_new w (.cells #[.int .i64 g, .slice A n c] 43)
  have HR := hide (reads_past hr hal)
  have HL := hide hnl
  clear hr hnl
  go_enter Tryd.func19, Tryd.ntmps19
  go_upto_region 1 with fail
  obtain ⟨w1, hw1⟩ : ∃ w1, w.alloc (.cells #[.int .i64 g, .slice A n c] 43) = w1 := ⟨_, rfl⟩
  obtain ⟨q, hq⟩ : ∃ q, w.heap.size = q := ⟨_, rfl⟩
  rw [hw1] at hal HR hb0
  rw [hq] at hb0
  have HAl := hide hal
  have HB0 := hide hb0
  rw [hw1, hq]
  clear hw1 hq hal hb0
  go_wp2_with fail
  go_loopw [7, 8] (fun v t wr => ∃ i : Nat, i ≤ n ∧ t = .int .i64 i ∧ ∃ B m cc, v = .slice B m cc ∧ m ≤ i ∧ Hid (Row wr (New w1) 3 1 (.slice B m cc) m (ints (onF (L.take i) conn life))) ∧ Hid (Below w1.heap.size w1 wr)) (fun _ t _ => n - (intOf t).toNat)
  case atStart => exact ⟨0, Nat.zero_le _, rfl, none, 0, 0, rfl, Nat.le_refl _, hide (Row.nil _ _ _ _), hide (Below.refl _ _)⟩
  case round =>
    obtain ⟨i, hi, rfl, B, m, cc, rfl, hmi, HRow, HB⟩ := hrel
    have HBx := hide (below_at HB.out HB0.out)
    obtain ⟨c0, c1⟩ := box2 HBx.out
    clear c0
    by_cases hlt : i < n
    · obtain ⟨e, he, hd, ht⟩ := step_on L i (by have := HL.out; omega)
      obtain ⟨ad, hA, s0, s1, s2, s3⟩ := prs_cell (reads_past HR.out HB.out) he
      subst hA
      have HT := hide ht
      by_cases hsel : sel conn life e = true
      · have hse := hsel
        unfold sel at hse
        rw [Bool.and_eq_true] at hse
        have e1 : (e.p.conn == conn) = true := by simpa using hse.1
        have e2 : (e.p.life == life) = true := by simpa using hse.2
        have HSel := hide hsel
        have hal : Below wr.heap.size wr (wr.alloc (.cells #[.int .i64 e.h] 3)) := (Below.refl _ _).alloc (Nat.le_refl _) _
        have HB2 := hide (HB.out.trans (hal.mono HB.out.size))
        have HRow2 := hide (HRow.out.alloc (.cells #[.int .i64 e.h] 3)).narrow
        have hs0 := World.block_lt_of_cell? wr _ s0
        clear hd he ht hsel hse hal s3
        go_wp2_with (first
          | (at_builtin; refine wpList_append_row rfl _ _ 36 rfl 3 i0 (.int .i64 0) 1 8 Tryd.underlying36 hi0 hz0 hz1 hz2 rfl (by decide) rfl HRow2.out rfl (reads_one _ _ _ _) (by simp [Value.oneCell']) (by unfold maxLen; omega) (by omega) ?_
             intro B3 c3 w3 hr3 hm3
             have HB3 := hide (HB2.out.trans (hm3.below (B := w1.heap.size) HB2.out.size (fun k hk => hk.1)))
             have HRow3 := hide (hr3.mono (G := New w1) (fun k hk _ => hk.elim (fun h => h.1) (fun h => by rw [h]; exact HB2.out.size)))
             clear hr3 hm3)
          | fail)
        go_roundw
        case rel => exact ⟨i + 1, by omega, by go_num, B3, m + 1, c3, rfl, by omega, hide (by rw [HT.out, onF_snoc_in HSel.out, ← ints_append]; exact HRow3.out), HB3⟩
        case measure => simp [intOf]; omega
      · have hsf : sel conn life e = false := by simpa using hsel
        have HSel := hide hsf
        have hcs : (e.p.conn == conn) = false ∨ ((e.p.conn == conn) = true ∧ (e.p.life == life) = false) := by
          unfold sel at hsf
          rw [Bool.and_eq_false_iff] at hsf
          rcases hsf with hsf | hsf
          · exact .inl (by simpa using hsf)
          · by_cases h1 : e.p.conn = conn
            · exact .inr ⟨by simpa using h1, by simpa using hsf⟩
            · exact .inl (by simpa using h1)
        clear hd he ht hsel hsf s3
        rcases hcs with e1 | ⟨e1, e2⟩
        all_goals
          go_wp2
          go_roundw
          case rel => exact ⟨i + 1, by omega, by go_num, B, m, cc, rfl, by omega, hide (by rw [HT.out, onF_snoc_out HSel.out]; exact HRow.out), HB⟩
          case measure => simp [intOf]; omega
    · obtain rfl : i = n := by omega
      have HRo := HRow
      rw [List.take_of_length_le (by have := HL.out; omega)] at HRo
      have hml : m = (onF L conn life).length := by
        have := HRo.out.1
        rw [ints_length] at this
        omega
      have HMl := hide hml
      clear hml
      go_wp2
      go_ret
      exact ⟨B, _, cc, rfl, HMl.out, HRo.out.mono (fun k hk _ => Nat.le_trans HAl.out.size hk), HAl.out.trans (HB.out.mono HAl.out.size)⟩
end Go.Proofs.YtjkahckglhpjeaaDoor
