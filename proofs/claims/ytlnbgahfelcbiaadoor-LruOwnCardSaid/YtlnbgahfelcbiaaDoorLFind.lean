import Derived.Test.YtlnbgahfelcbiaaDoorLRows
import Derived.Deep.CutBlock
/- find and without, over rows. -/
namespace Go.Proofs.YtlnbgahfelcbiaaDoor
open Go Go.RowKit Go.Cu Go.Proofs.YtlnbgahfelcbiaaDoor.errs

/-- where a key stands -/
inductive PosR (L : List LE) (k : Int) : Int → Prop
  | no : (∀ e ∈ L, e.k ≠ k) → PosR L k (-1)
  | yes (a b : List LE) (e : LE) : L = a ++ e :: b → e.k = k → (∀ x ∈ a, x.k ≠ k) → PosR L k (a.length : Int)
theorem posR_ex (L : List LE) (k : Int) : ∃ i, PosR L k i := by
  rcases find_key L k with h | ⟨a, e, b, rfl, rfl, ha⟩
  · exact ⟨_, .no h⟩
  · exact ⟨_, .yes a b e rfl rfl ha⟩

set_option maxRecDepth 10000 in
set_option maxHeartbeats 1000000 in
theorem find_any (w : World) (A : Option Addr) (n c : Nat) (L : List LE) (hu : Reads w 3 (.slice A n c) n (trisC L)) (k p : Int) (hp : PosR L k p) :
    Calls Tryd.prog 25 #[.slice A n c, .int .i64 k] w fun r w' => r = .returned (.int .i64 p) ∧ Below w.heap.size w w' := by
  have hn := maxLen_lt hu.size
  have hL := tris_len hu
  have HL := hide hL
  have HA := hide hu
  clear hu hL
  cases hp with
  | no hno =>
    have HNo := hide hno
    clear hno
    go_enter Tryd.func25, Tryd.ntmps25
    go_wp2
    go_loopw [5] (fun t wr => ∃ i : Nat, i ≤ n ∧ t = .int .i64 i ∧ Hid (Below w.heap.size w wr)) (fun t _ => n - (intOf t).toNat)
    case atStart => exact ⟨0, Nat.zero_le _, rfl, hide (Below.refl _ _)⟩
    case round =>
      obtain ⟨i, hi, rfl, HBl⟩ := hrel
      by_cases hlt : i < n
      · obtain ⟨x, hx⟩ : ∃ x, L[i]? = some x := ⟨_, List.getElem?_eq_getElem (by have := HL.out; omega)⟩
        have hd : decide (x.k = k) = false := decide_eq_false (HNo.out x (List.mem_of_getElem? hx))
        have hd2 : (x.k == k) = false := by simpa using hd
        obtain ⟨ad, hA, q0, q1, q2⟩ := tris_cell (Reads.past HA.out HBl.out) hx
        subst hA
        clear hx q1 q2
        go_wp2
        go_roundw
        case rel => exact ⟨i + 1, by omega, by go_num, HBl⟩
        case measure => simp [intOf]; omega
      · obtain rfl : i = n := by omega
        go_wp2
        go_ret
        exact ⟨rfl, HBl.out⟩
  | yes a b e hLe hek hna =>
    have HNo := hide hna
    have HLe := hide hLe
    subst hek
    clear hna
    have hal : a.length < n := by rw [← HL.out, HLe.out]; simp
    clear hLe
    go_enter Tryd.func25, Tryd.ntmps25
    go_wp2
    go_loopw [5] (fun t wr => ∃ i : Nat, i ≤ a.length ∧ t = .int .i64 i ∧ Hid (Below w.heap.size w wr)) (fun t _ => n - (intOf t).toNat)
    case atStart => exact ⟨0, Nat.zero_le _, rfl, hide (Below.refl _ _)⟩
    case round =>
      obtain ⟨i, hi, rfl, HBl⟩ := hrel
      have hin : i < n := by omega
      by_cases hlt : i < a.length
      · obtain ⟨x, hx0⟩ : ∃ x, a[i]? = some x := ⟨_, List.getElem?_eq_getElem hlt⟩
        have hx : L[i]? = some x := by rw [HLe.out, List.getElem?_append_left hlt]; exact hx0
        have hd : decide (x.k = e.k) = false := decide_eq_false (HNo.out x (List.mem_of_getElem? hx0))
        have hd2 : (x.k == e.k) = false := by simpa using hd
        obtain ⟨ad, hA, q0, q1, q2⟩ := tris_cell (Reads.past HA.out HBl.out) hx
        subst hA
        clear hx hx0 q1 q2
        go_wp2
        go_roundw
        case rel => exact ⟨i + 1, by omega, by go_num, HBl⟩
        case measure => simp [intOf]; omega
      · obtain rfl : i = a.length := by omega
        have hx : L[a.length]? = some e := by rw [HLe.out]; simp
        obtain ⟨ad, hA, q0, q1, q2⟩ := tris_cell (Reads.past HA.out HBl.out) hx
        subst hA
        clear hx q1 q2
        go_wp2
        go_ret
        exact ⟨rfl, HBl.out⟩

theorem without_take (L : List LE) (k : Int) (i : Nat) (x : LE) (h : L.take (i + 1) = L.take i ++ [x]) : without (L.take (i + 1)) k = without (L.take i) k ++ (if x.k = k then [] else [x]) := by
  rw [h]
  unfold without
  rw [List.filter_append]
  by_cases hx : x.k = k <;> simp [hx]

set_option maxRecDepth 10000 in
set_option maxHeartbeats 2000000 in
theorem without_any (w : World) (A : Option Addr) (n c : Nat) (L : List LE) (hu : Reads w 3 (.slice A n c) n (trisC L)) (hn2 : n ≤ 5864062014804) (k : Int) :
    Calls Tryd.prog 28 #[.slice A n c, .int .i64 k] w fun r w' => ∃ B m cc, r = .returned (.slice B m cc) ∧ m = (without L k).length ∧ Row w' (New w) 62 3 (.slice B m cc) m (trisC (without L k)) ∧ Below w.heap.size w w' := by
  have hL := tris_len hu
  have HL := hide hL
  have HA := hide hu
  obtain ⟨i0, hi0, hz0, hz1, hz2⟩ := info_parts info_tri
  clear hu hL
  go_enter Tryd.func28, Tryd.ntmps28
  go_wp2
  go_loopw [5, 6] (fun s t wr => ∃ i : Nat, i ≤ n ∧ t = .int .i64 i ∧ ∃ B m cb, s = .slice B m cb ∧ m ≤ i ∧ Hid (m = (without (L.take i) k).length) ∧ Hid (Row wr (New w) 62 3 (.slice B m cb) m (trisC (without (L.take i) k))) ∧ Hid (Below w.heap.size w wr)) (fun _ t _ => n - (intOf t).toNat)
  case atStart => exact ⟨0, Nat.zero_le _, rfl, none, 0, 0, rfl, Nat.le_refl _, hide (by simp [without]), hide (by simp only [List.take_zero]; exact Row.nil _ _ _ _), hide (Below.refl _ _)⟩
  case round =>
    obtain ⟨i, hi, rfl, B, m, cb, rfl, hmi, HM, HRow, HB⟩ := hrel
    by_cases hlt : i < n
    · obtain ⟨x, he, hd, ht⟩ := step_on L i (by have := HL.out; omega)
      have hx : L[i]? = some x := by rw [List.getElem?_eq_getElem (by have := HL.out; omega)]; rw [List.drop_eq_getElem_cons (by have := HL.out; omega)] at hd; injection hd with hd _; rw [hd]
      have HW := hide (without_take L k i x ht)
      have HRd := hide (Reads.past HA.out HB.out)
      obtain ⟨ad, hA, q0, q1, q2⟩ := tris_cell HRd.out hx
      subst hA
      have HU := hide (tris_us hx)
      have hws := HB.out.size
      clear he hd ht hx
      by_cases hk : x.k = k
      · have hne : (x.k != k) = false := by simp [hk]
        have HW2 := hide (show without (L.take (i + 1)) k = without (L.take i) k by rw [HW.out, if_pos hk, List.append_nil])
        clear hk
        go_wp2
        go_roundw
        case rel => exact ⟨i + 1, by omega, by go_num, B, m, cb, rfl, by omega, hide (by rw [HW2.out]; exact HM.out), hide (by rw [HW2.out]; exact HRow.out), HB⟩
        case measure => simp [intOf]; omega
      · have hne : (x.k != k) = true := by simp [hk]
        have HW2 := hide (show without (L.take (i + 1)) k = without (L.take i) k ++ [x] by rw [HW.out, if_neg hk])
        have HRow3 := hide (HRow.out.alloc (.cells #[.int .i64 x.k, .int .i64 x.v, .int .i64 x.un] 62)).narrow
        have HOne := hide (tri_one x (heap_alloc_new wr (.cells #[.int .i64 x.k, .int .i64 x.v, .int .i64 x.un] 62))).reads
        clear hk q1 q2
        go_upto_region 6 with fail
        go_wp2_with (first
          | ((with_reducible refine at_index rfl ?_); refine wpList_atS rfl rfl _ _ 54 62 _ rfl rfl rfl (by simp) Tryd.underlying54 (by decide) size_tri agg_tri rfl HRd.out rfl (by omega) (by omega) (us := [.int .i64 x.k, .int .i64 x.v, .int .i64 x.un]) rfl HU.out ?_; intro zz)
          | (at_builtin; refine wpList_append_row rfl _ _ 54 rfl 62 i0 (.agg #[.int .i64 0, .int .i64 0, .int .i64 0]) 3 24 Tryd.underlying54 hi0 hz0 hz1 hz2 rfl (by decide) rfl HRow3.out rfl HOne.out (trisC_one _) (by unfold maxLen; omega) (by omega) ?_
             intro B4 b4 w4 hrow4 hmod4
             have HR4 := hide hrow4
             have HB4 := hide ((HB.out.alloc hws (.cells #[.int .i64 x.k, .int .i64 x.v, .int .i64 x.un] 62)).trans (hmod4.below (B := w.heap.size) (by simp; omega) (fun k hk => hk.1)))
             clear hrow4 hmod4)
          | fail)
        go_roundw
        case rel =>
          refine ⟨i + 1, by omega, by go_num, B4, m + 1, b4, rfl, by omega, hide (by rw [HW2.out, List.length_append, ← HM.out]; rfl), hide ?_, HB4⟩
          rw [HW2.out, ← trisC_app]
          exact HR4.out.mono (fun k hk _ => by
            rcases hk with hk | hk
            · exact hk.1
            · show w.heap.size ≤ k
              rw [hk]; simp; omega)
        case measure => simp [intOf]; omega
    · obtain rfl : i = n := by omega
      have HT := hide (show L.take i = L by rw [← HL.out, List.take_length])
      go_wp2
      go_ret
      refine ⟨B, m, cb, rfl, ?_, ?_, HB.out⟩
      · rw [← HT.out]; exact HM.out
      · have := HRow.out
        rw [HT.out] at this
        exact this
end Go.Proofs.YtlnbgahfelcbiaaDoor
