import Derived.Test.YtlnbgahfelcbiaaDoorLC1
import Derived.Laws.StructEq
/- rows: what Keys and Peek tell; lists of such rows. -/
namespace Go.Proofs.YtlnbgahfelcbiaaDoor
open Go Go.RowKit Go.Cu Go.Proofs.YtlnbgahfelcbiaaDoor.errs

def triC (e : LE) : List Value := [.int .i64 e.k, .int .i64 e.v, .int .i64 e.un]
theorem triC_length (e : LE) : (triC e).length = 3 := rfl
def trisC (L : List LE) : List Value := L.flatMap triC
theorem trisC_length (L : List LE) : (trisC L).length = L.length * 3 := flat_length triC_length L
theorem trisC_app (a b : List LE) : trisC a ++ trisC b = trisC (a ++ b) := by simp [trisC]
theorem trisC_zs (L : List LE) : trisC (zs L) = trisC L := by
  induction L with
  | nil => rfl
  | cons e r ih =>
    rw [zs_cons]
    unfold trisC at ih ⊢
    rw [List.flatMap_cons, List.flatMap_cons, ih]
    rfl
theorem trisC_one (L : List LE) : ∀ u ∈ trisC L, u.oneCell' = true := by
  intro u hu
  obtain ⟨e, _, hu⟩ := List.mem_flatMap.1 hu
  simp only [triC, List.mem_cons, List.not_mem_nil, or_false] at hu
  rcases hu with rfl | rfl | rfl <;> rfl
theorem size_tri : (Tryd.prog.info? 62).map (·.size) = some 3 := by kernel_rfl
theorem agg_tri (w : World) : (isAgg 62).run Tryd.prog w = .ok true w := by kernel_rfl
theorem info_tri : (Tryd.prog.info? 62).map (fun i => (i.zero, i.size, i.bytes)) = some (some (.agg #[.int .i64 0, .int .i64 0, .int .i64 0]), 3, 24) := by kernel_rfl
theorem tris_us {L : List LE} {i : Nat} {x : LE} (hx : L[i]? = some x) : ∀ (j : Nat) u, [Value.int .i64 x.k, .int .i64 x.v, .int .i64 x.un][j]? = some u → (trisC L)[i * 3 + j]? = some u := flat_get triC_length hx
theorem tris_len {w : World} {A : Option Addr} {n c : Nat} {L : List LE} (hr : Reads w 3 (.slice A n c) n (trisC L)) : L.length = n := by
  have := hr.1
  rw [trisC_length] at this
  omega
theorem tris_cell {w : World} {A : Option Addr} {n c : Nat} {L : List LE} (hr : Reads w 3 (.slice A n c) n (trisC L)) {i : Nat} {x : LE} (hx : L[i]? = some x) :
    ∃ ad, A = some ad ∧ w.cell? (ad.add (i * 3)) = some (.int .i64 x.k) ∧ w.cell? ⟨(ad.add (i * 3)).block, (ad.add (i * 3)).off + 1, none⟩ = some (.int .i64 x.v) ∧ w.cell? ⟨(ad.add (i * 3)).block, (ad.add (i * 3)).off + 2, none⟩ = some (.int .i64 x.un) := by
  have hi : i < L.length := (List.getElem?_eq_some_iff.1 hx).1
  have hg := flat_get triC_length hx
  obtain ⟨h1, A', c', he, _, h3⟩ := hr
  rw [trisC_length] at h1
  injection he with he _ _
  rcases h3 with h3 | ⟨ad, hA, h4⟩
  · omega
  · have e : ∀ k, k ≠ 0 → ad.add (i * 3 + k) = ⟨(ad.add (i * 3)).block, (ad.add (i * 3)).off + k, none⟩ := fun k hk => by
      unfold Addr.add
      by_cases h : i * 3 = 0 <;> simp [h, hk, Nat.add_assoc]
    refine ⟨ad, by rw [he, hA], h4 _ _ (hg 0 _ rfl), ?_, ?_⟩
    · rw [← e 1 (by decide)]; exact h4 _ _ (hg 1 _ rfl)
    · rw [← e 2 (by decide)]; exact h4 _ _ (hg 2 _ rfl)
theorem tri_one {w : World} {q : Nat} (e : LE) (h : w.heap[q]? = some (.cells #[.int .i64 e.k, .int .i64 e.v, .int .i64 e.un] 62 (0, 0))) : Row w (fun k => k = q) 62 3 (.slice (some ⟨q, 0, none⟩) 1 1) 1 (trisC [e]) := by
  refine ⟨rfl, _, 1, rfl, Nat.le_refl _, by unfold maxLen; omega, .inr ⟨q, 0, _, rfl, rfl, h, by simp, fun j hj => ?_⟩⟩
  rw [Nat.zero_add]
  simp [trisC, triC]

set_option maxRecDepth 10000 in
set_option maxHeartbeats 2000000 in
theorem rows_any (w : World) (c m : Nat) (room : Int) (L : List LE) (h : LCP w c m room L) (hn : L.length ≤ 5864062014804) :
    Calls Tryd.prog 24 #[ptr c] w fun r w' => ∃ A n cc, r = .returned (.tuple #[.slice A n cc, .bool true]) ∧ n = L.length ∧ Row w' (New w) 62 3 (.slice A n cc) n (trisC L) ∧ Below w.heap.size w w' := by
  have HL := hide h
  clear h
  obtain ⟨i0, hi0, hz0, hz1, hz2⟩ := info_parts info_tri
  go_enter Tryd.func24, Tryd.ntmps24
  go_wp2_with fail
  refine (keys_any w c m room L HL.out (by omega)).mono ?_
  rintro e w1 ⟨KA, kn, kc, rfl, hkn, hrow, hb1⟩
  subst hkn
  have HB1 := hide hb1
  have HK1 := hide hrow
  have hws1 := hb1.size
  clear hrow hb1
  go_wp2_with fail
  go_loopw [4, 6] (fun s t wr => ∃ i : Nat, i ≤ L.length ∧ t = .int .i64 i ∧ ∃ B cb, s = .slice B i cb ∧ Hid (Row wr (New w) 62 3 (.slice B i cb) i (trisC (L.take i))) ∧ Hid (Row wr (fun _ => True) 3 1 (.slice KA L.length kc) L.length (ints (keysOf L))) ∧ Hid (LCP wr c m room L) ∧ Hid (Below w.heap.size w wr)) (fun _ t _ => L.length - (intOf t).toNat)
  case atStart => exact ⟨0, Nat.zero_le _, rfl, none, 0, rfl, hide (Row.nil _ _ _ _), hide (HK1.out.mono (fun _ _ _ => trivial)), hide (HL.out.past HB1.out), HB1⟩
  case round =>
    obtain ⟨i, hi, rfl, B, cb, rfl, HRow, HK, HC, HB⟩ := hrel
    by_cases hlt : i < L.length
    · obtain ⟨x, he, hd, ht⟩ := step_on L i hlt
      have hx : (keysOf L)[i]? = some x.k := by
        have : L[i]? = some x := by rw [List.getElem?_eq_getElem hlt]; rw [List.drop_eq_getElem_cons hlt] at hd; injection hd with hd _; rw [hd]
        simp [keysOf, this]
      have HX := hide (ints_get hx)
      have HPk := hide (PeekR.yes (L := L) (k := x.k) (L.take i) (L.drop (i + 1)) x he rfl)
      have hwf := HC.out.wf x (by rw [he]; simp)
      have HT := hide ht
      have HKr := hide HK.out.reads
      clear he hd ht hx
      go_wp2_with (first
        | ((with_reducible refine at_index rfl ?_); refine wpList_at1 rfl rfl _ _ 32 3 _ rfl rfl rfl (by simp) Tryd.underlying32 size_int agg_int rfl HKr.out rfl (by omega) (by omega) HX.out ?_; intro zz)
        | fail)
      refine (peek_n (p := some c) (.inl ⟨rfl, HC.out⟩) hwf HPk.out).mono ?_
      rintro e w2 ⟨rfl, hb2⟩
      have HC2 := hide (HC.out.past hb2)
      have HK2 := hide (HK.out.kept (Mod.ofBelow hb2 (fun _ => False)) (fun _ _ _ h => h))
      have HKr2 := hide HK2.out.reads
      have HRow2 := hide (HRow.out.kept (Mod.ofBelow hb2 (fun _ => False)) (fun _ _ _ h => h))
      have HB2 := hide (HB.out.trans (hb2.mono HB.out.size))
      have hws2 := HB2.out.size
      have hal : Below w2.heap.size w2 (w2.alloc (.cells #[.int .i64 x.k, .int .i64 x.v, .int .i64 x.un] 62)) := (Below.refl _ _).alloc (Nat.le_refl _) _
      have HRow3 := hide (HRow2.out.alloc (.cells #[.int .i64 x.k, .int .i64 x.v, .int .i64 x.un] 62)).narrow
      have HC3 := hide (HC2.out.past hal)
      have HK3 := hide (HK2.out.alloc (.cells #[.int .i64 x.k, .int .i64 x.v, .int .i64 x.un] 62))
      have HOne := hide (tri_one x (heap_alloc_new w2 (.cells #[.int .i64 x.k, .int .i64 x.v, .int .i64 x.un] 62))).reads
      clear hb2 hal
      go_wp2_with (first
        | ((with_reducible refine at_index rfl ?_); refine wpList_at1 rfl rfl _ _ 32 3 _ rfl rfl rfl (by simp) Tryd.underlying32 size_int agg_int rfl HKr2.out rfl (by omega) (by omega) HX.out ?_; intro zz)
        | (at_builtin; refine wpList_append_row rfl _ _ 54 rfl 62 i0 (.agg #[.int .i64 0, .int .i64 0, .int .i64 0]) 3 24 Tryd.underlying54 hi0 hz0 hz1 hz2 rfl (by decide) rfl HRow3.out rfl HOne.out (trisC_one _) (by unfold maxLen; omega) (by omega) ?_
           intro B4 b4 w4 hrow4 hmod4
           have HR4 := hide hrow4
           have HC4 := hide (HC3.out.far (by decide) (by decide) hmod4)
           have HK4 := hide (HK3.out.other hmod4 (by decide))
           have HB4 := hide ((HB2.out.alloc hws2 (.cells #[.int .i64 x.k, .int .i64 x.v, .int .i64 x.un] 62)).trans (hmod4.below (B := w.heap.size) (by simp; omega) (fun k hk => hk.1)))
           clear hrow4 hmod4)
        | fail)
      go_roundw
      case rel =>
        refine ⟨i + 1, by omega, by go_num, B4, b4, rfl, hide ?_, HK4, HC4, HB4⟩
        rw [HT.out, ← trisC_app]
        exact HR4.out.mono (fun k hk _ => by
          rcases hk with hk | hk
          · exact hk.1
          · show w.heap.size ≤ k
            rw [hk]; simp; omega)
      case measure => simp [intOf]; omega
    · obtain rfl : i = L.length := by omega
      have HR := HRow
      rw [List.take_length] at HR
      go_wp2
      go_ret2
      exact ⟨B, _, cb, rfl, rfl, HR.out, HB.out⟩
/-- two lists of rows, alike -/
theorem neq_tri (w : World) (a b c : Int) : (binOp .neq 62 (.agg #[.int .i64 a, .int .i64 b, .int .i64 c]) (.agg #[.int .i64 a, .int .i64 b, .int .i64 c])).run Tryd.prog w = .ok (.bool false) w := by
  have u3 := Tryd.underlying3
  rw [run_neq_struct, show (10000 : Nat) = 9999 + 1 from rfl, run_equalIn_agg w 9999 62 _ _ (by kernel_rfl) (by kernel_rfl)]
  simp only [Program.fieldsOf, Tryd.underlying62]
  go_simp
set_option maxRecDepth 10000 in
set_option maxHeartbeats 1000000 in
theorem alike_true (w : World) (A B : Option Addr) (n m c d : Nat) (hnm : n = m) (L : List LE) (hu : Reads w 3 (.slice A n c) n (trisC L)) (hv : Reads w 3 (.slice B m d) m (trisC L)) :
    Calls Tryd.prog 30 #[.slice A n c, .slice B m d] w fun e w' => e = .returned (.bool true) ∧ Below w.heap.size w w' := by
  subst hnm
  have hn := maxLen_lt hu.size
  have hL := tris_len hu
  have HL := hide hL
  have HA := hide hu
  have HB := hide hv
  clear hu hv hL
  go_enter Tryd.func30, Tryd.ntmps30
  go_wp2
  go_loopw [5] (fun t wr => ∃ i : Nat, i ≤ n ∧ t = .int .i64 i ∧ Hid (Below w.heap.size w wr)) (fun t _ => n - (intOf t).toNat)
  case atStart => exact ⟨0, Nat.zero_le _, rfl, hide (Below.refl _ _)⟩
  case round =>
    obtain ⟨i, hi, rfl, HBl⟩ := hrel
    by_cases hlt : i < n
    · obtain ⟨x, hx⟩ : ∃ x, L[i]? = some x := ⟨_, List.getElem?_eq_getElem (by have := HL.out; omega)⟩
      obtain ⟨ad, hA, q0, q1, q2⟩ := tris_cell (Reads.past HA.out HBl.out) hx
      obtain ⟨bd, hB, p0, p1, p2⟩ := tris_cell (Reads.past HB.out HBl.out) hx
      subst hA
      subst hB
      have hne := neq_tri
      clear hx
      go_wp2
      go_quiet (fail)
      go_wp2
      go_roundw
      case rel => exact ⟨i + 1, by omega, by go_num, hide (HBl.out.trans ((below_drewN _ _).mono HBl.out.size))⟩
      case measure => simp [intOf]; omega
    · obtain rfl : i = n := by omega
      go_wp2
      go_ret
      exact ⟨rfl, HBl.out⟩
end Go.Proofs.YtlnbgahfelcbiaaDoor
