import Derived.Test.YtcalamofccdldaaDoorRFix
import Derived.Test.YtcalamofccdldaaDoorFlowW
/- The document's rings: their functions. -/
namespace Go.Cu
open Go Go.RowKit
section
variable {P : Program} {ops : Array Oper} {o : Oper} {a : Act} {w : World} {K : Act → World → Prop} {Q : Exit → Act → World → Prop} {E : Prop}
/-- append to a row of the call's own, as one step of a region that draws its order (after the kit's step_append_grows). -/
theorem step_append_row (hg : o.guard = none) (s x : Operand) (t : TypeId) (hop : o.op = .call { callee := .builtin .append, args := #[s, x], argTypes := #[t, t] })
    (e : TypeId) (i : TypeInfo) (z : Value) (sz bytes : Nat) (ht : P.underlying t = some (.slice e)) (hi : P.info? e = some i) (hz : i.zero = some z)
    (hsize : i.size = sz) (hby : i.bytes = bytes) (hzs : z.cells.size = sz) (hsz : 0 < sz)
    {F : Nat → Prop} {v : Value} {n : Nat} {xs : List Value} (hs : a.eval s = v) (h : Row w F e sz v n xs) {xv : Value} {m : Nat} {news : List Value} (hxv : a.eval x = xv) (hx : Reads w sz xv m news) (h1 : ∀ u ∈ news, u.oneCell' = true)
    (h63 : n + m ≤ maxLen) (hbytes : (n + m) * bytes ≤ 140737488355328)
    (hK : ∀ A' c' w', Row w' (fun k => F k ∨ k = w.heap.size) e sz (.slice A' (n + m) c') (n + m) (xs ++ news) → Mod F w w' → K (a.put o.dst (.slice A' (n + m) c')) w') :
    if Region.wanted o (yielded ops a.tmps) = true then Oper.wp P o a w K Q else E := by
  have hw : Region.wanted o (yielded ops a.tmps) = true := by simp [Region.wanted, hg]
  rw [if_pos hw]
  obtain ⟨v', w', hr, h2, h3⟩ := run_append_row (P := P) w t o.type e i z sz bytes ht hi hz hsize hby hzs hsz h hx h1 h63 hbytes
  obtain ⟨A', c', rfl, _⟩ := h2.shape
  unfold Oper.wp
  simp [execOp, hop, resolve, invoke, builtin, hs, hxv, hr, Result.andThen]
  exact hK A' c' w' h2 h3
end
/-- an empty literal -/
theorem Row.empty (w : World) (F : Nat → Prop) (e : TypeId) (sz : Nat) (A : Option Addr) : Row w F e sz (.slice A 0 0) 0 [] :=
  ⟨by simp, A, 0, rfl, Nat.le_refl _, Nat.zero_le _, .inl rfl⟩
end Go.Cu

namespace Go.Proofs.YtcalamofccdldaaDoor.ref
open Go Go.RowKit Go.Cu Go.Proofs.YtcalamofccdldaaDoor

theorem info_i : (Tryd.prog.info? 3).map (fun i => (i.zero, i.size, i.bytes)) = some (some (.int .i64 0), 1, 8) := by kernel_rfl

/-- Free -/
theorem free_any (w : World) (cap n : Nat) (A : Option Addr) (c : Nat) (h1 : n ≤ cap) (h2 : cap ≤ 2147483647) (fr : Nat) (hf : cap - n = fr) :
    Calls Tryd.prog 54 #[.agg #[.int .i64 cap, .slice A n c]] w fun e w' => e = .returned (.int .i64 fr) ∧ Below w.heap.size w w' := by
  have hsub : (cap : Int) - (n : Int) = (fr : Int) := by omega
  have hwr : IntKind.i64.wrap (fr : Int) = (fr : Int) := by rw [IntKind.wrap_i64]; omega
  go_enter Tryd.func54, Tryd.ntmps54
  go_wp2
  go_ret
  exact ⟨rfl, (Below.refl _ _).alloc (Nat.le_refl _) _⟩

/-- count -/
theorem count_any (w : World) (cap : Int) (n : Nat) (A : Option Addr) (c : Nat) (m : Int) (k : Nat) (hk : min m.toNat n = k) :
    Calls Tryd.prog 55 #[.agg #[.int .i64 cap, .slice A n c], .int .i64 m] w fun e w' => e = .returned (.int .i64 k) ∧ Below w.heap.size w w' := by
  have hcs : (m < 0 ∧ k = 0) ∨ (¬ m < 0 ∧ ¬ (n : Int) < m ∧ m = k) ∨ (¬ m < 0 ∧ (n : Int) < m ∧ n = k) := by omega
  clear hk
  rcases hcs with ⟨g1, g2⟩ | ⟨g1, g2, g3⟩ | ⟨g1, g2, g3⟩
  · subst g2
    go_enter Tryd.func55, Tryd.ntmps55
    go_wp2
    go_ret
    exact ⟨rfl, (Below.refl _ _).alloc (Nat.le_refl _) _⟩
  · subst g3
    go_enter Tryd.func55, Tryd.ntmps55
    go_wp2
    go_ret
    exact ⟨rfl, (Below.refl _ _).alloc (Nat.le_refl _) _⟩
  · subst g3
    go_enter Tryd.func55, Tryd.ntmps55
    go_wp2
    go_ret
    exact ⟨rfl, (Below.refl _ _).alloc (Nat.le_refl _) _⟩

/-- At -/
theorem at_in (w : World) (cap : Int) (n : Nat) (A : Option Addr) (c : Nat) (L : List Int) (hr : Reads w 1 (.slice A n c) n (ints L)) (i : Nat) (x : Int) (hx : L[i]? = some x) :
    Calls Tryd.prog 53 #[.agg #[.int .i64 cap, .slice A n c], .int .i64 i] w fun e w' => e = .returned (.tuple #[.int .i64 x, .bool true]) ∧ Below w.heap.size w w' := by
  have hl := hr.1
  rw [ints_length, Nat.mul_one] at hl
  have hil := (List.getElem?_eq_some_iff.1 hx).1
  have hX := hide (ints_get hx)
  have hmx := maxLen_lt hr.size
  have hb := (Below.refl w.heap.size w).alloc (Nat.le_refl _) (.cells #[.int .i64 cap, .slice A n c] 58)
  have HR := hide (Reads.below hr hb)
  clear hr hx
  go_enter Tryd.func53, Tryd.ntmps53
  go_wp2_with ((with_reducible refine at_index rfl ?_); refine wpList_at1 rfl rfl _ _ 38 3 _ rfl rfl rfl (by simp) Tryd.underlying38 RI.size_e (fun w => by kernel_rfl) rfl HR.out rfl (by omega) (by omega) hX.out ?_; intro q)
  go_ret2
  exact ⟨rfl, hb⟩
theorem at_out (w : World) (cap : Int) (n : Nat) (A : Option Addr) (c : Nat) (i : Int) (hi : i < 0 ∨ (n : Int) ≤ i) :
    Calls Tryd.prog 53 #[.agg #[.int .i64 cap, .slice A n c], .int .i64 i] w fun e w' => e = .returned (.tuple #[.int .i64 0, .bool false]) ∧ Below w.heap.size w w' := by
  have hi' : i < 0 ∨ (¬ i < 0 ∧ (n : Int) ≤ i) := by omega
  clear hi
  rcases hi' with h1 | ⟨h1, h2⟩
  all_goals
    go_enter Tryd.func53, Tryd.ntmps53
    go_wp2
    go_ret2
    exact ⟨rfl, (Below.refl _ _).alloc (Nat.le_refl _) _⟩

/-- New -/
theorem new_any (w : World) (n : Nat) (hn : n ≤ 2147483647) :
    Calls Tryd.prog 52 #[.int .i64 n] w fun e w' => e = .returned (.tuple #[.agg #[.int .i64 n, .slice none 0 0], .int .i64 0]) ∧ Below w.heap.size w w' := by
  go_enter Tryd.func52, Tryd.ntmps52
  go_wp2
  go_returns
  exact ⟨rfl, (Below.refl _ _).alloc (Nat.le_refl _) _⟩

set_option maxRecDepth 10000 in
set_option maxHeartbeats 1000000 in
/-- Drop -/
theorem drop_any (w : World) (cap : Int) (n : Nat) (A : Option Addr) (c : Nat) (M : List Int) (hr : Reads w 1 (.slice A n c) n (ints M)) (hnc : n ≤ c) (m : Int) (k : Nat) (hk : min m.toNat n = k) (hs : n ≤ 2147483647) :
    Calls Tryd.prog 36 #[.agg #[.int .i64 cap, .slice A n c], .int .i64 m] w fun e w' => ∃ A' c', e = .returned (.tuple #[.agg #[.int .i64 cap, .slice A' (n - k) c'], .int .i64 k]) ∧ Row w' (RI.New w) 3 1 (.slice A' (n - k) c') (n - k) (ints (M.drop k)) ∧ Below w.heap.size w w' := by
  have hkn : k ≤ n := by omega
  have HR := hide hr
  have HK := hide hk
  clear hr hk
  obtain ⟨i0, hi0, hz0, hz1, hz2⟩ := info_parts info_i
  go_enter Tryd.func36, Tryd.ntmps36
  go_wp2_with fail
  refine (count_any _ cap n A c m k HK.out).mono ?_
  rintro e w2 ⟨rfl, hb2⟩
  have hsz : ((w.alloc (.cells #[.int .i64 cap, .slice A n c] 58)).alloc (.cells #[.int .i64 0, .slice none 0 0] 58)).heap.size = w.heap.size + 2 := by simp
  have hbox : w2.heap[w.heap.size]? = some (.cells #[.int .i64 cap, .slice A n c] 58 (0, 0)) := by
    rw [hb2.block _ (by rw [hsz]; omega), Below.heap_alloc _ _ _ (by simp)]
    exact heap_alloc_new w _
  have hres : w2.heap[w.heap.size + 1]? = some (.cells #[.int .i64 0, .slice none 0 0] 58 (0, 0)) := by
    rw [hb2.block _ (by rw [hsz]; omega)]
    have := heap_alloc_new (w.alloc (.cells #[.int .i64 cap, .slice A n c] 58)) (.cells #[.int .i64 0, .slice none 0 0] 58)
    simpa using this
  have HB2 : Hid (Below w.heap.size w w2) := (((Below.refl w.heap.size w).alloc (Nat.le_refl _) _).alloc (by simp) _).trans (hb2.mono (by rw [hsz]; omega))
  have hs2 : w.heap.size + 2 ≤ w2.heap.size := by have := hb2.size; rw [hsz] at this; exact this
  have HR2 := hide ((Reads.below HR.out (HB2.out.trans ((Below.refl w.heap.size w2).alloc HB2.out.size (.cells #[] 3)))).cut hnc hkn (Nat.le_refl n))
  have b0 : (w2.alloc (.cells #[] 3)).heap[w.heap.size]? = some (.cells #[.int .i64 cap, .slice A n c] 58 (0, 0)) := by rw [Below.heap_alloc _ _ _ (by omega)]; exact hbox
  have c1 : (w2.alloc (.cells #[] 3)).cell? ⟨w.heap.size, 1, none⟩ = some (.slice A n c) := by rw [cell_of_row _ _ 1 _ _ _ b0]; rfl
  have hML : M.length = n := by have := HR.out.1; rw [ints_length] at this; omega
  have HR3 : Hid (Reads (w2.alloc (.cells #[] 3)) 1 (cutV A c k n 1) (n - k) (ints (M.drop k))) := by
    have h1 := HR2.out
    rw [Nat.mul_one, Nat.mul_one, ints_drop, ints_take, List.take_of_length_le (by rw [List.length_drop]; omega)] at h1
    exact h1
  go_wp2_with (first
    | ((with_reducible refine at_slice rfl ?_); refine wpList_cut_lo rfl _ _ 38 3 rfl Tryd.underlying38 RI.size_e rfl rfl rfl (by omega) ?_)
    | (at_builtin; refine wpList_append_row rfl _ _ 38 rfl 3 i0 (.int .i64 0) 1 8 Tryd.underlying38 hi0 hz0 hz1 hz2 rfl (by decide) rfl (Row.empty _ (fun _ => False) 3 1 _) rfl HR3.out (ints_one _) (by unfold maxLen; omega) (by omega) ?_
       intro A' c' w4 hr4 hm4
       rw [Nat.zero_add, List.nil_append] at hr4
       rw [Nat.zero_add]
       have hb4 := hm4.heap b0 (fun h => h)
       have hr4' := hm4.heap (b := w.heap.size + 1) (by rw [Below.heap_alloc _ _ _ (by omega)]; exact hres) (fun h => h)
       have HR4 := hide hr4
       have HM4 := hide hm4
       have HB4 := hide hb4
       have HE4 := hide hr4'
       have d0 : w4.cell? ⟨w.heap.size, 0, none⟩ = some (.int .i64 cap) := by rw [cell_of_row _ _ 0 _ _ _ hb4]; rfl
       have d1 : w4.cell? ⟨w.heap.size, 1, none⟩ = some (.slice A n c) := by rw [cell_of_row _ _ 1 _ _ _ hb4]; rfl
       have e0 : w4.cell? ⟨w.heap.size + 1, 0, none⟩ = some (.int .i64 0) := by rw [cell_of_row _ _ 0 _ _ _ hr4']; rfl
       have e1 : w4.cell? ⟨w.heap.size + 1, 1, none⟩ = some (.slice none 0 0) := by rw [cell_of_row _ _ 1 _ _ _ hr4']; rfl
       have f1 := frozen_of_row w4 w.heap.size 1 _ _ hb4
       have g0 := frozen_of_row w4 (w.heap.size + 1) 0 _ _ hr4'
       have g1 := frozen_of_row w4 (w.heap.size + 1) 1 _ _ hr4'
       clear hr4 hm4 hb4 hr4' c1))
  have hE1 : (w4.setCell ⟨w.heap.size, 1, none⟩ (.slice A' (n - k) c')).heap[w.heap.size + 1]? = some (.cells #[.int .i64 0, .slice none 0 0] 58 (0, 0)) := by rw [Below.heap_setCell _ _ _ _ (by simp)]; exact HE4.out
  have hE3 := heap_setCell_same _ (w.heap.size + 1) 1 _ 58 (.slice A' (n - k) c') (heap_setCell_same _ (w.heap.size + 1) 0 _ 58 (.int .i64 cap) hE1)
  have k0 := cell_of_row _ _ 0 _ _ _ hE3
  have k1 := cell_of_row _ _ 1 _ _ _ hE3
  simp at k0 k1
  refine bodyPost_ret (by simp [results, Tryd.results36, go_sem, k0, k1]; rfl) rfl ?_
  have hbel : Below w.heap.size w w4 := (HB2.out.trans ((Below.refl w.heap.size w2).alloc HB2.out.size (.cells #[] 3))).trans (HM4.out.below (by simp; omega) (fun _ h => h.elim))
  have hfar : ∀ b, b < w2.heap.size → ¬ (False ∨ b = (w2.alloc (.cells #[] 3)).heap.size) := fun b hb h => by rcases h with h | h; exact h; simp at h; omega
  refine ⟨A', c', rfl, (((HR4.out.far (p := ⟨w.heap.size, 1, none⟩) (hfar w.heap.size (by omega)) _).far (p := ⟨w.heap.size + 1, 0, none⟩) (hfar (w.heap.size + 1) (by omega)) _).far (p := ⟨w.heap.size + 1, 1, none⟩) (hfar (w.heap.size + 1) (by omega)) _).mono (fun k hk _ => ?_), ?_⟩
  · rcases hk with hk | hk
    · exact hk.elim
    · show w.heap.size ≤ k
      simp at hk
      omega
  · have hmod : Mod (fun k => w.heap.size ≤ k) w w4 := Mod.ofBelow hbel _
    exact (((hmod.setCell (p := ⟨w.heap.size, 1, none⟩) (fun _ => Nat.le_refl _) _).setCell (p := ⟨w.heap.size + 1, 0, none⟩) (fun _ => Nat.le_succ _) _).setCell (p := ⟨w.heap.size + 1, 1, none⟩) (fun _ => Nat.le_succ _) _).below (Nat.le_refl _) (fun i h => h)
end Go.Proofs.YtcalamofccdldaaDoor.ref
