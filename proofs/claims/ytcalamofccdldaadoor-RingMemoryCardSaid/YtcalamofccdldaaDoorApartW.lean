import Derived.Test.YtcalamofccdldaaDoorApart2
import Derived.Test.YtcalamofccdldaaDoorRefR
import Derived.Test.YtcalamofccdldaaDoorPut
/- apart: has each list memory of its own? -/
namespace Go.Proofs.YtcalamofccdldaaDoor
open Go Go.RowKit Go.Cu Go.Proofs.YtcalamofccdldaaDoor.RI

theorem size_int3 : (Tryd.prog.info? 3).map (·.size) = some 1 := by kernel_rfl
theorem agg_int3 (w : World) : (isAgg 3).run Tryd.prog w = .ok false w := by kernel_rfl
theorem size_list : (Tryd.prog.info? 38).map (·.size) = some 1 := by kernel_rfl
theorem agg_list (w : World) : (isAgg 38).run Tryd.prog w = .ok false w := by kernel_rfl
theorem info_list : (Tryd.prog.info? 38).map (fun i => (i.zero, i.size, i.bytes)) = some (some (.slice none 0 0), 1, 24) := by kernel_rfl
abbrev cellOf (k : Nat) : Value := .int .i64 (-100 - (k : Int))
abbrev tipOf (k : Nat) : Value := .int .i64 (1000 + (k : Int))
/-- painted: as far as list k -/
structure Pd (K0 K : List Lx) (k : Nat) : Prop where
  vs : K.map (·.v) = K0.map (·.v)
  ns : K.map (·.n) = K0.map (·.n)
  done : ∀ (q : Nat) (x : Lx), q < k → K[q]? = some x → x.xs = List.replicate x.n (cellOf q)
theorem Pd.nxt {K0 K : List Lx} {k : Nat} (h : Pd K0 K k) {x : Lx} (hx : K[k]? = some x) : Pd K0 (K.set k ⟨x.v, x.n, List.replicate x.n (cellOf k)⟩) (k + 1) := by
  have e : ∀ {β : Type} (f : Lx → β), f ⟨x.v, x.n, List.replicate x.n (cellOf k)⟩ = f x → (K.set k ⟨x.v, x.n, List.replicate x.n (cellOf k)⟩).map f = K.map f := fun f hf => by
    rw [List.map_set, hf]
    have := get_vs (f := f) hx
    obtain ⟨hj, he⟩ := List.getElem?_eq_some_iff.1 this
    conv => lhs; rw [← he]
    rw [List.set_getElem_self]
  refine ⟨(e _ rfl).trans h.vs, (e _ rfl).trans h.ns, fun q y hq hy => ?_⟩
  by_cases hqk : k = q
  · subst hqk
    rw [get_set_same hx] at hy
    injection hy with hy
    subst hy
    rfl
  · rw [get_set hqk] at hy
    exact h.done q y (by omega) hy
/-- what apart carries in its first loop -/
def P1 (w0 w : World) (kv : Value) (n : Nat) (K0 : List Lx) (F : Nat → Prop) (P0 : List Ent) (k : Nat) : Prop := ∃ K P, AP 3 38 w kv n K F P ∧ (∀ b, Foot P b ↔ Foot P0 b) ∧ Mod (Foot P0) w0 w ∧ Pd K0 K k
theorem ap_cell {w : World} {A : Option Addr} {n c : Nat} {K : List Lx} {F : Nat → Prop} (h : Row w F 38 1 (.slice A n c) n (K.map (·.v))) {i : Nat} (hi : i < n) {x : Lx} (hx : K[i]? = some x) : ∃ ad, A = some ad ∧ w.cell? (ad.add i) = some x.v := by
  obtain ⟨h1, A', c', he, _, h3⟩ := h.reads
  injection he with hA _ _
  rcases h3 with h3 | ⟨ad, hAd, h4⟩
  · omega
  · exact ⟨ad, by rw [hA, hAd], h4 i _ (get_vs hx)⟩

/-- a slice that grows behind a list -/
structure In2 (w1 w' : World) (G : Nat → Prop) (Ax : Option Addr) (cx xn : Nat) (xx : List Value) (q : Nat) (A2 : Option Addr) (c2 : Nat) : Prop where
  mod : Mod G w1 w'
  row : Row w' G 3 1 (.slice Ax xn cx) xn xx
  tip : (A2 = Ax ∧ c2 = cx ∧ ∃ zs, Row w' G 3 1 (.slice Ax (xn + q) cx) (xn + q) (xx ++ zs)) ∨ ∃ zs, Row w' (fun k => w1.heap.size ≤ k) 3 1 (.slice A2 (xn + q) c2) (xn + q) zs
/-- what apart carries in its second loop -/
def P2 (w0 w : World) (kv : Value) (n : Nat) (K : List Lx) (F : Nat → Prop) (P0 : List Ent) (gv : Value) (j : Nat) : Prop := ∃ Gs FG P, AG 3 38 w0 w kv n K F tipOf j gv j Gs FG P0 P

set_option maxRecDepth 10000 in
set_option maxHeartbeats 8000000 in
theorem apart_true (w : World) (A : Option Addr) (n c : Nat) (K0 : List Lx) (F : Nat → Prop) (P0 : List Ent) (h : AP 3 38 w (.slice A n c) n K0 F P0) (hF : ∀ k, F k → k < w.heap.size) (hn : n ≤ 1000) (hle : ∀ x ∈ K0, x.n ≤ 2147483647) :
    Calls Tryd.prog 37 #[.slice A n c] w fun r w' => r = .returned (.bool true) ∧ ∃ K P, AP 3 38 w' (.slice A n c) n K F P ∧ K.map (·.v) = K0.map (·.v) ∧ K.map (·.n) = K0.map (·.n) ∧ (∀ b, Foot P b → Foot P0 b) ∧ Mod (Foot P0) w w' := by
  obtain ⟨i0, hi0, hz0, hz1, hz2⟩ := info_parts info_list
  obtain ⟨j0, hj0, hy0, hy1, hy2⟩ := info_parts ref.info_i
  have H0 : Hid (P1 w w (.slice A n c) n K0 F P0 0) := hide ⟨K0, P0, h, fun _ => Iff.rfl, Mod.refl _ _, rfl, rfl, fun q _ hq => absurd hq (Nat.not_lt_zero _)⟩
  have HF := hide hF
  have HLe := hide hle
  clear h hF hle
  go_enter Tryd.func37, Tryd.ntmps37
  go_wp2_with fail
  go_loopw [16] (fun t wr => ∃ k : Nat, k ≤ n ∧ t = .int .i64 k ∧ Hid (P1 w wr (.slice A n c) n K0 F P0 k)) (fun t _ => n - (intOf t).toNat)
  case atStart => exact ⟨0, Nat.zero_le _, rfl, H0⟩
  case round =>
    clear H0
    obtain ⟨k, hk, rfl, hQ⟩ := hrel
    by_cases hkl : k < n
    · as_aux_lemma =>
      obtain ⟨K, P, hA, hFo, hM, hPd⟩ := hQ.out
      have hKl := hA.len
      obtain ⟨⟨xv, xn, xx⟩, hx⟩ : ∃ x, K[k]? = some x := ⟨_, List.getElem?_eq_getElem (by omega)⟩
      obtain ⟨p, hp, hv, hrow⟩ := hA.row_at hx
      obtain ⟨Ax, cx, hxv, _⟩ := hrow.shape
      have hxv : xv = .slice Ax xn cx := hxv
      subst hxv
      have hxn : xn ≤ 2147483647 := by
        have h1 := get_vs (f := fun x : Lx => x.n) hx
        rw [hPd.ns] at h1
        rw [List.getElem?_map] at h1
        cases hk0 : K0[k]? with
        | none => rw [hk0] at h1; cases h1
        | some y =>
          rw [hk0] at h1
          injection h1 with h1
          have := HLe.out y (List.mem_of_getElem? hk0)
          have h1 : y.n = xn := h1
          omega
      obtain ⟨ad, hAd, k1⟩ := ap_cell hA.row hkl hx
      have k1 : wr.cell? (ad.add k) = some (.slice Ax xn cx) := k1
      have hxl : xx.length = xn := by have := hrow.1; simpa using this
      have HX := hide hx
      have HXl := hide hxl
      have HPd := hide hPd
      have HI : Hid (∃ xs P, AP 3 38 wr (.slice A n c) n (K.set k ⟨.slice Ax xn cx, xn, xs⟩) F P ∧ (∀ b, Foot P b ↔ Foot P0 b) ∧ Mod (Foot P0) w wr ∧ ∀ q, q < 0 → xs[q]? = some (cellOf k)) := hide ⟨xx, P, by
        have e : K.set k ⟨.slice Ax xn cx, xn, xx⟩ = K := by
          obtain ⟨hj, he⟩ := List.getElem?_eq_some_iff.1 hx
          conv => lhs; rw [← he]
          rw [List.set_getElem_self]
        rw [e]; exact hA, hFo, hM, fun q hq => absurd hq (Nat.not_lt_zero _)⟩
      subst hAd
      clear hQ hA hFo hM hPd hx hp hv hrow hxl hKl
      go_wp2_with fail
      go_loopw [23] (fun t wr => ∃ i : Nat, i ≤ xn ∧ t = .int .i64 i ∧ Hid (∃ xs P, AP 3 38 wr (.slice (some ad) n c) n (K.set k ⟨.slice Ax xn cx, xn, xs⟩) F P ∧ (∀ b, Foot P b ↔ Foot P0 b) ∧ Mod (Foot P0) w wr ∧ ∀ q, q < i → xs[q]? = some (cellOf k))) (fun t _ => xn - (intOf t).toNat)
      case atStart => exact ⟨0, Nat.zero_le _, rfl, HI⟩
      case round =>
        clear HI k1
        obtain ⟨i, hi, rfl, hQ⟩ := hrel
        by_cases hil : i < xn
        · obtain ⟨xs, P2, hA, hFo, hM, hD⟩ := hQ.out
          obtain ⟨p, hp, hrow, hnext⟩ := hA.set (by decide) (get_set_same HX.out)
          have hrow : Row wr (fun b => p.F b ∧ OfE wr 3 b) 3 1 (.slice Ax xn cx) xn xs := hrow
          have HRow := hide hrow
          have HNext := hide hnext
          have HFo := hide hFo
          have HM := hide hM
          have HD := hide hD
          have HPf : Hid (∀ b, p.F b → Foot P2 b) := hide fun b hb => ⟨p, List.mem_of_getElem? hp, hb⟩
          have hxs : xs.length = xn := by have := hrow.1; simpa using this
          have HXs := hide hxs
          clear hQ hA hFo hM hD hp hrow hnext hxs
          go_wp2_with (first
            | ((with_reducible refine at_index rfl ?_); refine wpList_put1 rfl rfl _ _ _ 38 3 _ rfl rfl rfl rfl (by simp) Tryd.underlying38 size_int3 rfl HRow.out rfl (by omega) (by omega) (fun _ => rfl) rfl ?_; intro p2 w2 hr2 hm2; have HR2 := hide hr2; have HM2 := hide hm2; clear hr2 hm2)
            | fail)
          go_roundw
          case rel =>
            have h := HR2.out
            rw [Int.toNat_natCast] at h
            obtain ⟨P', hf', hA'⟩ := HNext.out _ _ h HM2.out
            refine ⟨i + 1, by omega, by go_num, hide ⟨_, P', by rw [List.set_set] at hA'; exact hA', fun b => (hf' b).trans (HFo.out b), HM.out.trans HM2.out (fun b _ hb => (HFo.out b).1 (HPf.out b hb.1)), fun q hq => ?_⟩⟩
            by_cases hqi : i = q
            · subst hqi
              rw [List.getElem?_set_self (by rw [HXs.out]; omega)]
            · rw [List.getElem?_set_ne hqi]
              exact HD.out q (by omega)
          case measure => simp [intOf]; omega
        · obtain rfl : i = xn := by omega
          have hst : Hid (P1 w wr (.slice (some ad) n c) n K0 F P0 (k + 1)) := by
            obtain ⟨xs, P2, hA, hFo, hM, hD⟩ := hQ.out
            have hxs : xs = List.replicate i (cellOf k) := by
              obtain ⟨p, hp, _, hrow⟩ := hA.row_at (get_set_same HX.out)
              have hl : xs.length = i := by have := hrow.1; simpa using this
              apply List.ext_getElem?
              intro q
              by_cases hq : q < i
              · rw [hD q hq, List.getElem?_replicate, if_pos hq]
              · rw [List.getElem?_eq_none (by omega), List.getElem?_eq_none (by simp; omega)]
            rw [hxs] at hA
            exact hide ⟨_, P2, hA, hFo, hM, HPd.out.nxt HX.out⟩
          clear hQ
          go_wp2
          go_roundw
          case rel => exact ⟨k + 1, by omega, by go_num, hst⟩
          case measure => simp [intOf]; omega
    · obtain rfl : k = n := by omega
      obtain ⟨K, P, hA, hFo, hM, hPd⟩ := hQ.out
      have HPd := hide hPd
      have HFo := hide hFo
      have HKl := hide hA.len
      have HG : Hid (P2 w wr (.slice A k c) k K F P (.slice none 0 0) 0) := hide ⟨[], _, P, hA.grow (hM.mono (fun b _ hb => (hFo b).2 hb)) HF.out tipOf⟩
      have HKn : Hid (∀ x ∈ K, x.n ≤ 2147483647) := hide fun x hx => by
        obtain ⟨q, hq⟩ := List.mem_iff_getElem?.1 hx
        have h1 := get_vs (f := fun x : Lx => x.n) hq
        rw [hPd.ns, List.getElem?_map] at h1
        cases hk0 : K0[q]? with
        | none => rw [hk0] at h1; cases h1
        | some y =>
          rw [hk0] at h1
          injection h1 with h1
          have := HLe.out y (List.mem_of_getElem? hk0)
          have h1 : y.n = x.n := h1
          omega
      clear hQ hA hFo hM hPd
      go_wp2_with fail
      go_loopw [6, 35] (fun gv t wr => ∃ j : Nat, j ≤ k ∧ t = .int .i64 j ∧ ∃ GA gc, gv = .slice GA j gc ∧ Hid (P2 w wr (.slice A k c) k K F P (.slice GA j gc) j)) (fun _ t _ => k - (intOf t).toNat)
      case atStart => exact ⟨0, Nat.zero_le _, rfl, none, 0, rfl, HG⟩
      case round =>
        clear HG
        obtain ⟨j, hj, rfl, GA, gc, rfl, hQ⟩ := hrel
        by_cases hjl : j < k
        · as_aux_lemma =>
          obtain ⟨Gs, FG, P3, hg⟩ := hQ.out
          obtain ⟨⟨xv, xn, xx⟩, hx⟩ : ∃ x, K[j]? = some x := ⟨_, List.getElem?_eq_getElem (by have := HKl.out; omega)⟩
          obtain ⟨Ax, cx, hxv⟩ := (hg.reads hx).shape
          have hxv : xv = .slice Ax xn cx := hxv
          subst hxv
          have hxn : xn ≤ 2147483647 := HKn.out _ (List.mem_of_getElem? hx)
          obtain ⟨ad, hAd, k1⟩ := ap_cell hg.row hjl hx
          have k1 : wr.cell? (ad.add j) = some (.slice Ax xn cx) := k1
          subst hAd
          obtain ⟨G, hlow, hrow, hstep⟩ := hg.spot (by decide) hx
          have hrow : Row wr G 3 1 (.slice Ax xn cx) xn xx := hrow
          have HX := hide hx
          have HLow := hide hlow
          have HStep := hide hstep
          have HI : Hid (In2 wr wr G Ax cx xn xx 0 Ax cx) := hide ⟨Mod.refl _ _, hrow, .inl ⟨rfl, rfl, [], by rw [List.append_nil, Nat.add_zero]; exact hrow⟩⟩
          have hxl : xx.length = xn := by have := hrow.1; simpa using this
          have HXl := hide hxl
          clear hQ hg hx hlow hrow hstep hxl
          obtain ⟨w1, hw1⟩ : ∃ w1, wr = w1 := ⟨_, rfl⟩
          have HI : Hid (In2 w1 wr G Ax cx xn xx 0 Ax cx) := by rw [← hw1]; exact HI
          have HLow : Hid (∀ b, G b → b < w1.heap.size) := by rw [← hw1]; exact HLow
          have HStep := HStep
          rw [hw1] at HStep
          clear hw1
          go_wp2_with fail
          go_loopw [9, 10] (fun g t wr => ∃ q : Nat, q ≤ 64 ∧ t = .int .i64 q ∧ ∃ A2 c2, g = .slice A2 (xn + q) c2 ∧ Hid (In2 w1 wr G Ax cx xn xx q A2 c2)) (fun _ t _ => 64 - (intOf t).toNat)
          case atStart => exact ⟨0, Nat.zero_le _, rfl, Ax, cx, rfl, HI⟩
          case round =>
            clear HI k1
            obtain ⟨q, hq, rfl, A2, c2, rfl, hI⟩ := hrel
            by_cases hql : q < 64
            · have HI := hide hI.out
              rcases hI.out.tip with ⟨rfl, rfl, zs, hr⟩ | ⟨zs, hr⟩
              · have HR := hide (hr.alloc (.cells #[.int .i64 (-7)] 3))
                clear hI hr
                go_wp2_with (first
                  | (at_builtin; refine wpList_append_two rfl _ _ 38 rfl 3 j0 (.int .i64 0) 1 8 Tryd.underlying38 hj0 hy0 hy1 hy2 rfl rfl HR.out rfl (reads_one _ _ _ _) (by simp [Value.oneCell']) (by unfold maxLen; omega) (by omega)
                       (fun A' c' w' => Hid (In2 w1 w' G A2 c2 xn xx (q + 1) A' c')) (fun _ w' hr hm => hide ⟨(HI.out.mod.alloc _).trans hm (fun _ _ h => h), by
                          have := hr.ahead (m := xn) (by omega)
                          rw [Nat.mul_one, List.append_assoc, List.take_append_of_le_length (by have := HXl.out; omega), List.take_of_length_le (by have := HXl.out; omega)] at this
                          exact this, .inl ⟨rfl, rfl, _, by rw [List.append_assoc] at hr; exact hr⟩⟩)
                       (fun A' c' w' hr hb => hide ⟨(HI.out.mod.alloc _).trans (Mod.ofBelow hb (fun _ => False)) (fun _ _ h => h.elim), (HI.out.row.alloc _).kept (Mod.ofBelow hb (fun _ => False)) (fun _ _ _ h => h), .inr ⟨_, hr.mono (fun b hb _ => by have := hb.1; have := HI.out.mod.size; simp at *; omega)⟩⟩) ?_
                     intro A7 c7 w7 HI7)
                  | fail)
                go_roundw
                case rel => exact ⟨q + 1, by omega, by go_num, A7, c7, rfl, HI7⟩
                case measure => simp [intOf]; omega
              · have HR := hide (hr.alloc (.cells #[.int .i64 (-7)] 3))
                clear hI hr
                go_wp2_with (first
                  | (at_builtin; refine wpList_append_row rfl _ _ 38 rfl 3 j0 (.int .i64 0) 1 8 Tryd.underlying38 hj0 hy0 hy1 hy2 rfl (by decide) rfl HR.out rfl (reads_one _ _ _ _) (by simp [Value.oneCell']) (by unfold maxLen; omega) (by omega) ?_
                     intro A7 c7 w7 hr7 hm7
                     have HI7 : Hid (In2 w1 w7 G Ax cx xn xx (q + 1) A7 c7) := hide ⟨(HI.out.mod.alloc _).trans hm7 (fun b hb hg => absurd hg (by omega)), (HI.out.row.alloc _).kept hm7 (fun b hb _ hg => by have := HLow.out b hb; omega), .inr ⟨_, hr7.mono (fun b hb _ => hb.elim id (fun e => by have := HI.out.mod.size; simp at e; omega))⟩⟩
                     clear hr7 hm7)
                  | fail)
                go_roundw
                case rel => exact ⟨q + 1, by omega, by go_num, A7, c7, rfl, HI7⟩
                case measure => simp [intOf]; omega
            · obtain rfl : q = 64 := by omega
              have HG := hide (HStep.out wr hI.out.row hI.out.mod)
              clear hI
              have hal : Below wr.heap.size wr (wr.alloc (.cells #[tipOf j] 3)) := (Below.refl _ _).alloc (Nat.le_refl _) _
              obtain ⟨G2, hrow2, hin2, hnw2⟩ := (HG.out.past hal).more (by decide) HX.out
              have HRow2 := hide hrow2
              have HIn2 := hide hin2
              have HNw2 := hide hnw2
              clear hal hrow2 hin2 hnw2
              go_wp2_with (first
                | (at_builtin; refine wpList_append_two rfl _ _ 38 rfl 3 j0 (.int .i64 0) 1 8 Tryd.underlying38 hj0 hy0 hy1 hy2 rfl rfl HRow2.out rfl (reads_one _ _ _ _) (by simp [Value.oneCell']) (by unfold maxLen; omega) (by omega)
                     (fun A' c' w' => Hid (∃ P', AG 3 38 w w' (.slice (some ad) k c) k K F tipOf (j + 1) (.slice GA j gc) j Gs FG P P' ∧ Seen P' (.slice A' (xn + 1) c', xn + 1, xx ++ [tipOf j]))) (fun _ w' hr hm => hide (HIn2.out w' hr hm)) (fun A' c' w' hr hb => hide (HNw2.out A' c' w' hr hb)) ?_
                   intro A7 c7 w7 HS7
                   obtain ⟨P7, hg7, hs7⟩ := HS7.out
                   have hal7 : Below w7.heap.size w7 (w7.alloc (.cells #[.slice A7 (xn + 1) c7] 38)) := (Below.refl _ _).alloc (Nat.le_refl _) _
                   obtain ⟨FG7, hrow7, hnext7⟩ := (hg7.past hal7).take (by decide) (y := ⟨.slice A7 (xn + 1) c7, xn + 1, xx ++ [tipOf j]⟩) hs7 HX.out rfl rfl
                   have HRow7 := hide hrow7
                   have HNext7 := hide hnext7
                   clear HS7 hg7 hs7 hal7 hrow7 hnext7)
                | (at_builtin; refine wpList_append_row rfl _ _ 66 rfl 38 i0 (.slice none 0 0) 1 24 Tryd.underlying66 hi0 hz0 hz1 hz2 rfl (by decide) rfl HRow7.out rfl (reads_one _ _ _ _) (by simp [Value.oneCell']) (by unfold maxLen; omega) (by omega) ?_
                   intro A8 c8 w8 hr8 hm8
                   have HG8 := hide (HNext7.out _ _ hr8 hm8)
                   clear hr8 hm8)
                | fail)
              go_roundw
              case rel => exact ⟨j + 1, by omega, by go_num, A8, c8, rfl, hide ⟨_, _, _, HG8.out⟩⟩
              case measure => simp [intOf]; omega
        · as_aux_lemma =>
          obtain rfl : j = k := by omega
          obtain ⟨Gs, FG, P3, hg⟩ := hQ.out
          have HG := hide hg
          have HKr := hide hg.row.reads
          have HGr := hide hg.gr.reads
          clear hQ hg
          go_wp2_with fail
          go_loop [59] (fun t => ∃ q : Nat, q ≤ j ∧ t = .int .i64 q) (fun t => j - (intOf t).toNat)
          case atStart => exact ⟨0, Nat.zero_le _, rfl⟩
          case round =>
            obtain ⟨q, hq, rfl⟩ := hrel
            by_cases hql : q < j
            · obtain ⟨⟨xv, xn, xx⟩, hx⟩ : ∃ x, K[q]? = some x := ⟨_, List.getElem?_eq_getElem (by have := HKl.out; omega)⟩
              have HRx := hide (HG.out.reads hx)
              obtain ⟨Ax, cx, hxv⟩ := HRx.out.shape
              have hxv : xv = .slice Ax xn cx := hxv
              subst hxv
              have hxn : xn ≤ 2147483647 := HKn.out _ (List.mem_of_getElem? hx)
              obtain ⟨⟨gv, gn, gx⟩, hgq⟩ : ∃ g, Gs[q]? = some g := ⟨_, List.getElem?_eq_getElem (by have := HG.out.gs; omega)⟩
              obtain ⟨hgn, hgx⟩ := HG.out.gc q _ _ hgq hx
              have hgn : gn = xn + 1 := hgn
              have hgx : gx = xx ++ [tipOf q] := hgx
              have hrg : Reads wr 1 gv gn gx := HG.out.grown hgq
              subst hgn
              subst hgx
              have hxx : xx = List.replicate xn (cellOf q) := HPd.out.done q _ hql hx
              have HVx := hide (get_vs (f := fun x : Lx => x.v) hx)
              have HVg := hide (get_vs (f := fun x : Lx => x.v) hgq)
              have HRg := hide hrg
              have HEx : ∀ p, p < xn → Hid (xx[p]? = some (cellOf q)) := fun p hp => hide (by rw [hxx, List.getElem?_replicate, if_pos hp])
              have HEg : Hid ((xx ++ [tipOf q])[xn]? = some (tipOf q)) := hide (by rw [List.getElem?_append_right (by rw [hxx]; simp), hxx]; simp)
              clear hx hgq hrg hxx
              go_wp2_with (first
                | ((with_reducible refine at_index rfl ?_); refine wpList_at1 rfl rfl _ _ 66 38 _ rfl rfl rfl (by simp) Tryd.underlying66 size_list agg_list rfl HKr.out rfl (by omega) (by omega) HVx.out ?_; intro zz)
                | fail)
              go_loop [66] (fun t => ∃ p : Nat, p ≤ xn ∧ t = .int .i64 p) (fun t => xn - (intOf t).toNat)
              case atStart => exact ⟨0, Nat.zero_le _, rfl⟩
              case round =>
                obtain ⟨p, hp, rfl⟩ := hrel
                by_cases hpl : p < xn
                · have HU := HEx p hpl
                  go_wp2_with (first
                    | ((with_reducible refine at_index rfl ?_); refine wpList_at1 rfl rfl _ _ 38 3 _ rfl rfl rfl (by simp) Tryd.underlying38 size_int3 agg_int3 rfl HRx.out rfl (by omega) (by omega) HU.out ?_; intro zz)
                    | fail)
                  go_round
                  case rel => exact ⟨p + 1, by omega, by go_num⟩
                  case measure => simp [intOf]; omega
                · obtain rfl : p = xn := by omega
                  go_wp2_with (first
                    | ((with_reducible refine at_index rfl ?_); refine wpList_at1 rfl rfl _ _ 66 38 _ rfl rfl rfl (by simp) Tryd.underlying66 size_list agg_list rfl HGr.out rfl (by omega) (by omega) HVg.out ?_; intro zz)
                    | ((with_reducible refine at_index rfl ?_); refine wpList_at1 rfl rfl _ _ 38 3 _ rfl rfl rfl (by simp) Tryd.underlying38 size_int3 agg_int3 rfl HRg.out rfl (by omega) (by omega) HEg.out ?_; intro zz)
                    | fail)
                  go_round
                  case rel => exact ⟨q + 1, by omega, by go_num⟩
                  case measure => simp [intOf]; omega
            · obtain rfl : q = j := by omega
              go_wp2
              go_ret
              obtain ⟨P9, h9, hf9⟩ := HG.out.done
              exact ⟨rfl, K, P9, h9, HPd.out.vs, HPd.out.ns, fun b hb => (HFo.out b).1 (hf9 b hb), HG.out.mod.mono (fun b _ hb => (HFo.out b).1 hb)⟩
end Go.Proofs.YtcalamofccdldaaDoor
