import Derived.Test.YtipfjnjjfojdgaaDoorTLine
import Derived.Test.YtipfjnjjfojdgaaDoorTKeys
import Derived.Test.YtipfjnjjfojdgaaDoorTBStr
import Derived.Lib.ItoaLen
import Derived.Deep.Cut
/- The history's text. -/
namespace Go.Proofs.YtipfjnjjfojdgaaDoor
open Go Go.RowKit Go.Cu

def lineR (r : Rw) : List UInt8 := lineL r.k r.bs.length r.rd r.cl r.en
def textL (R : List Rw) : List UInt8 := R.flatMap lineR
/-- rows that can be told -/
def Told (R : List Rw) : Prop := ∀ r ∈ R, wfi r.k ∧ r.bs.length ≤ 1099511627776 ∧ r.rd ≤ r.bs.length
theorem wfi_nat {n : Nat} (h : n ≤ 1099511627776) : wfi (n : Int) := WalkArith.wf_i64 (by omega)
theorem lineR_len {r : Rw} (h : wfi r.k ∧ r.bs.length ≤ 1099511627776 ∧ r.rd ≤ r.bs.length) : (headL r.k r.bs.length r.rd).length ≤ 78 ∧ (lineR r).length ≤ 92 := by
  obtain ⟨h1, h2, h3⟩ := h
  have b1 := Lib.itoa_length_le r.k (bounds_i64 h1).1 (bounds_i64 h1).2
  have b2 := Lib.itoa_length_le r.bs.length (by omega) (by omega)
  have b3 := Lib.itoa_length_le r.rd (by omega) (by omega)
  have hh : (headL r.k r.bs.length r.rd).length ≤ 78 := by
    simp only [headL, List.length_append, wri, rea, List.length_cons, List.length_nil]
    omega
  refine ⟨hh, ?_⟩
  have h7 : (if r.cl then clo else []).length ≤ 7 := by split <;> simp [clo]
  have h6 : (if r.en then enl else []).length ≤ 6 := by split <;> simp [enl]
  simp only [lineR, lineL, List.length_append, List.length_cons, List.length_nil]
  omega
theorem textL_len {R : List Rw} (h : Told R) : (textL R).length ≤ 92 * R.length := by
  induction R with
  | nil => simp [textL]
  | cons r R ih =>
    have h1 := (lineR_len (h r (by simp))).2
    have h2 := ih (fun x hx => h x (by simp [hx]))
    simp only [textL, List.flatMap_cons, List.length_append, List.length_cons] at h2 ⊢
    omega
theorem textL_take {R : List Rw} {i : Nat} {r : Rw} (h : R[i]? = some r) : textL (R.take (i + 1)) = textL (R.take i) ++ lineR r := by
  rw [List.take_add_one, h]
  simp [textL]
theorem size_int : (Tryd.prog.info? 3).map (·.size) = some 1 := by kernel_rfl
theorem agg_int : ∀ w, (isAgg 3).run Tryd.prog w = .ok false w := Tryd.isAgg3
section
variable {c m : Nat} {E : List En}
/-- the loop's world -/
structure TW (w w2 : World) (b : Nat) (R : List Rw) (i : Nat) (wr : World) : Prop where
  bd : Bd w.heap.size b (Lib.byteCells (textL (R.take i))) wr
  below : Below w.heap.size w wr
  bm : BMod b w2 wr
set_option maxRecDepth 10000 in
set_option maxHeartbeats 4000000 in
theorem text_any (w : World) (h : HS w c m E) (hT : Tab w) (hE : E.length ≤ 2097152) (hTo : Told (E.map En.rw)) :
    Calls Tryd.prog 25 #[ptr c] w fun r w' => r = .returned (.string ⟨(textL (E.map En.rw)).toArray⟩) ∧ Below w.heap.size w w' := by
  have hfr := Lib.fresh_isBuilder 82 5 w
  have hal : Below w.heap.size w (w.alloc (.cells #[.pointer none, .slice none 0 0] 82)) := (Below.refl _ _).alloc (Nat.le_refl _) _
  obtain ⟨b, hb⟩ : ∃ b, b = w.heap.size := ⟨_, rfl⟩
  obtain ⟨w1, hw1⟩ : ∃ w1, w1 = w.alloc (.cells #[.pointer none, .slice none 0 0] 82) := ⟨_, rfl⟩
  rw [← hw1] at hfr hal
  have hfr2 : Bd w.heap.size b [] w1 := by rw [hb]; exact hfr
  have HH := hide h
  have HT := hide hT
  have HTo := hide hTo
  have HFr := hide hfr2
  have HA := hide hal
  clear h hT hTo hfr hfr2 hal
  go_enter Tryd.func25, Tryd.ntmps25
  go_upto_region 2 with fail
  rw [← hw1, ← hb]
  clear hw1
  have HBeq := hide hb
  clear hb
  go_wp2_with fail
  refine (keys_any w1 (HH.out.past HA.out) (by omega)).mono ?_
  rintro r w2 ⟨A, cc, rfl, hrow, hb2⟩
  rw [List.length_map] at hrow
  rw [List.length_map]
  have HRow := hide hrow
  have HB2 := hide hb2
  have HTW : Hid (TW w w2 b (E.map En.rw) 0 w2) := hide ⟨HFr.out.past hb2, HA.out.trans (hb2.mono HA.out.size), Mod.refl _ _⟩
  clear hrow hb2
  go_wp2_with fail
  go_loopw [13] (fun s wr => ∃ i : Nat, i ≤ E.length ∧ s = .int .i64 i ∧ Hid (TW w w2 b (E.map En.rw) i wr)) (fun s _ => E.length - (intOf s).toNat)
  case atStart => exact ⟨0, Nat.zero_le _, rfl, HTW⟩
  case round =>
    obtain ⟨i, hi, rfl, HI⟩ := hrel
    by_cases hlt : i < E.length
    · obtain ⟨e, he⟩ : ∃ e, E[i]? = some e := ⟨_, List.getElem?_eq_getElem hlt⟩
      have hem : e ∈ E := List.mem_of_getElem? he
      have hg := get_of En.k HH.out.srt hem
      have hR : (E.map En.rw)[i]? = some e.rw := by rw [List.getElem?_map, he]; rfl
      have hk : (ks (E.map En.k))[i]? = some (.int .i64 e.k) := ks_get (by rw [List.getElem?_map, he]; rfl)
      have hto := HTo.out e.rw (List.mem_map.2 ⟨e, hem, rfl⟩)
      have hb82 : ∃ cs, w2.heap[b]? = some (.cells cs 82 (0, 0)) := by
        rcases (HFr.out.past HB2.out) with h | h
        · obtain ⟨_, v, h, _⟩ := h; exact ⟨_, h⟩
        · obtain ⟨_, v, h, _⟩ := h; exact ⟨_, h⟩
      have HRr := hide (HRow.out.narrow.kept HI.out.bm (fun j hj _ hg => by
        obtain ⟨_, cs, h3⟩ := hj
        rcases hg with rfl | ⟨cs2, h5⟩
        · obtain ⟨cs2, h5⟩ := hb82
          rw [h3] at h5; cases h5
        · rw [h3] at h5; cases h5))
      have HK := hide hk
      have HR2 := hide hR
      have HG := hide hg
      have HT2 := hide hto
      clear hk hR hg hto hb82 hem he
      go_wp2_with (first
        | ((with_reducible refine at_index rfl ?_); refine wpList_at1 rfl rfl _ _ 39 3 _ rfl rfl rfl (by simp) Tryd.underlying39 size_int agg_int rfl HRr.out.reads rfl (by omega) (by omega) HK.out ?_; intro p)
        | fail)
      refine (past_some wr (HH.out.past HI.out.below) e.k HT2.out.1 e HG.out).mono ?_
      rintro r w3 ⟨rfl, hb3⟩
      obtain ⟨w4, hw4⟩ : ∃ w4, w3.alloc (.cells #[.int .i64 0, .int .i64 0, .bool false, .bool false] 36) = w4 := ⟨_, rfl⟩
      obtain ⟨q, hq⟩ : ∃ q, w3.heap.size = q := ⟨_, rfl⟩
      have hnew : w4.heap[q]? = some (.cells #[.int .i64 0, .int .i64 0, .bool false, .bool false] 36 (0, 0)) := by rw [← hw4, ← hq]; exact heap_alloc_new w3 _
      have hb4 : Below wr.heap.size wr w4 := by rw [← hw4]; exact hb3.alloc hb3.size _
      have hqs : wr.heap.size ≤ q := by rw [← hq]; exact hb3.size
      obtain ⟨_, f0, f1, f2, f3⟩ := box4 hnew
      have hset := box4_set hnew (.int .i64 e.bs.length) (.int .i64 e.rd) (.bool e.cl) (.bool e.en)
      have hb5 := below_set4 hb4 hqs (.int .i64 e.bs.length) (.int .i64 e.rd) (.bool e.cl) (.bool e.en)
      have HSet := hide hset
      have HB5 := hide hb5
      clear hset hb5 hb4 hb3 hqs hnew
      go_upto_region 7 with fail
      obtain ⟨w5, hw5⟩ : ∃ w5, (((w4.setCell ⟨q, 0, none⟩ (.int .i64 e.bs.length)).setCell ⟨q, 1, none⟩ (.int .i64 e.rd)).setCell ⟨q, 2, none⟩ (.bool e.cl)).setCell ⟨q, 3, none⟩ (.bool e.en) = w5 := ⟨_, rfl⟩
      rw [hw5] at HSet HB5
      rw [hw5]
      clear hw4 hq hw5 f0 f1 f2 f3
      obtain ⟨⟨k0, k1, k2, k3⟩, _⟩ := box4 HSet.out
      go_wp2_with fail
      refine (line_any w w5 HT.out b _ (HI.out.bd.past HB5.out) (HI.out.below.trans (HB5.out.mono HI.out.below.size)) e.k e.bs.length e.rd e.cl e.en HT2.out.1 (wfi_nat HT2.out.2.1) (wfi_nat (Nat.le_trans HT2.out.2.2 HT2.out.2.1)) ?_).mono ?_
      · have a1 := (lineR_len HT2.out).1
        have a2 : Told ((E.map En.rw).take i) := fun x hx => HTo.out x (List.mem_of_mem_take hx)
        have a3 := textL_len a2
        have a1 : (headL e.k e.bs.length e.rd).length ≤ 78 := a1
        rw [List.length_take] at a3
        rw [Lib.byteCells_length]
        have : min i (E.map En.rw).length ≤ 2097152 := by rw [List.length_map]; omega
        omega
      rintro r w6 ⟨rfl, h1, h2, h3⟩
      have H1 := hide h1
      have H2 := hide h2
      have H3 := hide h3
      clear h1 h2 h3 k0 k1 k2 k3
      go_wp2
      go_round
      case rel =>
        refine ⟨i + 1, by omega, by go_num, hide ⟨?_, H2.out, bmod_trans HI.out.bm (bmod_trans (bmod_below HB5.out) H3.out)⟩⟩
        have h1 := H1.out
        rw [textL_take HR2.out]
        have e1 : Lib.byteCells (textL ((E.map En.rw).take i) ++ lineR e.rw) = Lib.byteCells (textL ((E.map En.rw).take i)) ++ Lib.byteCells (lineL e.k e.bs.length e.rd e.cl e.en) := by simp [Lib.byteCells]; rfl
        rw [e1]
        exact h1
      case measure => simp [intOf]; omega
    · obtain rfl : i = E.length := by omega
      go_wp2_with fail
      refine (Tryd.Builder_String_any w.heap.size b (textL (E.map En.rw)) wr ?_ HI.out.below.size).mono ?_
      · have h := HI.out.bd
        rw [List.take_of_length_le (by rw [List.length_map]; exact Nat.le_refl _)] at h
        exact h
      rintro r w6 ⟨rfl, h6⟩
      have H6 := hide h6
      clear h6
      go_wp2
      go_ret
      exact ⟨rfl, HI.out.below.trans H6.out⟩
end
end Go.Proofs.YtipfjnjjfojdgaaDoor
