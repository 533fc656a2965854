import Derived.Test.YtipfjnjjfojdgaaDoorTHist
import Derived.Test.YtipfjnjjfojdgaaDoorErrs
import Derived.Lib.SlBytesConst
import Derived.Lib.SmallJoins
/- The beginning of the document's example. -/
namespace Go.Proofs.YtipfjnjjfojdgaaDoor
open Go Go.RowKit Go.Cu Go.Proofs.YtipfjnjjfojdgaaDoor.errs

/-- a literal's bytes, laid -/
theorem lit_made (w : World) (L : List Int) (n : Nat) (hn : L.length = n) (hs : n ≤ maxLen) : ∃ w' b, w' = w.alloc (.cells (u8s L).toArray 5 (n, n + 1)) ∧ b = w.heap.size ∧ Below w.heap.size w w' ∧ Reads w' 1 (.slice (some ⟨b, 0, none⟩) n n) n (u8s L) ∧
    (convert 26 26 (.slice (some ⟨b, 0, none⟩) n n)).run Tryd.prog (w.alloc (.cells (u8s L).toArray 5)) = .ok (.slice (some ⟨b, 0, none⟩) n n) w' := by
  refine ⟨_, _, rfl, rfl, (Below.refl _ _).alloc (Nat.le_refl _) _, ⟨by rw [u8s_length]; omega, _, _, rfl, hs, .inr ⟨_, rfl, fun j u hj => ?_⟩⟩, ?_⟩
  · rw [add_plain, Nat.zero_add, World.cell?_alloc_mark]
    simpa using hj
  · have h := Lib.run_convert_bytes_const (P := Tryd.prog) w 26 5 (u8s L).toArray n n Tryd.underlying26 Tryd.underlying5
    rw [show (u8s L).toArray.size = n by simp [u8s, hn]] at h
    exact h
theorem nums_bytes {L : List Int} (h : ∀ x ∈ L, 0 ≤ x ∧ x ≤ 255) : (Lib.bytesOf L).map (fun b => (b.toNat : Int)) = L := by
  induction L with
  | nil => rfl
  | cons x L ih =>
    have hx := h x (by simp)
    have h1 := ih (fun y hy => h y (by simp [hy]))
    simp only [Lib.bytesOf, List.map_cons, List.cons.injEq] at h1 ⊢
    refine ⟨?_, h1⟩
    rw [UInt8.toNat_ofNat']
    omega
/-- string(b) -/
theorem run_str {w : World} {v : Value} {n : Nat} {L : List Int} (h : Reads w 1 v n (u8s L)) (hL : ∀ x ∈ L, 0 ≤ x ∧ x ≤ 255) : (convert 26 9 v).run Tryd.prog w = .ok (.string ⟨(Lib.bytesOf L).toArray⟩) w := by
  obtain ⟨h1, A, c, rfl, h2, h3⟩ := h
  rw [u8s_length, Nat.mul_one] at h1
  subst h1
  have hn := nums_bytes hL
  have hlen : (Lib.bytesOf L).length = L.length := Lib.bytesOf_length L
  rcases A with _ | ad
  · have hl : L = [] := by
      rcases h3 with h3 | ⟨ad, h, _⟩
      · exact List.eq_nil_of_length_eq_zero (by omega)
      · cases h
    subst hl
    exact run_convert_bytes_nil (P := Tryd.prog) w 26 5 Tryd.underlying26 Tryd.underlying5 _ c 9 Tryd.underlying9
  · rw [← hlen]
    refine run_convert_bytes_back (P := Tryd.prog) w 26 9 5 ad c (Lib.bytesOf L) Tryd.underlying26 Tryd.underlying5 Tryd.underlying9 (fun j hj => ?_)
    rcases h3 with h3 | ⟨ad', he, hc⟩
    · omega
    · injection he with he
      subst he
      refine hc j _ ?_
      have h4 : u8s L = (Lib.bytesOf L).map (fun b => Value.int .u8 (b.toNat : Int)) := by
        have h5 : u8s ((Lib.bytesOf L).map (fun b => (b.toNat : Int))) = u8s L := by rw [hn]
        rw [← h5]
        simp [u8s]
      rw [h4]
      simp [List.getElem?_eq_getElem hj]
set_option maxRecDepth 10000 in
set_option maxHeartbeats 4000000 in
theorem fixed_any (w : World) (adr : Nat → Addr) (hS : Sent w adr) (hT : Tab w) : Calls Tryd.prog 8 #[] w fun r w' => r = .returned (.bool true) ∧ Below w.heap.size w w' := by
  have HS := hide hS
  have HT := hide hT
  clear hS hT
  go_enter Tryd.func8, Tryd.ntmps8
  go_wp2_with fail
  refine (new_hist w).mono ?_
  rintro r w1 ⟨c, rfl, hh, hb⟩
  have HH := hide hh
  have HB := hide hb
  clear hh hb
  obtain ⟨w2, b2, -, hb2, hbl2, hr2, hc2⟩ := lit_made w1 [97, 98, 99] 3 rfl (by decide)
  have HB2 := hide hbl2
  have HR2 := hide hr2
  subst hb2
  have hc2 : (convert 26 26 (.slice (some ⟨w1.heap.size, 0, none⟩) 3 3)).run Tryd.prog (w1.alloc (.cells #[.int .u8 97, .int .u8 98, .int .u8 99] 5)) = .ok (.slice (some ⟨w1.heap.size, 0, none⟩) 3 3) w2 := hc2
  clear hbl2 hr2
  go_wp2_with fail
  have hb7 : ∀ x ∈ ([97, 98, 99] : List Int), 0 ≤ x ∧ x ≤ 255 := by decide
  refine (hist_wrote (HH.out.past HB2.out) 7 (by unfold wfi; decide) (by simp) rfl _ 3 3 [97, 98, 99] HR2.out hb7 (by simp [pastR, get])).mono ?_
  rintro r w3 ⟨rfl, hh3, hm3⟩
  have HH3 := hide hh3
  have HB3 : Hid (Below w.heap.size w w3) := hide ((HB.out.trans (HB2.out.mono HB.out.size)).trans (hm3.below (by have := HB.out.size; have := HB2.out.size; omega) (fun k hk => hk.1)))
  clear hh3 hm3 hb7 hc2
  obtain ⟨w4, b4, -, hb4, hbl4, hr4, hc4⟩ := lit_made w3 [97, 98] 2 rfl (by decide)
  have HB4 := hide hbl4
  have HR4 := hide hr4
  subst hb4
  have hc4 : (convert 26 26 (.slice (some ⟨w3.heap.size, 0, none⟩) 2 2)).run Tryd.prog (w3.alloc (.cells #[.int .u8 97, .int .u8 98] 5)) = .ok (.slice (some ⟨w3.heap.size, 0, none⟩) 2 2) w4 := hc4
  clear hbl4 hr4
  go_wp2_with fail
  clear hc4
  have hh3 : Hist w3 c (fun k => w.heap.size ≤ k ∧ k < w1.heap.size ∨ w2.heap.size ≤ k ∧ k < w3.heap.size) [⟨7, [97, 98, 99], 0, false, false⟩] := HH3.out
  have hb7 : ∀ x ∈ ([97, 98] : List Int), 0 ≤ x ∧ x ≤ 255 := by decide
  refine (hist_gave (hh3.past HB4.out) 7 (by unfold wfi; decide) (by simp) _ 2 2 [97, 98] HR4.out hb7 (by decide) (by simp [pastR, get])).mono ?_
  rintro r w5 ⟨rfl, hh5, hm5⟩
  have HH5 : Hid (Hist w5 c (fun k => w.heap.size ≤ k) [⟨7, [97, 98, 99], 2, false, false⟩]) := hide (Hist.mono (show Hist w5 c _ [⟨7, [97, 98, 99], 2, false, false⟩] from hh5) (fun k hk _ => by have := HB.out.size; have := HB2.out.size; have := HB3.out.size; have := HB4.out.size; rcases hk with (hk | hk) | hk <;> omega))
  have HB5 : Hid (Below w.heap.size w w5) := hide ((HB3.out.trans (HB4.out.mono HB3.out.size)).trans (hm5.below (by have := HB3.out.size; have := HB4.out.size; omega) (fun k hk => by have := HB.out.size; have := HB2.out.size; omega)))
  clear hh5 hm5 hb7 hh3 hc4 hc2
  obtain ⟨w6, b6, -, hb6, hbl6, hr6, hc6⟩ := lit_made w5 [100] 1 rfl (by decide)
  have HB6 := hide hbl6
  have HR6 := hide hr6
  subst hb6
  have hc6 : (convert 26 26 (.slice (some ⟨w5.heap.size, 0, none⟩) 1 1)).run Tryd.prog (w5.alloc (.cells #[.int .u8 100] 5)) = .ok (.slice (some ⟨w5.heap.size, 0, none⟩) 1 1) w6 := hc6
  clear hbl6 hr6
  have HS6 := hide (HS.out.below (HB5.out.trans (HB6.out.mono HB5.out.size)))
  go_wp2_with fail
  refine (hist_gave2 (HH5.out.past HB6.out) 7 (by unfold wfi; decide) _ 1 1 [100] HR6.out (by decide) (by decide) _ (HS6.out.cell 39 (by decide) (by decide))).mono ?_
  rintro r w7 ⟨rfl, hb7⟩
  have HH7 := hide ((HH5.out.past HB6.out).past hb7)
  have HB7 := hide ((HB5.out.trans (HB6.out.mono HB5.out.size)).trans (hb7.mono (by have := HB5.out.size; have := HB6.out.size; omega)))
  clear hb7 hc6
  go_wp2_with fail
  have hp : Calls Tryd.prog 16 #[ptr c, .int .i64 7] w7 fun r w' => r = .returned (.tuple #[.agg #[.int .i64 3, .int .i64 2, .bool false, .bool false], .bool true]) ∧ Below w7.heap.size w7 w' := hist_past HH7.out 7 (by unfold wfi; decide)
  refine hp.mono ?_
  rintro r w8 ⟨rfl, hb8⟩
  obtain ⟨w9, hw9⟩ : ∃ w9, w8.alloc (.cells #[.int .i64 0, .int .i64 0, .bool false, .bool false] 36) = w9 := ⟨_, rfl⟩
  obtain ⟨q, hq⟩ : ∃ q, w8.heap.size = q := ⟨_, rfl⟩
  have hnew : w9.heap[q]? = some (.cells #[.int .i64 0, .int .i64 0, .bool false, .bool false] 36 (0, 0)) := by rw [← hw9, ← hq]; exact heap_alloc_new w8 _
  have hb9 : Below w7.heap.size w7 w9 := by rw [← hw9]; exact hb8.alloc hb8.size _
  have hqs : w7.heap.size ≤ q := by rw [← hq]; exact hb8.size
  obtain ⟨_, f0, f1, f2, f3⟩ := box4 hnew
  have hset := box4_set hnew (.int .i64 3) (.int .i64 2) (.bool false) (.bool false)
  have hb5 := below_set4 hb9 hqs (.int .i64 3) (.int .i64 2) (.bool false) (.bool false)
  have HSet := hide hset
  have HBa := hide hb5
  clear hset hb5 hb9 hb8 hqs hnew hp
  go_upto_region 6 with fail
  obtain ⟨wa, hwa⟩ : ∃ wa, (((w9.setCell ⟨q, 0, none⟩ (.int .i64 3)).setCell ⟨q, 1, none⟩ (.int .i64 2)).setCell ⟨q, 2, none⟩ (.bool false)).setCell ⟨q, 3, none⟩ (.bool false) = wa := ⟨_, rfl⟩
  rw [hwa] at HSet HBa
  rw [hwa]
  clear hw9 hq hwa f0 f1 f2 f3
  obtain ⟨⟨k0, k1, k2, k3⟩, _⟩ := box4 HSet.out
  have HBw := hide (HB7.out.trans (HBa.out.mono HB7.out.size))
  have HSa := hide (HS.out.below HBw.out)
  have HHa := hide (HH7.out.past HBa.out)
  go_wp2_with fail
  refine (code_err wa adr HSa.out 39 (by decide) (by decide) (by decide)).mono ?_
  rintro r wb ⟨rfl, rfl⟩
  go_wp2_with fail
  have hrest : Calls Tryd.prog 11 #[ptr c, .int .i64 7] wb fun r w' => ∃ v, r = .returned v ∧ Fresh8 wb w' v [99] ∧ Below wb.heap.size wb w' := hist_rest HHa.out 7 (by unfold wfi; decide) (by decide)
  refine hrest.mono ?_
  rintro r wc ⟨v, rfl, hv, hbc⟩
  have hstr := run_str hv.reads (by decide)
  have HBc := hide hbc
  have HHc := hide (HHa.out.past hbc)
  clear hv hbc hrest k0 k1 k2 k3
  go_wp2_with fail
  have HTc := hide (HT.out.past (HBw.out.trans (HBc.out.mono HBw.out.size)))
  have htext : Calls Tryd.prog 25 #[ptr c] wc fun r w' => r = .returned (.string ⟨(textL [⟨7, [97, 98, 99], 2, false, false⟩]).toArray⟩) ∧ Below wc.heap.size wc w' := hist_text HHc.out HTc.out (by decide) (by intro r hr; simp at hr; subst hr; exact ⟨by unfold wfi; decide, by decide, by decide⟩)
  have htx : textL [⟨7, [97, 98, 99], 2, false, false⟩] = [55, 32, 119, 114, 105, 116, 116, 101, 110, 32, 51, 32, 114, 101, 97, 100, 32, 50, 10] := by decide +kernel
  rw [htx] at htext
  refine htext.mono ?_
  rintro r wd ⟨rfl, hbd⟩
  have HBd := hide hbd
  clear hbd htext htx
  go_wp2
  go_ret
  exact ⟨rfl, HBw.out.trans ((HBc.out.trans (HBd.out.mono HBc.out.size)).mono HBw.out.size)⟩
end Go.Proofs.YtipfjnjjfojdgaaDoor
