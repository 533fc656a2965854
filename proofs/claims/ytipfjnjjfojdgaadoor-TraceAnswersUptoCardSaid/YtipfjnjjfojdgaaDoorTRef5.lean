import Derived.Test.YtipfjnjjfojdgaaDoorTRef3
/- The document's history: Rest. -/
namespace Go.Proofs.YtipfjnjjfojdgaaDoor
open Go Go.RowKit Go.Cu

theorem one_box (w : World) (A : Option Addr) (n c : Nat) : ∃ w1 p, w.alloc (.cells #[.slice A n c] 44) = w1 ∧ w.heap.size = p ∧ Below w.heap.size w w1 ∧ w1.heap[p]? = some (.cells #[.slice A n c] 44 (0, 0)) :=
  ⟨_, _, rfl, rfl, (Below.refl _ _).alloc (Nat.le_refl _) _, heap_alloc_new w _⟩
theorem row_filled1 {w1 w8 : World} (hb : Below w1.heap.size w1 w8) (e : DR) :
    ∃ w9 q wa, w8.alloc (.cells #[.int .i64 0, .slice none 0 0, .int .i64 0, .bool false, .bool false] 54) = w9 ∧ w8.heap.size = q ∧
      ((((w9.setCell ⟨q, 0, none⟩ (.int .i64 e.k)).setCell ⟨q, 1, none⟩ (.slice e.A e.bs.length e.c)).setCell ⟨q, 2, none⟩ (.int .i64 e.rd)).setCell ⟨q, 3, none⟩ (.bool e.cl)).setCell ⟨q, 4, none⟩ (.bool e.en) = wa ∧
      w9.heap[q]? = some (.cells #[.int .i64 0, .slice none 0 0, .int .i64 0, .bool false, .bool false] 54 (0, 0)) ∧ wa.heap[q]? = some (.cells (drA e) 54 (0, 0)) ∧ Below w1.heap.size w1 wa := by
  have hs := hb.size
  have ha := heap_alloc_new w8 (.cells #[.int .i64 0, .slice none 0 0, .int .i64 0, .bool false, .bool false] 54)
  exact ⟨_, _, _, rfl, rfl, rfl, ha, box5_set ha _ _ _ _ _, below_set5 (hb.alloc hs _) hs _ _ _ _ _⟩
set_option maxRecDepth 10000 in
set_option maxHeartbeats 2000000 in
theorem rest_ref (w : World) {F : Nat → Prop} {v : Value} {R : List Rw} (hd : Doc w F v R) (hn : R.length ≤ 1048577) (k : Int) (hrd : (pastR R k).rd ≤ (pastR R k).bs.length) (hbn : (pastR R k).bs.length ≤ 1048576) :
    Calls Tryd.prog 18 #[v, .int .i64 k] w fun r w' => ∃ A' d', r = .returned (.slice A' (restR R k).length d') ∧ (restR R k).length ≤ d' ∧ Fresh8 w w' (.slice A' (restR R k).length d') (restR R k) ∧ Below w.heap.size w w' := by
  obtain ⟨A, n, c, E, rfl, hrow, rfl, hsr, hby⟩ := hd.ex
  have hcl : pastR (E.map DR.rw) k = (ofR E k).rw := (ofR_rw E k).symm
  rw [hcl] at hrd hbn
  have hrd : (ofR E k).rd ≤ (ofR E k).bs.length := hrd
  have hbn : (ofR E k).bs.length ≤ 1048576 := hbn
  have hEl : E.length = n := drs_len hrow.reads
  rw [List.length_map] at hn
  obtain ⟨i0, hi0, hz0, hz1, hz2⟩ := info_parts info_byte
  obtain ⟨w1, p, hw1, hp, hb1, b0⟩ := one_box w A n c
  have HBt := hide (ofR_row hby k)
  have HOf := hide (of_r w1 A n c E (Reads.past hrow.reads hb1) (by omega) k)
  have HFill : ∀ w8, Below w1.heap.size w1 w8 → Hid _ := fun w8 hb8 => hide (row_filled1 hb8 (ofR E k))
  have HB1 := hide hb1
  obtain ⟨c0, _⟩ := box1 b0
  have hre : restR (E.map DR.rw) k = (ofR E k).bs.drop (ofR E k).rd := by unfold restR; rw [hcl]; rfl
  rw [hre]
  clear hrow hby hsr hb1 b0 hd hcl hre
  go_enter Tryd.func18, Tryd.ntmps18
  go_upto_region 1 with fail
  try rw [hw1]
  try rw [hp]
  clear hw1 hp
  go_wp2_with fail
  refine HOf.out.mono ?_
  rintro r w8 ⟨rfl, hb8⟩
  obtain ⟨w9, q, wa, hw9, hq, hwa, hnew, hrb, hbl⟩ := (HFill w8 hb8).out
  obtain ⟨_, f0, f1, f2, f3, f4⟩ := box5 hnew
  have HRb := hide hrb
  have HBl := hide (HB1.out.trans (hbl.mono HB1.out.size))
  have he : (get DR.k E k).getD (dr0 k) = ofR E k := rfl
  rw [he]
  clear HFill HOf hb8 hrb hnew he c0 hbl
  obtain ⟨e0, he0⟩ : ∃ e0, ofR E k = e0 := ⟨_, rfl⟩
  rw [he0] at hwa HRb HBt hrd hbn ⊢
  go_upto_region 2 with fail
  try rw [hwa]
  clear hw9 hq hwa f0 f1 f2 f3 f4
  have hr2 := Reads.past HBt.out.reads (HBl.out.alloc HBl.out.size (.cells #[] 5))
  obtain ⟨B, d, hs, hrB, hnd⟩ := cut_rest hr2 (row_cap HBt.out) e0.rd hrd
  have HCut := hide hrB
  obtain ⟨⟨r0, r1, r2, r3, r4⟩, _⟩ := box5 HRb.out
  have d1 := cell_later (below_alloc wa (.cells #[] 5)) r1
  have d2 := cell_later (below_alloc wa (.cells #[] 5)) r2
  have HSz : Hid (w.heap.size ≤ (wa.alloc (.cells #[] 5)).heap.size) := hide (HBl.out.alloc HBl.out.size (.cells #[] 5)).size
  have HB2 := hide (HBl.out.alloc HBl.out.size (.cells #[] 5))
  clear hr2 hrB r0 r3 r4
  go_wp2_with (first
    | (at_builtin; refine wpList_append_row rfl _ _ 26 rfl 5 i0 (.int .u8 0) 1 1 Tryd.underlying26 hi0 hz0 hz1 hz2 rfl (by decide) rfl (row_none _ _) rfl HCut.out (u8s_one _) (by unfold maxLen; omega) (by omega) ?_
       intro A5 c5 w5 hr5 hm5
       rw [Nat.zero_add] at hr5
       have HR5 := hide hr5
       have HM5 := hide hm5
       clear hr5 hm5)
    | fail)
  go_ret
  subst he0
  have hl : ((ofR E k).bs.drop (ofR E k).rd).length = (ofR E k).bs.length - (ofR E k).rd := List.length_drop
  rw [hl]
  exact ⟨A5, c5, rfl, row_cap HR5.out, fresh_of HSz.out HR5.out hl, HB2.out.trans (HM5.out.below HSz.out (fun k h => h.elim))⟩
end Go.Proofs.YtipfjnjjfojdgaaDoor
