import Derived.Test.YtipfjnjjfojdgaaDoorTRef3
/- The document's history: Wrote. Printed by gen_r6.py. -/
namespace Go.Proofs.YtipfjnjjfojdgaaDoor
open Go Go.RowKit Go.Cu

theorem RB.mod {w wx wy : World} {p q : Nat} {A : Option Addr} {n c : Nat} {e : DR} {G : Nat → Prop} (h : RB w p q A n c e wx) (hm : Mod G wx wy) (hG : ∀ k, G k → q < k) : RB w p q A n c e wy := by
  have hq := h.hq
  have hp := h.hp
  exact ⟨h.below.trans (hm.below h.below.size (fun k hk => by have := hG k hk; omega)), hp, hq, hm.heap h.b0 (fun hk => by have := hG _ hk; omega), hm.heap h.b1 (fun hk => by have := hG _ hk; omega), hm.heap h.bq (fun hk => by have := hG _ hk; omega)⟩
theorem dr_bytes (e0 : DR) (A : Option Addr) (n2 c : Nat) (L : List Int) (hL : L.length = n2) : (drA e0).setIfInBounds 1 (.slice A (e0.bs.length + n2) c) = drA { e0 with A := A, c := c, bs := e0.bs ++ L } := by
  subst hL
  simp [drA]
set_option maxRecDepth 10000 in
set_option maxHeartbeats 2000000 in
theorem wrote_ref (w : World) {F : Nat → Prop} {v : Value} {R : List Rw} (hd : Doc w F v R) (hn : R.length ≤ 1048577) (k : Int) (hbn : (pastR R k).bs.length ≤ 1048576) (A2 : Option Addr) (n2 c2 : Nat) (L : List Int) (hr2 : Reads w 1 (.slice A2 n2 c2) n2 (u8s L)) (hn2 : n2 ≤ 1048576) :
    Calls Tryd.prog 20 #[v, .int .i64 k, .slice A2 n2 c2] w fun r w' => ∃ v', r = .returned (.tuple #[v', .int .i64 (wroteE R k)]) ∧ Doc w' (fun k => F k ∨ w.heap.size ≤ k) v' (wroteR R k L) ∧ Below w.heap.size w w' := by
  obtain ⟨A, n, c, E, rfl, hrow, rfl, hsr, hby⟩ := hd.ex
  have hcl : (pastR (E.map DR.rw) k).cl = (ofR E k).cl := (congrArg Rw.cl (ofR_rw E k)).symm
  have hEl : E.length = n := drs_len hrow.reads
  rw [List.length_map] at hn
  have HNn : Hid (n ≤ 2097152) := hide (by omega)
  have hbl0 : pastR (E.map DR.rw) k = (ofR E k).rw := (ofR_rw E k).symm
  rw [hbl0] at hbn
  have hbn : (ofR E k).bs.length ≤ 1048576 := hbn
  have HBt := hide (ofR_row hby k)
  have HR2 := hide hr2
  obtain ⟨i0, hi0, hz0, hz1, hz2⟩ := info_parts info_byte
  clear hbl0 hr2
  obtain ⟨w1, p, hw1, hp, hb1, hs1, b0, b1⟩ := two_boxes w A n c
  have HR := hide hrow
  have HBy := hide hby
  have HSr := hide hsr
  have HOf := hide (of_r w1 A n c E (Reads.past hrow.reads hb1) (by omega) k)
  have HFill : ∀ w8, Below w1.heap.size w1 w8 → Hid _ := fun w8 hb8 => hide (row_filled hp hb1 hs1 b0 b1 hb8 (ofR E k))
  obtain ⟨c0, _⟩ := box1 b0
  clear hrow hby hsr hb1 hs1 b0 b1 hd
  go_enter Tryd.func20, Tryd.ntmps20
  go_upto_region 1 with fail
  try rw [hw1]
  try rw [hp]
  clear hw1 hp
  go_wp2_with fail
  refine HOf.out.mono ?_
  rintro r w8 ⟨rfl, hb8⟩
  obtain ⟨w9, q, wa, hw9, hq, hwa, hnew, hrb⟩ := (HFill w8 hb8).out
  obtain ⟨_, f0, f1, f2, f3, f4⟩ := box5 hnew
  have HRb := hide hrb
  have he : (get DR.k E k).getD (dr0 k) = ofR E k := rfl
  rw [he]
  clear HFill HOf hb8 hrb hnew he c0
  obtain ⟨e0, he0⟩ : ∃ e0, ofR E k = e0 := ⟨_, rfl⟩
  rw [he0] at hwa hcl hbn HBt HRb ⊢
  go_upto_region 2 with fail
  try rw [hwa]
  clear hw9 hq hwa f0 f1 f2 f3 f4
  obtain ⟨c0, _⟩ := box1 HRb.out.b0
  obtain ⟨o1, of1⟩ := box1 HRb.out.b1
  obtain ⟨⟨r0, r1, r2, r3, r4⟩, _, _, _, g3, _⟩ := box5 HRb.out.bq
  have HCl := hide hcl
  clear hcl
  by_cases hc : e0.cl = true
  · have HC := hide hc
    rw [hc] at r3
    obtain ⟨m0, hbl, hdoc⟩ := HRb.out.fin (row_past HR.out HRb.out.below) rfl HSr.out (fun e he => row_past (HBy.out e he) HRb.out.below)
    have HBl := hide hbl
    have HDoc := hide hdoc
    clear hc hbl hdoc r4
    go_wp2
    refine bodyPost_ret (by simp [results, Tryd.results20, go_sem, m0]; rfl) rfl ?_
    have hcc : (pastR (E.map DR.rw) k).cl = true := HCl.out.trans HC.out
    refine ⟨docV A n c, by rw [wroteE, if_pos hcc], ?_, HBl.out⟩
    · unfold wroteR
      rw [if_pos hcc]
      exact HDoc.out.mono (fun k hk _ => .inl hk)
  · have HC := hide hc
    have hcf : e0.cl = false := by simpa using hc
    rw [hcf] at r3
    obtain ⟨wz, hwz⟩ : ∃ wz, wa.alloc (.cells #[] 5) = wz := ⟨_, rfl⟩
    obtain ⟨qz, hqz⟩ : ∃ qz, wa.heap.size = qz := ⟨_, rfl⟩
    have hbz : Below wa.heap.size wa wz := by rw [← hwz]; exact below_alloc wa _
    have HSz : Hid (wz.heap.size = qz + 1 ∧ q < qz) := hide (by rw [← hwz, ← hqz, World.size_alloc]; exact ⟨rfl, (Array.getElem?_eq_some_iff.1 HRb.out.bq).1⟩)
    have HRz := hide (HRb.out.past hbz)
    have HL2 : Hid (L.length = n2) := hide (by have := HR2.out.1; rw [u8s_length] at this; omega)
    have HC1 := hide (Reads.past HBt.out.reads HRz.out.below)
    have y1 := cell_later hbz r1
    clear hc hcf hbz r0 r2 r4 g3
    go_upto_region 7 with (first
      | (at_builtin; refine wpList_append_row rfl _ _ 26 rfl 5 i0 (.int .u8 0) 1 1 Tryd.underlying26 hi0 hz0 hz1 hz2 rfl (by decide) rfl (row_none _ _) rfl HC1.out (u8s_one _) (by unfold maxLen; omega) (by omega) ?_
         intro A5 c5 w5 hr5 hm5
         rw [Nat.zero_add] at hr5
         have HR5 := hide hr5
         have HM5 := hide hm5
         have HRx := hide (HRz.out.mod hm5 (fun k h => h.elim))
         have HC2 := hide (Reads.past HR2.out HRx.out.below)
         clear hr5 hm5)
      | (at_builtin; refine wpList_append_row rfl _ _ 26 rfl 5 i0 (.int .u8 0) 1 1 Tryd.underlying26 hi0 hz0 hz1 hz2 rfl (by decide) rfl HR5.out rfl HC2.out (u8s_one _) (by unfold maxLen; omega) (by omega) ?_
         intro A6 c6 w6 hr6 hm6
         have HR6 := hide hr6
         have HM6 := hide hm6
         have HRy := hide (HRx.out.mod hm6 (fun k h => h.elim (fun h => h.elim) (fun h => by rw [h]; have := HSz.out; omega)))
         obtain ⟨⟨_, x1, _⟩, _, gx1, _⟩ := box5 HRy.out.bq
         clear hr6 hm6)
      | fail)
    have hset := HRy.out.setq 1 (.slice A6 (e0.bs.length + n2) c6) (dr_bytes e0 A6 n2 c6 L HL2.out)
    have hr7 := HR6.out.farE (p := ⟨q, 1, none⟩) HRy.out.bq (by decide) (.slice A6 (e0.bs.length + n2) c6)
    obtain ⟨wb, hwb⟩ : ∃ wb, w6.setCell ⟨q, 1, none⟩ (.slice A6 (e0.bs.length + n2) c6) = wb := ⟨_, rfl⟩
    rw [hwb] at hset hr7
    rw [hwb]
    have HSet := hide hset
    have HR7 : Hid (Row wb (fun k => F k ∨ w.heap.size ≤ k) 5 1 (.slice A6 (e0.bs ++ L).length c6) (e0.bs ++ L).length (u8s (e0.bs ++ L))) := hide (by
      rw [u8s_append, List.nil_append, u8s_append] at hr7
      rw [List.length_append, HL2.out]
      refine hr7.mono (fun k hk _ => .inr ?_)
      have h1 := HSz.out
      have h2 := HRx.out.below.size
      have h3 := HRz.out.below.size
      rcases hk with (hk | hk) | hk
      · exact hk.elim
      · omega
      · omega)
    clear hset hr7 hwb y1 x1 gx1 hwz hqz c0 o1 of1 r1 r3
    obtain ⟨e1, he1⟩ : ∃ e1 : DR, { e0 with A := A6, c := c6, bs := e0.bs ++ L } = e1 := ⟨_, rfl⟩
    have HR8 : Hid (Row wb (fun k => F k ∨ w.heap.size ≤ k) 5 1 (.slice e1.A e1.bs.length e1.c) e1.bs.length (u8s e1.bs)) := hide (by rw [← he1]; exact HR7.out)
    have HE1 := hide he1
    rw [he1] at HSet
    clear he1 HR7
    have hwith := with_r wb A n c E (Reads.past HR.out.reads HSet.out.below) HSr.out HNn.out e1
    obtain ⟨c0, _⟩ := box1 HSet.out.b0
    obtain ⟨⟨r0, r1, r2, r3, r4⟩, _⟩ := box5 HSet.out.bq
    go_wp2_with fail
    refine hwith.mono ?_
    clear hwith
    rintro r wc ⟨B, m, cc, rfl, hrow, hbc⟩
    have hbw := HSet.out.below.trans (hbc.mono HSet.out.below.size)
    obtain ⟨o1, of1⟩ := box1 (HSet.out.past hbc).b1
    obtain ⟨m0, hbl, hdoc⟩ := (HSet.out.past hbc).fin (F := fun k => F k ∨ w.heap.size ≤ k) (hrow.mono (fun k hk _ => .inr (Nat.le_trans HSet.out.below.size hk))) rfl (put_srt DR.k HSr.out _) (put_rows HSr.out HBy.out hbw (row_past HR8.out hbc))
    have HBl := hide hbl
    have HDoc := hide hdoc
    clear hbl hdoc hrow hbc hbw c0 r0 r1 r2 r3 r4
    go_wp2
    refine bodyPost_ret (by simp [results, Tryd.results20, go_sem, m0]; rfl) rfl ?_
    have hcc : ¬ (pastR (E.map DR.rw) k).cl = true := by rw [HCl.out]; exact HC.out
    refine ⟨docV B m cc, by rw [wroteE, if_neg hcc], ?_, HBl.out⟩
    · unfold wroteR
      rw [if_neg hcc]
      have h := HDoc.out
      rw [put_drw] at h
      have e2 : e1.rw = { pastR (E.map DR.rw) k with bs := (pastR (E.map DR.rw) k).bs ++ L } := by
        rw [← ofR_rw, he0, ← HE1.out]
        rfl
      rw [e2] at h
      exact h
end Go.Proofs.YtipfjnjjfojdgaaDoor
