import Derived.Test.YtipfjnjjfojdgaaDoorTRef3
/- The document's history: Ended. Printed by gen_r.py. -/
namespace Go.Proofs.YtipfjnjjfojdgaaDoor
open Go Go.RowKit Go.Cu

set_option maxRecDepth 10000 in
set_option maxHeartbeats 2000000 in
theorem ended_ref (w : World) {F : Nat → Prop} {v : Value} {R : List Rw} (hd : Doc w F v R) (hn : R.length ≤ 1048577) (k : Int) (hrd : (pastR R k).rd ≤ (pastR R k).bs.length) :
    Calls Tryd.prog 35 #[v, .int .i64 k] w fun r w' => ∃ v', r = .returned (.tuple #[v', .int .i64 (endedE R k)]) ∧ Doc w' (fun k => F k ∨ w.heap.size ≤ k) v' (endedR R k) ∧ Below w.heap.size w w' := by
  obtain ⟨A, n, c, E, rfl, hrow, rfl, hsr, hby⟩ := hd.ex
  have hcl : pastR (E.map DR.rw) k = (ofR E k).rw := (ofR_rw E k).symm
  rw [hcl] at hrd
  have hrd : (ofR E k).rd ≤ (ofR E k).bs.length := hrd
  have hEl : E.length = n := drs_len hrow.reads
  rw [List.length_map] at hn
  obtain ⟨w1, p, hw1, hp, hb1, hs1, b0, b1⟩ := two_boxes w A n c
  have HR := hide hrow
  have HBy := hide hby
  have HSr := hide hsr
  have HOf := hide (of_r w1 A n c E (Reads.past hrow.reads hb1) (by omega) k)
  have HFill : ∀ w8, Below w1.heap.size w1 w8 → Hid _ := fun w8 hb8 => hide (row_filled hp hb1 hs1 b0 b1 hb8 (ofR E k))
  obtain ⟨c0, _⟩ := box1 b0
  clear hrow hby hsr hb1 hs1 b0 b1 hd
  go_enter Tryd.func35, Tryd.ntmps35
  go_upto_region 1 with fail
  try rw [hw1]
  try rw [hp]
  clear hw1 hp
  go_wp2_with fail
  refine HOf.out.mono ?_
  rintro r w8 ⟨rfl, hb8⟩
  obtain ⟨w9, q, wa, hw9, hq, hwa, hnew, hrb⟩ := (HFill w8 hb8).out
  obtain ⟨_, f0, f1, f2, f3, f4⟩ := box5 hnew
  have HRb := hide hrb
  have he : (get DR.k E k).getD (dr0 k) = ofR E k := rfl
  rw [he]
  clear HFill HOf hb8 hrb hnew he c0
  obtain ⟨e0, he0⟩ : ∃ e0, ofR E k = e0 := ⟨_, rfl⟩
  rw [he0] at hwa hcl hrd HRb ⊢
  go_upto_region 2 with fail
  try rw [hwa]
  clear hw9 hq hwa f0 f1 f2 f3 f4
  obtain ⟨c0, _⟩ := box1 HRb.out.b0
  obtain ⟨o1, of1⟩ := box1 HRb.out.b1
  obtain ⟨⟨r0, r1, r2, r3, r4⟩, _, _, _, _, g4⟩ := box5 HRb.out.bq
  have HCl := hide hcl
  have HRd := hide hrd
  clear hcl hrd
  by_cases hc : e0.cl = true
  · have HC := hide hc
    rw [hc] at r3
    clear hc
    by_cases hl : e0.rd < e0.bs.length
    · have hcc : Hid (¬ ((pastR (E.map DR.rw) k).cl = true ∧ (pastR (E.map DR.rw) k).rd = (pastR (E.map DR.rw) k).bs.length)) := hide (fun h => by rw [HCl.out] at h; have h2 : e0.rd = e0.bs.length := h.2; omega)
      have hlt : (e0.rd : Int) < (e0.bs.length : Int) := by omega
      obtain ⟨m0, hbl, hdoc⟩ := HRb.out.fin (row_past HR.out HRb.out.below) rfl HSr.out (fun e he => row_past (HBy.out e he) HRb.out.below)
      have HBl := hide hbl
      have HDoc := hide hdoc
      clear hbl hdoc
      go_wp2
      refine bodyPost_ret (by simp [results, Tryd.results35, go_sem, m0]; rfl) rfl ?_
      refine ⟨docV A n c, by rw [endedE, if_neg hcc.out], ?_, HBl.out⟩
      · unfold endedR
        rw [if_neg hcc.out]
        exact HDoc.out.mono (fun k hk _ => .inl hk)
    · have hcc : Hid ((pastR (E.map DR.rw) k).cl = true ∧ (pastR (E.map DR.rw) k).rd = (pastR (E.map DR.rw) k).bs.length) := hide (by rw [HCl.out]; exact ⟨HC.out, by show e0.rd = e0.bs.length; have := HRd.out; omega⟩)
      have hlt : ¬ (e0.rd : Int) < (e0.bs.length : Int) := by omega
      clear hl
      have hset := HRb.out.setq 4 (.bool true) (e' := { e0 with en := true }) rfl
      obtain ⟨wb, hwb⟩ : ∃ wb, wa.setCell ⟨q, 4, none⟩ (.bool true) = wb := ⟨_, rfl⟩
      rw [hwb] at hset
      have HSet := hide hset
      clear hset
      go_upto_region 5 with fail
      try rw [hwb]
      clear hwb c0 o1 of1 r0 r1 r2 r3 r4 g4
      obtain ⟨c0, _⟩ := box1 HSet.out.b0
      obtain ⟨⟨r0, r1, r2, r3, r4⟩, _⟩ := box5 HSet.out.bq
      go_wp2_with fail
      refine (with_r wb A n c E (Reads.past HR.out.reads HSet.out.below) HSr.out (by omega) { e0 with en := true }).mono ?_
      rintro r wc ⟨B, m, cc, rfl, hrow, hbc⟩
      have hbw := HSet.out.below.trans (hbc.mono HSet.out.below.size)
      obtain ⟨o1, of1⟩ := box1 (HSet.out.past hbc).b1
      obtain ⟨m0, hbl, hdoc⟩ := (HSet.out.past hbc).fin (F := fun k => F k ∨ w.heap.size ≤ k) (hrow.mono (fun k hk _ => .inr (Nat.le_trans HSet.out.below.size hk))) rfl (put_srt DR.k HSr.out _) (put_rows HSr.out HBy.out hbw ((row_past (by rw [← he0]; exact ofR_row HBy.out k) hbw).mono (fun k hk _ => .inl hk)))
      have HBl := hide hbl
      have HDoc := hide hdoc
      clear hbl hdoc hrow hbc hbw c0 r0 r1 r2 r3 r4
      go_wp2
      refine bodyPost_ret (by simp [results, Tryd.results35, go_sem, m0]; rfl) rfl ?_
      refine ⟨docV B m cc, by rw [endedE, if_pos hcc.out], ?_, HBl.out⟩
      · unfold endedR
        rw [if_pos hcc.out]
        have h := HDoc.out
        rw [put_drw] at h
        have e2 : ({ e0 with en := true } : DR).rw = { pastR (E.map DR.rw) k with en := true } := by
          rw [← ofR_rw, he0]
          rfl
        rw [e2] at h
        exact h
  · have hcc : Hid (¬ ((pastR (E.map DR.rw) k).cl = true ∧ (pastR (E.map DR.rw) k).rd = (pastR (E.map DR.rw) k).bs.length)) := hide (fun h => by rw [HCl.out] at h; exact hc h.1)
    have hcf : e0.cl = false := by simpa using hc
    rw [hcf] at r3
    clear hc hcf
    obtain ⟨m0, hbl, hdoc⟩ := HRb.out.fin (row_past HR.out HRb.out.below) rfl HSr.out (fun e he => row_past (HBy.out e he) HRb.out.below)
    have HBl := hide hbl
    have HDoc := hide hdoc
    clear hbl hdoc
    go_wp2
    refine bodyPost_ret (by simp [results, Tryd.results35, go_sem, m0]; rfl) rfl ?_
    refine ⟨docV A n c, by rw [endedE, if_neg hcc.out], ?_, HBl.out⟩
    · unfold endedR
      rw [if_neg hcc.out]
      exact HDoc.out.mono (fun k hk _ => .inl hk)
end Go.Proofs.YtipfjnjjfojdgaaDoor
