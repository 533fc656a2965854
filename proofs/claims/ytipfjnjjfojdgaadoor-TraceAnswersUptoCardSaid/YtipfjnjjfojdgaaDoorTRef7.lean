import Derived.Test.YtipfjnjjfojdgaaDoorTRef6
import Derived.Test.YtipfjnjjfojdgaaDoorTRef5
import Derived.Deep.QuietTactic
/- The document's history: Gave. Printed by gen_r7.py. -/
namespace Go.Proofs.YtipfjnjjfojdgaaDoor
open Go Go.RowKit Go.Cu

theorem byte_cell {w : World} {A : Option Addr} {n c : Nat} {L : List Int} (hr : Reads w 1 (.slice A n c) n (u8s L)) {i : Nat} {x : Int} (hx : L[i]? = some x) : ∃ ad, A = some ad ∧ w.cell? (ad.add i) = some (.int .u8 x) := by
  obtain ⟨h1, A', c', he, _, h3⟩ := hr
  injection he with he _ _
  have hi : i < L.length := (List.getElem?_eq_some_iff.1 hx).1
  rw [u8s_length] at h1
  rcases h3 with h3 | ⟨ad, hA, h4⟩
  · omega
  · exact ⟨ad, by rw [he, hA], h4 i _ (u8s_get hx)⟩
theorem pre_step {L M : List Int} {i : Nat} {x : Int} (h : L.take i = M.take i) (hx : L[i]? = some x) (hy : M[i]? = some x) : L.take (i + 1) = M.take (i + 1) := by
  rw [List.take_add_one, List.take_add_one, h, hx, hy]
theorem pre_no {L M : List Int} {i : Nat} {x y : Int} (hx : L[i]? = some x) (hy : M[i]? = some y) (hne : x ≠ y) : ¬ L <+: M := by
  rintro ⟨t, rfl⟩
  rw [List.getElem?_append_left (List.getElem?_eq_some_iff.1 hx).1, hx] at hy
  exact hne (Option.some.inj hy)
theorem dr_read (e0 : DR) (n2 : Nat) : (drA e0).setIfInBounds 2 (.int .i64 ((e0.rd : Int) + (n2 : Int))) = drA { e0 with rd := e0.rd + n2 } := by
  simp [drA]
set_option maxRecDepth 10000 in
set_option maxHeartbeats 2000000 in
theorem gave_ref (w : World) {F : Nat → Prop} {v : Value} {R : List Rw} (hd : Doc w F v R) (hn : R.length ≤ 1048577) (k : Int) (hrd : (pastR R k).rd ≤ (pastR R k).bs.length) (hbn : (pastR R k).bs.length ≤ 1048576) (A2 : Option Addr) (n2 c2 : Nat) (L : List Int) (hr2 : Reads w 1 (.slice A2 n2 c2) n2 (u8s L)) :
    Calls Tryd.prog 21 #[v, .int .i64 k, .slice A2 n2 c2] w fun r w' => ∃ v', r = .returned (.tuple #[v', .int .i64 (gaveE R k L)]) ∧ Doc w' (fun k => F k ∨ w.heap.size ≤ k) v' (gaveR R k L) ∧ Below w.heap.size w w' := by
  obtain ⟨A, n, c, E, rfl, hrow, rfl, hsr, hby⟩ := hd.ex
  have hcl : pastR (E.map DR.rw) k = (ofR E k).rw := (ofR_rw E k).symm
  have HRest : ∀ wx, Below w.heap.size w wx → Hid _ := fun wx hb => hide (rest_ref wx (hd.past hb) hn k hrd hbn)
  have hre : restR (E.map DR.rw) k = (ofR E k).bs.drop (ofR E k).rd := by unfold restR; rw [hcl]; rfl
  rw [hcl] at hrd hbn
  have hrd : (ofR E k).rd ≤ (ofR E k).bs.length := hrd
  have hbn : (ofR E k).bs.length ≤ 1048576 := hbn
  have hEl : E.length = n := drs_len hrow.reads
  rw [List.length_map] at hn
  have HNn : Hid (n ≤ 2097152) := hide (by omega)
  have HBt := hide (ofR_row hby k)
  have HR2 := hide hr2
  clear hr2
  obtain ⟨w1, p, hw1, hp, hb1, hs1, b0, b1⟩ := two_boxes w A n c
  have HR := hide hrow
  have HBy := hide hby
  have HSr := hide hsr
  have HOf := hide (of_r w1 A n c E (Reads.past hrow.reads hb1) (by omega) k)
  have HFill : ∀ w8, Below w1.heap.size w1 w8 → Hid _ := fun w8 hb8 => hide (row_filled hp hb1 hs1 b0 b1 hb8 (ofR E k))
  obtain ⟨c0, _⟩ := box1 b0
  clear hrow hby hsr hb1 hs1 b0 b1 hd
  go_enter Tryd.func21, Tryd.ntmps21
  go_upto_region 1 with fail
  try rw [hw1]
  try rw [hp]
  clear hw1 hp
  go_wp2_with fail
  refine HOf.out.mono ?_
  rintro r w8 ⟨rfl, hb8⟩
  obtain ⟨w9, q, wa, hw9, hq, hwa, hnew, hrb⟩ := (HFill w8 hb8).out
  obtain ⟨_, f0, f1, f2, f3, f4⟩ := box5 hnew
  have HRb := hide hrb
  have he : (get DR.k E k).getD (dr0 k) = ofR E k := rfl
  rw [he]
  clear HFill HOf hb8 hrb hnew he c0
  obtain ⟨e0, he0⟩ : ∃ e0, ofR E k = e0 := ⟨_, rfl⟩
  rw [he0] at hre
  rw [he0] at hwa hcl hrd hbn HBt HRb ⊢
  go_upto_region 2 with fail
  try rw [hwa]
  clear hw9 hq hwa f0 f1 f2 f3 f4
  have HL2 : Hid (L.length = n2) := hide (by have := HR2.out.1; rw [u8s_length] at this; omega)
  have HRs := hide (HRest wa HRb.out.below).out
  have HCl := hide hcl
  obtain ⟨M, hM⟩ : ∃ M, restR (E.map DR.rw) k = M := ⟨_, rfl⟩
  have HM : Hid (M = e0.bs.drop e0.rd) := hide (by rw [← hM]; exact hre)
  have hml : M.length = e0.bs.length - e0.rd := by rw [HM.out, List.length_drop]
  rw [hM] at HRs
  have HCond : Hid ((L <+: (pastR (E.map DR.rw) k).bs.drop (pastR (E.map DR.rw) k).rd) ↔ L <+: M) := hide (by rw [HM.out, hcl]; exact Iff.rfl)
  clear HRest hcl hre hM
  obtain ⟨c0, _⟩ := box1 HRb.out.b0
  go_wp2_with fail
  refine HRs.out.mono ?_
  clear HRs
  rintro r w5 ⟨A3, d3, rfl, hnd3, hf, hb5⟩
  have HF := hide hf.reads
  have HQ := hide (HRb.out.past hb5)
  have HR2w := hide (Reads.past HR2.out HQ.out.below)
  clear hf hb5 c0 hnd3 HRb
  by_cases hlen : n2 ≤ M.length
  · have hgt : ¬ (M.length : Int) < (n2 : Int) := by omega
    go_wp2_with fail
    go_loopw [11] (fun t wr => ∃ i : Nat, i ≤ n2 ∧ t = .int .i64 i ∧ Hid (L.take i = M.take i ∧ Below w5.heap.size w5 wr)) (fun t _ => n2 - (intOf t).toNat)
    case atStart => exact ⟨0, Nat.zero_le _, rfl, hide ⟨rfl, Below.refl _ _⟩⟩
    case round =>
      obtain ⟨i, hi, rfl, HG⟩ := hrel
      by_cases hlt : i < n2
      · obtain ⟨x, hx⟩ : ∃ x, L[i]? = some x := ⟨_, List.getElem?_eq_getElem (by have := HL2.out; omega)⟩
        obtain ⟨y, hy⟩ : ∃ y, M[i]? = some y := ⟨_, List.getElem?_eq_getElem (by omega)⟩
        obtain ⟨ad2, hA2, q2⟩ := byte_cell (Reads.past HR2w.out HG.out.2) hx
        obtain ⟨ad3, hA3, q3⟩ := byte_cell (Reads.past HF.out HG.out.2) hy
        have HX := hide (And.intro hx hy)
        subst hA2 hA3
        clear hx hy
        by_cases hxy : x = y
        · have hne : (x != y) = false := bne_eq_false_iff_eq.2 hxy
          have HXY := hide hxy
          clear hxy
          go_upto_region 8 with fail
          go_quiet (fail)
          go_wp2
          go_round
          case rel => exact ⟨i + 1, by omega, by go_num, hide ⟨pre_step HG.out.1 HX.out.1 (by rw [HXY.out]; exact HX.out.2), dn_below HG.out.2 _⟩⟩
          case measure => simp [intOf]; omega
        · have hne : (x != y) = true := bne_iff_ne.2 hxy
          have hcc : Hid (¬ L <+: (pastR (E.map DR.rw) k).bs.drop (pastR (E.map DR.rw) k).rd) := hide (fun h => pre_no HX.out.1 HX.out.2 hxy (HCond.out.1 h))
          clear hxy
          go_upto_region 8 with fail
          go_quiet (fail)
          obtain ⟨wx, hwx⟩ : ∃ wx, wr.drewN nq = wx := ⟨_, rfl⟩
          have HQ := hide (HQ.out.past (show Below w5.heap.size w5 wx by rw [← hwx]; exact dn_below HG.out.2 _))
          rw [hwx]
          clear hwx q2 q3
          obtain ⟨c0, _⟩ := box1 HQ.out.b0
          obtain ⟨o1, of1⟩ := box1 HQ.out.b1
          obtain ⟨m0, hbl, hdoc⟩ := HQ.out.fin (row_past HR.out HQ.out.below) rfl HSr.out (fun e he => row_past (HBy.out e he) HQ.out.below)
          have HBl := hide hbl
          have HDoc := hide hdoc
          clear hbl hdoc
          go_wp2
          refine bodyPost_ret (by simp [results, Tryd.results21, go_sem, m0]; rfl) rfl ?_
          refine ⟨docV A n c, by rw [gaveE, if_neg hcc.out], ?_, HBl.out⟩
          unfold gaveR
          rw [if_neg hcc.out]
          exact HDoc.out.mono (fun k hk _ => .inl hk)
      · obtain rfl : i = n2 := by omega
        have hpre : L <+: M := by
          have h := HG.out.1
          rw [List.take_of_length_le (by have := HL2.out; omega)] at h
          rw [h]
          exact List.take_prefix _ _
        have hcc : Hid (L <+: (pastR (E.map DR.rw) k).bs.drop (pastR (E.map DR.rw) k).rd) := hide (HCond.out.2 hpre)
        have HQ := hide (HQ.out.past HG.out.2)
        obtain ⟨⟨r0, r1, r2, r3, r4⟩, _, _, g2, _⟩ := box5 HQ.out.bq
        have hset := HQ.out.setq 2 (.int .i64 ((e0.rd : Int) + (i : Int))) (dr_read e0 i)
        have hsum : e0.rd + i ≤ 1048576 := by omega
        obtain ⟨wb, hwb⟩ : ∃ wb, wr.setCell ⟨q, 2, none⟩ (.int .i64 ((e0.rd : Int) + (i : Int))) = wb := ⟨_, rfl⟩
        rw [hwb] at hset
        obtain ⟨e1, he1⟩ : ∃ e1 : DR, { e0 with rd := e0.rd + i } = e1 := ⟨_, rfl⟩
        rw [he1] at hset
        have HE1 := hide he1
        have HSet := hide hset
        clear hset hpre he1 r0 r1 r3 r4
        go_upto_region 11 with fail
        try rw [hwb]
        clear hwb r2 g2
        have hwith := with_r wb A n c E (Reads.past HR.out.reads HSet.out.below) HSr.out HNn.out e1
        obtain ⟨c0, _⟩ := box1 HSet.out.b0
        obtain ⟨⟨r0, r1, r2, r3, r4⟩, _⟩ := box5 HSet.out.bq
        go_wp2_with fail
        refine hwith.mono ?_
        clear hwith
        rintro r wc ⟨B, m, cc, rfl, hrow, hbc⟩
        have hbw := HSet.out.below.trans (hbc.mono HSet.out.below.size)
        obtain ⟨o1, of1⟩ := box1 (HSet.out.past hbc).b1
        obtain ⟨m0, hbl, hdoc⟩ := (HSet.out.past hbc).fin (F := fun k => F k ∨ w.heap.size ≤ k) (hrow.mono (fun k hk _ => .inr (Nat.le_trans HSet.out.below.size hk))) rfl (put_srt DR.k HSr.out _) (put_rows HSr.out HBy.out hbw (by rw [← HE1.out]; exact (row_past HBt.out hbw).mono (fun k hk _ => .inl hk)))
        have HBl := hide hbl
        have HDoc := hide hdoc
        clear hbl hdoc hrow hbc hbw c0 r0 r1 r2 r3 r4
        go_wp2
        refine bodyPost_ret (by simp [results, Tryd.results21, go_sem, m0]; rfl) rfl ?_
        refine ⟨docV B m cc, by rw [gaveE, if_pos hcc.out], ?_, HBl.out⟩
        unfold gaveR
        rw [if_pos hcc.out]
        have h := HDoc.out
        rw [put_drw] at h
        have e2 : e1.rw = { pastR (E.map DR.rw) k with rd := (pastR (E.map DR.rw) k).rd + L.length } := by
          rw [HCl.out, ← HE1.out, HL2.out]
          rfl
        rw [e2] at h
        exact h
  · have hgt : (M.length : Int) < (n2 : Int) := by omega
    have hcc : Hid (¬ L <+: (pastR (E.map DR.rw) k).bs.drop (pastR (E.map DR.rw) k).rd) := hide (fun h => hlen (by have := (HCond.out.1 h).length_le; have := HL2.out; omega))
    obtain ⟨c0, _⟩ := box1 HQ.out.b0
    obtain ⟨o1, of1⟩ := box1 HQ.out.b1
    obtain ⟨m0, hbl, hdoc⟩ := HQ.out.fin (row_past HR.out HQ.out.below) rfl HSr.out (fun e he => row_past (HBy.out e he) HQ.out.below)
    have HBl := hide hbl
    have HDoc := hide hdoc
    clear hbl hdoc
    go_wp2
    refine bodyPost_ret (by simp [results, Tryd.results21, go_sem, m0]; rfl) rfl ?_
    refine ⟨docV A n c, by rw [gaveE, if_neg hcc.out], ?_, HBl.out⟩
    unfold gaveR
    rw [if_neg hcc.out]
    exact HDoc.out.mono (fun k hk _ => .inl hk)
end Go.Proofs.YtipfjnjjfojdgaaDoor
