import Derived.Test.YtipfjnjjfojdgaaDoorTFun5
/- The history's Gave. -/
namespace Go.Proofs.YtipfjnjjfojdgaaDoor
open Go Go.RowKit Go.Cu
open Go.Maps (Keyed)

theorem byte_inj {x y : Int} (hx : 0 ≤ x ∧ x ≤ 255) (hy : 0 ≤ y ∧ y ≤ 255) (h : UInt8.ofNat x.toNat = UInt8.ofNat y.toNat) : x = y := by
  have h1 := congrArg UInt8.toNat h
  rw [UInt8.toNat_ofNat', UInt8.toNat_ofNat'] at h1
  omega
theorem prefix_is (xs ys : List Int) (hx : ∀ x ∈ xs, 0 ≤ x ∧ x ≤ 255) (hy : ∀ x ∈ ys, 0 ≤ x ∧ x ≤ 255) : Lib.hasPrefix (Lib.bytesOf xs) (Lib.bytesOf ys) = decide (ys <+: xs) := by
  unfold Lib.hasPrefix Lib.bytesOf
  induction ys generalizing xs with
  | nil => simp
  | cons y ys ih =>
    cases xs with
    | nil => simp
    | cons x xs =>
      have h1 := ih xs (fun z hz => hx z (by simp [hz])) (fun z hz => hy z (by simp [hz]))
      rw [List.map_cons, List.map_cons, List.isPrefixOf, h1]
      by_cases e : y = x
      · subst e
        simp [List.cons_prefix_cons]
      · have : ¬ (UInt8.ofNat y.toNat = UInt8.ofNat x.toNat) := fun h => e (byte_inj (hy y (by simp)) (hx x (by simp)) h)
        simp [List.cons_prefix_cons, e, this]
theorem Reads.past {w w' : World} {sz n : Nat} {v : Value} {xs : List Value} (h : Reads w sz v n xs) (hb : Below w.heap.size w w') : Reads w' sz v n xs :=
  h.kept (fun a _ hc => (hb.cell (World.block_lt_of_cell? w a hc)).trans hc)
section
variable {c m : Nat} {E : List En}
theorem gave_nil (w : World) (k : Int) (v : Value) (ev : Value) (hE : w.cell? ⟨0, 0, none⟩ = some ev) : Calls Tryd.prog 14 #[.pointer none, .int .i64 k, v] w fun r w' => r = .returned ev ∧ w = w' := by
  go_enter Tryd.func14, Tryd.ntmps14
  go_wp2
  go_ret
  exact ⟨rfl, rfl⟩
set_option maxRecDepth 10000 in
set_option maxHeartbeats 1000000 in
theorem gave_bad (w : World) (h : HS w c m E) (k : Int) (hk : (Lit.int .i64 k).wf = true) (A2 : Option Addr) (n2 c2 : Nat) (L : List Int) (hr : Reads w 1 (.slice A2 n2 c2) n2 (u8s L)) (hL : ∀ x ∈ L, 0 ≤ x ∧ x ≤ 255)
    (hno : ¬ L <+: (pastR (E.map En.rw) k).bs.drop (pastR (E.map En.rw) k).rd) (ev : Value) (hE : w.cell? ⟨2, 0, none⟩ = some ev) :
    Calls Tryd.prog 14 #[ptr c, .int .i64 k, .slice A2 n2 c2] w fun r w' => r = .returned ev ∧ Below w.heap.size w w' := by
  have HNo := hide hno
  have HK := hide hk
  have HH := hide h
  have HR := hide hr
  have HL := hide hL
  have HLn : Hid (L.length = n2) := hide (by have := hr.1; rw [u8s_length] at this; omega)
  clear h hk hno hr hL
  go_enter Tryd.func14, Tryd.ntmps14
  go_wp2_with fail
  refine (of_any w HH.out k HK.out).mono ?_
  rintro r w1 ⟨⟨ek, b, A, cap, bs, rd, cl, en, F⟩, rfl, ha, hrw, hb, _, _⟩
  obtain ⟨h1, h2⟩ : (pastR (E.map En.rw) k).bs = bs ∧ (pastR (E.map En.rw) k).rd = rd := ⟨(congrArg Rw.bs hrw).symm, (congrArg Rw.rd hrw).symm⟩
  rw [h1, h2] at HNo
  have hblk : w1.heap[b]? = some (.cells #[.slice A bs.length cap, .int .i64 rd, .bool cl, .bool en] 70 (0, 0)) := ha.blk
  obtain ⟨⟨k0, k1, k2, k3⟩, _⟩ := box4 hblk
  obtain ⟨B, d, hs, hrd, hnd⟩ := cut_rest ha.row.reads (row_cap ha.row) rd ha.rd
  have e1 := (hb.cell (World.block_lt_of_cell? w _ hE)).trans hE
  have hr1 : Reads w1 1 (.slice A2 n2 c2) n2 (u8s L) := Reads.past HR.out hb
  have HC : ∀ j, Hid (Calls Tryd.prog 30 #[.slice B (bs.length - rd) d, .slice A2 n2 c2] (w1.drewN j) fun e w' => e = .returned (.bool false) ∧ w' = w1.drewN j) := fun j => hide (by
    have h := Tryd.bytes_HasPrefix_all B A2 (bs.length - rd) d n2 c2 (bs.drop rd) L (w1.drewN j) (by rw [List.length_drop]) HLn.out hnd (bytesIn (Reads.past hrd (dn_below (Below.refl _ _) j))) (bytesIn (Reads.past hr1 (dn_below (Below.refl _ _) j)))
    rw [prefix_is _ _ (fun x hx => ha.byte x (List.mem_of_mem_drop hx)) HL.out, decide_eq_false HNo.out] at h
    exact h)
  have HB := hide hb
  clear ha hrw hb hblk hrd h1 h2 hr1
  go_upto_region 4 with fail
  go_quiet ((go_at_call 30; exact Calls.quiet_of_same (HC _).out))
  go_wp2
  go_ret
  exact ⟨rfl, dn_below HB.out _⟩
set_option maxRecDepth 10000 in
set_option maxHeartbeats 1000000 in
theorem gave_ok (w : World) (h : HS w c m E) (k : Int) (hk : (Lit.int .i64 k).wf = true) (hE : E.length ≤ 2097152) (A2 : Option Addr) (n2 c2 : Nat) (L : List Int) (hr : Reads w 1 (.slice A2 n2 c2) n2 (u8s L)) (hL : ∀ x ∈ L, 0 ≤ x ∧ x ≤ 255)
    (hyes : L <+: (pastR (E.map En.rw) k).bs.drop (pastR (E.map En.rw) k).rd) (hn : (pastR (E.map En.rw) k).bs.length ≤ 140737488355328) :
    Calls Tryd.prog 14 #[ptr c, .int .i64 k, .slice A2 n2 c2] w fun r w' => r = .returned .nilIface ∧ Step1 w w' c m E { pastR (E.map En.rw) k with rd := (pastR (E.map En.rw) k).rd + L.length } := by
  have HYes := hide hyes
  have HK := hide hk
  have HH := hide h
  have HR := hide hr
  have HL := hide hL
  have HN := hide hn
  have HLn : Hid (L.length = n2) := hide (by have := hr.1; rw [u8s_length] at this; omega)
  clear h hk hyes hr hL hn
  go_enter Tryd.func14, Tryd.ntmps14
  go_wp2_with fail
  refine (of_any w HH.out k HK.out).mono ?_
  rintro r w1 ⟨⟨ek, b, A, cap, bs, rd, cl, en, F⟩, rfl, ha, hrw, hb, hf, _⟩
  obtain rfl : ek = k := (congrArg Rw.k hrw).trans (pastR_k _ _)
  obtain ⟨h1, h2⟩ : (pastR (E.map En.rw) ek).bs = bs ∧ (pastR (E.map En.rw) ek).rd = rd := ⟨(congrArg Rw.bs hrw).symm, (congrArg Rw.rd hrw).symm⟩
  rw [h1, h2] at HYes
  rw [h1] at HN
  have hblk : w1.heap[b]? = some (.cells #[.slice A bs.length cap, .int .i64 rd, .bool cl, .bool en] 70 (0, 0)) := ha.blk
  obtain ⟨⟨k0, k1, k2, k3⟩, f0, f1, f2, f3⟩ := box4 hblk
  obtain ⟨B, d, hs, hrd, hnd⟩ := cut_rest ha.row.reads (row_cap ha.row) rd ha.rd
  have hr1 : Reads w1 1 (.slice A2 n2 c2) n2 (u8s L) := Reads.past HR.out hb
  have HC : ∀ j, Hid (Calls Tryd.prog 30 #[.slice B (bs.length - rd) d, .slice A2 n2 c2] (w1.drewN j) fun e w' => e = .returned (.bool true) ∧ w' = w1.drewN j) := fun j => hide (by
    have h := Tryd.bytes_HasPrefix_all B A2 (bs.length - rd) d n2 c2 (bs.drop rd) L (w1.drewN j) (by rw [List.length_drop]) HLn.out hnd (bytesIn (Reads.past hrd (dn_below (Below.refl _ _) j))) (bytesIn (Reads.past hr1 (dn_below (Below.refl _ _) j)))
    rw [prefix_is _ _ (fun x hx => ha.byte x (List.mem_of_mem_drop hx)) HL.out, decide_eq_true HYes.out] at h
    exact h)
  have hle : rd + n2 ≤ bs.length := by
    have h1 := HYes.out.length_le
    rw [List.length_drop, HLn.out] at h1
    have := ha.rd
    have : rd ≤ bs.length := this
    omega
  have hwf : (Lit.int .i64 ((rd : Int) + n2)).wf = true := WalkArith.wf_i64 (by have := HN.out; omega)
  have HLe := hide hle
  have HA := hide ha
  have HRw := hide hrw
  have HB := hide hb
  have HFo := hide hf
  have HBlk := hide hblk
  clear ha hrw hb hf hblk hrd h1 h2 hr1 hle
  go_upto_region 4 with fail
  go_quiet ((go_at_call 30; exact Calls.quiet_of_same (HC _).out))
  go_upto_region 7 with fail
  have hwr : wrap64 ((rd : Int) + n2) = (rd : Int) + n2 := by have h1 := HLe.out; have h2 := HN.out; unfold wrap64; omega
  try rw [hwr]
  clear hwr
  have hset := heap_setCell_same _ b 1 _ 70 (.int .i64 ((rd : Int) + n2)) (show (w1.drewN nq).heap[b]? = _ from HBlk.out)
  have hm2 : Mod (fun j => j = b) w1 ((w1.drewN nq).setCell ⟨b, 1, none⟩ (.int .i64 ((rd : Int) + n2))) := set_mod w1 nq b 1 _
  obtain ⟨w2, hw2⟩ : ∃ w2, (w1.drewN nq).setCell ⟨b, 1, none⟩ (.int .i64 ((rd : Int) + n2)) = w2 := ⟨_, rfl⟩
  rw [hw2] at hset hm2
  rw [hw2]
  clear hw2
  have c2 := hm2.cell HA.out.mapc (fun e => HA.out.bc e.symm)
  have HMp := hide (HA.out.hs.mp.block (hm2.block m HA.out.hs.mp.lt (fun e => HA.out.bm e.symm)))
  have HM2 := hide hm2
  have HSet := hide hset
  clear hset hm2 k0 k1 k2 k3 f0 f1 f2 f3
  go_wp2_with (first
    | (at_mapUpdate; refine wpList_store_mp rfl _ _ _ 63 rfl law_int Tryd.underlying63 rfl HMp.out (by unfold maxLen; omega) (key := .int .i64 ek) (val := ptr b) rfl rfl (key_int HK.out) ?_
       intro w3 hmp3 hg3
       have HMp3 := hide hmp3
       have HG3 := hide hg3
       clear hmp3 hg3)
    | fail)
  go_ret
  have ha := HA.out
  have hm3 : Mod (fun j => j = m ∨ j = b ∨ F j) w1 w3 := (HM2.out.mono (fun _ _ e => .inr (.inl e))).trans (Mod.ofGrown HG3.out (F := fun j => j = m) (fun k e => (Option.some.inj e).symm)) (fun _ _ e => .inl e)
  have hmm : Mod (fun j => j = m) w2 w3 := Mod.ofGrown HG3.out (fun k e => (Option.some.inj e).symm)
  have hf : ∀ j, j = b ∨ F j → HF c m E j ∨ w.heap.size ≤ j := HFo.out
  have hc : ((rd : Int) + n2) = ((rd + L.length : Nat) : Int) := by rw [HLn.out]; rfl
  have hS := HSet.out
  rw [hc] at hS
  refine ⟨rfl, ⟨ek, b, A, cap, bs, rd + L.length, cl, en, F⟩, ?_, ?_, ?_, ?_⟩
  · exact ha.laid ⟨ek, b, A, cap, bs, rd + L.length, cl, en, F⟩ rfl rfl hm3 (fun _ h => h) HMp3.out (hmm.heap hS (fun e => ha.bm e)) ((ha.row.kept HM2.out (fun j hj _ e => ha.fb (e ▸ hj))).kept hmm (fun j hj _ e => ha.fm (e ▸ hj))) (fun j hj => ofE_kept (ofE_kept (ha.of j hj) HM2.out (fun e => ha.fb (e ▸ hj))) hmm (fun e => ha.fm (e ▸ hj))) (fun _ h => .inl h) (by have := HLe.out; rw [← HLn.out] at this; exact this) ha.byte
  · have h := HRw.out
    rw [← h]
    rfl
  · exact (Mod.ofBelow HB.out (HF c m E)).trans hm3 (fun j hj hg => by
      rcases hg with hg | hg
      · exact .inr (.inl hg)
      · exact (hf j hg).elim id (fun h => by omega))
  · exact put_foot ha (e' := ⟨ek, b, A, cap, bs, rd + L.length, cl, en, F⟩) HB.out.size rfl (fun _ h => .inl h) hf
end
end Go.Proofs.YtipfjnjjfojdgaaDoor
