import Derived.Test.YtipfjnjjfojdgaaDoorTFun
import Derived.Deep.CutBlock
/- The history's methods: Closed, Wrote, Ended, Past. -/
namespace Go.Proofs.YtipfjnjjfojdgaaDoor
open Go Go.RowKit Go.Cu
open Go.Maps (Keyed)

theorem box4 {w : World} {p : Nat} {a b c d : Value} {t : TypeId} (h : w.heap[p]? = some (.cells #[a, b, c, d] t (0, 0))) :
    (w.cell? ⟨p, 0, none⟩ = some a ∧ w.cell? ⟨p, 1, none⟩ = some b ∧ w.cell? ⟨p, 2, none⟩ = some c ∧ w.cell? ⟨p, 3, none⟩ = some d) ∧ (w.frozen? ⟨p, 0, none⟩ = false ∧ w.frozen? ⟨p, 1, none⟩ = false ∧ w.frozen? ⟨p, 2, none⟩ = false ∧ w.frozen? ⟨p, 3, none⟩ = false) :=
  ⟨⟨by rw [cell_of_row w p 0 _ _ _ h]; rfl, by rw [cell_of_row w p 1 _ _ _ h]; rfl, by rw [cell_of_row w p 2 _ _ _ h]; rfl, by rw [cell_of_row w p 3 _ _ _ h]; rfl⟩, frozen_of_row w p 0 _ _ h, frozen_of_row w p 1 _ _ h, frozen_of_row w p 2 _ _ h, frozen_of_row w p 3 _ _ h⟩
/-- what a step at a key leaves -/
def Step1 (w w' : World) (c m : Nat) (E : List En) (r : Rw) : Prop :=
  ∃ e', HS w' c m (put En.k E e') ∧ e'.rw = r ∧ Mod (HF c m E) w w' ∧ ∀ j, HF c m (put En.k E e') j → HF c m E j ∨ w.heap.size ≤ j
section
variable {c m : Nat} {E : List En}
theorem At1.mapc {w : World} {e : En} (h : At1 w c m E e) : w.cell? ⟨c, 0, none⟩ = some (.map (some m)) := by rw [cell_of_row w c 0 _ _ _ h.hs.cell]; rfl
set_option maxRecDepth 10000 in
set_option maxHeartbeats 1000000 in
theorem closed_ok (w : World) (h : HS w c m E) (k : Int) (hk : (Lit.int .i64 k).wf = true) (hE : E.length ≤ 2097152) (hcl : (pastR (E.map En.rw) k).cl = false) :
    Calls Tryd.prog 13 #[ptr c, .int .i64 k] w fun r w' => r = .returned .nilIface ∧ Step1 w w' c m E { pastR (E.map En.rw) k with cl := true } := by
  have HK := hide hk
  have HCl := hide hcl
  have HH := hide h
  clear h hk hcl
  go_enter Tryd.func13, Tryd.ntmps13
  go_wp2_with fail
  refine (of_any w HH.out k HK.out).mono ?_
  rintro r w1 ⟨⟨ek, b, A, cap, bs, rd, cl, en, F⟩, rfl, ha, hrw, hb, hf, _⟩
  obtain rfl : ek = k := (congrArg Rw.k hrw).trans (pastR_k _ _)
  obtain rfl : cl = false := by have h := congrArg Rw.cl hrw; exact h.trans HCl.out
  have HA := hide ha
  have HRw := hide hrw
  have HB := hide hb
  have HFo := hide hf
  have hblk : w1.heap[b]? = some (.cells #[.slice A bs.length cap, .int .i64 rd, .bool false, .bool en] 70 (0, 0)) := ha.blk
  obtain ⟨⟨k0, k1, k2, k3⟩, f0, f1, f2, f3⟩ := box4 hblk
  have c0 := ha.mapc
  have hset := heap_setCell_same _ b 2 _ 70 (.bool true) hblk
  have hm2 : Mod (fun j => j = b) w1 (w1.setCell ⟨b, 2, none⟩ (.bool true)) := (Mod.refl (fun j => j = b) w1).setCell (p := ⟨b, 2, none⟩) (fun _ => rfl) _
  have c2 := hm2.cell c0 (fun e => ha.bc e.symm)
  have HMp := hide (ha.hs.mp.block (hm2.block m ha.hs.mp.lt (fun e => ha.bm e.symm)))
  have HM2 := hide hm2
  have HSet := hide hset
  clear ha hrw hb hf hblk hset hm2
  go_wp2_with (first
    | (at_mapUpdate; refine wpList_store_mp rfl _ _ _ 63 rfl law_int Tryd.underlying63 rfl HMp.out (by unfold maxLen; omega) (key := .int .i64 ek) (val := ptr b) rfl rfl (key_int HK.out) ?_
       intro w3 hmp3 hg3
       have HMp3 := hide hmp3
       have HG3 := hide hg3
       clear hmp3 hg3)
    | fail)
  go_ret
  have ha := HA.out
  have hm3 : Mod (fun j => j = m ∨ j = b ∨ F j) w1 w3 := (HM2.out.mono (fun _ _ e => .inr (.inl e))).trans (Mod.ofGrown HG3.out (F := fun j => j = m) (fun k e => (Option.some.inj e).symm)) (fun _ _ e => .inl e)
  have hmm : Mod (fun j => j = m) (w1.setCell ⟨b, 2, none⟩ (.bool true)) w3 := Mod.ofGrown HG3.out (fun k e => (Option.some.inj e).symm)
  have hf : ∀ j, j = b ∨ F j → HF c m E j ∨ w.heap.size ≤ j := HFo.out
  refine ⟨rfl, ⟨ek, b, A, cap, bs, rd, true, en, F⟩, ?_, ?_, ?_, ?_⟩
  · exact ha.laid ⟨ek, b, A, cap, bs, rd, true, en, F⟩ rfl rfl hm3 (fun _ h => h) HMp3.out (hmm.heap HSet.out (fun e => ha.bm e)) ((ha.row.kept HM2.out (fun j hj _ e => ha.fb (e ▸ hj))).kept hmm (fun j hj _ e => ha.fm (e ▸ hj))) (fun j hj => ofE_kept (ofE_kept (ha.of j hj) HM2.out (fun e => ha.fb (e ▸ hj))) hmm (fun e => ha.fm (e ▸ hj))) (fun _ h => .inl h) ha.rd ha.byte
  · have h := HRw.out
    rw [← h]
    rfl
  · exact (Mod.ofBelow HB.out (HF c m E)).trans hm3 (fun j hj hg => by
      rcases hg with hg | hg
      · exact .inr (.inl hg)
      · exact (hf j hg).elim id (fun h => by omega))
  · exact put_foot ha (e' := ⟨ek, b, A, cap, bs, rd, true, en, F⟩) HB.out.size rfl (fun _ h => .inl h) hf
theorem closed_closed (w : World) (h : HS w c m E) (k : Int) (hk : (Lit.int .i64 k).wf = true) (hcl : (pastR (E.map En.rw) k).cl = true) (ev : Value) (hE : w.cell? ⟨1, 0, none⟩ = some ev) :
    Calls Tryd.prog 13 #[ptr c, .int .i64 k] w fun r w' => r = .returned ev ∧ Below w.heap.size w w' := by
  have HCl := hide hcl
  have HH := hide h
  have HK := hide hk
  clear h hk hcl
  go_enter Tryd.func13, Tryd.ntmps13
  go_wp2_with fail
  refine (of_any w HH.out k HK.out).mono ?_
  rintro r w1 ⟨⟨ek, b, A, cap, bs, rd, cl, en, F⟩, rfl, ha, hrw, hb, _, _⟩
  obtain rfl : cl = true := (congrArg Rw.cl hrw).trans HCl.out
  have hblk : w1.heap[b]? = some (.cells #[.slice A bs.length cap, .int .i64 rd, .bool true, .bool en] 70 (0, 0)) := ha.blk
  obtain ⟨⟨k0, k1, k2, k3⟩, _⟩ := box4 hblk
  have e1 := (hb.cell (World.block_lt_of_cell? w _ hE)).trans hE
  have HB := hide hb
  clear ha hrw hb hblk
  go_wp2
  go_ret
  exact ⟨rfl, HB.out⟩
theorem closed_nil (w : World) (k : Int) (ev : Value) (hE : w.cell? ⟨0, 0, none⟩ = some ev) : Calls Tryd.prog 13 #[.pointer none, .int .i64 k] w fun r w' => r = .returned ev ∧ w = w' := by
  go_enter Tryd.func13, Tryd.ntmps13
  go_wp2
  go_ret
  exact ⟨rfl, rfl⟩
theorem wrote_closed (w : World) (h : HS w c m E) (k : Int) (hk : (Lit.int .i64 k).wf = true) (v : Value) (hcl : (pastR (E.map En.rw) k).cl = true) (ev : Value) (hE : w.cell? ⟨1, 0, none⟩ = some ev) :
    Calls Tryd.prog 12 #[ptr c, .int .i64 k, v] w fun r w' => r = .returned ev ∧ Below w.heap.size w w' := by
  have HCl := hide hcl
  have HH := hide h
  have HK := hide hk
  clear h hk hcl
  go_enter Tryd.func12, Tryd.ntmps12
  go_wp2_with fail
  refine (of_any w HH.out k HK.out).mono ?_
  rintro r w1 ⟨⟨ek, b, A, cap, bs, rd, cl, en, F⟩, rfl, ha, hrw, hb, _, _⟩
  obtain rfl : cl = true := (congrArg Rw.cl hrw).trans HCl.out
  have hblk : w1.heap[b]? = some (.cells #[.slice A bs.length cap, .int .i64 rd, .bool true, .bool en] 70 (0, 0)) := ha.blk
  obtain ⟨⟨k0, k1, k2, k3⟩, _⟩ := box4 hblk
  have e1 := (hb.cell (World.block_lt_of_cell? w _ hE)).trans hE
  have HB := hide hb
  clear ha hrw hb hblk
  go_wp2
  go_ret
  exact ⟨rfl, HB.out⟩
theorem wrote_nil (w : World) (k : Int) (v : Value) (ev : Value) (hE : w.cell? ⟨0, 0, none⟩ = some ev) : Calls Tryd.prog 12 #[.pointer none, .int .i64 k, v] w fun r w' => r = .returned ev ∧ w = w' := by
  go_enter Tryd.func12, Tryd.ntmps12
  go_wp2
  go_ret
  exact ⟨rfl, rfl⟩
set_option maxRecDepth 10000 in
set_option maxHeartbeats 1000000 in
theorem wrote_ok (w : World) (h : HS w c m E) (k : Int) (hk : (Lit.int .i64 k).wf = true) (hE : E.length ≤ 2097152) (hcl : (pastR (E.map En.rw) k).cl = false) (A2 : Option Addr) (n2 c2 : Nat) (L : List Int) (hr : Reads w 1 (.slice A2 n2 c2) n2 (u8s L)) (hL : ∀ x ∈ L, 0 ≤ x ∧ x ≤ 255) (hn : (pastR (E.map En.rw) k).bs.length + n2 ≤ 1099511627776) :
    Calls Tryd.prog 12 #[ptr c, .int .i64 k, .slice A2 n2 c2] w fun r w' => r = .returned .nilIface ∧ Step1 w w' c m E { pastR (E.map En.rw) k with bs := (pastR (E.map En.rw) k).bs ++ L } := by
  obtain ⟨i0, hi0, hz0, hz1, hz2⟩ := info_parts info_byte
  have HK := hide hk
  have HCl := hide hcl
  have HH := hide h
  have HR := hide hr
  have HN := hide hn
  have HL := hide hL
  have HLn : Hid (L.length = n2) := hide (by have := hr.1; rw [u8s_length] at this; omega)
  clear h hk hcl hr hn hL
  go_enter Tryd.func12, Tryd.ntmps12
  go_wp2_with fail
  refine (of_any w HH.out k HK.out).mono ?_
  rintro r w1 ⟨⟨ek, b, A, cap, bs, rd, cl, en, F⟩, rfl, ha, hrw, hb, hf, _⟩
  obtain rfl : ek = k := (congrArg Rw.k hrw).trans (pastR_k _ _)
  obtain rfl : cl = false := (congrArg Rw.cl hrw).trans HCl.out
  have hbl : bs.length + n2 ≤ 1099511627776 := by have h := congrArg Rw.bs hrw; have h2 : bs = (pastR (E.map En.rw) ek).bs := h; rw [h2]; exact HN.out
  have HA := hide ha
  have HRw := hide hrw
  have HB := hide hb
  have HFo := hide hf
  have hblk : w1.heap[b]? = some (.cells #[.slice A bs.length cap, .int .i64 rd, .bool false, .bool en] 70 (0, 0)) := ha.blk
  obtain ⟨⟨k0, k1, k2, k3⟩, f0, f1, f2, f3⟩ := box4 hblk
  have hrow : Row w1 F 5 1 (.slice A bs.length cap) bs.length (u8s bs) := ha.row
  have HRow := hide hrow.narrow
  have HR1 := hide (Reads.kept HR.out (fun a _ hc => (hb.cell (World.block_lt_of_cell? w a hc)).trans hc))
  have HBlk := hide hblk
  clear ha hrw hb hf hblk hrow
  go_upto_region 7 with (first
    | (at_builtin; refine wpList_append_row rfl _ _ 26 rfl 5 i0 (.int .u8 0) 1 1 Tryd.underlying26 hi0 hz0 hz1 hz2 rfl (by decide) rfl HRow.out rfl HR1.out (u8s_one _) (by unfold maxLen; omega) (by omega) ?_
       intro A3 c3 w2 hr2 hm2
       have hblk2 := hm2.heap HBlk.out (fun h => not_ofE HBlk.out (by decide) h.2)
       have HBlk2 := hide hblk2
       obtain ⟨⟨k0, k1, k2, k3⟩, f0, f1, f2, f3⟩ := box4 hblk2
       have HR2 := hide hr2
       have HM2 := hide hm2
       clear hr2 hm2 hblk2)
    | fail)
  have hset := heap_setCell_same _ b 0 _ 70 (.slice A3 (bs.length + n2) c3) HBlk2.out
  have hm3 : Mod (fun j => j = b) w2 (w2.setCell ⟨b, 0, none⟩ (.slice A3 (bs.length + n2) c3)) := (Mod.refl (fun j => j = b) w2).setCell (p := ⟨b, 0, none⟩) (fun _ => rfl) _
  have hm13 : Mod (fun j => j = b ∨ F j) w1 (w2.setCell ⟨b, 0, none⟩ (.slice A3 (bs.length + n2) c3)) := (HM2.out.mono (fun _ _ h => .inr h.1)).trans hm3 (fun _ _ e => .inl e)
  have hnc : ¬ (c = b ∨ F c) := fun h => h.elim (fun e => HA.out.bc e.symm) HA.out.fc
  have hnm : ¬ (m = b ∨ F m) := fun h => h.elim (fun e => HA.out.bm e.symm) HA.out.fm
  have c3' := hm13.cell HA.out.mapc hnc
  have HMp := hide (HA.out.hs.mp.block (hm13.block m HA.out.hs.mp.lt hnm))
  have HR3 := hide ((HR2.out.farE (p := ⟨b, 0, none⟩) HBlk2.out (by decide) (.slice A3 (bs.length + n2) c3)).narrow)
  have HM13 := hide hm13
  have HSet := hide hset
  clear hset hm3 hm13 hnc hnm k0 k1 k2 k3 f0 f1 f2 f3
  go_wp2_with (first
    | (at_mapUpdate; refine wpList_store_mp rfl _ _ _ 63 rfl law_int Tryd.underlying63 rfl HMp.out (by unfold maxLen; omega) (key := .int .i64 ek) (val := ptr b) rfl rfl (key_int HK.out) ?_
       intro w4 hmp4 hg4
       have HMp4 := hide hmp4
       have HG4 := hide hg4
       clear hmp4 hg4)
    | fail)
  go_ret
  have ha := HA.out
  have hmm : Mod (fun j => j = m) (w2.setCell ⟨b, 0, none⟩ (.slice A3 (bs.length + n2) c3)) w4 := Mod.ofGrown HG4.out (fun k e => (Option.some.inj e).symm)
  have hm4 : Mod (fun j => j = m ∨ j = b ∨ F j) w1 w4 := (HM13.out.mono (fun _ _ e => .inr e)).trans hmm (fun _ _ e => .inl e)
  have hf : ∀ j, j = b ∨ F j → HF c m E j ∨ w.heap.size ≤ j := HFo.out
  have hlen : (bs ++ L).length = bs.length + n2 := by rw [List.length_append, HLn.out]
  have hnm4 : ∀ j, OfE (w2.setCell ⟨b, 0, none⟩ (.slice A3 (bs.length + n2) c3)) 5 j → j ≠ m := fun j hj e => not_ofE_mp HMp.out (e ▸ hj)
  refine ⟨rfl, ⟨ek, b, A3, c3, bs ++ L, rd, false, en, fun j => ((F j ∧ OfE w1 5 j) ∨ j = w1.heap.size) ∧ OfE (w2.setCell ⟨b, 0, none⟩ (.slice A3 (bs.length + n2) c3)) 5 j⟩, ?_, ?_, ?_, ?_⟩
  · refine ha.laid ⟨ek, b, A3, c3, bs ++ L, rd, false, en, fun j => ((F j ∧ OfE w1 5 j) ∨ j = w1.heap.size) ∧ OfE (w2.setCell ⟨b, 0, none⟩ (.slice A3 (bs.length + n2) c3)) 5 j⟩ rfl rfl hm4 (fun _ h => h) HMp4.out ?_ ?_ ?_ ?_ ?_ ?_
    · have h := hmm.heap HSet.out (fun e => ha.bm e)
      show w4.heap[b]? = some (.cells #[.slice A3 (bs ++ L).length c3, .int .i64 rd, .bool false, .bool en] 70 (0, 0))
      rw [hlen]
      exact h
    · show Row w4 _ 5 1 (.slice A3 (bs ++ L).length c3) (bs ++ L).length (u8s (bs ++ L))
      rw [hlen, ← u8s_append]
      exact HR3.out.kept hmm (fun j hj _ => hnm4 j hj.2)
    · exact fun j hj => ofE_kept hj.2 hmm (hnm4 j hj.2)
    · exact fun j hj => hj.1.elim (fun h => .inl h.1) (fun h => .inr (Nat.le_of_eq h.symm))
    · show rd ≤ (bs ++ L).length
      have : rd ≤ bs.length := ha.rd
      omega
    · intro x hx
      rcases List.mem_append.1 hx with hx | hx
      · exact ha.byte x hx
      · exact HL.out x hx
  · rw [← HRw.out]
    rfl
  · exact (Mod.ofBelow HB.out (HF c m E)).trans hm4 (fun j hj hg => by
      rcases hg with hg | hg
      · exact .inr (.inl hg)
      · exact (hf j hg).elim id (fun h => by omega))
  · exact put_foot ha (e' := ⟨ek, b, A3, c3, bs ++ L, rd, false, en, fun j => ((F j ∧ OfE w1 5 j) ∨ j = w1.heap.size) ∧ OfE (w2.setCell ⟨b, 0, none⟩ (.slice A3 (bs.length + n2) c3)) 5 j⟩) HB.out.size rfl (fun j hj => hj.1.elim (fun h => .inl h.1) (fun h => .inr (Nat.le_of_eq h.symm))) hf
end
end Go.Proofs.YtipfjnjjfojdgaaDoor
