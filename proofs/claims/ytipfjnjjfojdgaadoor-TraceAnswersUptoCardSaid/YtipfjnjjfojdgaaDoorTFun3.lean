import Derived.Test.YtipfjnjjfojdgaaDoorTFun2
import Derived.Test.YtipfjnjjfojdgaaDoorTShelf
import Derived.Test.YtipfjnjjfojdgaaDoorCpy
import Derived.RegionTactic
import Derived.BigRegion
import Derived.Deep.RegionLaw
/- The history's methods: Ended, Past, Gave, Rest. -/
namespace Go.Proofs.YtipfjnjjfojdgaaDoor
open Go Go.RowKit Go.Cu
open Go.Maps (Keyed)

theorem size_byte : (Tryd.prog.info? 5).map (·.size) = some 1 := by kernel_rfl
theorem dn_below {B : Nat} {a w : World} (h : Below B a w) (j : Nat) : Below B a (w.drewN j) := by
  induction j with
  | zero => exact h
  | succ j ih => exact ih.drew
theorem set_mod (w : World) (n b k : Nat) (v : Value) : Mod (fun j => j = b) w ((w.drewN n).setCell ⟨b, k, none⟩ v) := ((Mod.refl (fun j => j = b) w).drewN n).setCell (p := ⟨b, k, none⟩) (fun _ => rfl) v
/-- what is left of a list behind a place, as a slice -/
theorem cut_rest {w : World} {A : Option Addr} {n c : Nat} {L : List Int} (hr : Reads w 1 (.slice A n c) n (u8s L)) (hnc : n ≤ c) (l : Nat) (hl : l ≤ n) :
    ∃ B d, (∀ w, (Instr.sliceAt 26 (.slice A n c) (some (.int .i64 (l : Int))) none none).run Tryd.prog w = .ok (.slice B (n - l) d) w) ∧ Reads w 1 (.slice B (n - l) d) (n - l) (u8s (L.drop l)) ∧ n - l ≤ d := by
  refine ⟨_, _, fun w => run_sliceAt_lo (P := Tryd.prog) w 26 5 1 Tryd.underlying26 size_byte A n c .i64 l hl, ?_, by omega⟩
  have h := hr.cut hnc hl (Nat.le_refl n)
  have hlen : L.length = n := by have := hr.1; rw [u8s_length] at this; omega
  rw [Nat.mul_one, u8s_drop, List.take_of_length_le (by rw [u8s_length, List.length_drop]; omega)] at h
  have h2 : u8s (L.drop (l * 1)) = u8s (L.drop l) := by rw [Nat.mul_one]
  rw [h2] at h
  exact h
theorem row_cap {w : World} {F : Nat → Prop} {A : Option Addr} {n c : Nat} {xs : List Value} (h : Row w F 5 1 (.slice A n c) n xs) : n ≤ c := by
  obtain ⟨A', c', he, hn, _⟩ := h.shape
  injection he with _ _ hc
  omega
theorem bytesIn {w : World} {A : Option Addr} {n c : Nat} {L : List Int} (h : Reads w 1 (.slice A n c) n (u8s L)) : Lib.BytesIn w A n L := by
  obtain ⟨h1, A', c', he, _, h3⟩ := h
  injection he with he _ _
  subst he
  rw [u8s_length] at h1
  rcases h3 with h3 | ⟨ad, rfl, h4⟩
  · have : n = 0 := by omega
    subst this
    exact Lib.BytesIn.nil _ _ _
  · exact Lib.BytesIn.of_cells (fun i hi => h4 i _ (u8s_get (by rw [List.getD_eq_getElem?_getD, List.getElem?_eq_getElem (by omega)]; rfl)))
section
variable {c m : Nat} {E : List En}
/-- a cell of a known past is stored -/
theorem At1.flag {w w' : World} {e : En} (h : At1 w c m E e) (hkn : get En.k E e.k = some e) (hm : Mod (fun j => j = e.b) w w') (e' : En) (hk : e'.k = e.k) (hb : e'.b = e.b) (hA : e'.A = e.A) (hcap : e'.cap = e.cap) (hbs : e'.bs = e.bs) (hF : e'.F = e.F) (hrd : e'.rd ≤ e'.bs.length) (hblk : w'.heap[e.b]? = some (.cells (cellsP e') 70 (0, 0))) :
    HS w' c m (put En.k E e') := by
  have hn : ¬ (m = e.b) := fun x => h.bm x.symm
  refine h.laid e' hk hb hm (fun _ x => .inr (.inl x)) ?_ (by rw [hb]; exact hblk) ?_ ?_ (fun k x => .inl (hF ▸ x)) hrd (by rw [hbs]; exact h.byte)
  · have h1 : mf E (.int .i64 e.k) = some (ptr e.b) := by rw [mf_at, hkn]; rfl
    rw [h1]
    refine Mp.ext (h.hs.mp.block (hm.block m h.hs.mp.lt hn)) (fun l => ?_)
    unfold upd
    split
    · next hl => rw [hl, h1]
    · rfl
  · rw [hA, hcap, hbs, hF]
    exact h.row.kept hm (fun j hj _ e1 => h.fb (e1 ▸ hj))
  · rw [hF]
    exact fun j hj => ofE_kept (h.of j hj) hm (fun e1 => h.fb (e1 ▸ hj))
set_option maxRecDepth 10000 in
set_option maxHeartbeats 1000000 in
theorem ended_ok (w : World) (h : HS w c m E) (k : Int) (hk : (Lit.int .i64 k).wf = true) (hcl : (pastR (E.map En.rw) k).cl = true) (hrd : (pastR (E.map En.rw) k).rd = (pastR (E.map En.rw) k).bs.length) :
    Calls Tryd.prog 15 #[ptr c, .int .i64 k] w fun r w' => r = .returned .nilIface ∧ Step1 w w' c m E { pastR (E.map En.rw) k with en := true } := by
  have HK := hide hk
  have HCl := hide hcl
  have HRd := hide hrd
  have HH := hide h
  clear h hk hcl hrd
  go_enter Tryd.func15, Tryd.ntmps15
  go_wp2_with fail
  refine (of_any w HH.out k HK.out).mono ?_
  rintro r w1 ⟨⟨ek, b, A, cap, bs, rd, cl, en, F⟩, rfl, ha, hrw, hb, hf, hkn⟩
  obtain rfl : ek = k := (congrArg Rw.k hrw).trans (pastR_k _ _)
  obtain rfl : cl = true := (congrArg Rw.cl hrw).trans HCl.out
  obtain rfl : rd = bs.length := by
    have h1 : bs = (pastR (E.map En.rw) ek).bs := congrArg Rw.bs hrw
    have h2 : rd = (pastR (E.map En.rw) ek).rd := congrArg Rw.rd hrw
    rw [h2, h1]; exact HRd.out
  have hkn2 : get En.k E ek = some ⟨ek, b, A, cap, bs, bs.length, true, en, F⟩ := by
    rcases hkn with ⟨hn, _⟩ | hkn
    · have h := HCl.out
      unfold pastR at h
      rw [get_rw, hn] at h
      cases h
    · exact hkn
  have HKn := hide hkn2
  have HA := hide ha
  have HRw := hide hrw
  have HB := hide hb
  have HFo := hide hf
  have hblk : w1.heap[b]? = some (.cells #[.slice A bs.length cap, .int .i64 bs.length, .bool true, .bool en] 70 (0, 0)) := ha.blk
  obtain ⟨⟨k0, k1, k2, k3⟩, f0, f1, f2, f3⟩ := box4 hblk
  have HBlk := hide hblk
  clear ha hrw hb hf hblk hkn hkn2
  go_wp2_with fail
  go_quiet (fail)
  go_wp2
  go_ret
  have hf : ∀ j, j = b ∨ F j → HF c m E j ∨ w.heap.size ≤ j := HFo.out
  refine ⟨rfl, ⟨ek, b, A, cap, bs, bs.length, true, true, F⟩, ?_, ?_, ?_, ?_⟩
  · exact HA.out.flag HKn.out (set_mod _ _ b 3 _) ⟨ek, b, A, cap, bs, bs.length, true, true, F⟩ rfl rfl rfl rfl rfl rfl (Nat.le_refl _) (heap_setCell_same _ b 3 _ 70 (.bool true) HBlk.out)
  · rw [← HRw.out]
    rfl
  · exact (Mod.ofBelow HB.out (HF c m E)).trans (set_mod _ _ b 3 _) (fun j hj hg => (hf j (.inl hg)).elim id (fun h => by omega))
  · exact put_foot HA.out (e' := ⟨ek, b, A, cap, bs, bs.length, true, true, F⟩) HB.out.size rfl (fun _ h => .inl h) hf
theorem ended_nil (w : World) (k : Int) (ev : Value) (hE : w.cell? ⟨0, 0, none⟩ = some ev) : Calls Tryd.prog 15 #[.pointer none, .int .i64 k] w fun r w' => r = .returned ev ∧ w = w' := by
  go_enter Tryd.func15, Tryd.ntmps15
  go_wp2
  go_ret
  exact ⟨rfl, rfl⟩
set_option maxRecDepth 10000 in
set_option maxHeartbeats 1000000 in
theorem ended_open (w : World) (h : HS w c m E) (k : Int) (hk : (Lit.int .i64 k).wf = true) (hcl : (pastR (E.map En.rw) k).cl = false) (ev : Value) (hE : w.cell? ⟨2, 0, none⟩ = some ev) :
    Calls Tryd.prog 15 #[ptr c, .int .i64 k] w fun r w' => r = .returned ev ∧ Below w.heap.size w w' := by
  have HK := hide hk
  have HCl := hide hcl
  have HH := hide h
  clear h hk hcl
  go_enter Tryd.func15, Tryd.ntmps15
  go_wp2_with fail
  refine (of_any w HH.out k HK.out).mono ?_
  rintro r w1 ⟨⟨ek, b, A, cap, bs, rd, cl, en, F⟩, rfl, ha, hrw, hb, _, _⟩
  obtain rfl : cl = false := (congrArg Rw.cl hrw).trans HCl.out
  have hblk : w1.heap[b]? = some (.cells #[.slice A bs.length cap, .int .i64 rd, .bool false, .bool en] 70 (0, 0)) := ha.blk
  obtain ⟨⟨k0, k1, k2, k3⟩, _⟩ := box4 hblk
  have e1 := (hb.cell (World.block_lt_of_cell? w _ hE)).trans hE
  have HB := hide hb
  clear ha hrw hb hblk
  go_wp2_with fail
  go_quiet (fail)
  go_wp2
  go_ret
  exact ⟨rfl, dn_below HB.out _⟩
set_option maxRecDepth 10000 in
set_option maxHeartbeats 1000000 in
theorem ended_less (w : World) (h : HS w c m E) (k : Int) (hk : (Lit.int .i64 k).wf = true) (hcl : (pastR (E.map En.rw) k).cl = true) (hrd : (pastR (E.map En.rw) k).rd < (pastR (E.map En.rw) k).bs.length) (ev : Value) (hE : w.cell? ⟨2, 0, none⟩ = some ev) :
    Calls Tryd.prog 15 #[ptr c, .int .i64 k] w fun r w' => r = .returned ev ∧ Below w.heap.size w w' := by
  have HK := hide hk
  have HCl := hide hcl
  have HH := hide h
  clear h hk hcl
  go_enter Tryd.func15, Tryd.ntmps15
  go_wp2_with fail
  refine (of_any w HH.out k HK.out).mono ?_
  rintro r w1 ⟨⟨ek, b, A, cap, bs, rd, cl, en, F⟩, rfl, ha, hrw, hb, _, _⟩
  obtain rfl : cl = true := (congrArg Rw.cl hrw).trans HCl.out
  have hlt : rd < bs.length := by
    have h1 : bs = (pastR (E.map En.rw) k).bs := congrArg Rw.bs hrw
    have h2 : rd = (pastR (E.map En.rw) k).rd := congrArg Rw.rd hrw
    rw [h2, h1]; exact hrd
  have hdec : decide ((rd : Int) < (bs.length : Int)) = true := decide_eq_true (by omega)
  have hblk : w1.heap[b]? = some (.cells #[.slice A bs.length cap, .int .i64 rd, .bool true, .bool en] 70 (0, 0)) := ha.blk
  obtain ⟨⟨k0, k1, k2, k3⟩, _⟩ := box4 hblk
  have e1 := (hb.cell (World.block_lt_of_cell? w _ hE)).trans hE
  have HB := hide hb
  clear ha hrw hb hblk
  go_wp2_with fail
  go_quiet (fail)
  go_wp2
  go_ret
  exact ⟨rfl, dn_below HB.out _⟩
end
end Go.Proofs.YtipfjnjjfojdgaaDoor
