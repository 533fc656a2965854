import Derived.Test.YtjkahckglhpjeaaDoorHFun
import Derived.Deep.CutRange
/- Drop. -/
namespace Go.Proofs.YtjkahckglhpjeaaDoor
open Go Go.RowKit Go.Cu
open Go.Maps (Keyed)


theorem drop_nil (w : World) (x : Int) : Calls Tryd.prog 10 #[.pointer none, .int .i64 x] w fun r w' => r = .returned (.bool false) ∧ Below w.heap.size w w' := by
  go_enter Tryd.func10, Tryd.ntmps10
  go_wp2_with fail
  refine (find_nil w x).mono ?_
  unfold Pl.v Pl.zero
  rintro r w1 ⟨rfl, hb1⟩
  go_wp2
  go_ret
  exact ⟨rfl, hb1.trans (((Below.refl _ _).alloc (Nat.le_refl _) _).mono hb1.size)⟩
theorem drop_no (w : World) (c m1 m2 g : Nat) (L : List HE) (h : HS w c m1 m2 g L) (x : Int) (hk : (Lit.int .i64 x).wf = true) (hn : ∀ e ∈ L, e.h ≠ x) :
    Calls Tryd.prog 10 #[ptr c, .int .i64 x] w fun r w' => r = .returned (.bool false) ∧ Below w.heap.size w w' := by
  have HN := hide hn
  clear hn
  go_enter Tryd.func10, Tryd.ntmps10
  go_wp2_with fail
  refine (find_no w c m1 m2 g L h x hk HN.out).mono ?_
  unfold Pl.v Pl.zero
  rintro r w1 ⟨rfl, hb1⟩
  have HB1 := hide hb1
  clear hb1
  go_wp2
  go_ret
  exact ⟨rfl, HB1.out.trans (((Below.refl _ _).alloc (Nat.le_refl _) _).mono HB1.out.size)⟩
set_option maxRecDepth 10000 in
theorem drop_yes (w : World) (c m1 m2 g : Nat) (a b : List HE) (e : HE) (h : HS w c m1 m2 g (a ++ e :: b)) (hk : (Lit.int .i64 e.h).wf = true) :
    Calls Tryd.prog 10 #[ptr c, .int .i64 e.h] w fun r w' => r = .returned (.bool true) ∧ HS w' c m1 m2 g (a ++ b) ∧ Mod (InH c m1 m2) w w' := by
  have HH := hide h
  have HK := hide hk
  clear h hk
  go_enter Tryd.func10, Tryd.ntmps10
  go_wp2_with fail
  refine (find_yes w c m1 m2 g a b e HH.out HK.out).mono ?_
  unfold Pl.v
  rintro r w1 ⟨rfl, hb1⟩
  have hal : Below w1.heap.size w1 (w1.alloc (.cells #[.int .i64 e.p.conn, .int .i64 e.p.life, .int .u32 e.p.id] 28)) := (Below.refl _ _).alloc (Nat.le_refl _) _
  have h2 := (HH.out.past hb1).past hal
  have hb2 := heap_alloc_new w1 (.cells #[.int .i64 e.p.conn, .int .i64 e.p.life, .int .u32 e.p.id] 28)
  have hm2 : Mod (InH c m1 m2) w (w1.alloc (.cells #[.int .i64 e.p.conn, .int .i64 e.p.life, .int .u32 e.p.id] 28)) := Mod.ofBelow (hb1.trans (hal.mono hb1.size)) _
  have HMod := hide hm2
  have HB2 := hide hb2
  have H2 := hide h2
  obtain ⟨d0, d1, d2, _⟩ := h2.facts
  clear hal h2 hb2 hm2 hb1 d0 d2
  go_upto_region 4 with (first
    | (at_delete; refine wpList_drop_mp rfl _ _ 59 3 rfl law_int Tryd.underlying59 rfl H2.out.pm rfl (key_int HK.out) ?_
       intro w3 hmp3 hg3
       have HMp3 := hide hmp3
       have HG3 := hide hg3
       clear hmp3 hg3)
    | fail)
  go_frame
  obtain ⟨q, hq⟩ : ∃ q, w1.heap.size = q := ⟨_, rfl⟩
  have hb2 := HB2.out
  rw [hq] at hb2
  have hc3 := grown_heap HG3.out H2.out.cells (fun e => H2.out.c_ne1 (Option.some.inj e))
  have hb3 := grown_heap HG3.out hb2 (fun e => map_ne hb2 H2.out.pm (Option.some.inj e))
  have ho3 := H2.out.om.block (HG3.out.block _ H2.out.om.lt (fun e => H2.out.ne (Option.some.inj e).symm))
  have hm3 : Mod (InH c m1 m2) w w3 := HMod.out.grown HG3.out (fun _ => .inr (.inl rfl))
  have hmp3 := HMp3.out
  rw [pm_mid H2.out] at hmp3
  have HP3 : Hid (Mp w3 Tryd.prog 3 m1 (upd (mf k1 v1 (a ++ e :: b)) (.int .i64 e.h) none) ((a ++ e :: b).length - 1)) := hide hmp3
  obtain ⟨d0, d1, d2, _⟩ := box3 hc3
  obtain ⟨b0, b1, b2, _⟩ := box3 hb3
  have HC3 := hide hc3
  have HB3 := hide hb3
  have HO3 := hide ho3
  have HM3 := hide hm3
  rw [hq]
  clear hq hb2 hc3 hb3 ho3 hm3 hmp3 d0 d1
  go_still_tail 5, (by kernel_rfl)
  change wpList _ _ _ _ _ w3.drew
  refine wpList_drop_mp rfl _ _ 60 28 rfl law_pl Tryd.underlying60 rfl (show Mp w3.drew Tryd.prog 28 m2 (mf k2 v2 (a ++ e :: b)) (a ++ e :: b).length from HO3.out) (key := e.p.v) rfl (key_pl (HH.out.wf e (by simp))) ?_
  intro w4 hmp4 hg4
  have hg4 : w3.grownBy w4 (some m2) := ⟨hg4.os, hg4.tape, hg4.output, hg4.size, hg4.block⟩
  rw [om_mid HH.out] at hmp4
  have hc4 := grown_heap hg4 HC3.out (fun e => H2.out.c_ne2 (Option.some.inj e))
  have hp4 := HP3.out.block (hg4.block _ HP3.out.lt (fun e => H2.out.ne (Option.some.inj e)))
  have HD := hide (HH.out.dropped hc4 hp4 hmp4)
  have HM4 : Hid (Mod (InH c m1 m2) w w4) := hide (HM3.out.grown hg4 (fun _ => .inr (.inr rfl)))
  clear hmp4 hg4 hc4 hp4 d2
  go_wp2
  go_ret
  exact ⟨rfl, HD.out, HM4.out⟩
end Go.Proofs.YtjkahckglhpjeaaDoor
