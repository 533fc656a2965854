import Derived.Test.YtipfjnjjfojdgaaDoorTIter
import Derived.RangeFuncBox
import Derived.Maps.AppendAt
/- slices.AppendSeq and slices.Collect over the history's keys (turned from the pings'). -/
namespace Go.Proofs.YtipfjnjjfojdgaaDoor
open Go Go.RowKit Go.Shelf Go.Cu
open Go.Maps (Keyed has)
attribute [local go_sem] Oper.semAt_some

def ks (L : List Int) : List Value := L.map (Value.int .i64)
/-- a block of the call's own holds each of these once -/
def Got (w : World) (W : List Int) (v : Value) (w' : World) : Prop := ∃ ys : List Int, (ys.Nodup ∧ ∀ x, x ∈ ys ↔ x ∈ W) ∧ w'.ownsRow w.heap.size 3 1 v ys.length (ks ys) ∧ (v = .slice none 0 0 ↔ ys = []) ∧ Below w.heap.size w w'
theorem info3 : (Tryd.prog.info? 3).map (fun i => (i.zero, i.size, i.bytes)) = some (some (.int .i64 0), 1, 8) := by kernel_rfl

set_option maxRecDepth 100000 in
set_option maxHeartbeats 2000000 in
theorem append_any (w : World) (p m : Nat) (hp : w.cell? ⟨p, 0, none⟩ = some (.map (some m))) (W0 : List Int) (hW : W0.length ≤ 4294967296) (f : Lit → Option Value) (hf : ∀ x : Int, (∃ v, f (.int .i64 x) = some v) ↔ x ∈ W0) (hm : Mp w Tryd.prog 3 m f W0.length) :
    Calls Tryd.prog 52 #[.slice none 0 0, .func (.func 47) #[] #[ptr p]] w fun e w' => ∃ v, e = .returned v ∧ Got w W0 v w' := by
  obtain ⟨i0, hi, hz0, hz1, hz2⟩ := info_parts info3
  have hal : Below w.heap.size w (w.alloc (.cells #[.slice none 0 0] 39)) := (Below.refl _ _).alloc (Nat.le_refl _) _
  have hb : Boxed (w.alloc (.cells #[.slice none 0 0] 39)) w.heap.size 39 (.slice none 0 0) := Boxed.new w 39 (.slice none 0 0)
  have hp1 : (w.alloc (.cells #[.slice none 0 0] 39)).cell? ⟨p, 0, none⟩ = some (.map (some m)) := (hal.cell (World.block_lt_of_cell? w _ hp)).trans hp
  have hm1 := hm.block (hal.block _ hm.lt)
  have HP := hide hp1
  have HM := hide hm1
  have HBx := hide hb
  have HAl := hide hal
  have HI := hide hi
  clear hp hm hp1 hm1 hb hal hi
  refine (callsIn_wide (n := 5)).1 (callsIn_of_wp_marks Tryd.func52 rfl trivial (wpIn_wide.2 ?_) rfl)
  simp only [Tryd.ntmps52, List.size_toArray, List.length_cons, List.length_nil, Nat.reduceAdd, Nat.reduceSub, Array.replicate_succ, Array.replicate_zero, List.push_toArray, List.append_toArray, List.nil_append, List.cons_append]
  obtain ⟨w1, hw1⟩ : ∃ w1, w.alloc (.cells #[.slice none 0 0] 39) = w1 := ⟨_, rfl⟩
  obtain ⟨q, hq⟩ : ∃ q, w.heap.size = q := ⟨_, rfl⟩
  have hq1 : w.heap.size ≤ q := by omega
  have HQ := hide hq1
  rw [hw1] at HP HM HBx HAl
  rw [hq] at HBx
  go_upto_region 1 with fail
  clear hw1 hq hq1
  go_wp2_with fail
  refine wpIn_wide (n := 5).1 ?_
  refine wpIn_rangeFunc_ownH (F := Fence.wide) rfl (by decide) (gf := 47) (lb := #[ptr p]) rfl trivial (enters_of Tryd.func47 (by kernel_rfl) rfl)
    (iter_any w1 4 p m (by decide) HP.out W0 f hf HM.out)
    KeepsWalks.trans (fun W l o o' hl h hc hw => walksK_b (w := w1) W l o o' hl h hc hw) (Below.refl _ _) (fun _ => rfl)
    (fun pre W => (∃ v, Boxed W q 39 v ∧ W.ownsRow w.heap.size 3 1 v pre.length (ks pre) ∧ (v = .slice none 0 0 ↔ pre = [])) ∧ Below w.heap.size w W)
    (fun _ _ _ => False)
    (OwnFrom.and (Own.from (holdsRow_own w.heap.size q 39 3 1 (fun pre => pre.length) (fun pre => ks pre) (fun pre v => v = .slice none 0 0 ↔ pre = [])) _) (ownFrom_below (Nat.le_refl _) HAl.out.size))
    (fun _ _ _ _ _ h _ _ => h) ⟨⟨_, HBx.out, World.ownsRow_nil _ _ _ _, by simp⟩, HAl.out⟩
    (fun x a' _ => ∃ tm, a' = { tmps := tm, defers := [] } ∧ tm = #[.slice none 0 0, .func (.func 47) #[] #[ptr p], .pointer (some ⟨q, 0, none⟩), undef, .slice none 0 0, .int .i64 x, .func (.func 47) #[] #[ptr p], .int .i64 x, undef, undef, undef, undef, undef])
    (fun _ _ _ _ _ _ h _ _ => h) ?assign ?body ?done ?stop
  case assign =>
    intro l pre x W K hI hK
    gi_wp2
    exact hK _ _ (KeepsFrom.refl _ _) (KeepsWalks.refl _) hI ⟨_, rfl, rfl⟩
  case stop =>
    rintro D cc pre W _ _ h _
    exact h.elim
  case body =>
    rintro l pre x a' W hl hrec ⟨⟨v, hv, hrow, hnil⟩, hB⟩ ⟨_, rfl, rfl⟩ hlt
    have hc := hv.cell
    have hf := hv.frozen
    have hs0 := hB.size
    have HI2 := HI.out
    gi_wp2_with (first
      | (gi_at_builtin; refine wpListIn_append_own _ rfl _ _ 39 rfl w.heap.size 3 i0 (.int .i64 0) 1 8 Tryd.underlying39 HI2 hz0 hz1 hz2 rfl (by decide) _ _ _ rfl (hrow.alloc _) ⟨W.heap.size, 0, none⟩ 1 1 [.int .i64 x] rfl rfl (cell_one_new _ _ _) (by simp [Value.oneCell']) (by unfold maxLen; omega) (by omega) (by simp; omega) ?_; intro v' w3 hown' hgrow _; obtain ⟨g', cap', rfl⟩ := ownsRow_succ hown'; obtain ⟨hv1, hv2, hr2, hk2, hb2⟩ := hv.appended (by decide) hrow hB.size HQ.out hown' hgrow; have hc1 := hv1.cell; have hf1 := hv1.frozen)
      | gi_in)
    exact ⟨hk2.from _, hk2.walks, ⟨_, hv2, by simpa [ks] using hr2, by simp⟩, hB.trans hb2⟩
  case done =>
    rintro D ys W hD hys ⟨⟨v, hv, hrow, hnil⟩, hB⟩ hK
    have k0 := hv.cell
    have HbW := hide hB
    have HK := hide hK
    have HR := hide hrow
    clear hv hB hK hrow
    go_wp2
    refine ⟨by simp, .inl ⟨_, _, rfl, run_takeDeferred HK.out, ?_⟩⟩
    refine ⟨v, ?_, v, rfl, ys, hys, ownsRow_putObj HR.out _ HK.out rfl, hnil, ?_⟩
    · simp [results, Tryd.results52, go_sem]
    · exact HbW.out.trans (belowK_b (w := w1) HAl.out.size _ D _ _ hD HK.out rfl rfl)
theorem collect_any (w : World) (p m : Nat) (hp : w.cell? ⟨p, 0, none⟩ = some (.map (some m))) (W0 : List Int) (hW : W0.length ≤ 4294967296) (f : Lit → Option Value) (hf : ∀ x : Int, (∃ v, f (.int .i64 x) = some v) ↔ x ∈ W0) (hm : Mp w Tryd.prog 3 m f W0.length) :
    Calls Tryd.prog 45 #[.func (.func 47) #[] #[ptr p]] w fun e w' => ∃ v, e = .returned v ∧ Got w W0 v w' := by
  have HO := hide (append_any w p m hp W0 hW f hf hm)
  clear hp hm
  go_enter Tryd.func45, Tryd.ntmps45
  go_wp2_with fail
  refine HO.out.mono ?_
  rintro e w1 ⟨v, rfl, hb⟩
  have HB := hide hb
  clear hb
  go_wp2
  go_ret
  exact ⟨v, rfl, HB.out⟩
end Go.Proofs.YtipfjnjjfojdgaaDoor
