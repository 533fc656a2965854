import Derived.Test.YtlnbgahfelcbiaaDoorLState
import Derived.Test.YtlnbgahfelcbiaaDoorRows
import Derived.WalkLawsBesides
import Derived.WalkSpells
import Derived.StillTailTactics
import Derived.RegionTactic
/- The cache's inner steps: out of the order, ahead of all, gone. -/
namespace Go.Proofs.YtlnbgahfelcbiaaDoor
open Go Go.RowKit Go.Cu

theorem nx_nil (c : Nat) : nx c [] = ⟨c, 3, none⟩ := rfl
theorem nx_snoc (c : Nat) (a : List LE) (x : LE) : nx c (a ++ [x]) = ⟨x.b, 5, none⟩ := by unfold nx; rw [lb_last]
theorem pv_nil (c : Nat) : pv c [] = ⟨c, 4, none⟩ := rfl
theorem pv_cons (c : Nat) (y : LE) (r : List LE) : pv c (y :: r) = ⟨y.b, 4, none⟩ := rfl
abbrev ptr (b : Nat) : Value := .pointer (some ⟨b, 0, none⟩)

theorem unlink_end {w w4 : World} {c m : Nat} {room wt : Int} {a b : List LE} {e : LE} (h : Ord 96 99 w c m room wt (a ++ e :: b)) {r : Ending} (hr : r = .returned (.tuple #[])) {n : Nat}
    (h4 : w4 = ((((w.setCell (nx c a) (pt (hb b none))).setCell (pv c b) (pt (lb a none))).setCell ⟨e.b, 4, none⟩ (pt none)).setCell ⟨e.b, 5, none⟩ (pt none)).drewN n) :
    r = .returned (.tuple #[]) ∧ Ord 96 99 w4 c m room wt (a ++ b) ∧ w4.heap[e.b]? = some (.cells (eCells e none none) 99 (0, 0)) ∧ Mod (InOrd c (a ++ e :: b)) w w4 := by
  obtain ⟨h1, h2, h3⟩ := unlink_world h rfl rfl rfl rfl
  subst h4
  exact ⟨hr, h1.mod ((Mod.refl (fun _ => False) _).drewN n) (fun h => h) (fun _ _ h => h), h2, h3.drewN n⟩
set_option maxHeartbeats 1000000 in
theorem unlink_any (w : World) (c m : Nat) (room wt : Int) (a b : List LE) (e : LE) (h : Ord 96 99 w c m room wt (a ++ e :: b)) :
    Calls Tryd.prog 59 #[ptr c, ptr e.b] w fun r w' => r = .returned (.tuple #[]) ∧ Ord 96 99 w' c m room wt (a ++ b) ∧ w'.heap[e.b]? = some (.cells (eCells e none none) 99 (0, 0)) ∧ Mod (InOrd c (a ++ e :: b)) w w' := by
  have HO := hide h
  obtain ⟨d1, d2, d3, d4, d5⟩ := h.apart.mid
  obtain ⟨x0, x1, x2, x3, k4, k5, fe⟩ := eFacts h.seg.mid
  obtain ⟨y0, y1, y2, g3, g4, fc⟩ := cFacts h.cells
  have fe4 := fe 4
  have fe5 := fe 5
  have fc3 := fc 3
  have fc4 := fc 4
  have d6 : c ≠ e.b := fun h => d5 h.symm
  clear fe fc x0 x1 x2 x3 y0 y1 y2 d4
  rcases List.eq_nil_or_concat a with rfl | ⟨a', x, rfl⟩
  · rw [lb] at k4
    cases b with
    | nil =>
      rw [hb] at k5
      clear h d1 d2 d3
      unfold pt at k4 k5 g3 g4
      simp only [Option.map_none] at k4 k5
      go_enter Tryd.func59, Tryd.ntmps59
      go_wp2
      go_end0
      exact unlink_end HO.out rfl (n := 0) rfl
    | cons y r =>
      rw [hb] at k5
      obtain ⟨z0, z1, z2, z3, q4, q5, fq⟩ := eFacts (List.append_cons [] e (y :: r) ▸ h.seg : Seg 99 w none (([] ++ [e]) ++ y :: r) none).mid
      have fq4 := fq 4
      have dy : y.b ≠ e.b := d2 y (by simp)
      have dy2 := dy.symm
      have dc : y.b ≠ c := h.apart.far y (by simp)
      have dc2 := dc.symm
      clear h d1 d2 d3 fq z0 z1 z2 z3
      unfold pt at k4 k5 g3 g4 q4 q5
      simp only [Option.map_none, Option.map_some] at k4 k5
      go_enter Tryd.func59, Tryd.ntmps59
      go_wp2
      go_region
      all_goals
        go_wp2
        go_end0
        exact unlink_end HO.out rfl (n := 1) rfl
  · rw [List.concat_eq_append] at *
    rw [lb_last] at k4
    have e1 := nx_snoc c a' x
    obtain ⟨z0, z1, z2, z3, s4, s5, fs⟩ := eFacts (List.append_assoc a' [x] (e :: b) ▸ h.seg : Seg 99 w none (a' ++ x :: (e :: b)) none).mid
    have fs5 := fs 5
    have dx : x.b ≠ e.b := d1 x (by simp)
    have dx2 := dx.symm
    have dxc : x.b ≠ c := h.apart.far x (by simp)
    have dxc2 := dxc.symm
    clear fs z0 z1 z2 z3 d1
    have E1 := hide e1
    clear e1
    cases b with
    | nil =>
      rw [hb] at k5
      clear h d2 d3
      unfold pt at k4 k5 g3 g4 s4 s5
      simp only [Option.map_none, Option.map_some] at k4 k5
      go_enter Tryd.func59, Tryd.ntmps59
      go_wp2
      go_region
      all_goals
        go_wp2
        go_end0
        refine unlink_end HO.out rfl (n := 1) ?_
        rw [E1.out, lb_last]
        rfl
    | cons y r =>
      rw [hb] at k5
      obtain ⟨z0, z1, z2, z3, q4, q5, fq⟩ := eFacts (List.append_cons (a' ++ [x]) e (y :: r) ▸ h.seg : Seg 99 w none (((a' ++ [x]) ++ [e]) ++ y :: r) none).mid
      have fq4 := fq 4
      have dy : y.b ≠ e.b := d2 y (by simp)
      have dy2 := dy.symm
      have dc : y.b ≠ c := h.apart.far y (by simp)
      have dc2 := dc.symm
      have dxy : x.b ≠ y.b := d3 x (by simp) y (by simp)
      have dxy2 := dxy.symm
      clear h d2 d3 fq z0 z1 z2 z3
      unfold pt at k4 k5 g3 g4 s4 s5 q4 q5
      simp only [Option.map_some] at k4 k5
      go_enter Tryd.func59, Tryd.ntmps59
      go_wp2
      go_region
      all_goals
        go_wp2
        go_region
      all_goals
        go_wp2
        go_end0
        refine unlink_end HO.out rfl (n := 2) ?_
        rw [E1.out, lb_last]
        rfl

theorem lead_end {w w4 : World} {c m : Nat} {room wt : Int} {L : List LE} {e : LE} (h : Ord 96 99 w c m room wt L) (he : w.heap[e.b]? = some (.cells (eCells e none none) 99 (0, 0))) (hn : ∀ x ∈ L, x.b ≠ e.b) (hc : e.b ≠ c) {r : Ending} (hr : r = .returned (.tuple #[])) {n : Nat}
    (h4 : w4 = (((w.setCell ⟨e.b, 5, none⟩ (pt (hb L none))).setCell (pv c L) (pt (some e.b))).setCell ⟨c, 3, none⟩ (pt (some e.b))).drewN n) :
    r = .returned (.tuple #[]) ∧ Ord 96 99 w4 c m room wt (e :: L) ∧ Mod (InOrd c (e :: L)) w w4 := by
  obtain ⟨h1, h3⟩ := lead_world h he hn hc rfl rfl rfl
  subst h4
  exact ⟨hr, h1.mod ((Mod.refl (fun _ => False) _).drewN n) (fun h => h) (fun _ _ h => h), h3.drewN n⟩
set_option maxHeartbeats 1000000 in
theorem lead_any (w : World) (c m : Nat) (room wt : Int) (L : List LE) (e : LE) (h : Ord 96 99 w c m room wt L) (he : w.heap[e.b]? = some (.cells (eCells e none none) 99 (0, 0))) (hn : ∀ x ∈ L, x.b ≠ e.b) (hc : e.b ≠ c) :
    Calls Tryd.prog 49 #[ptr c, ptr e.b] w fun r w' => r = .returned (.tuple #[]) ∧ Ord 96 99 w' c m room wt (e :: L) ∧ Mod (InOrd c (e :: L)) w w' := by
  have HO := hide h
  have HE := hide he
  have HN := hide hn
  obtain ⟨x0, x1, x2, x3, k4, k5, fe⟩ := eFacts he
  obtain ⟨y0, y1, y2, g3, g4, fc⟩ := cFacts h.cells
  have fe5 := fe 5
  have fc3 := fc 3
  have fc4 := fc 4
  have d6 : c ≠ e.b := fun h => hc h.symm
  clear fe fc x0 x1 x2 x3 y0 y1 y2 he
  cases L with
  | nil =>
    rw [hb] at g3
    clear h hn
    unfold pt at k4 k5 g3 g4
    simp only [Option.map_none] at k4 k5 g3
    go_enter Tryd.func49, Tryd.ntmps49
    go_wp2
    go_end0
    exact lead_end HO.out HE.out HN.out hc rfl (n := 0) rfl
  | cons y r =>
    rw [hb] at g3
    obtain ⟨z0, z1, z2, z3, q4, q5, fq⟩ := eFacts (Seg.mid (a := []) (b := r) (e := y) h.seg)
    have fq4 := fq 4
    have dy : y.b ≠ e.b := hn y (by simp)
    have dy2 := dy.symm
    have dc : y.b ≠ c := h.apart.far y (by simp)
    have dc2 := dc.symm
    clear h hn fq z0 z1 z2 z3
    unfold pt at k4 k5 g3 g4 q4 q5
    simp only [Option.map_none, Option.map_some] at k4 k5 g3
    go_enter Tryd.func49, Tryd.ntmps49
    go_wp2
    go_end0
    exact lead_end HO.out HE.out HN.out hc rfl (n := 0) rfl
end Go.Proofs.YtlnbgahfelcbiaaDoor
