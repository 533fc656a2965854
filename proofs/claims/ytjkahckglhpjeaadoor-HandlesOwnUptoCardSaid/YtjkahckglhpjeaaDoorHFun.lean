import Derived.Test.YtjkahckglhpjeaaDoorHState
import Derived.Deep.CutRange
/- The methods of Handles but On. -/
namespace Go.Proofs.YtjkahckglhpjeaaDoor
open Go Go.RowKit Go.Cu
open Go.Maps (Keyed)

theorem below_drewN (w : World) (n : Nat) : Below w.heap.size w (w.drewN n) := ((Mod.refl (fun _ => False) w).drewN n).below (Nat.le_refl _) (fun _ h => h.elim)
def Pl.zero : Pl := ⟨0, 0, 0⟩
theorem zero_pl (w : World) : (zeroValue 28).run Tryd.prog w = .ok (.agg #[.int .i64 0, .int .i64 0, .int .u32 0]) w := by kernel_rfl
theorem zero_int (w : World) : (zeroValue 3).run Tryd.prog w = .ok (.int .i64 0) w := by kernel_rfl
section
variable {w w' : World} {c m1 m2 g : Nat} {L : List HE}
theorem HS.look59 (h : HS w c m1 m2 g L) {x : Int} (hk : (Lit.int .i64 x).wf = true) :
    (Instr.lookup 59 (.map (some m1)) (.int .i64 x) true).run Tryd.prog w = .ok (.tuple #[(mf k1 v1 L (.int .i64 x)).getD (.agg #[.int .i64 0, .int .i64 0, .int .u32 0]), .bool (mf k1 v1 L (.int .i64 x)).isSome]) w :=
  h.pm.lookOk (t := 59) (e := 28) law_int Tryd.underlying59 (zero_pl w) (key_int hk)
theorem HS.look60 (h : HS w c m1 m2 g L) {p : Pl} (hk : p.wf) :
    (Instr.lookup 60 (.map (some m2)) (.agg #[.int .i64 p.conn, .int .i64 p.life, .int .u32 p.id]) true).run Tryd.prog w = .ok (.tuple #[(mf k2 v2 L (plit p)).getD (.int .i64 0), .bool (mf k2 v2 L (plit p)).isSome]) w :=
  h.om.lookOk (t := 60) (e := 3) law_pl Tryd.underlying60 (zero_int w) (key_pl hk)
end
theorem box3 {w : World} {p : Nat} {x y z : Value} {t : TypeId} (h : w.heap[p]? = some (.cells #[x, y, z] t (0, 0))) :
    w.cell? ⟨p, 0, none⟩ = some x ∧ w.cell? ⟨p, 1, none⟩ = some y ∧ w.cell? ⟨p, 2, none⟩ = some z ∧ ∀ j, w.frozen? ⟨p, j, none⟩ = false :=
  ⟨by rw [cell_of_row w p 0 _ _ _ h]; rfl, by rw [cell_of_row w p 1 _ _ _ h]; rfl, by rw [cell_of_row w p 2 _ _ _ h]; rfl, fun j => frozen_of_row w p j _ _ h⟩
theorem new_any (w : World) : Calls Tryd.prog 9 #[] w fun r w' => ∃ c, r = .returned (ptr c) ∧ ∃ m1 m2, HS w' c m1 m2 0 [] ∧ w.heap.size ≤ c ∧ w.heap.size ≤ m1 ∧ w.heap.size ≤ m2 ∧ Below w.heap.size w w' := by
  have HM1 := hide (Mp.made w Tryd.prog 3)
  have HM2 := hide (Mp.made (w.alloc (.map #[] 0)) Tryd.prog 28)
  have hmm := @run_makeMap Tryd.prog
  go_enter Tryd.func9, Tryd.ntmps9
  go_wp2
  go_ret
  have hb : Below w.heap.size w (((w.alloc (.map #[] 0)).alloc (.map #[] 0)).alloc (.cells #[.int .i64 0, .map (some w.heap.size), .map (some (w.heap.size + 1))] 62)) := (((Below.refl _ w).alloc (Nat.le_refl _) _).alloc (by simp) _).alloc (by simp; omega) _
  refine ⟨w.heap.size + 1 + 1, rfl, w.heap.size, w.heap.size + 1, ⟨?_, ?_, ?_, by omega, List.Pairwise.nil, fun e he => (List.not_mem_nil he).elim, List.Pairwise.nil, fun e he => (List.not_mem_nil he).elim, by omega⟩, by omega, by omega, by omega, hb⟩
  · have := heap_alloc_new ((w.alloc (.map #[] 0)).alloc (.map #[] 0)) (.cells #[.int .i64 0, .map (some w.heap.size), .map (some (w.heap.size + 1))] 62)
    rw [World.size_alloc, World.size_alloc] at this
    exact this
  · refine (HM1.out.block ?_).ext (fun l => rfl)
    rw [Below.heap_alloc _ _ _ (by simp; omega), Below.heap_alloc _ _ _ (by simp)]
  · have h := HM2.out
    rw [World.size_alloc] at h
    refine (h.block ?_).ext (fun l => rfl)
    rw [Below.heap_alloc _ _ _ (by simp)]

theorem len_any (w : World) (c m1 m2 g : Nat) (L : List HE) (h : HS w c m1 m2 g L) : Calls Tryd.prog 18 #[ptr c] w fun r w' => r = .returned (.int .i64 L.length) ∧ w = w' := by
  obtain ⟨c0, c1, c2, fc⟩ := h.facts
  have hl := h.pm.len (t := 59) (e := 28) Tryd.underlying59
  clear h c0 c2 fc
  go_enter Tryd.func18, Tryd.ntmps18
  go_wp2
  go_ret
  exact ⟨rfl, rfl⟩
theorem len_nil (w : World) : Calls Tryd.prog 18 #[.pointer none] w fun r w' => r = .returned (.int .i64 0) ∧ w = w' := by
  go_enter Tryd.func18, Tryd.ntmps18
  go_wp2
  go_ret
  exact ⟨rfl, rfl⟩
theorem find_nil (w : World) (x : Int) : Calls Tryd.prog 13 #[.pointer none, .int .i64 x] w fun r w' => r = .returned (.tuple #[Pl.zero.v, .bool false]) ∧ Below w.heap.size w w' := by
  go_enter Tryd.func13, Tryd.ntmps13
  go_wp2
  refine bodyPost_ret (v := .tuple #[.agg #[.int .i64 0, .int .i64 0, .int .u32 0], .bool false]) (by simp [results, Tryd.results13, go_sem]) rfl ⟨rfl, ?_⟩
  exact (Below.refl _ _).alloc (Nat.le_refl _) _
theorem find_no (w : World) (c m1 m2 g : Nat) (L : List HE) (h : HS w c m1 m2 g L) (x : Int) (hk : (Lit.int .i64 x).wf = true) (hn : ∀ e ∈ L, e.h ≠ x) :
    Calls Tryd.prog 13 #[ptr c, .int .i64 x] w fun r w' => r = .returned (.tuple #[Pl.zero.v, .bool false]) ∧ Below w.heap.size w w' := by
  have h1 := h.past ((Below.refl _ _).alloc (Nat.le_refl _) (.cells #[.int .i64 0, .int .i64 0, .int .u32 0] 28))
  obtain ⟨c0, c1, c2, fc⟩ := h1.facts
  have hl := h1.look59 hk
  rw [pm_none hn] at hl
  simp only [Option.getD_none, Option.isSome_none] at hl
  clear h h1 c0 c2 fc hn
  go_enter Tryd.func13, Tryd.ntmps13
  go_wp2
  refine bodyPost_ret (v := .tuple #[.agg #[.int .i64 0, .int .i64 0, .int .u32 0], .bool false]) (by simp [results, Tryd.results13, go_sem]) rfl ⟨rfl, ?_⟩
  exact ((Below.refl _ _).alloc (Nat.le_refl _) _).alloc (by simp) _
theorem find_yes (w : World) (c m1 m2 g : Nat) (a b : List HE) (e : HE) (h : HS w c m1 m2 g (a ++ e :: b)) (hk : (Lit.int .i64 e.h).wf = true) :
    Calls Tryd.prog 13 #[ptr c, .int .i64 e.h] w fun r w' => r = .returned (.tuple #[e.p.v, .bool true]) ∧ Below w.heap.size w w' := by
  have h1 := h.past ((Below.refl _ _).alloc (Nat.le_refl _) (.cells #[.int .i64 0, .int .i64 0, .int .u32 0] 28))
  obtain ⟨c0, c1, c2, fc⟩ := h1.facts
  have hl := h1.look59 hk
  rw [pm_mid h] at hl
  simp only [Option.getD_some, Option.isSome_some, Pl.v] at hl
  clear h h1 c0 c2 fc
  go_enter Tryd.func13, Tryd.ntmps13
  go_wp2
  refine bodyPost_ret (v := .tuple #[.agg #[.int .i64 e.p.conn, .int .i64 e.p.life, .int .u32 e.p.id], .bool true]) (by simp [results, Tryd.results13, go_sem]) rfl ⟨rfl, ?_⟩
  exact ((Below.refl _ _).alloc (Nat.le_refl _) _).alloc (by simp) _
theorem of_nil (w : World) (p : Pl) : Calls Tryd.prog 16 #[.pointer none, p.v] w fun r w' => r = .returned (.tuple #[.int .i64 0, .bool false]) ∧ Below w.heap.size w w' := by
  unfold Pl.v
  go_enter Tryd.func16, Tryd.ntmps16
  go_wp2
  go_ret2
  exact ⟨rfl, (Below.refl _ _).alloc (Nat.le_refl _) _⟩
theorem of_no (w : World) (c m1 m2 g : Nat) (L : List HE) (h : HS w c m1 m2 g L) (p : Pl) (hp : p.wf) (hn : ∀ e ∈ L, e.p ≠ p) :
    Calls Tryd.prog 16 #[ptr c, p.v] w fun r w' => r = .returned (.tuple #[.int .i64 0, .bool false]) ∧ Below w.heap.size w w' := by
  have h1 := h.past ((Below.refl _ _).alloc (Nat.le_refl _) (.cells #[.int .i64 p.conn, .int .i64 p.life, .int .u32 p.id] 28))
  obtain ⟨c0, c1, c2, fc⟩ := h1.facts
  have hl : ∀ j, (Instr.lookup 60 (.map (some m2)) (.agg #[.int .i64 p.conn, .int .i64 p.life, .int .u32 p.id]) true).run Tryd.prog ((w.alloc (.cells #[.int .i64 p.conn, .int .i64 p.life, .int .u32 p.id] 28)).drewN j) = .ok (.tuple #[.int .i64 0, .bool false]) ((w.alloc (.cells #[.int .i64 p.conn, .int .i64 p.life, .int .u32 p.id] 28)).drewN j) := fun j => by
    have hl := (h1.past (below_drewN _ j)).look60 hp
    rw [h1.om_none hp hn] at hl
    exact hl
  have hs : w.heap.size < w.heap.size + 1 := by omega
  clear h h1 c0 c1 fc hn
  unfold Pl.v
  go_enter Tryd.func16, Tryd.ntmps16
  go_wp2
  go_quiet (fail)
  go_wp2
  go_ret2
  exact ⟨rfl, ((Below.refl _ _).alloc (Nat.le_refl _) _).trans ((below_drewN _ _).mono (by simp))⟩
theorem of_yes (w : World) (c m1 m2 g : Nat) (a b : List HE) (e : HE) (h : HS w c m1 m2 g (a ++ e :: b)) :
    Calls Tryd.prog 16 #[ptr c, e.p.v] w fun r w' => r = .returned (.tuple #[.int .i64 e.h, .bool true]) ∧ Below w.heap.size w w' := by
  have h1 := h.past ((Below.refl _ _).alloc (Nat.le_refl _) (.cells #[.int .i64 e.p.conn, .int .i64 e.p.life, .int .u32 e.p.id] 28))
  obtain ⟨c0, c1, c2, fc⟩ := h1.facts
  have hl : ∀ j, (Instr.lookup 60 (.map (some m2)) (.agg #[.int .i64 e.p.conn, .int .i64 e.p.life, .int .u32 e.p.id]) true).run Tryd.prog ((w.alloc (.cells #[.int .i64 e.p.conn, .int .i64 e.p.life, .int .u32 e.p.id] 28)).drewN j) = .ok (.tuple #[.int .i64 e.h, .bool true]) ((w.alloc (.cells #[.int .i64 e.p.conn, .int .i64 e.p.life, .int .u32 e.p.id] 28)).drewN j) := fun j => by
    have hl := (h1.past (below_drewN _ j)).look60 (h.wf e (by simp))
    rw [om_mid h1] at hl
    exact hl
  clear h h1 c0 c1 fc
  unfold Pl.v
  go_enter Tryd.func16, Tryd.ntmps16
  go_wp2
  go_quiet (fail)
  go_wp2
  go_ret2
  exact ⟨rfl, ((Below.refl _ _).alloc (Nat.le_refl _) _).trans ((below_drewN _ _).mono (by simp))⟩
theorem bind_nil (w : World) (p : Pl) (v : Value) (hE : w.cell? ⟨0, 0, none⟩ = some v) : Calls Tryd.prog 11 #[.pointer none, p.v] w fun r w' => r = .returned (.tuple #[.int .i64 0, v]) ∧ Below w.heap.size w w' := by
  have h1 : (w.alloc (.cells #[.int .i64 p.conn, .int .i64 p.life, .int .u32 p.id] 28)).cell? ⟨0, 0, none⟩ = some v := ((Below.refl w.heap.size w).alloc (Nat.le_refl _) _).cell (World.block_lt_of_cell? w _ hE) ▸ hE
  clear hE
  unfold Pl.v
  go_enter Tryd.func11, Tryd.ntmps11
  go_wp2
  go_quiet (fail)
  go_wp2
  go_ret2
  exact ⟨rfl, ((Below.refl _ _).alloc (Nat.le_refl _) _).trans ((below_drewN _ _).mono (by simp))⟩
theorem bind_twice (w : World) (c m1 m2 g : Nat) (a b : List HE) (e : HE) (h : HS w c m1 m2 g (a ++ e :: b)) (v : Value) (hE : w.cell? ⟨1, 0, none⟩ = some v) :
    Calls Tryd.prog 11 #[ptr c, e.p.v] w fun r w' => r = .returned (.tuple #[.int .i64 0, v]) ∧ Below w.heap.size w w' := by
  have hE1 : (w.alloc (.cells #[.int .i64 e.p.conn, .int .i64 e.p.life, .int .u32 e.p.id] 28)).cell? ⟨1, 0, none⟩ = some v := ((Below.refl w.heap.size w).alloc (Nat.le_refl _) _).cell (World.block_lt_of_cell? w _ hE) ▸ hE
  have h1 := h.past ((Below.refl _ _).alloc (Nat.le_refl _) (.cells #[.int .i64 e.p.conn, .int .i64 e.p.life, .int .u32 e.p.id] 28))
  obtain ⟨c0, c1, c2, fc⟩ := h1.facts
  have hl : ∀ j, (Instr.lookup 60 (.map (some m2)) (.agg #[.int .i64 e.p.conn, .int .i64 e.p.life, .int .u32 e.p.id]) true).run Tryd.prog ((w.alloc (.cells #[.int .i64 e.p.conn, .int .i64 e.p.life, .int .u32 e.p.id] 28)).drewN j) = .ok (.tuple #[.int .i64 e.h, .bool true]) ((w.alloc (.cells #[.int .i64 e.p.conn, .int .i64 e.p.life, .int .u32 e.p.id] 28)).drewN j) := fun j => by
    have hl := (h1.past (below_drewN _ j)).look60 (h.wf e (by simp))
    rw [om_mid h1] at hl
    exact hl
  clear h h1 c0 c1 fc hE
  unfold Pl.v
  go_enter Tryd.func11, Tryd.ntmps11
  go_wp2
  go_quiet (fail)
  go_wp2
  obtain ⟨w2, hw2⟩ : ∃ w2, (w.alloc (.cells #[.int .i64 e.p.conn, .int .i64 e.p.life, .int .u32 e.p.id] 28)).drewN nq = w2 := ⟨_, rfl⟩
  have hE2 : w2.cell? ⟨1, 0, none⟩ = some v := by rw [← hw2]; exact hE1
  have hb2 : Below w.heap.size w w2 := by rw [← hw2]; exact ((Below.refl _ _).alloc (Nat.le_refl _) _).trans ((below_drewN _ _).mono (by simp))
  have HB2 := hide hb2
  rw [hw2]
  clear hw2 hE1 hl c2 hb2
  go_quiet (fail)
  go_wp2
  go_ret2
  exact ⟨rfl, HB2.out.trans ((below_drewN _ _).mono HB2.out.size)⟩
set_option maxRecDepth 10000 in
theorem bind_full (w : World) (c m1 m2 g : Nat) (L : List HE) (h : HS w c m1 m2 g L) (p : Pl) (hp : p.wf) (hn : ∀ e ∈ L, e.p ≠ p) (hg : (2147483648 : Int) ≤ (g : Int)) (v : Value) (hE : w.cell? ⟨2, 0, none⟩ = some v) :
    Calls Tryd.prog 11 #[ptr c, p.v] w fun r w' => r = .returned (.tuple #[.int .i64 0, v]) ∧ Below w.heap.size w w' := by
  have hE1 : (w.alloc (.cells #[.int .i64 p.conn, .int .i64 p.life, .int .u32 p.id] 28)).cell? ⟨2, 0, none⟩ = some v := ((Below.refl w.heap.size w).alloc (Nat.le_refl _) _).cell (World.block_lt_of_cell? w _ hE) ▸ hE
  have h1 := h.past ((Below.refl _ _).alloc (Nat.le_refl _) (.cells #[.int .i64 p.conn, .int .i64 p.life, .int .u32 p.id] 28))
  obtain ⟨c0, c1, c2, fc⟩ := h1.facts
  have hl : ∀ j, (Instr.lookup 60 (.map (some m2)) (.agg #[.int .i64 p.conn, .int .i64 p.life, .int .u32 p.id]) true).run Tryd.prog ((w.alloc (.cells #[.int .i64 p.conn, .int .i64 p.life, .int .u32 p.id] 28)).drewN j) = .ok (.tuple #[.int .i64 0, .bool false]) ((w.alloc (.cells #[.int .i64 p.conn, .int .i64 p.life, .int .u32 p.id] 28)).drewN j) := fun j => by
    have hl := (h1.past (below_drewN _ j)).look60 hp
    rw [h1.om_none hp hn] at hl
    exact hl
  clear h h1 c1 fc hE hn
  unfold Pl.v
  go_enter Tryd.func11, Tryd.ntmps11
  go_wp2
  go_quiet (fail)
  go_wp2
  obtain ⟨w2, hw2⟩ : ∃ w2, (w.alloc (.cells #[.int .i64 p.conn, .int .i64 p.life, .int .u32 p.id] 28)).drewN nq = w2 := ⟨_, rfl⟩
  have hE2 : w2.cell? ⟨2, 0, none⟩ = some v := by rw [← hw2]; exact hE1
  have hb2 : Below w.heap.size w w2 := by rw [← hw2]; exact ((Below.refl _ _).alloc (Nat.le_refl _) _).trans ((below_drewN _ _).mono (by simp))
  have HB2 := hide hb2
  rw [hw2]
  clear hw2 hE1 hl c2 c0 hb2
  go_quiet (fail)
  go_wp2
  go_ret2
  exact ⟨rfl, HB2.out.trans ((below_drewN _ _).mono HB2.out.size)⟩
set_option maxRecDepth 10000 in
theorem bind_ok (w : World) (c m1 m2 g : Nat) (L : List HE) (h : HS w c m1 m2 g L) (p : Pl) (hp : p.wf) (hn : ∀ e ∈ L, e.p ≠ p) (hg : g < 2147483648) :
    Calls Tryd.prog 11 #[ptr c, p.v] w fun r w' => r = .returned (.tuple #[.int .i64 (g + 1 : Nat), .nilIface]) ∧ HS w' c m1 m2 (g + 1) (L ++ [⟨(g + 1 : Nat), p⟩]) ∧ Mod (InH c m1 m2) w w' := by
  have hal := (Below.refl w.heap.size w).alloc (Nat.le_refl _) (.cells #[.int .i64 p.conn, .int .i64 p.life, .int .u32 p.id] 28)
  have h1 := h.past hal
  have HBox := hide (heap_alloc_new w (.cells #[.int .i64 p.conn, .int .i64 p.life, .int .u32 p.id] 28))
  obtain ⟨c0, c1, c2, fc⟩ := h1.facts
  have fc0 := fc 0
  have hl : ∀ j, (Instr.lookup 60 (.map (some m2)) (.agg #[.int .i64 p.conn, .int .i64 p.life, .int .u32 p.id]) true).run Tryd.prog ((w.alloc (.cells #[.int .i64 p.conn, .int .i64 p.life, .int .u32 p.id] 28)).drewN j) = .ok (.tuple #[.int .i64 0, .bool false]) ((w.alloc (.cells #[.int .i64 p.conn, .int .i64 p.life, .int .u32 p.id] 28)).drewN j) := fun j => by
    have hl := (h1.past (below_drewN _ j)).look60 hp
    rw [h1.om_none hp hn] at hl
    exact hl
  have hcb := h.ltc
  have hlen := h.len_le
  have HH := hide h
  have HN := hide hn
  have HH1 := hide h1
  have HAl := hide hal
  have hwadd : IntKind.i64.wrap ((g : Int) + 1) = (g : Int) + 1 := by rw [IntKind.wrap_i64]; omega
  have hgi : decide ((2147483648 : Int) ≤ (g : Int)) = false := decide_eq_false (by omega)
  have HG := hide hg
  clear h h1 c1 fc hn hal hg
  unfold Pl.v
  go_enter Tryd.func11, Tryd.ntmps11
  go_wp2
  go_quiet (fail)
  go_upto_region 9 with fail
  obtain ⟨w5, hw5⟩ : ∃ w5, ((w.alloc (.cells #[.int .i64 p.conn, .int .i64 p.life, .int .u32 p.id] 28)).drewN nq).setCell ⟨c, 0, none⟩ (.int .i64 ((g : Int) + 1)) = w5 := ⟨_, rfl⟩
  obtain ⟨q, hq⟩ : ∃ q, w.heap.size = q := ⟨_, rfl⟩
  have hc5 : w5.heap[c]? = some (.cells (hCells (g + 1) m1 m2) 62 (0, 0)) := by
    rw [← hw5]
    exact heap_setCell_same _ c 0 _ 62 _ HH1.out.cells
  have hb5 : w5.heap[q]? = some (.cells #[.int .i64 p.conn, .int .i64 p.life, .int .u32 p.id] 28 (0, 0)) := by
    rw [← hw5, ← hq, Below.heap_setCell _ _ _ _ (show w.heap.size ≠ c by omega)]
    exact HBox.out
  have hp5 : Mp w5 Tryd.prog 3 m1 (mf k1 v1 L) L.length := by
    rw [← hw5]
    exact HH1.out.pm.block (Below.heap_setCell _ _ _ _ HH1.out.c_ne1.symm)
  have ho5 : Mp w5 Tryd.prog 28 m2 (mf k2 v2 L) L.length := by
    rw [← hw5]
    exact HH1.out.om.block (Below.heap_setCell _ _ _ _ HH1.out.c_ne2.symm)
  have hm5 : Mod (InH c m1 m2) w w5 := by
    rw [← hw5]
    exact ((Mod.ofBelow HAl.out _).drewN nq).setCell (fun _ => .inl rfl) _
  rw [hw5, hq]
  rw [hq] at hcb
  clear hw5 hq c0 c2 fc0 hl hwadd hgi
  obtain ⟨d0, d1, d2, _⟩ := box3 hc5
  obtain ⟨b0, b1, b2, _⟩ := box3 hb5
  have hcast : ((g + 1 : Nat) : Int) = (g : Int) + 1 := rfl
  rw [hcast] at d0
  have HC5 := hide hc5
  have HB5 := hide hb5
  have HP5 := hide hp5
  have HO5 := hide ho5
  have HM5 := hide hm5
  have hwf : (Lit.int .i64 ((g : Int) + 1)).wf = true := WalkArith.wf_i64 (by have := HG.out; omega)
  have HWf := hide hwf
  clear hc5 hb5 hp5 ho5 hm5 hcast hwf d2
  go_still_tail 9, (by kernel_rfl)
  change wpList _ _ _ _ _ w5.drew
  refine wpList_store_mp rfl _ _ _ 59 rfl law_int Tryd.underlying59 rfl (show Mp w5.drew Tryd.prog 3 m1 (mf k1 v1 L) L.length from HP5.out) (Nat.lt_of_le_of_lt hlen (Nat.lt_trans HG.out (by unfold maxLen; omega))) (val := p.v) rfl rfl (key_int HWf.out) ?_
  intro w6 hmp6 hg6
  have hg6 : w5.grownBy w6 (some m1) := ⟨hg6.os, hg6.tape, hg6.output, hg6.size, hg6.block⟩
  have hno : mf k1 v1 L (.int .i64 ((g : Int) + 1)) = none := pm_none (fun e he => by have := HH1.out.rng e he; omega)
  rw [hno] at hmp6
  have hne1 : some c ≠ some m1 := fun e => HH1.out.c_ne1 (Option.some.inj e)
  have hnq1 : some q ≠ some m1 := fun e => map_ne HB5.out HP5.out (Option.some.inj e)
  have hc6 := grown_heap hg6 HC5.out hne1
  have hb6 := grown_heap hg6 HB5.out hnq1
  have ho6 : Mp w6 Tryd.prog 28 m2 (mf k2 v2 L) L.length := HO5.out.block (hg6.block _ HO5.out.lt (fun e => HH1.out.ne (Option.some.inj e).symm))
  have hm6 : Mod (InH c m1 m2) w w6 := HM5.out.grown hg6 (fun _ => .inr (.inl rfl))
  have HMp6 : Hid (Mp w6 Tryd.prog 3 m1 (upd (mf k1 v1 L) (.int .i64 ((g + 1 : Nat) : Int)) (some p.v)) (L.length + 1)) := hide hmp6
  obtain ⟨d0, d1, d2, _⟩ := box3 hc6
  obtain ⟨b0, b1, b2, _⟩ := box3 hb6
  have hcast : ((g + 1 : Nat) : Int) = (g : Int) + 1 := rfl
  rw [hcast] at d0
  have HC6 := hide hc6
  have HB6 := hide hb6
  have HO6 := hide ho6
  have HM6 := hide hm6
  clear hno hmp6 hg6 hne1 hnq1 hc6 hb6 ho6 hm6 hcast d1
  go_upto_region 10 with fail
  go_still_tail 9, (by kernel_rfl)
  change wpList _ _ _ _ _ w6.drew
  refine wpList_store_mp rfl _ _ _ 60 rfl law_pl Tryd.underlying60 rfl (show Mp w6.drew Tryd.prog 28 m2 (mf k2 v2 L) L.length from HO6.out) (Nat.lt_of_le_of_lt hlen (Nat.lt_trans HG.out (by unfold maxLen; omega))) (key := p.v) (val := .int .i64 ((g : Int) + 1)) rfl rfl (key_pl hp) ?_
  intro w7 hmp7 hg7
  have hg7 : w6.grownBy w7 (some m2) := ⟨hg7.os, hg7.tape, hg7.output, hg7.size, hg7.block⟩
  rw [HH1.out.om_none hp HN.out] at hmp7
  have hc7 := grown_heap hg7 HC6.out (fun e => HH1.out.c_ne2 (Option.some.inj e))
  have hp7 := HMp6.out.block (hg7.block _ HMp6.out.lt (fun e => HH1.out.ne (Option.some.inj e)))
  have HB := hide (HH1.out.bound hp HN.out HG.out hc7 hp7 hmp7)
  have HM7 : Hid (Mod (InH c m1 m2) w w7) := hide (HM6.out.grown hg7 (fun _ => .inr (.inr rfl)))
  obtain ⟨d0, _, _, _⟩ := box3 hc7
  have hcast : ((g + 1 : Nat) : Int) = (g : Int) + 1 := rfl
  rw [hcast] at d0
  clear hmp7 hg7 hc7 hp7 hcast
  go_wp2
  go_ret2
  exact ⟨rfl, HB.out, HM7.out⟩
end Go.Proofs.YtjkahckglhpjeaaDoor
