import Derived.Test.YtlnbgahfelcbiaaDoorLWalk
import Derived.Deep.QuietTactic
import Derived.BigQuiet
/- The cache over this program; an entry removed. -/
namespace Go.Proofs.YtlnbgahfelcbiaaDoor
open Go Go.RowKit Go.Cu
open Go.Maps (Keyed)

theorem int_law : Keyed Tryd.prog 3 := Maps.int_keyed Tryd.underlying3
theorem zero_ptr (w : World) : (zeroValue 94).run Tryd.prog w = .ok (.pointer none) w := by kernel_rfl
theorem key_int {k : Int} (hk : (Lit.int .i64 k).wf = true) : keyOf Tryd.prog 3 (.int .i64 k) = some (.int .i64 k) := Maps.keyOf_int_mk Tryd.underlying3 hk
/-- the cache over this program -/
abbrev LCP (w : World) (c m : Nat) (room : Int) (L : List LE) : Prop := LC 96 99 3 Tryd.prog w c m room L

set_option maxRecDepth 10000 in
set_option maxHeartbeats 1000000 in
theorem remove_any (w : World) (c m : Nat) (room : Int) (a b : List LE) (e : LE) (h : LCP w c m room (a ++ e :: b)) :
    Calls Tryd.prog 48 #[ptr c, ptr e.b] w fun r w' => r = .returned (.tuple #[]) ∧ LCP w' c m room (a ++ b) ∧ w'.heap[e.b]? = some (.cells (eCells e none none) 99 (0, 0)) ∧ Mod (InC c m (a ++ e :: b)) w w' := by
  have HL := hide h
  clear h
  go_enter Tryd.func48, Tryd.ntmps48
  go_wp2_with fail
  refine (unlink_any w c m room _ a b e HL.out.ord).mono ?_
  rintro r w4 ⟨rfl, ho, he, hm4⟩
  have HO := hide ho
  have HE := hide he
  have HM4 := hide hm4
  obtain ⟨x0, x1, x2, x3, k4, k5, fe⟩ := eFacts he
  obtain ⟨y0, y1, y2, g3, g4, fc⟩ := cFacts ho.cells
  have fc1 := fc 1
  have hwr : IntKind.i64.wrap (wsum (a ++ e :: b) - e.wt) = wsum (a ++ b) := by
    have h1 := HL.out.wsum_le
    have h2 := HL.out.wts e (by simp)
    rw [wsum_mid] at *
    have h3 := wsum_nonneg (l := a ++ b) (fun x hx => HL.out.wts x (mem_mid hx))
    rw [IntKind.wrap_i64]
    omega
  clear fe fc ho he hm4
  go_wp2
  go_region
  go_wp2
  obtain ⟨w5, hw5⟩ : ∃ w5, (w4.setCell ⟨c, 1, none⟩ (.int .i64 (wsum (a ++ b)))).drew = w5 := ⟨_, rfl⟩
  have d5 : e.b ≠ c := HL.out.ord.apart.mid.2.2.2.2
  have hmne : ¬ InOrd c (a ++ e :: b) m := HL.out.m_ne
  have hmc : m ≠ c := fun h => hmne (.inl h)
  have hc5 : w5.heap[c]? = some (.cells (cCells room (wsum (a ++ b)) m (hb (a ++ b) none) (lb (a ++ b) none)) 96 (0, 0)) := by rw [← hw5]; exact (set_c HO.out.cells).2.2 _
  have he5 : w5.heap[e.b]? = some (.cells (eCells e none none) 99 (0, 0)) := by rw [← hw5]; show (w4.setCell _ _).heap[e.b]? = _; rw [Below.heap_setCell _ _ _ _ d5]; exact HE.out
  obtain ⟨_, _, z2, _, _, _⟩ := cFacts hc5
  obtain ⟨z0, _, _, _, _, _, _⟩ := eFacts he5
  have hmp : Mp w5 Tryd.prog 3 m (lk (a ++ e :: b)) (a ++ e :: b).length := by
    rw [← hw5]
    refine (HL.out.map.block (HM4.out.block m HL.out.map.lt hmne)).block ?_
    show (w4.setCell _ _).heap[m]? = _
    rw [Below.heap_setCell _ _ _ _ hmc]
  have HMp : Hid (Mp w5.drew Tryd.prog 3 m (lk (a ++ e :: b)) (a ++ e :: b).length) := hide hmp
  have HW5 : Hid ((w4.setCell ⟨c, 1, none⟩ (.int .i64 (wsum (a ++ b)))).drew = w5) := hide hw5
  rw [hw5]
  clear hc5 he5 hmp hw5 x0 x1 x2 x3 k4 k5 y0 y1 y2 g3 g4 fc1 hmne hmc
  go_still_tail 8, (by kernel_rfl)
  change wpList _ _ _ _ _ w5.drew
  refine wpList_drop_mp rfl _ _ 93 3 rfl int_law Tryd.underlying93 rfl HMp.out rfl (key_int (HL.out.wf e (by simp))) ?_
  intro w6 hmp6 hg6
  go_wp2
  go_end0
  have hn : (if (lk (a ++ e :: b) (.int .i64 e.k)).isSome = true then (a ++ e :: b).length - 1 else (a ++ e :: b).length) = (a ++ b).length := by
    rw [lk_mid (fun x hx => (sub_keys HL.out.keys).2 x (List.mem_append_left _ hx))]
    simp
  have hg5 : (w4.setCell ⟨c, 1, none⟩ (.int .i64 (wsum (a ++ b)))).grownBy w6 (some m) := by
    have e := HW5.out
    subst e
    exact ⟨hg6.os, hg6.tape, hg6.output, hg6.size, hg6.block⟩
  obtain ⟨r1, r2⟩ := HL.out.removed HO.out HM4.out rfl hn hmp6 hg5
  refine ⟨rfl, r1, ?_, r2⟩
  refine grown_heap hg5 ?_ ?_
  · rw [Below.heap_setCell _ _ _ _ d5]; exact HE.out
  · intro h
    injection h with h
    exact HL.out.m_ne (.inr ⟨e, by simp, h⟩)
end Go.Proofs.YtlnbgahfelcbiaaDoor
