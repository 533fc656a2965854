import Derived.Test.YtipfjnjjfojdgaaDoorTOps
import Derived.Test.YtipfjnjjfojdgaaDoorTAct
/- The bytes that a call gives. -/
namespace Go.Proofs.YtipfjnjjfojdgaaDoor
open Go Go.RowKit Go.Cu

def givesL (o : OpD) (L : List Int) : List Int := if o.next = true then L.take (min (max o.n 0) L.length).toNat else o.bs
theorem op_box (w : World) (o : OpD) : ∃ w1 q0, w1 = w.alloc (.cells (opA o) 28) ∧ q0 = w.heap.size ∧ Below w.heap.size w w1 ∧ w1.cell? ⟨q0, 0, none⟩ = some (.int .i64 o.kind) ∧ w1.cell? ⟨q0, 1, none⟩ = some (.int .i64 o.key) ∧ w1.cell? ⟨q0, 2, none⟩ = some (.int .i64 o.n) ∧ w1.cell? ⟨q0, 3, none⟩ = some (.bool o.next) ∧ w1.cell? ⟨q0, 4, none⟩ = some (.slice o.A o.len o.c) ∧ w1.heap[q0]? = some (.cells (opA o) 28 (0, 0)) :=
  ⟨_, _, rfl, rfl, (Below.refl _ _).alloc (Nat.le_refl _) _, by simp, by simp, by simp, by simp, by simp, heap_alloc_new w _⟩
theorem row_none (w : World) (A : Option Addr) : Row w (fun _ => False) 5 1 (.slice A 0 0) 0 (u8s []) := ⟨rfl, A, 0, rfl, Nat.le_refl _, Nat.zero_le _, .inl rfl⟩
theorem fresh_of {w w1 w2 : World} {v : Value} {n : Nat} {L : List Int} (hs : w.heap.size ≤ w1.heap.size) (h : Row w2 (fun k => False ∨ k = w1.heap.size) 5 1 v n (u8s [] ++ u8s L)) (hl : L.length = n) : Fresh8 w w2 v L := by
  unfold Fresh8
  have h1 : Row w2 (fun k => False ∨ k = w1.heap.size) 5 1 v L.length (u8s L) := by
    rw [hl]
    simpa [u8s] using h
  refine h1.narrow.mono (fun k hk _ => ⟨?_, hk.2⟩)
  rcases hk.1 with h | h
  · exact h.elim
  · omega
theorem cell_later {w w' : World} (hb : Below w.heap.size w w') {p : Addr} {v : Value} (h : w.cell? p = some v) : w'.cell? p = some v := (hb.cell (World.block_lt_of_cell? w p h)).trans h
theorem hr2cut {w : World} {A : Option Addr} {n c m : Nat} {L : List Int} (h : Reads w 1 (.slice A n c) n (u8s L)) (hl : L.length = n) (hm : m ≤ n) : Reads w 1 (.slice A m c) m (u8s (L.take m)) := by
  obtain ⟨h1, A', c', he, h2, h3⟩ := h
  injection he with e1 _ e3
  subst e1 e3
  refine ⟨by rw [u8s_length, List.length_take]; omega, A, c, rfl, by omega, ?_⟩
  rcases h3 with h3 | ⟨ad, rfl, h4⟩
  · exact .inl (by omega)
  · refine .inr ⟨ad, rfl, fun j u hj => h4 j u ?_⟩
    rw [← u8s_take, List.getElem?_take] at hj
    split at hj
    · exact hj
    · cases hj
theorem OpOk.past {w w' : World} {o : OpD} (h : OpOk w o) (hb : Below w.heap.size w w') : OpOk w' o := h.later (fun _ _ hc => cell_later hb hc)
theorem below_alloc (w : World) (o : Obj) : Below w.heap.size w (w.alloc o) := (Below.refl _ _).alloc (Nat.le_refl _) _
set_option maxRecDepth 10000 in
set_option maxHeartbeats 1000000 in
theorem bytes_any (w : World) (o : OpD) (hO : OpOk w o) (hol : o.len ≤ 1048576) (A : Option Addr) (n c : Nat) (L : List Int) (hr : Reads w 1 (.slice A n c) n (u8s L)) (hnc : n ≤ c) (hn : n ≤ 1048576) :
    Calls Tryd.prog 10 #[.agg (opA o), .slice A n c] w fun r w' => ∃ v, r = .returned v ∧ Fresh8 w w' v (givesL o L) ∧ Below w.heap.size w w' := by
  obtain ⟨w1, q0, hw1, hq, hb, c0, c1, c2, c3, c4, _⟩ := op_box w o
  obtain ⟨i0, hi0, hz0, hz1, hz2⟩ := info_parts info_byte
  have HLn : Hid (L.length = n) := hide (by have := hr.1; rw [u8s_length] at this; omega)
  have HO := hide hO
  have HR := hide hr
  have HB := hide hb
  have hb2 : Below w.heap.size w (w1.alloc (.cells #[] 5)) := hb.alloc hb.size _
  have HB2 := hide hb2
  have d2 := cell_later (below_alloc w1 (.cells #[] 5)) c2
  have d3 := cell_later (below_alloc w1 (.cells #[] 5)) c3
  have d4 := cell_later (below_alloc w1 (.cells #[] 5)) c4
  have HR2 := hide (Reads.past hO.reads hb2)
  have HR3 := hide (Reads.past hr hb2)
  clear hO hr hb hb2
  cases hx : o.next with
  | false =>
    rw [hx] at c3
    have HX := hide hx
    clear HR3 d3 d2
    go_enter Tryd.func10, Tryd.ntmps10
    go_upto_region 1 with fail
    rw [← hw1, ← hq]
    clear hw1 hq hx
    go_wp2_with (first
      | (at_builtin; refine wpList_append_row rfl _ _ 26 rfl 5 i0 (.int .u8 0) 1 1 Tryd.underlying26 hi0 hz0 hz1 hz2 rfl (by decide) rfl (row_none _ _) rfl HR2.out (u8s_one _) (by unfold maxLen; omega) (by omega) ?_
         intro A5 c5 w5 hr5 hm5
         rw [Nat.zero_add] at hr5
         have HR5 := hide hr5
         have HM5 := hide hm5
         clear hr5 hm5)
      | fail)
    go_ret
    have hg : givesL o L = o.bs := by unfold givesL; rw [HX.out]; rfl
    rw [hg]
    have hs : w.heap.size ≤ (w1.alloc (.cells #[] 5)).heap.size := HB2.out.size
    refine ⟨.slice A5 o.len c5, rfl, fresh_of hs HR5.out HO.out.len, HB2.out.trans (HM5.out.below hs (fun k h => h.elim))⟩
  | true =>
    rw [hx] at c3
    have HX := hide hx
    clear HR2 d3 d4
    obtain ⟨m, hm⟩ : ∃ m : Nat, (min (max o.n 0) (n : Int)) = (m : Int) := ⟨(min (max o.n 0) (n : Int)).toNat, by omega⟩
    have HM : Hid (m ≤ n) := hide (by omega)
    have hsl : ∀ w, (Instr.sliceAt 26 (.slice A n c) none (some (.int .i64 (m : Int))) none).run Tryd.prog w = .ok (.slice A m c) w := fun w => by
      have h := run_sliceAt_hi w 26 5 1 Tryd.underlying26 size_byte A n c .i64 m (by omega)
      rw [h]
      have e1 : (if c = 0 then A else A.map (·.add (0 * 1))) = A := by
        split
        · rfl
        · cases A with
          | none => rfl
          | some a => simp [Addr.add]
      rw [e1]
      rfl
    have hcut := hr2cut HR3.out HLn.out HM.out
    have HCut := hide hcut
    clear hcut
    go_enter Tryd.func10, Tryd.ntmps10
    go_upto_region 1 with fail
    rw [← hw1, ← hq]
    clear hw1 hq hx
    go_wp2_with (first
      | (at_builtin; refine wpList_append_row rfl _ _ 26 rfl 5 i0 (.int .u8 0) 1 1 Tryd.underlying26 hi0 hz0 hz1 hz2 rfl (by decide) rfl (row_none _ _) rfl HCut.out (u8s_one _) (by unfold maxLen; omega) (by omega) ?_
         intro A5 c5 w5 hr5 hm5
         rw [Nat.zero_add] at hr5
         have HR5 := hide hr5
         have HM5 := hide hm5
         clear hr5 hm5)
      | fail)
    go_ret
    have hg : givesL o L = L.take m := by unfold givesL; rw [HX.out, HLn.out]; simp only [if_true]; congr 1; omega
    rw [hg]
    have hs : w.heap.size ≤ (w1.alloc (.cells #[] 5)).heap.size := HB2.out.size
    refine ⟨.slice A5 m c5, rfl, fresh_of hs HR5.out (by rw [List.length_take, HLn.out]; have := HM.out; omega), HB2.out.trans (HM5.out.below hs (fun k h => h.elim))⟩
end Go.Proofs.YtipfjnjjfojdgaaDoor
