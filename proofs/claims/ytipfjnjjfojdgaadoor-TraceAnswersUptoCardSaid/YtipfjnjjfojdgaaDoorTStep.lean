import Derived.Test.YtipfjnjjfojdgaaDoorTTwo
import Derived.Test.YtipfjnjjfojdgaaDoorTBytes
import Derived.Test.YtipfjnjjfojdgaaDoorTFix
import Derived.Test.YtipfjnjjfojdgaaDoorTHeld2
/- What the laws' walks share. -/
namespace Go.Proofs.YtipfjnjjfojdgaaDoor
open Go Go.RowKit Go.Cu

/-- how many bytes the calls from number i on hold -/
def rem (ops : List OpD) (i : Nat) : Nat := ((ops.drop i).map (·.len)).sum
theorem rem_at {ops : List OpD} {i : Nat} {o : OpD} (h : ops[i]? = some o) : rem ops i = o.len + rem ops (i + 1) := by
  obtain ⟨hi, rfl⟩ := List.getElem?_eq_some_iff.1 h
  unfold rem
  rw [List.drop_eq_getElem_cons hi, List.map_cons, List.sum_cons]
theorem gives_byte {o : OpD} {L : List Int} (ho : ∀ x ∈ o.bs, 0 ≤ x ∧ x ≤ 255) (hL : ∀ x ∈ L, 0 ≤ x ∧ x ≤ 255) : ∀ x ∈ givesL o L, 0 ≤ x ∧ x ≤ 255 := by
  unfold givesL
  split
  · exact fun x hx => hL x (List.mem_of_mem_take hx)
  · exact ho
theorem gives_len {o : OpD} {L : List Int} {n : Nat} (ho : o.bs.length ≤ n) (hL : L.length ≤ n) : (givesL o L).length ≤ n := by
  unfold givesL
  split
  · rw [List.length_take]; omega
  · exact ho
def restR (R : List Rw) (k : Int) : List Int := (pastR R k).bs.drop (pastR R k).rd
theorem Wl.rest_byte {R : List Rw} {N i : Nat} (h : Wl R N i) (k : Int) : ∀ x ∈ restR R k, 0 ≤ x ∧ x ≤ 255 := fun x hx => h.pbyte k x (List.mem_of_mem_drop hx)
theorem Wl.rest_len {R : List Rw} {N i : Nat} (h : Wl R N i) (k : Int) : (restR R k).length ≤ N := by
  unfold restR
  rw [List.length_drop]
  exact Nat.le_trans (Nat.sub_le _ _) (h.pbig k)
theorem rest_ok {w : World} {c : Nat} {D : Nat → Prop} {R : List Rw} {N i : Nat} (h : Hist w c D R) (hw : Wl R N i) (hN : N ≤ 1048576) (k : Int) (hk : wfi k) :
    Calls Tryd.prog 11 #[ptr c, .int .i64 k] w fun r w' => ∃ A d, r = .returned (.slice A (restR R k).length d) ∧ (restR R k).length ≤ d ∧ Fresh8 w w' (.slice A (restR R k).length d) (restR R k) ∧ Below w.heap.size w w' := by
  refine (hist_rest h k hk (by have := hw.pbig k; omega)).mono ?_
  rintro r w' ⟨v, rfl, hv, hb⟩
  obtain ⟨A, d, rfl, hnd, _⟩ := hv.shape
  exact ⟨A, d, rfl, hnd, hv, hb⟩
theorem gives_ok {w : World} {o : OpD} (hO : OpOk w o) (hol : o.len ≤ 1048576) {A : Option Addr} {n c : Nat} {L : List Int} (hr : Reads w 1 (.slice A n c) n (u8s L)) (hnc : n ≤ c) (hn : n ≤ 1048576) :
    Calls Tryd.prog 10 #[.agg (opA o), .slice A n c] w fun r w' => ∃ A' d', r = .returned (.slice A' (givesL o L).length d') ∧ Fresh8 w w' (.slice A' (givesL o L).length d') (givesL o L) ∧ Below w.heap.size w w' := by
  refine (bytes_any w o hO hol A n c L hr hnc hn).mono ?_
  rintro r w' ⟨v, rfl, hv, hb⟩
  obtain ⟨A', d', rfl, _, _⟩ := hv.shape
  exact ⟨A', d', rfl, hv, hb⟩
theorem Told2.yes {adr : Nat → Addr} {ok : Prop} {n : Nat} {r : Ending} (h : Told2 adr ok n r) (hp : ok) : r = .returned .nilIface := by
  rcases h with h | h
  · exact h.2
  · exact (h.1 hp).elim
theorem Told2.no {adr : Nat → Addr} {ok : Prop} {n : Nat} {r : Ending} (h : Told2 adr ok n r) (hp : ¬ ok) : r = .returned (errV adr n) := by
  rcases h with h | h
  · exact (hp h.1).elim
  · exact h.2
/-- a past box, filled -/
theorem past_filled {w w8 : World} (hb : Below w.heap.size w w8) (n rd : Int) (cl en : Bool) : ∃ w9 q wa, w8.alloc (.cells #[.int .i64 0, .int .i64 0, .bool false, .bool false] 36) = w9 ∧ w8.heap.size = q ∧
    (((w9.setCell ⟨q, 0, none⟩ (.int .i64 n)).setCell ⟨q, 1, none⟩ (.int .i64 rd)).setCell ⟨q, 2, none⟩ (.bool cl)).setCell ⟨q, 3, none⟩ (.bool en) = wa ∧
    w9.heap[q]? = some (.cells #[.int .i64 0, .int .i64 0, .bool false, .bool false] 36 (0, 0)) ∧
    wa.heap[q]? = some (.cells #[.int .i64 n, .int .i64 rd, .bool cl, .bool en] 36 (0, 0)) ∧ Below w.heap.size w wa := by
  refine ⟨_, _, _, rfl, rfl, rfl, heap_alloc_new w8 _, ?_, ?_⟩
  · exact box4_set (heap_alloc_new w8 _) (.int .i64 n) (.int .i64 rd) (.bool cl) (.bool en)
  · exact below_set4 (hb.alloc hb.size _) hb.size (.int .i64 n) (.int .i64 rd) (.bool cl) (.bool en)
end Go.Proofs.YtipfjnjjfojdgaaDoor
