import Derived.Test.YtjajnejijaoblaaStep12
/- RobinPlays: the walk. -/
namespace Go.Proofs.Ytjajnejijaoblaa
open Go Go.RowKit Go.Cu

theorem size_op : (Try.prog.info? 30).map (·.size) = some 2 := by kernel_rfl
theorem agg_op (w : World) : (isAgg 30).run Try.prog w = .ok true w := by kernel_rfl

/-- The cells of a script. -/
def opCells (ops : List (Int × Int)) : List Value := ops.flatMap fun o => [.int .i64 o.1, .int .i64 o.2]
theorem opCells_length (ops : List (Int × Int)) : (opCells ops).length = ops.length * 2 := by
  induction ops with
  | nil => rfl
  | cons o r ih => simp only [opCells, List.flatMap_cons, List.length_append, List.length_cons, List.length_nil] at ih ⊢; omega
theorem opCells_get {ops : List (Int × Int)} {i : Nat} {o : Int × Int} (h : ops[i]? = some o) : ∀ (j : Nat) u, [Value.int .i64 o.1, Value.int .i64 o.2][j]? = some u → (opCells ops)[i * 2 + j]? = some u := by
  induction ops generalizing i with
  | nil => simp at h
  | cons p r ih =>
    intro j u hj
    have hj2 : j < 2 := by have := (List.getElem?_eq_some_iff.1 hj).1; simpa using this
    cases i with
    | zero =>
      simp at h
      subst h
      simp only [opCells, List.flatMap_cons, Nat.zero_mul, Nat.zero_add]
      rw [List.getElem?_append_left (by simpa using hj2)]
      exact hj
    | succ i =>
      simp only [List.getElem?_cons_succ] at h
      have := ih h j u hj
      simp only [opCells, List.flatMap_cons] at this ⊢
      rw [List.getElem?_append_right (by simp; omega)]
      rw [← this]
      congr 1
      simp
      omega

/-- A script that can be read. -/
structure Script (w : World) (v : Value) (n : Nat) (ops : List (Int × Int)) : Prop where
  reads : Reads w 2 v n (opCells ops)
  length : ops.length = n
  wf : ∀ o ∈ ops, (Lit.int .i64 o.2).wf = true ∧ (Lit.int .i64 o.1).wf = true
  room : n * 16 ≤ 140737488351232
theorem Script.below {w w' : World} {v : Value} {n : Nat} {ops : List (Int × Int)} (h : Script w v n ops) {B : Nat} (hB : w.heap.size ≤ B) (hb : Below B w w') : Script w' v n ops :=
  ⟨h.reads.kept (fun a _ hc => (hb.cell (Nat.lt_of_lt_of_le (World.block_lt_of_cell? w a hc) hB)).trans hc), h.length, h.wf, h.room⟩

def runL (ops : List (Int × Int)) (i : Nat) : List Int := (ops.take i).foldl (fun L o => stepL L o.1 o.2) []
theorem runL_succ {ops : List (Int × Int)} {i : Nat} {o : Int × Int} (h : ops[i]? = some o) : runL ops (i + 1) = stepL (runL ops i) o.1 o.2 := by
  unfold runL
  obtain ⟨hl, hx⟩ := List.getElem?_eq_some_iff.1 h
  rw [List.take_succ_eq_append_getElem hl, List.foldl_append, hx]
  rfl
theorem runL_length (ops : List (Int × Int)) : ∀ i, i ≤ ops.length → (runL ops i).length ≤ i
  | 0, _ => by simp [runL]
  | i + 1, hi => by
    rw [runL_succ (List.getElem?_eq_getElem (by omega))]
    have := runL_length ops i (by omega)
    have := stepL_length (runL ops i) (ops[i]'(by omega)).1 (ops[i]'(by omega)).2
    omega

set_option maxHeartbeats 1000000 in
theorem plays_walk (w : World) (v : Value) (n : Nat) (ops : List (Int × Int)) (h : Script w v n ops) :
    Calls Try.prog 4 #[v] w fun e w' => e = .returned (.bool true) ∧ Below w.heap.size w w' := by
  have HS := hide h
  obtain ⟨A, c, rfl⟩ := h.reads.shape
  have hroom := h.room
  have hn : n ≤ 8796093022207 := by omega
  have HL := hide h.length
  clear h
  go_enter Try.func4, Try.ntmps4
  go_wp2_with fail
  refine (wakes_true _).mono ?_
  rintro e w1 ⟨rfl, hb1⟩
  have HB1 := hide hb1
  clear hb1
  go_wp2_with fail
  refine (new_any _).mono ?_
  rintro e w2 ⟨b, rfl, hrob2, hb2⟩
  have hs1 := HB1.out.size
  have HB2 := hide (HB1.out.trans (hb2.mono hs1))
  have HO2 := hide hrob2
  have HW : Hid (∀ k, Wide (fun _ => False) w1 w2 k → w.heap.size ≤ k) := fun k hk => by rcases hk with hk | hk; exact hk.elim; omega
  clear hrob2 hb2 hs1
  go_wp2
  go_loopw [4, 5] (fun v t wr => ∃ i : Nat, i ≤ n ∧ t = .int .i64 i ∧ ∃ A c, v = .slice A (runL ops i).length c ∧ Hid (∃ F G, Both wr F G b (.slice A (runL ops i).length c) (runL ops i) ∧ (∀ k, F k → w.heap.size ≤ k) ∧ (∀ k, G k → w.heap.size ≤ k)) ∧ Hid (Below w.heap.size w wr)) (fun _ t _ => n - (intOf t).toNat)
  case atStart => exact ⟨0, Nat.zero_le _, rfl, none, 0, rfl, ⟨_, fun _ => False, ⟨HO2.out, ⟨none, 0, rfl, Row.nil _ _ _ _⟩, fun _ h => h.elim, fun _ h => h.elim⟩, HW.out, fun _ h => h.elim⟩, HB2.out⟩
  case round =>
    obtain ⟨i, hi, rfl, A1, c1, rfl, hboth, hbel⟩ := hrel
    obtain ⟨F, G, hB, hF, hG⟩ := hboth.out
    have hll := runL_length ops i (by have := HL.out; omega)
    have HBo := hide hB
    have HF := hide hF
    have HG := hide hG
    clear hboth hB hF hG
    by_cases hlt : i < n
    · obtain ⟨o, ho⟩ : ∃ o, ops[i]? = some o := ⟨_, List.getElem?_eq_getElem (by have := HL.out; omega)⟩
      have HU := hide (opCells_get ho)
      have HSc := hide (HS.out.below (Nat.le_refl _) hbel.out)
      have hk := (HSc.out.wf o (List.mem_of_getElem? ho)).1
      have HRu := hide (runL_succ ho)
      clear ho
      go_wp2_with (first
        | ((with_reducible refine at_index rfl ?_); refine wpList_atS rfl rfl _ _ 22 30 _ rfl rfl rfl (by simp) Try.underlying22 (by decide) size_op agg_op rfl HSc.out.reads rfl (by omega) (by omega) (us := [.int .i64 o.1, .int .i64 o.2]) rfl HU.out ?_; intro p)
        | (go_at_call 14; refine (step_any wr F G b _ (runL ops i) o.1 o.2 HBo.out hk (by omega)).mono ?_; rintro e w3 ⟨v', rfl, hst⟩; have HST := hide hst; clear hst))
      go_roundw
      case rel =>
        obtain ⟨F', G', hb', hF', hG', hm'⟩ := HST.out
        rw [← HRu.out] at hb'
        obtain ⟨A', c', rfl, hr'⟩ := hb'.row
        have hs := hbel.out.size
        refine ⟨i + 1, by omega, by go_num, A', c', rfl, ⟨F', G', hb', fun k hk => ?_, fun k hk => ?_⟩, hbel.out.trans (hm'.below hs HF.out)⟩
        · rcases hF' k hk with hk | hk
          · exact HF.out k hk
          · omega
        · rcases hG' k hk with hk | hk
          · exact HG.out k hk
          · omega
      case measure => simp [intOf]; omega
    · have hrd : Hid (Reads wr 1 (.slice A1 (runL ops i).length c1) (runL ops i).length (ints (runL ops i))) := by
        obtain ⟨A', c', he, hr⟩ := HBo.out.row
        rw [he]
        exact hr.reads
      go_wp2_with (first
        | (go_at_call 16; refine (list_any _ F b (runL ops i) HBo.out.rob (by omega)).mono ?_; rintro e w3 ⟨A2, c2, rfl, hrow2, hbel2⟩
           have HR2 := hide hrow2.reads
           have HB3 := hide hbel2
           have HRd := hide (hrd.out.kept (w' := w3) (fun a v hc => (hbel2.cell (World.block_lt_of_cell? _ a hc)).trans hc))
           have HO3 := hide (HBo.out.rob.below hbel2)
           clear hrow2 hbel2)
        | (go_at_call 15; refine (same_any _ _ _ _ (runL ops i) HR2.out HRd.out).mono ?_; rintro e w4 ⟨rfl, hd4⟩; have HO4 := hide (HO3.out.below hd4.below); have HD4 := hide hd4; clear hd4)
        | (go_at_call 10; refine (len_any _ F b (runL ops i) HO4.out).mono ?_; rintro e w5 ⟨rfl, rfl⟩))
      go_ret
      have hs := hbel.out.size
      have hs3 := HB3.out.size
      exact ⟨by simp, (hbel.out.trans (HB3.out.mono hs)).trans (HD4.out.below.mono (by omega))⟩
end Go.Proofs.Ytjajnejijaoblaa
