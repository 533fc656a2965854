import Derived.Test.YtlnbgahfelcbiaaDoorLAct
/- One cache above a world; what was seen, in a map. -/
namespace Go.Proofs.YtlnbgahfelcbiaaDoor
open Go Go.RowKit Go.Cu Go.Proofs.YtlnbgahfelcbiaaDoor.errs

structure C1 (w0 w : World) (c m : Nat) (room : Int) (L : List LE) : Prop where
  lc : LCP w c m room L
  low : ∀ k, InC c m L k → w0.heap.size ≤ k
  below : Below w0.heap.size w0 w
section
variable {w0 w w' : World} {c m : Nat} {room : Int} {L L' : List LE}
theorem C1.past (h : C1 w0 w c m room L) (hb : Below w.heap.size w w') : C1 w0 w' c m room L := ⟨h.lc.past hb, h.low, h.below.trans (hb.mono h.below.size)⟩
theorem C1.step (h : C1 w0 w c m room L) (hl : LCP w' c m room L') (hm : Mod (InC c m L) w w') (hf : From w c m L L') : C1 w0 w' c m room L' :=
  ⟨hl, fun k hk => (hf k hk).elim (h.low k) (fun h2 => by have := h.below.size; omega), h.below.trans (hm.below h.below.size h.low)⟩
theorem C1.made (hb : Below w0.heap.size w0 w) (hl : LCP w' c m room []) (hm : w.heap.size ≤ m) (hc : w.heap.size ≤ c) (hb2 : Below w.heap.size w w') : C1 w0 w' c m room [] :=
  ⟨hl, fun k hk => by
    have := hb.size
    rcases hk with rfl | rfl | ⟨x, hx, _⟩
    · omega
    · omega
    · exact (List.not_mem_nil hx).elim, hb.trans (hb2.mono hb.size)⟩
/-- a step in other memory -/
theorem C1.other {G : Nat → Prop} (h : C1 w0 w c m room L) (hm : Mod G w w') (hn : ∀ k, InC c m L k → ¬ G k) (hl : ∀ k, G k → w0.heap.size ≤ k) : C1 w0 w' c m room L := ⟨h.lc.kept hm hn, h.low, h.below.trans (hm.below h.below.size hl)⟩
end
theorem zero_int (w : World) : (zeroValue 3).run Tryd.prog w = .ok (.int .i64 0) w := by kernel_rfl
open Classical in
/-- what was seen -/
noncomputable def seenM (K : List Int) (l : Lit) : Option Value := if ∃ k, k ∈ K ∧ l = .int .i64 k then some (.int .i64 1) else none
theorem seenM_in {K : List Int} {k : Int} (h : k ∈ K) : seenM K (.int .i64 k) = some (.int .i64 1) := if_pos ⟨k, h, rfl⟩
theorem seenM_out {K : List Int} {k : Int} (h : ¬ k ∈ K) : seenM K (.int .i64 k) = none := if_neg (by rintro ⟨j, hj, e⟩; injection e with _ e; subst e; exact h hj)
theorem seenM_add {K : List Int} {k : Int} (l : Lit) : seenM (K ++ [k]) l = upd (seenM K) (.int .i64 k) (some (.int .i64 1)) l := by
  by_cases hl : l = .int .i64 k
  · subst hl
    rw [upd_same, seenM_in (by simp)]
  · rw [upd_other hl]
    unfold seenM
    have : (∃ j, j ∈ K ++ [k] ∧ l = .int .i64 j) ↔ ∃ j, j ∈ K ∧ l = .int .i64 j := by
      constructor
      · rintro ⟨j, hj, rfl⟩
        rcases List.mem_append.1 hj with hj | hj
        · exact ⟨j, hj, rfl⟩
        · simp at hj; subst hj; exact absurd rfl hl
      · rintro ⟨j, hj, rfl⟩
        exact ⟨j, by simp [hj], rfl⟩
    by_cases hex : ∃ j, j ∈ K ∧ l = .int .i64 j
    · rw [if_pos (this.2 hex), if_pos hex]
    · rw [if_neg (fun h => hex (this.1 h)), if_neg hex]
theorem seenM_nil : ∀ l, seenM [] l = none := fun l => if_neg (by rintro ⟨k, hk, _⟩; cases hk)
theorem mem_keysOf {L : List LE} {k : Int} : k ∈ keysOf L ↔ ∃ e ∈ L, e.k = k := by simp [keysOf]
/-- map[int]int, read -/
theorem look40 {w : World} {sm n : Nat} {f : Lit → Option Value} (h : Mp w Tryd.prog 3 sm f n) {k : Int} (hk : (Lit.int .i64 k).wf = true) :
    (Instr.lookup 40 (.map (some sm)) (.int .i64 k) false).run Tryd.prog w = .ok ((f (.int .i64 k)).getD (.int .i64 0)) w :=
  h.look (t := 40) (e := 3) int_law Tryd.underlying40 (zero_int w) (key_int hk)
theorem PeekR.seen {L : List LE} {k v un i : Int} {ok : Bool} (h : PeekR L k v un ok i) : ((seenM (keysOf L) (.int .i64 k)).getD (.int .i64 0) = .int .i64 (if ok then 1 else 0)) := by
  cases h with
  | no hn => rw [seenM_out (fun hm => by obtain ⟨e, he, hk⟩ := mem_keysOf.1 hm; exact hn e he hk)]; rfl
  | yes a b e hL hek => rw [seenM_in (mem_keysOf.2 ⟨e, by rw [hL]; simp, hek⟩)]; rfl
end Go.Proofs.YtlnbgahfelcbiaaDoor
