import Derived.Test.YtccojgaahoonhaaDoorLib
/- The tokens that wait: a rising list; as a map. -/
namespace Go.Proofs.YtccojgaahoonhaaDoor
open Go Go.RowKit Go.Cu

def us (L : List Int) : List Value := L.map (Value.int .u32)
theorem us_length (L : List Int) : (us L).length = L.length := by simp [us]
theorem us_append (L M : List Int) : us L ++ us M = us (L ++ M) := by simp [us]
theorem us_take (L : List Int) (k : Nat) : (us L).take k = us (L.take k) := by simp [us, List.map_take]
theorem us_drop (L : List Int) (k : Nat) : (us L).drop k = us (L.drop k) := by simp [us, List.map_drop]
theorem us_get {L : List Int} {i : Nat} {x : Int} (h : L[i]? = some x) : (us L)[i]? = some (.int .u32 x) := by simp [us, h]
theorem us_one (L : List Int) : ∀ u ∈ us L, u.oneCell' = true := by
  intro u hu
  obtain ⟨x, _, rfl⟩ := List.mem_map.1 hu
  rfl
/-- rising, from 1 to n -/
structure Inc (W : List Int) (n : Nat) : Prop where
  up : W.Pairwise (· < ·)
  bd : ∀ t ∈ W, 1 ≤ t ∧ t ≤ n
theorem Inc.nil (n : Nat) : Inc [] n := ⟨.nil, fun _ h => by cases h⟩
theorem Inc.nodup {W : List Int} {n : Nat} (h : Inc W n) : W.Nodup := h.up.imp (fun h e => by omega)
theorem Inc.ask {W : List Int} {n : Nat} (h : Inc W n) : Inc (W ++ [((n + 1 : Nat) : Int)]) (n + 1) := by
  refine ⟨List.pairwise_append.2 ⟨h.up, List.pairwise_singleton _ _, fun a ha b hb => ?_⟩, fun t ht => ?_⟩
  · rw [List.mem_singleton] at hb
    subst hb
    have := (h.bd a ha).2
    omega
  · rcases List.mem_append.1 ht with ht | ht
    · have := h.bd t ht; omega
    · rw [List.mem_singleton] at ht; subst ht; omega
theorem Inc.erase {W : List Int} {n : Nat} (h : Inc W n) (t : Int) : Inc (W.erase t) n :=
  ⟨h.up.sublist List.erase_sublist, fun x hx => h.bd x (List.mem_of_mem_erase hx)⟩
/-- which one each was -/
noncomputable def mf (W : List Int) (l : Lit) : Option Value := open Classical in if ∃ t : Int, t ∈ W ∧ l = .int .u32 t then (match l with | .int .u32 t => some (.int .i64 t) | _ => none) else none
theorem mf_at (W : List Int) (t : Int) : mf W (.int .u32 t) = if t ∈ W then some (.int .i64 t) else none := by
  unfold mf
  by_cases h : t ∈ W
  · rw [if_pos ⟨t, h, rfl⟩, if_pos h]
  · rw [if_neg (by rintro ⟨s, hs, e⟩; injection e with _ e; subst e; exact h hs), if_neg h]
theorem mf_out (W : List Int) (l : Lit) (h : ∀ t, l ≠ .int .u32 t) : mf W l = none := by
  unfold mf
  rw [if_neg (by rintro ⟨s, _, e⟩; exact h s e)]
theorem mf_nil (l : Lit) : mf [] l = none := by
  unfold mf
  rw [if_neg (by rintro ⟨s, hs, _⟩; cases hs)]
theorem mf_cases (l : Lit) : (∃ t, l = .int .u32 t) ∨ ∀ t, l ≠ .int .u32 t := by
  by_cases h : ∃ t, l = .int .u32 t
  · exact .inl h
  · exact .inr (fun t e => h ⟨t, e⟩)
theorem mf_ask {W : List Int} {t : Int} (l : Lit) : mf (W ++ [t]) l = upd (mf W) (.int .u32 t) (some (.int .i64 t)) l := by
  rcases mf_cases l with ⟨s, rfl⟩ | h
  · by_cases e : s = t
    · subst e
      rw [upd_same, mf_at, if_pos (by simp)]
    · rw [upd_other (by intro h; injection h with _ h; exact e h), mf_at, mf_at]
      by_cases hs : s ∈ W
      · rw [if_pos (by simp [hs]), if_pos hs]
      · rw [if_neg (by simp [hs, e]), if_neg hs]
  · rw [upd_other (h t), mf_out _ _ h, mf_out _ _ h]
theorem mf_erase {W : List Int} (hn : W.Nodup) {t : Int} (l : Lit) : mf (W.erase t) l = upd (mf W) (.int .u32 t) none l := by
  rcases mf_cases l with ⟨s, rfl⟩ | h
  · by_cases e : s = t
    · subst e
      rw [upd_same, mf_at, if_neg (by rw [hn.mem_erase_iff]; simp)]
    · rw [upd_other (by intro h; injection h with _ h; exact e h), mf_at, mf_at]
      by_cases hs : s ∈ W
      · rw [if_pos ((List.mem_erase_of_ne e).2 hs), if_pos hs]
      · rw [if_neg (fun h => hs (List.mem_of_mem_erase h)), if_neg hs]
  · rw [upd_other (h t), mf_out _ _ h, mf_out _ _ h]
end Go.Proofs.YtccojgaahoonhaaDoor
