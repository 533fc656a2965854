import Derived.Test.YtipfjnjjfojdgaaDoorTStep
/- A history that is turned at one key step by step. -/
namespace Go.Proofs.YtipfjnjjfojdgaaDoor
open Go Go.RowKit Go.Cu

/-- Rk is R, its key's past turned to P -/
def Mid (key : Int) (R : List Rw) (P : Rw) (Rk : List Rw) : Prop := (Rk = R ∧ P = pastR R key) ∨ (Rk = put Rw.k R P ∧ P.k = key)
section
variable {key : Int} {R Rk : List Rw} {P P' : Rw} {N M i : Nat}
theorem Mid.start (key : Int) (R : List Rw) : Mid key R (pastR R key) R := .inl ⟨rfl, rfl⟩
theorem Mid.at (h : Mid key R P Rk) (hs : Srt Rw.k R) : pastR Rk key = P := by
  rcases h with ⟨rfl, rfl⟩ | ⟨rfl, hk⟩
  · rfl
  · have := pastR_put hs P
    rw [hk] at this
    exact this
theorem Mid.kof (h : Mid key R P Rk) : P.k = key := by
  rcases h with ⟨_, rfl⟩ | ⟨_, hk⟩
  · exact pastR_k R key
  · exact hk
theorem Mid.put (h : Mid key R P Rk) (hk : P'.k = key) : put Rw.k Rk P' = put Rw.k R P' := by
  rcases h with ⟨rfl, _⟩ | ⟨rfl, h1⟩
  · rfl
  · exact put_put P P' (h1.trans hk.symm)
theorem Mid.turn (h : Mid key R P Rk) (hk : P'.k = key) : Mid key R P' (Go.Proofs.YtipfjnjjfojdgaaDoor.put Rw.k Rk P') := .inr ⟨h.put hk, hk⟩
theorem Mid.wl (h : Mid key R P Rk) (hw : Wl R N i) (hk : wfi key) (hb : P.bs.length ≤ M) (hN : N ≤ M) (hr : P.rd ≤ P.bs.length) (hy : ∀ x ∈ P.bs, 0 ≤ x ∧ x ≤ 255) : Wl Rk M (i + 1) := by
  have hkk := h.kof
  rcases h with ⟨rfl, _⟩ | ⟨rfl, _⟩
  · exact hw.later hN (Nat.le_succ _)
  · exact hw.put (by rw [hkk]; exact hk) hb hN hr hy
/-- one more byte is written -/
theorem Mid.wrote {L : List Int} {k : Nat} (h : Mid key R { pastR R key with bs := (pastR R key).bs ++ L.take k } Rk) (hs : Srt Rw.k R) (hcl : (pastR R key).cl = false) {x : Int} (hx : L[k]? = some x) :
    Mid key R { pastR R key with bs := (pastR R key).bs ++ L.take (k + 1) } (wroteR Rk key [x]) := by
  unfold wroteR
  rw [h.at hs, if_neg (by show ¬ (pastR R key).cl = true; rw [hcl]; exact Bool.false_ne_true)]
  have e : L.take (k + 1) = L.take k ++ [x] := by
    rw [List.take_add_one, hx]
    rfl
  rw [e, ← List.append_assoc]
  exact h.turn (pastR_k R key)
theorem Mid.wrote_end {L : List Int} (h : Mid key R { pastR R key with bs := (pastR R key).bs ++ L } Rk) (hs : Srt Rw.k R) (hcl : (pastR R key).cl = false) : wroteR Rk key [] = wroteR R key L := by
  have h1 : ¬ (pastR R key).cl = true := by rw [hcl]; exact Bool.false_ne_true
  have h2 : ¬ (pastR Rk key).cl = true := by rw [h.at hs]; exact h1
  unfold wroteR
  rw [if_neg h2, if_neg h1, h.at hs, h.put (by exact pastR_k R key)]
  simp
/-- one more byte is given -/
theorem Mid.gave {L : List Int} {k : Nat} (h : Mid key R { pastR R key with rd := (pastR R key).rd + k } Rk) (hs : Srt Rw.k R) (hp : L <+: (pastR R key).bs.drop (pastR R key).rd) {x : Int} (hx : L[k]? = some x) :
    [x] <+: (pastR Rk key).bs.drop (pastR Rk key).rd ∧ Mid key R { pastR R key with rd := (pastR R key).rd + (k + 1) } (gaveR Rk key [x]) := by
  have h1 : [x] <+: (pastR R key).bs.drop ((pastR R key).rd + k) := by
    rw [← List.drop_drop]
    obtain ⟨t, ht⟩ := hp
    rw [← ht]
    have hk : k < L.length := (List.getElem?_eq_some_iff.1 hx).1
    have e : L.drop k = x :: L.drop (k + 1) := by
      rw [List.drop_eq_getElem_cons hk]
      congr 1
      have := List.getElem?_eq_getElem hk
      rw [this] at hx
      exact Option.some.inj hx
    rw [List.drop_append_of_le_length (by omega), e]
    exact ⟨_, rfl⟩
  have h2 : [x] <+: (pastR Rk key).bs.drop (pastR Rk key).rd := by rw [h.at hs]; exact h1
  refine ⟨h2, ?_⟩
  unfold gaveR
  rw [if_pos h2, h.at hs]
  exact h.turn (pastR_k R key)
theorem Mid.gave_end {L : List Int} (h : Mid key R { pastR R key with rd := (pastR R key).rd + L.length } Rk) (hs : Srt Rw.k R) (hp : L <+: (pastR R key).bs.drop (pastR R key).rd) : gaveR Rk key [] = gaveR R key L := by
  have h2 : [] <+: (pastR Rk key).bs.drop (pastR Rk key).rd := List.nil_prefix
  unfold gaveR
  rw [if_pos h2, if_pos hp, h.at hs, h.put (by exact pastR_k R key)]
  rfl
end
theorem H2.turn2f {S : Nat} {w w' : World} {c1 c2 : Nat} {D1 D2 : Nat → Prop} {R1 R2 : List Rw} (h : H2 S w c1 c2 D1 D2 R1 R2) (hS : S ≤ w.heap.size) {R' : List Rw} (ht : Turned w w' c2 D2 R') : ∃ D', H2 S w' c1 c2 D1 D' R1 R' ∧ ∀ k, D' k → D2 k ∨ w.heap.size ≤ k := by
  obtain ⟨h1, hm⟩ := ht
  refine ⟨_, ⟨h.h1.kept hm (fun k hk _ hd => h.dd k hk hd), h1, fun k hk => ⟨(h.d1 k hk).1, Nat.lt_of_lt_of_le (h.d1 k hk).2 hm.size⟩, ?_, ?_⟩, fun k hk => hk.imp id (·.1)⟩
  · rintro k (hk | hk)
    · exact ⟨(h.d2 k hk).1, Nat.lt_of_lt_of_le (h.d2 k hk).2 hm.size⟩
    · exact ⟨Nat.le_trans hS hk.1, hk.2⟩
  · rintro k hd (hk | hk)
    · exact h.dd k hd hk
    · have := (h.d1 k hd).2; omega
end Go.Proofs.YtipfjnjjfojdgaaDoor
