import Derived.Test.YtipfjnjjfojdgaaDoorTAct
/- Two histories, each in memory of its own; what a key's history hangs on. -/
namespace Go.Proofs.YtipfjnjjfojdgaaDoor
open Go Go.RowKit Go.Cu

structure H2 (S : Nat) (w : World) (c1 c2 : Nat) (D1 D2 : Nat → Prop) (R1 R2 : List Rw) : Prop where
  h1 : Hist w c1 D1 R1
  h2 : Hist w c2 D2 R2
  d1 : ∀ k, D1 k → S ≤ k ∧ k < w.heap.size
  d2 : ∀ k, D2 k → S ≤ k ∧ k < w.heap.size
  dd : ∀ k, D1 k → ¬ D2 k
section
variable {S : Nat} {w w' : World} {c1 c2 : Nat} {D1 D2 : Nat → Prop} {R1 R2 : List Rw}
theorem H2.past (h : H2 S w c1 c2 D1 D2 R1 R2) (hb : Below w.heap.size w w') : H2 S w' c1 c2 D1 D2 R1 R2 :=
  ⟨h.h1.past hb, h.h2.past hb, fun k hk => ⟨(h.d1 k hk).1, Nat.lt_of_lt_of_le (h.d1 k hk).2 hb.size⟩, fun k hk => ⟨(h.d2 k hk).1, Nat.lt_of_lt_of_le (h.d2 k hk).2 hb.size⟩, h.dd⟩
theorem H2.turn1 (h : H2 S w c1 c2 D1 D2 R1 R2) (hS : S ≤ w.heap.size) {R' : List Rw} (ht : Turned w w' c1 D1 R') : ∃ D', H2 S w' c1 c2 D' D2 R' R2 := by
  obtain ⟨h1, hm⟩ := ht
  refine ⟨_, h1, h.h2.kept hm (fun k hk _ hd => h.dd k hd hk), ?_, fun k hk => ⟨(h.d2 k hk).1, Nat.lt_of_lt_of_le (h.d2 k hk).2 hm.size⟩, ?_⟩
  · rintro k (hk | hk)
    · exact ⟨(h.d1 k hk).1, Nat.lt_of_lt_of_le (h.d1 k hk).2 hm.size⟩
    · exact ⟨Nat.le_trans hS hk.1, hk.2⟩
  · rintro k (hk | hk) hd
    · exact h.dd k hk hd
    · have := (h.d2 k hd).2; omega
theorem H2.turn2 (h : H2 S w c1 c2 D1 D2 R1 R2) (hS : S ≤ w.heap.size) {R' : List Rw} (ht : Turned w w' c2 D2 R') : ∃ D', H2 S w' c1 c2 D1 D' R1 R' := by
  obtain ⟨h1, hm⟩ := ht
  refine ⟨_, h.h1.kept hm (fun k hk _ hd => h.dd k hk hd), h1, fun k hk => ⟨(h.d1 k hk).1, Nat.lt_of_lt_of_le (h.d1 k hk).2 hm.size⟩, ?_, ?_⟩
  · rintro k (hk | hk)
    · exact ⟨(h.d2 k hk).1, Nat.lt_of_lt_of_le (h.d2 k hk).2 hm.size⟩
    · exact ⟨Nat.le_trans hS hk.1, hk.2⟩
  · rintro k hd (hk | hk)
    · exact h.dd k hd hk
    · have := (h.d1 k hd).2; omega
theorem H2.low1 (h : H2 S w c1 c2 D1 D2 R1 R2) (hS : S ≤ w.heap.size) {R' : List Rw} (ht : Turned w w' c1 D1 R') : Below S w w' := ht.2.below hS (fun k hk => (h.d1 k hk).1)
theorem H2.low2 (h : H2 S w c1 c2 D1 D2 R1 R2) (hS : S ≤ w.heap.size) {R' : List Rw} (ht : Turned w w' c2 D2 R') : Below S w w' := ht.2.below hS (fun k hk => (h.d2 k hk).1)
end
theorem get_put_at {R1 R2 : List Rw} (h1 : Srt Rw.k R1) (h2 : Srt Rw.k R2) (r : Rw) : get Rw.k (put Rw.k R1 r) r.k = get Rw.k (put Rw.k R2 r) r.k := by
  rw [get_put_same Rw.k h1, get_put_same Rw.k h2]
/-- the second knows of the key what the first does, and of no other -/
structure Same (key : Int) (R1 R2 : List Rw) : Prop where
  get : get Rw.k R1 key = get Rw.k R2 key
  only : ∀ r ∈ R2, r.k = key
section
variable {key k : Int} {R1 R2 : List Rw} {L : List Int}
theorem Same.past (h : Same key R1 R2) : pastR R1 key = pastR R2 key := by
  unfold pastR
  rw [h.get]
theorem Same.put_other (h : Same key R1 R2) (hs : Srt Rw.k R1) {r : Rw} (hk : key ≠ r.k) : Same key (put Rw.k R1 r) R2 := ⟨by rw [get_put_other Rw.k hs r hk]; exact h.get, h.only⟩
theorem Same.put_both (h : Same key R1 R2) (h1 : Srt Rw.k R1) (h2 : Srt Rw.k R2) {r : Rw} (hk : r.k = key) : Same key (put Rw.k R1 r) (put Rw.k R2 r) := by
  subst hk
  refine ⟨get_put_at h1 h2 r, fun x hx => ?_⟩
  rcases (put_mem Rw.k h2 r x).1 hx with rfl | hx
  · rfl
  · exact h.only x hx.1
theorem Same.wrote1 (h : Same key R1 R2) (hs : Srt Rw.k R1) (hk : key ≠ k) (L : List Int) : Same key (wroteR R1 k L) R2 := by
  unfold wroteR
  split
  · exact h
  · exact h.put_other hs (by show key ≠ (pastR R1 k).k; rw [pastR_k]; exact hk)
theorem Same.closed1 (h : Same key R1 R2) (hs : Srt Rw.k R1) (hk : key ≠ k) : Same key (closedR R1 k) R2 := by
  unfold closedR
  split
  · exact h
  · exact h.put_other hs (by show key ≠ (pastR R1 k).k; rw [pastR_k]; exact hk)
theorem Same.gave1 (h : Same key R1 R2) (hs : Srt Rw.k R1) (hk : key ≠ k) (L : List Int) : Same key (gaveR R1 k L) R2 := by
  unfold gaveR
  split
  · exact h.put_other hs (by show key ≠ (pastR R1 k).k; rw [pastR_k]; exact hk)
  · exact h
theorem Same.ended1 (h : Same key R1 R2) (hs : Srt Rw.k R1) (hk : key ≠ k) : Same key (endedR R1 k) R2 := by
  unfold endedR
  split
  · exact h.put_other hs (by show key ≠ (pastR R1 k).k; rw [pastR_k]; exact hk)
  · exact h
theorem Same.wrote2 (h : Same key R1 R2) (h1 : Srt Rw.k R1) (h2 : Srt Rw.k R2) (L : List Int) : Same key (wroteR R1 key L) (wroteR R2 key L) := by
  unfold wroteR
  rw [h.past]
  split
  · exact h
  · exact h.put_both h1 h2 (pastR_k R2 key)
theorem Same.closed2 (h : Same key R1 R2) (h1 : Srt Rw.k R1) (h2 : Srt Rw.k R2) : Same key (closedR R1 key) (closedR R2 key) := by
  unfold closedR
  rw [h.past]
  split
  · exact h
  · exact h.put_both h1 h2 (pastR_k R2 key)
theorem Same.gave2 (h : Same key R1 R2) (h1 : Srt Rw.k R1) (h2 : Srt Rw.k R2) (L : List Int) : Same key (gaveR R1 key L) (gaveR R2 key L) := by
  unfold gaveR
  rw [h.past]
  split
  · exact h.put_both h1 h2 (pastR_k R2 key)
  · exact h
theorem Same.ended2 (h : Same key R1 R2) (h1 : Srt Rw.k R1) (h2 : Srt Rw.k R2) : Same key (endedR R1 key) (endedR R2 key) := by
  unfold endedR
  rw [h.past]
  split
  · exact h.put_both h1 h2 (pastR_k R2 key)
  · exact h
theorem Same.one (h : Same key R1 R2) (h2 : Srt Rw.k R2) : R2.length ≤ 1 := by
  match R2, h, h2 with
  | [], _, _ => simp
  | [_], _, _ => simp
  | x :: y :: l, h, h2 =>
    have e1 := h.only x (by simp)
    have e2 := h.only y (by simp)
    have := (srt_cons Rw.k).1 h2
    have := this.1 y (by simp)
    omega
end
theorem put_put {R : List Rw} (a b : Rw) (hk : a.k = b.k) : put Rw.k (put Rw.k R a) b = put Rw.k R b := by
  induction R with
  | nil =>
    show put Rw.k [a] b = [b]
    rw [put_cons, hk, if_neg (by omega), if_pos rfl]
  | cons x R ih =>
    rw [put_cons, put_cons, hk]
    split
    · next h => rw [put_cons, if_pos h, ih]
    · split
      · rw [put_cons, hk, if_neg (by omega), if_pos rfl]
      · rw [put_cons, hk, if_neg (by omega), if_pos rfl]
end Go.Proofs.YtipfjnjjfojdgaaDoor
