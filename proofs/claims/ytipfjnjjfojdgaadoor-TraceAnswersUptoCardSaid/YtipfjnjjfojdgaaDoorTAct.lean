import Derived.Test.YtipfjnjjfojdgaaDoorTHist
import Derived.Test.YtipfjnjjfojdgaaDoorErrs
/- The history's calls, each with both of its answers. -/
namespace Go.Proofs.YtipfjnjjfojdgaaDoor
open Go Go.RowKit Go.Cu Go.Proofs.YtipfjnjjfojdgaaDoor.errs

theorem pastR_put {R : List Rw} (hs : Srt Rw.k R) (r : Rw) : pastR (put Rw.k R r) r.k = r := by
  unfold pastR
  rw [get_put_same Rw.k hs r]
  rfl
theorem pastR_other {R : List Rw} (hs : Srt Rw.k R) (r : Rw) {k : Int} (hk : k ≠ r.k) : pastR (put Rw.k R r) k = pastR R k := by
  unfold pastR
  rw [get_put_other Rw.k hs r hk]
theorem put_le {R : List Rw} (hs : Srt Rw.k R) (r : Rw) : (put Rw.k R r).length ≤ R.length + 1 := by
  rw [put_len Rw.k R r hs]
  split <;> omega
def wroteR (R : List Rw) (k : Int) (L : List Int) : List Rw := if (pastR R k).cl = true then R else put Rw.k R { pastR R k with bs := (pastR R k).bs ++ L }
def closedR (R : List Rw) (k : Int) : List Rw := if (pastR R k).cl = true then R else put Rw.k R { pastR R k with cl := true }
def gaveR (R : List Rw) (k : Int) (L : List Int) : List Rw := if L <+: (pastR R k).bs.drop (pastR R k).rd then put Rw.k R { pastR R k with rd := (pastR R k).rd + L.length } else R
def endedR (R : List Rw) (k : Int) : List Rw := if (pastR R k).cl = true ∧ (pastR R k).rd = (pastR R k).bs.length then put Rw.k R { pastR R k with en := true } else R
/-- what a history's rows are -/
structure Wl (R : List Rw) (N i : Nat) : Prop where
  srt : Srt Rw.k R
  key : ∀ r ∈ R, wfi r.k
  big : ∀ r ∈ R, r.bs.length ≤ N
  rd : ∀ r ∈ R, r.rd ≤ r.bs.length
  byte : ∀ r ∈ R, ∀ x ∈ r.bs, 0 ≤ x ∧ x ≤ 255
  len : R.length ≤ i
section
variable {R : List Rw} {N M i j : Nat} {k : Int} {L : List Int}
theorem Wl.start : Wl [] 0 0 := ⟨List.Pairwise.nil, fun _ h => (by cases h), fun _ h => (by cases h), fun _ h => (by cases h), fun _ h => (by cases h), Nat.le_refl _⟩
theorem Wl.later (h : Wl R N i) (hN : N ≤ M) (hi : i ≤ j) : Wl R M j := ⟨h.srt, h.key, fun r hr => Nat.le_trans (h.big r hr) hN, h.rd, h.byte, Nat.le_trans h.len hi⟩
theorem pastR_cases (R : List Rw) (k : Int) : pastR R k ∈ R ∨ pastR R k = ⟨k, [], 0, false, false⟩ := by
  unfold pastR
  cases hg : get Rw.k R k with
  | none => exact .inr rfl
  | some r => exact .inl (get_mem Rw.k hg).1
theorem Wl.pbig (h : Wl R N i) (k : Int) : (pastR R k).bs.length ≤ N := by
  rcases pastR_cases R k with hm | hm
  · exact h.big _ hm
  · rw [hm]; exact Nat.zero_le _
theorem Wl.prd (h : Wl R N i) (k : Int) : (pastR R k).rd ≤ (pastR R k).bs.length := by
  rcases pastR_cases R k with hm | hm
  · exact h.rd _ hm
  · rw [hm]; exact Nat.zero_le _
theorem Wl.pbyte (h : Wl R N i) (k : Int) : ∀ x ∈ (pastR R k).bs, 0 ≤ x ∧ x ≤ 255 := by
  rcases pastR_cases R k with hm | hm
  · exact h.byte _ hm
  · rw [hm]; exact fun x hx => (by cases hx)
theorem Wl.put (h : Wl R N i) {r : Rw} (hk : wfi r.k) (hb : r.bs.length ≤ M) (hN : N ≤ M) (hr : r.rd ≤ r.bs.length) (hy : ∀ x ∈ r.bs, 0 ≤ x ∧ x ≤ 255) : Wl (put Rw.k R r) M (i + 1) := by
  have hp := put_mem Rw.k h.srt r
  refine ⟨put_srt Rw.k h.srt r, fun x hx => ?_, fun x hx => ?_, fun x hx => ?_, fun x hx => ?_, Nat.le_trans (put_le h.srt r) (Nat.add_le_add_right h.len 1)⟩
  · rcases (hp x).1 hx with rfl | hx
    · exact hk
    · exact h.key x hx.1
  · rcases (hp x).1 hx with rfl | hx
    · exact hb
    · exact Nat.le_trans (h.big x hx.1) hN
  · rcases (hp x).1 hx with rfl | hx
    · exact hr
    · exact h.rd x hx.1
  · rcases (hp x).1 hx with rfl | hx
    · exact hy
    · exact h.byte x hx.1
theorem Wl.wrote (h : Wl R N i) (hk : wfi k) (hL : ∀ x ∈ L, 0 ≤ x ∧ x ≤ 255) : Wl (wroteR R k L) (N + L.length) (i + 1) := by
  unfold wroteR
  split
  · exact h.later (Nat.le_add_right _ _) (Nat.le_succ _)
  · refine h.put (by show wfi (pastR R k).k; rw [pastR_k]; exact hk) ?_ (Nat.le_add_right _ _) ?_ (fun x hx => ?_)
    · show ((pastR R k).bs ++ L).length ≤ _
      rw [List.length_append]
      exact Nat.add_le_add_right (h.pbig k) _
    · show (pastR R k).rd ≤ ((pastR R k).bs ++ L).length
      rw [List.length_append]
      exact Nat.le_trans (h.prd k) (Nat.le_add_right _ _)
    · rcases List.mem_append.1 hx with hx | hx
      · exact h.pbyte k x hx
      · exact hL x hx
theorem Wl.closed (h : Wl R N i) (hk : wfi k) : Wl (closedR R k) N (i + 1) := by
  unfold closedR
  split
  · exact h.later (Nat.le_refl _) (Nat.le_succ _)
  · exact h.put (by show wfi (pastR R k).k; rw [pastR_k]; exact hk) (h.pbig k) (Nat.le_refl _) (h.prd k) (h.pbyte k)
theorem Wl.gave (h : Wl R N i) (hk : wfi k) : Wl (gaveR R k L) N (i + 1) := by
  unfold gaveR
  split
  · next hp =>
    refine h.put (by show wfi (pastR R k).k; rw [pastR_k]; exact hk) (h.pbig k) (Nat.le_refl _) ?_ (h.pbyte k)
    show (pastR R k).rd + L.length ≤ (pastR R k).bs.length
    have h1 := hp.length_le
    rw [List.length_drop] at h1
    have := h.prd k
    omega
  · exact h.later (Nat.le_refl _) (Nat.le_succ _)
theorem Wl.ended (h : Wl R N i) (hk : wfi k) : Wl (endedR R k) N (i + 1) := by
  unfold endedR
  split
  · exact h.put (by show wfi (pastR R k).k; rw [pastR_k]; exact hk) (h.pbig k) (Nat.le_refl _) (h.prd k) (h.pbyte k)
  · exact h.later (Nat.le_refl _) (Nat.le_succ _)
theorem Wl.told (h : Wl R N i) (hN : N ≤ 1099511627776) : Told R := fun r hr => ⟨h.key r hr, Nat.le_trans (h.big r hr) hN, h.rd r hr⟩
end
section
variable {w w' : World} {c : Nat} {D G : Nat → Prop} {R : List Rw} {adr : Nat → Addr}
theorem turned_same (h : Hist w c D R) (hb : Below w.heap.size w w') : Turned w w' c D R := ⟨(h.past hb).mono (fun _ hk _ => .inl hk), Mod.ofBelow hb _⟩
theorem Turned.hist {R' : List Rw} (h : Turned w w' c D R') : Hist w' c (fun k => D k ∨ (w.heap.size ≤ k ∧ k < w'.heap.size)) R' := h.1
abbrev errV (adr : Nat → Addr) (n : Nat) : Value := .iface 146 (.pointer (some (adr n)))
/-- nil, or the error with this number -/
def Told2 (adr : Nat → Addr) (ok : Prop) (n : Nat) (r : Ending) : Prop := (ok ∧ r = .returned .nilIface) ∨ (¬ ok ∧ r = .returned (errV adr n))
theorem wrote_act (w : World) (hS : Sent w adr) (h : Hist w c D R) (k : Int) (hk : wfi k) (hE : R.length ≤ 2097152) (A2 : Option Addr) (n2 c2 : Nat) (L : List Int) (hr : Reads w 1 (.slice A2 n2 c2) n2 (u8s L)) (hL : ∀ x ∈ L, 0 ≤ x ∧ x ≤ 255) (hn : (pastR R k).bs.length + n2 ≤ 1099511627776) :
    Calls Tryd.prog 12 #[ptr c, .int .i64 k, .slice A2 n2 c2] w fun r w' => Told2 adr ((pastR R k).cl = false) 24 r ∧ Turned w w' c D (wroteR R k L) := by
  unfold wroteR
  by_cases hc : (pastR R k).cl = true
  · rw [if_pos hc]
    exact (hist_wrote2 h k hk _ hc _ (hS.cell 24 (by decide) (by decide))).mono (fun r w' h1 => ⟨.inr ⟨by simp [hc], h1.1⟩, turned_same h h1.2⟩)
  · rw [if_neg hc]
    exact (hist_wrote h k hk hE (by simpa using hc) A2 n2 c2 L hr hL hn).mono (fun r w' h1 => ⟨.inl ⟨by simpa using hc, h1.1⟩, h1.2⟩)
theorem closed_act (w : World) (hS : Sent w adr) (h : Hist w c D R) (k : Int) (hk : wfi k) (hE : R.length ≤ 2097152) :
    Calls Tryd.prog 13 #[ptr c, .int .i64 k] w fun r w' => Told2 adr ((pastR R k).cl = false) 24 r ∧ Turned w w' c D (closedR R k) := by
  unfold closedR
  by_cases hc : (pastR R k).cl = true
  · rw [if_pos hc]
    exact (hist_closed2 h k hk hc _ (hS.cell 24 (by decide) (by decide))).mono (fun r w' h1 => ⟨.inr ⟨by simp [hc], h1.1⟩, turned_same h h1.2⟩)
  · rw [if_neg hc]
    exact (hist_closed h k hk hE (by simpa using hc)).mono (fun r w' h1 => ⟨.inl ⟨by simpa using hc, h1.1⟩, h1.2⟩)
theorem gave_act (w : World) (hS : Sent w adr) (h : Hist w c D R) (k : Int) (hk : wfi k) (hE : R.length ≤ 2097152) (A2 : Option Addr) (n2 c2 : Nat) (L : List Int) (hr : Reads w 1 (.slice A2 n2 c2) n2 (u8s L)) (hL : ∀ x ∈ L, 0 ≤ x ∧ x ≤ 255) (hn : (pastR R k).bs.length ≤ 140737488355328) :
    Calls Tryd.prog 14 #[ptr c, .int .i64 k, .slice A2 n2 c2] w fun r w' => Told2 adr (L <+: (pastR R k).bs.drop (pastR R k).rd) 39 r ∧ Turned w w' c D (gaveR R k L) := by
  unfold gaveR
  by_cases hc : L <+: (pastR R k).bs.drop (pastR R k).rd
  · rw [if_pos hc]
    exact (hist_gave h k hk hE A2 n2 c2 L hr hL hc hn).mono (fun r w' h1 => ⟨.inl ⟨hc, h1.1⟩, h1.2⟩)
  · rw [if_neg hc]
    exact (hist_gave2 h k hk A2 n2 c2 L hr hL hc _ (hS.cell 39 (by decide) (by decide))).mono (fun r w' h1 => ⟨.inr ⟨hc, h1.1⟩, turned_same h h1.2⟩)
theorem ended_act (w : World) (hS : Sent w adr) (h : Hist w c D R) (k : Int) (hk : wfi k) (hrd : (pastR R k).rd ≤ (pastR R k).bs.length) :
    Calls Tryd.prog 15 #[ptr c, .int .i64 k] w fun r w' => Told2 adr ((pastR R k).cl = true ∧ (pastR R k).rd = (pastR R k).bs.length) 39 r ∧ Turned w w' c D (endedR R k) := by
  unfold endedR
  by_cases hc : (pastR R k).cl = true ∧ (pastR R k).rd = (pastR R k).bs.length
  · rw [if_pos hc]
    exact (hist_ended h k hk hc.1 hc.2).mono (fun r w' h1 => ⟨.inl ⟨hc, h1.1⟩, h1.2⟩)
  · rw [if_neg hc]
    exact (hist_ended2 h k hk hc hrd _ (hS.cell 39 (by decide) (by decide))).mono (fun r w' h1 => ⟨.inr ⟨hc, h1.1⟩, turned_same h h1.2⟩)
end
end Go.Proofs.YtipfjnjjfojdgaaDoor
