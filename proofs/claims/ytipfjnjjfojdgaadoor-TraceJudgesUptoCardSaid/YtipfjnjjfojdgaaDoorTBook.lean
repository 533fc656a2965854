import Derived.Test.YtipfjnjjfojdgaaDoorTAct
/- TraceJudges' book; its memory beside a history. -/
namespace Go.Proofs.YtipfjnjjfojdgaaDoor
open Go Go.RowKit Go.Cu

/-- what may be known of a key after i calls -/
structure Bk (key : Int) (R : List Rw) (I O : List Int) (cl en : Bool) (i : Nat) : Prop where
  srt : Srt Rw.k R
  at_ : pastR R key = ⟨key, I, O.length, cl, en⟩
  pre : O <+: I
  fin : en = true → cl = true ∧ O.length = I.length
  byte : ∀ x ∈ I, 0 ≤ x ∧ x ≤ 255
  len : R.length ≤ i
theorem Bk.start (key : Int) : Bk key [] [] [] false false 0 := ⟨List.Pairwise.nil, rfl, List.prefix_refl _, fun h => (by cases h), fun _ h => (by cases h), Nat.le_refl _⟩
section
variable {key : Int} {R : List Rw} {I O : List Int} {cl en : Bool} {i : Nat}
theorem Bk.later (h : Bk key R I O cl en i) {j : Nat} (hj : i ≤ j) : Bk key R I O cl en j := ⟨h.srt, h.at_, h.pre, h.fin, h.byte, Nat.le_trans h.len hj⟩
theorem Bk.turn (h : Bk key R I O cl en i) {r : Rw} {I' O' : List Int} {cl' en' : Bool} (hr : r = ⟨key, I', O'.length, cl', en'⟩) (hp : O' <+: I') (hf : en' = true → cl' = true ∧ O'.length = I'.length) (hb : ∀ x ∈ I', 0 ≤ x ∧ x ≤ 255) : Bk key (put Rw.k R r) I' O' cl' en' (i + 1) := by
  subst hr
  exact ⟨put_srt Rw.k h.srt _, pastR_put h.srt ⟨key, I', O'.length, cl', en'⟩, hp, hf, hb, Nat.le_trans (put_le h.srt _) (Nat.add_le_add_right h.len 1)⟩
theorem Bk.wrote (h : Bk key R I O cl en i) (hcl : cl = false) {L : List Int} (hL : ∀ x ∈ L, 0 ≤ x ∧ x ≤ 255) : Bk key (put Rw.k R { pastR R key with bs := (pastR R key).bs ++ L }) (I ++ L) O cl en (i + 1) := by
  subst hcl
  refine h.turn (by rw [h.at_]) (h.pre.trans (List.prefix_append _ _)) (fun he => ?_) (fun x hx => ?_)
  · cases (h.fin he).1
  · rcases List.mem_append.1 hx with hx | hx
    · exact h.byte x hx
    · exact hL x hx
theorem Bk.closed (h : Bk key R I O cl en i) : Bk key (put Rw.k R { pastR R key with cl := true }) I O true en (i + 1) :=
  h.turn (by rw [h.at_]) h.pre (fun he => ⟨rfl, (h.fin he).2⟩) h.byte
theorem prefix_drop {I O L : List Int} (hp : O <+: I) (hL : L <+: I.drop O.length) : O ++ L <+: I := by
  obtain ⟨t, rfl⟩ := hp
  rw [List.drop_left] at hL
  exact (List.prefix_append_right_inj O).2 hL
theorem Bk.gave (h : Bk key R I O cl en i) {L : List Int} (hL : L <+: I.drop O.length) : Bk key (put Rw.k R { pastR R key with rd := (pastR R key).rd + L.length }) I (O ++ L) cl en (i + 1) := by
  refine h.turn (by rw [h.at_, List.length_append]) (prefix_drop h.pre hL) (fun he => ?_) h.byte
  obtain ⟨h1, h2⟩ := h.fin he
  have := hL.length_le
  rw [List.length_drop] at this
  exact ⟨h1, by rw [List.length_append]; omega⟩
theorem Bk.ended (h : Bk key R I O cl en i) (hcl : cl = true) (hl : O.length = I.length) : Bk key (put Rw.k R { pastR R key with en := true }) I O cl true (i + 1) :=
  h.turn (by rw [h.at_]) h.pre (fun _ => ⟨hcl, hl⟩) h.byte
theorem Bk.wroteR1 (h : Bk key R I O cl en i) (hcl : cl = false) {L : List Int} (hL : ∀ x ∈ L, 0 ≤ x ∧ x ≤ 255) : Bk key (wroteR R key L) (I ++ L) O cl en (i + 1) := by
  unfold wroteR
  rw [if_neg (by rw [h.at_, hcl]; exact Bool.false_ne_true)]
  exact h.wrote hcl hL
theorem Bk.wroteR2 (h : Bk key R I O cl en i) (hcl : cl = true) (L : List Int) : wroteR R key L = R := by
  unfold wroteR
  rw [if_pos (by rw [h.at_, hcl])]
theorem Bk.closedR1 (h : Bk key R I O cl en i) : Bk key (closedR R key) I O true en (i + 1) := by
  unfold closedR
  split
  · next hc =>
    rw [h.at_] at hc
    obtain rfl : cl = true := hc
    exact h.later (Nat.le_succ _)
  · exact h.closed
theorem Bk.gaveR1 (h : Bk key R I O cl en i) {L : List Int} (hL : L <+: I.drop O.length) : Bk key (gaveR R key L) I (O ++ L) cl en (i + 1) := by
  unfold gaveR
  rw [if_pos (by rw [h.at_]; exact hL)]
  exact h.gave hL
theorem Bk.gaveR2 (h : Bk key R I O cl en i) {L : List Int} (hL : ¬ L <+: I.drop O.length) : gaveR R key L = R := by
  unfold gaveR
  rw [if_neg (by rw [h.at_]; exact hL)]
theorem Bk.endedR1 (h : Bk key R I O cl en i) (hcl : cl = true) (hl : O.length = I.length) : Bk key (endedR R key) I O cl true (i + 1) := by
  unfold endedR
  rw [if_pos (by rw [h.at_]; exact ⟨hcl, hl⟩)]
  exact h.ended hcl hl
theorem Bk.endedR2 (h : Bk key R I O cl en i) (hno : ¬ (cl = true ∧ O.length = I.length)) : endedR R key = R := by
  unfold endedR
  rw [if_neg (by rw [h.at_]; exact hno)]
end
/-- a history, and two lists of bytes in memory of their own -/
structure JM (S : Nat) (w : World) (c : Nat) (D FI FO : Nat → Prop) (R : List Rw) (A1 : Option Addr) (n1 c1 : Nat) (A2 : Option Addr) (n2 c2 : Nat) (I O : List Int) : Prop where
  hist : Hist w c D R
  ri : Row w FI 5 1 (.slice A1 n1 c1) n1 (u8s I)
  ro : Row w FO 5 1 (.slice A2 n2 c2) n2 (u8s O)
  d : ∀ k, D k → S ≤ k ∧ k < w.heap.size
  i : ∀ k, FI k → S ≤ k ∧ k < w.heap.size
  o : ∀ k, FO k → S ≤ k ∧ k < w.heap.size
  di : ∀ k, D k → ¬ FI k
  do_ : ∀ k, D k → ¬ FO k
  io : ∀ k, FI k → ¬ FO k
section
variable {S : Nat} {w w' : World} {c : Nat} {D FI FO : Nat → Prop} {R : List Rw} {A1 : Option Addr} {n1 c1 : Nat} {A2 : Option Addr} {n2 c2 : Nat} {I O : List Int}
theorem JM.past (h : JM S w c D FI FO R A1 n1 c1 A2 n2 c2 I O) (hb : Below w.heap.size w w') : JM S w' c D FI FO R A1 n1 c1 A2 n2 c2 I O := by
  have hm : Mod (fun _ => False) w w' := Mod.ofBelow hb _
  exact ⟨h.hist.past hb, h.ri.kept hm (fun _ _ _ h => h), h.ro.kept hm (fun _ _ _ h => h), fun k hk => ⟨(h.d k hk).1, Nat.lt_of_lt_of_le (h.d k hk).2 hb.size⟩, fun k hk => ⟨(h.i k hk).1, Nat.lt_of_lt_of_le (h.i k hk).2 hb.size⟩, fun k hk => ⟨(h.o k hk).1, Nat.lt_of_lt_of_le (h.o k hk).2 hb.size⟩, h.di, h.do_, h.io⟩
theorem JM.low (h : JM S w c D FI FO R A1 n1 c1 A2 n2 c2 I O) (hS : S ≤ w.heap.size) {R' : List Rw} (ht : Turned w w' c D R') : Below S w w' := ht.2.below hS (fun k hk => (h.d k hk).1)
theorem JM.turned (h : JM S w c D FI FO R A1 n1 c1 A2 n2 c2 I O) (hS : S ≤ w.heap.size) {R' : List Rw} (ht : Turned w w' c D R') : ∃ D', JM S w' c D' FI FO R' A1 n1 c1 A2 n2 c2 I O := by
  obtain ⟨h1, hm⟩ := ht
  refine ⟨_, h1, h.ri.kept hm (fun k hk _ hd => h.di k hd hk), h.ro.kept hm (fun k hk _ hd => h.do_ k hd hk), ?_, fun k hk => ⟨(h.i k hk).1, Nat.lt_of_lt_of_le (h.i k hk).2 hm.size⟩, fun k hk => ⟨(h.o k hk).1, Nat.lt_of_lt_of_le (h.o k hk).2 hm.size⟩, ?_, ?_, h.io⟩
  · rintro k (hk | hk)
    · exact ⟨(h.d k hk).1, Nat.lt_of_lt_of_le (h.d k hk).2 hm.size⟩
    · exact ⟨Nat.le_trans hS hk.1, hk.2⟩
  · rintro k (hk | hk) hf
    · exact h.di k hk hf
    · have := (h.i k hf).2; omega
  · rintro k (hk | hk) hf
    · exact h.do_ k hk hf
    · have := (h.o k hf).2; omega
theorem JM.into (h : JM S w c D FI FO R A1 n1 c1 A2 n2 c2 I O) (hS : S ≤ w.heap.size) {A3 : Option Addr} {n3 c3 : Nat} {L : List Int} (hr : Row w' (fun k => FI k ∨ k = w.heap.size) 5 1 (.slice A3 n3 c3) n3 (u8s L)) (hm : Mod FI w w') :
    ∃ FI', JM S w' c D FI' FO R A3 n3 c3 A2 n2 c2 L O := by
  have hs := hm.size
  refine ⟨fun k => (FI k ∨ k = w.heap.size) ∧ k < w'.heap.size, h.hist.kept hm (fun k hd _ hf => h.di k hd hf), hr.mono (fun k hk hl => ⟨hk, hl⟩), h.ro.kept hm (fun k hk _ hf => h.io k hf hk), fun k hk => ⟨(h.d k hk).1, Nat.lt_of_lt_of_le (h.d k hk).2 hs⟩, ?_, fun k hk => ⟨(h.o k hk).1, Nat.lt_of_lt_of_le (h.o k hk).2 hs⟩, ?_, h.do_, ?_⟩
  · rintro k ⟨hk | hk, hl⟩
    · exact ⟨(h.i k hk).1, hl⟩
    · exact ⟨by omega, hl⟩
  · rintro k hd ⟨hk | hk, hl⟩
    · exact h.di k hd hk
    · have := (h.d k hd).2; omega
  · rintro k ⟨hk | hk, hl⟩ ho
    · exact h.io k hk ho
    · have := (h.o k ho).2; omega
theorem JM.outof (h : JM S w c D FI FO R A1 n1 c1 A2 n2 c2 I O) (hS : S ≤ w.heap.size) {A3 : Option Addr} {n3 c3 : Nat} {L : List Int} (hr : Row w' (fun k => FO k ∨ k = w.heap.size) 5 1 (.slice A3 n3 c3) n3 (u8s L)) (hm : Mod FO w w') :
    ∃ FO', JM S w' c D FI FO' R A1 n1 c1 A3 n3 c3 I L := by
  have hs := hm.size
  refine ⟨fun k => (FO k ∨ k = w.heap.size) ∧ k < w'.heap.size, h.hist.kept hm (fun k hd _ hf => h.do_ k hd hf), h.ri.kept hm (fun k hk _ hf => h.io k hk hf), hr.mono (fun k hk hl => ⟨hk, hl⟩), fun k hk => ⟨(h.d k hk).1, Nat.lt_of_lt_of_le (h.d k hk).2 hs⟩, fun k hk => ⟨(h.i k hk).1, Nat.lt_of_lt_of_le (h.i k hk).2 hs⟩, ?_, h.di, ?_, ?_⟩
  · rintro k ⟨hk | hk, hl⟩
    · exact ⟨(h.o k hk).1, hl⟩
    · exact ⟨by omega, hl⟩
  · rintro k hd ⟨hk | hk, hl⟩
    · exact h.do_ k hd hk
    · have := (h.d k hd).2; omega
  · rintro k hi ⟨hk | hk, hl⟩
    · exact h.io k hi hk
    · have := (h.i k hi).2; omega
theorem JM.start (h : Hist w c D R) (hd : ∀ k, D k → S ≤ k ∧ k < w.heap.size) : JM S w c D (fun _ => False) (fun _ => False) R none 0 0 none 0 0 [] [] :=
  ⟨h, Row.nil _ _ _ _, Row.nil _ _ _ _, hd, fun _ h => h.elim, fun _ h => h.elim, fun _ _ h => h, fun _ _ h => h, fun _ h => h.elim⟩
theorem JM.len1 (h : JM S w c D FI FO R A1 n1 c1 A2 n2 c2 I O) : I.length = n1 := by have := h.ri.1; rw [u8s_length] at this; omega
theorem JM.len2 (h : JM S w c D FI FO R A1 n1 c1 A2 n2 c2 I O) : O.length = n2 := by have := h.ro.1; rw [u8s_length] at this; omega
end
end Go.Proofs.YtipfjnjjfojdgaaDoor
