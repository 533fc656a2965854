import Derived.Test.YtipbaffhlekpfaaDoorFifM
/- removes: the function that asks; both queues behind a Remove. -/
namespace Go.Proofs.YtipbaffhlekpfaaDoor
open Go Go.RowKit Go.Cu Go.Proofs.YtipbaffhlekpfaaDoor.errs

set_option maxRecDepth 10000 in
theorem ask_any (w : World) (p4 p5 p8 p9 : Nat) (t1 m1 : Int) (A : Option Addr) (n c : Nat) (L : List (Int × Int)) (O : Option Addr) (m co : Nat) (W : List Int) (i : Nat) (x : Int × Int) (hx : L[i]? = some x)
    (h4 : w.heap[p4]? = some (.cells #[.int .i64 t1, .int .i64 m1, .slice A n c] 41 (0, 0))) (h5 : w.heap[p5]? = some (.cells #[.slice O m co] 24 (0, 0))) (h8 : w.heap[p8]? = some (.cells #[.int .i64 i] 3 (0, 0)))
    (hr : Reads w 2 (.slice A n c) n (pairs L)) (ho : Reads (w.setCell ⟨p8, 0, none⟩ (.int .i64 ((i : Int) + 1))) 1 (.slice O m co) m (W.map (Value.int .i64))) (hne : p5 ≠ p8) :
    Calls Tryd.prog 48 #[.int .i64 x.1, .pointer (some ⟨p8, 0, none⟩), .pointer (some ⟨p4, 0, none⟩), .pointer (some ⟨p9, 0, none⟩), .pointer (some ⟨p5, 0, none⟩)] w fun e w' =>
      e = .returned (.bool (decide (x.1 ∈ W))) ∧ w.setCell ⟨p8, 0, none⟩ (.int .i64 ((i : Int) + 1)) = w' := by
  have hnl : L.length = n := by have := hr.1; rw [pairs_length] at this; omega
  have hlt : i < n := by have := (List.getElem?_eq_some_iff.1 hx).1; omega
  have hlen : n ≤ 9223372036854775807 := maxLen_lt hr.size
  obtain ⟨_, _, j2, _, _, _⟩ := box3 h4
  have k5 : w.cell? ⟨p5, 0, none⟩ = some (.slice O m co) := by rw [cell_of_row w _ 0 _ _ _ h5]; rfl
  have k8 : w.cell? ⟨p8, 0, none⟩ = some (.int .i64 i) := by rw [cell_of_row w _ 0 _ _ _ h8]; rfl
  have f8 := frozen_of_row w p8 0 _ _ h8
  obtain ⟨ad, hA, q0, _⟩ := pairs_cell hr hx
  subst hA
  have HO := hide ho
  clear hnl h4 h5 h8 hr ho hx
  go_enter Tryd.func48, Tryd.ntmps48
  go_wp2_with fail
  refine (in_any _ O m co W HO.out x.1).mono ?_
  rintro e wz ⟨rfl, rfl⟩
  go_wp2
  go_ret
  exact ⟨rfl, rfl⟩

theorem alloc_at (w : World) (o : Obj) (k : Nat) : (w.alloc o).heap[k]? = if k = w.heap.size then some o else w.heap[k]? := by
  split
  · subst_vars; exact heap_alloc_new w o
  · rename_i h
    by_cases hl : k < w.heap.size
    · exact Below.heap_alloc _ _ _ hl
    · rw [Array.getElem?_eq_none (by simp; omega), Array.getElem?_eq_none (by omega)]
/-- Row of the document's queue, of a world; its blocks are not the program's. -/
structure Doc (w : World) (F G : Nat → Prop) (A : Option Addr) (c : Nat) (L : List (Int × Int)) : Prop where
  row : Row w G 55 2 (.slice A L.length c) L.length (pairs L)
  apart : ∀ k, G k → ¬ F k
  lt : ∀ k, G k → k < w.heap.size
section
variable {w w' : World} {F F' G : Nat → Prop} {A : Option Addr} {c : Nat} {L : List (Int × Int)}
theorem Doc.below (h : Doc w F G A c L) (hb : Below w.heap.size w w') : Doc w' F G A c L := ⟨h.row.kept (Mod.ofBelow hb (fun _ => False)) (fun _ _ _ h => h), h.apart, fun k hk => Nat.lt_of_lt_of_le (h.lt k hk) hb.size⟩
theorem Doc.mod (h : Doc w F G A c L) (hm : Mod F w w') (hF : ∀ k, F' k → F k ∨ w.heap.size ≤ k) : Doc w' F' G A c L :=
  ⟨h.row.kept hm (fun k hk _ => h.apart k hk), fun k hk hf => (hF k hf).elim (h.apart k hk) (fun hl => by have := h.lt k hk; omega), fun k hk => Nat.lt_of_lt_of_le (h.lt k hk) hm.size⟩
/-- a new row -/
theorem Doc.made (hr : Row w' (fun k => w.heap.size ≤ k) 55 2 (.slice A L.length c) L.length (pairs L)) (hF : ∀ k, F k → k < w.heap.size) : Doc w' F (fun k => w.heap.size ≤ k ∧ k < w'.heap.size) A c L :=
  ⟨hr.mono (fun k hk hl => ⟨hk, hl⟩), fun k hk hf => by have := hF k hf; omega, fun _ hk => hk.2⟩
end

theorem Fq.keep {w0 w w' : World} {F G : Nat → Prop} {b : Nat} {things most : Int} {L : List (Int × Int)} (h : Fq w0 w F b things most L) (hm : Mod G w w') (hn : ∀ k, F k → ¬ G k) (hG : ∀ k, G k → w0.heap.size ≤ k) : Fq w0 w' F b things most L :=
  ⟨h.q.kept hm hn, h.low, h.below.trans (hm.below h.below.size hG)⟩
theorem mod_set3 {G : Nat → Prop} {w w' : World} (h : Mod G w w') (p : Nat) (hp : G p) (a b c : Value) : Mod G w (((w'.setCell ⟨p, 0, none⟩ a).setCell ⟨p, 1, none⟩ b).setCell ⟨p, 2, none⟩ c) :=
  ((h.setCell (p := ⟨p, 0, none⟩) (fun _ => hp) _).setCell (p := ⟨p, 1, none⟩) (fun _ => hp) _).setCell (p := ⟨p, 2, none⟩) (fun _ => hp) _

set_option maxRecDepth 10000 in
set_option maxHeartbeats 2000000 in
theorem removes_any (w0 w : World) (F G : Nat → Prop) (b : Nat) (things most : Int) (L : List (Int × Int)) (h : Fq w0 w F b things most L) (A : Option Addr) (c : Nat) (hd : Doc w F G A c L) (hn : L.length ≤ 4398046511103) (O : Option Addr) (m co : Nat) (W : List Int) (ho : Reads w0 1 (.slice O m co) m (W.map (Value.int .i64))) :
    Calls Tryd.prog 38 #[.pointer (some ⟨b, 0, none⟩), qv things most A L.length c, .slice O m co] w fun e w' =>
      ∃ A' c' F' G', e = .returned (.tuple #[qv things most A' (keepL W L).length c', .bool true]) ∧ Fq w0 w' F' b things most (keepL W L) ∧ Doc w' F' G' A' c' (keepL W L) ∧ Mod F w w' ∧ (∀ k, F' k → F k ∨ w.heap.size ≤ k) ∧ (∀ k, G' k → w.heap.size ≤ k) := by
  have HH := hide h
  have HD := hide hd
  have HO := hide ho
  have hF := h.q.lt
  have hlow := h.low
  have HF := hide hF
  have HLow := hide hlow
  have hbel0 := h.below
  have HBel0 := hide hbel0
  have hsz0 := hbel0.size
  clear h hd ho hF hlow hbel0
  go_enter Tryd.func38, Tryd.ntmps38
  go_upto_region 3 with fail
  have hal : Below w.heap.size w (((((w.alloc (.cells #[.int .i64 things, .int .i64 most, .slice A L.length c] 41)).alloc (.cells #[.slice O m co] 24)).alloc (.cells #[.int .i64 0, .int .i64 0, .slice none 0 0] 41)).alloc (.cells #[.int .i64 0] 3)).alloc (.cells #[.bool true] 4)) :=
    ((((Below.refl _ _).alloc (Nat.le_refl _) _).alloc (by simp) _).alloc (by simp; omega) _ |>.alloc (by simp; omega) _).alloc (by simp; omega) _
  obtain ⟨w1, hw1⟩ : ∃ w1, (((((w.alloc (.cells #[.int .i64 things, .int .i64 most, .slice A L.length c] 41)).alloc (.cells #[.slice O m co] 24)).alloc (.cells #[.int .i64 0, .int .i64 0, .slice none 0 0] 41)).alloc (.cells #[.int .i64 0] 3)).alloc (.cells #[.bool true] 4)) = w1 := ⟨_, rfl⟩
  obtain ⟨p, hp⟩ : ∃ p, w.heap.size = p := ⟨_, rfl⟩
  have b0 : w1.heap[p]? = some (.cells #[.int .i64 things, .int .i64 most, .slice A L.length c] 41 (0, 0)) := by rw [← hw1, ← hp]; simp only [alloc_at, World.size_alloc]; repeat (first | rw [if_pos (by first | trivial | omega)] | rw [if_neg (by omega)])
  have b1 : w1.heap[p + 1]? = some (.cells #[.slice O m co] 24 (0, 0)) := by rw [← hw1, ← hp]; simp only [alloc_at, World.size_alloc]; repeat (first | rw [if_pos (by first | trivial | omega)] | rw [if_neg (by omega)])
  have b2 : w1.heap[p + 1 + 1]? = some (.cells #[.int .i64 0, .int .i64 0, .slice none 0 0] 41 (0, 0)) := by rw [← hw1, ← hp]; simp only [alloc_at, World.size_alloc]; repeat (first | rw [if_pos (by first | trivial | omega)] | rw [if_neg (by omega)])
  have b3 : w1.heap[p + 1 + 1 + 1]? = some (.cells #[.int .i64 0] 3 (0, 0)) := by rw [← hw1, ← hp]; simp only [alloc_at, World.size_alloc]; repeat (first | rw [if_pos (by first | trivial | omega)] | rw [if_neg (by omega)])
  have b4 : w1.heap[p + 1 + 1 + 1 + 1]? = some (.cells #[.bool true] 4 (0, 0)) := by rw [← hw1, ← hp]; simp only [alloc_at, World.size_alloc]; repeat (first | rw [if_pos (by first | trivial | omega)] | rw [if_neg (by omega)])
  have hsz1 : w1.heap.size = p + 1 + 1 + 1 + 1 + 1 := by rw [← hw1, ← hp]; simp
  rw [hw1] at hal
  rw [hw1, hp]
  have hlowL : ∀ k, F k → k < p := fun k hk => by have := HF.out k hk; omega
  have HQ1 := hide (HH.out.past hal)
  have HD1 := hide (HD.out.below hal)
  have HAl := hide hal
  have HB0 := hide b0
  have HB1 := hide b1
  have HB2 := hide b2
  have HB3 := hide b3
  have HB4 := hide b4
  have HFp := hide hlowL
  clear hw1 b0 b1 b2 b3 b4 hal hlowL
  go_cut [10] from 15 to 35 (fun s10 wc => s10 = .int .i64 ((L.length - (keepL W L).length : Nat) : Int) ∧ Hid (∃ F', Fq w0 wc F' b things most (keepL W L) ∧ Mod F w wc ∧ (∀ k, F' k → F k ∨ w1.heap.size ≤ k) ∧ Doc wc F' G A c L ∧
    wc.heap[p]? = some (.cells #[.int .i64 things, .int .i64 most, .slice A L.length c] 41 (0, 0)) ∧ wc.heap[p + 1]? = some (.cells #[.slice O m co] 24 (0, 0)) ∧ wc.heap[p + 1 + 1]? = some (.cells #[.int .i64 0, .int .i64 0, .slice none 0 0] 41 (0, 0)) ∧ wc.heap[p + 1 + 1 + 1]? = some (.cells #[.int .i64 L.length] 3 (0, 0)) ∧ wc.heap[p + 1 + 1 + 1 + 1]? = some (.cells #[.bool true] 4 (0, 0))))
  case first =>
    have hL : L = [] ∨ 0 < L.length := by cases L <;> simp
    rcases hL with hL | hpos
    · have HL := hide hL
      have hq := HQ1.out.q
      rw [hL] at hq
      have HQn := hide hq
      clear hq hL
      go_wp2_with fail
      refine (remove_none w1 F b things most HQn.out _ _ _ _).mono ?_
      rintro e wz ⟨rfl, rfl⟩
      go_wp2
      go_meet
      have e : keepL W L = L := by rw [HL.out]; rfl
      have e0 : ((0 : Nat) : Int) = (L.length : Int) := by rw [HL.out]; rfl
      case rel => exact ⟨by rw [e, Nat.sub_self]; rfl, hide ⟨F, by rw [e]; exact HQ1.out, (Mod.ofBelow HAl.out F), fun k hk => .inl hk, HD1.out, HB0.out, HB1.out, HB2.out, by rw [← e0]; exact HB3.out, HB4.out⟩⟩
    · go_wp2_with fail
      refine (remove_any w1 F b things most L HQ1.out.q hpos hn W (.pointer (some ⟨p + 1 + 1 + 1, 0, none⟩)) (.pointer (some ⟨p, 0, none⟩)) (.pointer (some ⟨p + 1 + 1 + 1 + 1, 0, none⟩)) (.pointer (some ⟨p + 1, 0, none⟩)) (fun k => k = p + 1 + 1 + 1)
        (fun i wr => wr.heap[p]? = some (.cells #[.int .i64 things, .int .i64 most, .slice A L.length c] 41 (0, 0)) ∧ wr.heap[p + 1]? = some (.cells #[.slice O m co] 24 (0, 0)) ∧ wr.heap[p + 1 + 1]? = some (.cells #[.int .i64 0, .int .i64 0, .slice none 0 0] 41 (0, 0)) ∧ wr.heap[p + 1 + 1 + 1]? = some (.cells #[.int .i64 i] 3 (0, 0)) ∧ wr.heap[p + 1 + 1 + 1 + 1]? = some (.cells #[.bool true] 4 (0, 0)) ∧ Row wr G 55 2 (.slice A L.length c) L.length (pairs L) ∧ Below w0.heap.size w0 wr)
        (fun k hk => ⟨by omega, fun hf => by have := HFp.out k hf; omega⟩) ⟨HB0.out, HB1.out, HB2.out, HB3.out, HB4.out, HD1.out.row, HQ1.out.below⟩ ?_ ?_).mono ?_
      · rintro i a b' ⟨s0, s1, s2, s3, s4, s5, s6⟩ hm
        have hx : ∀ k, p ≤ k → k < p + 1 + 1 + 1 + 1 + 1 → ¬ (F k ∨ w1.heap.size ≤ k) := fun k h1 h2 h => by
          rcases h with h | h
          · have := HFp.out k h; omega
          · omega
        exact ⟨hm.heap s0 (hx _ (by omega) (by omega)), hm.heap s1 (hx _ (by omega) (by omega)), hm.heap s2 (hx _ (by omega) (by omega)), hm.heap s3 (hx _ (by omega) (by omega)), hm.heap s4 (hx _ (by omega) (by omega)),
          s5.kept hm (fun k hk _ hf => by
            rcases hf with hf | hf
            · exact HD1.out.apart k hk hf
            · have := HD1.out.lt k hk; omega), s6.trans (hm.below s6.size (fun k hk => by
            rcases hk with hk | hk
            · exact HLow.out k hk
            · have := HQ1.out.below.size; omega))⟩
      · rintro i x wr hx ⟨s0, s1, s2, s3, s4, s5, s6⟩
        have hset : Below w0.heap.size w0 (wr.setCell ⟨p + 1 + 1 + 1, 0, none⟩ (.int .i64 ((i : Int) + 1))) := s6.setCell (p := ⟨p + 1 + 1 + 1, 0, none⟩) (show w0.heap.size ≤ p + 1 + 1 + 1 by omega) _
        have hset3 := heap_setCell_same _ (p + 1 + 1 + 1) 0 _ 3 (.int .i64 ((i : Int) + 1)) s3
        refine (ask_any wr p (p + 1) (p + 1 + 1 + 1) (p + 1 + 1 + 1 + 1) things most A L.length c L O m co W i x hx s0 s1 s3 s5.reads (Reads.kept HO.out (fun a _ hc => (hset.cell (World.block_lt_of_cell? w0 a hc)).trans hc)) (by omega)).mono ?_
        rintro e wz ⟨rfl, rfl⟩
        have hq : ∀ k, k ≠ p + 1 + 1 + 1 → (wr.setCell ⟨p + 1 + 1 + 1, 0, none⟩ (.int .i64 ((i : Int) + 1))).heap[k]? = wr.heap[k]? := fun k hk => Below.heap_setCell _ _ _ _ hk
        refine ⟨rfl, ⟨by rw [hq _ (by omega)]; exact s0, by rw [hq _ (by omega)]; exact s1, by rw [hq _ (by omega)]; exact s2, by simpa using hset3, by rw [hq _ (by omega)]; exact s4, s5.far (p := ⟨p + 1 + 1 + 1, 0, none⟩) (fun hg => by have := HD.out.lt _ hg; have : p + 1 + 1 + 1 < w.heap.size := this; omega) _, hset⟩, (Mod.refl (fun k => k = p + 1 + 1 + 1) wr).setCell (p := ⟨p + 1 + 1 + 1, 0, none⟩) (fun _ => rfl) _⟩
      · rintro e w5 ⟨rfl, ⟨s0, s1, s2, s3, s4, s5, s6⟩, hq, hm⟩
        have hq5 : Fq w0 w5 (Wide F w1 w5) b things most (keepL W L) := ⟨hq, fun k hk => by
          rcases hk with hk | hk
          · exact HLow.out k hk
          · have := HQ1.out.below.size; omega, s6⟩
        have hm5 : Mod F w w5 := (Mod.ofBelow HAl.out F).trans hm (fun k hk h => by
          rcases h with h | h
          · exact h
          · omega)
        have hd5 : Doc w5 (Wide F w1 w5) G A c L := ⟨s5, fun k hk hf => by
          rcases hf with hf | hf
          · exact HD1.out.apart k hk hf
          · have := HD1.out.lt k hk; omega, fun k hk => Nat.lt_of_lt_of_le (HD1.out.lt k hk) hm.size⟩
        have HRel := hide (show _ ∧ _ ∧ _ from ⟨hq5, hm5, hd5⟩)
        have HRel2 := hide (show _ ∧ _ ∧ _ ∧ _ ∧ _ from ⟨s0, s1, s2, s3, s4⟩)
        clear hq5 hm5 hd5 s0 s1 s2 s3 s4 s5 s6 hq hm
        go_wp2
        go_meet
        case rel => exact ⟨rfl, hide ⟨_, HRel.out.1, HRel.out.2.1, fun k hk => hk.elim .inl (fun h => .inr h.1), HRel.out.2.2, HRel2.out⟩⟩
  case rest =>
    obtain ⟨rfl, hst⟩ := hcut
    obtain ⟨F1, hq1, hm1, hF1, hd1, b0, b1, b2, b3, b4⟩ := hst.out
    obtain ⟨c0, c1, c2, _, _, _⟩ := box3 b0
    have d1 : wc.cell? ⟨p + 1, 0, none⟩ = some (.slice O m co) := by rw [cell_of_row wc _ 0 _ _ _ b1]; rfl
    have HRd := hide hd1.row.reads
    have HOd : Hid (Reads wc 1 (.slice O m co) m (W.map (Value.int .i64))) := hide (Reads.kept HO.out (fun a _ hc => (hq1.below.cell (World.block_lt_of_cell? w0 a hc)).trans hc))
    have HBq := hide (show _ ∧ _ ∧ _ ∧ _ ∧ _ from ⟨b0, b1, b2, b3, b4⟩)
    have HQ2 := hide hq1
    have HM2 := hide hm1
    have HF2 := hide hF1
    clear hst hq1 hm1 hF1 hd1 b0 b1 b2 b3 b4
    go_wp2_with fail
    refine (refremove_any wc things most A L.length c L HRd.out hn O m co W HOd.out).mono ?_
    rintro e w5 ⟨A5, c5, rfl, hr5, hb5⟩
    have HR5 := hide hr5
    have HB5 := hide hb5
    obtain ⟨x0, x1, x2, x3, x4⟩ := HBq.out
    have e0 := (hb5.block _ (Array.getElem?_eq_some_iff.1 x0).1).trans x0
    have e2 := (hb5.block _ (Array.getElem?_eq_some_iff.1 x2).1).trans x2
    have e3 := (hb5.block _ (Array.getElem?_eq_some_iff.1 x3).1).trans x3
    have e4 := (hb5.block _ (Array.getElem?_eq_some_iff.1 x4).1).trans x4
    clear x0 x1 x2 x3 x4 hr5 hb5 c0 c1 c2 d1
    go_upto_region 5 with fail
    have hal6 : Below w5.heap.size w5 (w5.alloc (.cells #[.int .i64 things, .int .i64 most, .slice A5 (keepL W L).length c5] 41)) := (Below.refl _ _).alloc (Nat.le_refl _) _
    have hn6 : (w5.alloc (.cells #[.int .i64 things, .int .i64 most, .slice A5 (keepL W L).length c5] 41)).heap[w5.heap.size]? = some (.cells #[.int .i64 things, .int .i64 most, .slice A5 (keepL W L).length c5] 41 (0, 0)) := heap_alloc_new w5 _
    obtain ⟨w6, hw6⟩ : ∃ w6, w5.alloc (.cells #[.int .i64 things, .int .i64 most, .slice A5 (keepL W L).length c5] 41) = w6 := ⟨_, rfl⟩
    obtain ⟨p6, hp6⟩ : ∃ p6, w5.heap.size = p6 := ⟨_, rfl⟩
    rw [hw6, hp6] at hn6
    rw [hw6] at hal6
    rw [hw6, hp6]
    have g0 := (hal6.block _ (Array.getElem?_eq_some_iff.1 e0).1).trans e0
    have g2 := (hal6.block _ (Array.getElem?_eq_some_iff.1 e2).1).trans e2
    have g3 := (hal6.block _ (Array.getElem?_eq_some_iff.1 e3).1).trans e3
    have g4 := (hal6.block _ (Array.getElem?_eq_some_iff.1 e4).1).trans e4
    obtain ⟨n0, n1, n2, _, _, _⟩ := box3 hn6
    obtain ⟨_, _, a2, _, _, _⟩ := box3 g0
    obtain ⟨k0, k1, k2, f0, f1, f2⟩ := box3 g2
    have k3 : w6.cell? ⟨p + 1 + 1 + 1, 0, none⟩ = some (.int .i64 L.length) := by rw [cell_of_row w6 _ 0 _ _ _ g3]; rfl
    have k4 : w6.cell? ⟨p + 1 + 1 + 1 + 1, 0, none⟩ = some (.bool true) := by rw [cell_of_row w6 _ 0 _ _ _ g4]; rfl
    have HG2 := hide g2
    have HAl6 := hide hal6
    clear hal6 hn6 hw6 e0 e2 e3 e4 g0 g2 g3 g4
    go_wp2
    have b2 := box3_set HG2.out (.int .i64 things) (.int .i64 most) (.slice A5 (keepL W L).length c5)
    obtain ⟨m0, m1, m2, _, _, _⟩ := box3 b2
    refine bodyPost_ret (by simp [results, Tryd.results38, go_sem, m0, m1, m2]; rfl) rfl ?_
    have h56 : Mod (fun k => k = p + 1 + 1) wc w6 := (Mod.ofBelow HB5.out _).trans (Mod.ofBelow HAl6.out _) (fun _ _ h => h)
    have h7 := mod_set3 h56 (p + 1 + 1) rfl (.int .i64 things) (.int .i64 most) (.slice A5 (keepL W L).length c5)
    have r6 := HR5.out.kept (Mod.ofBelow HAl6.out (fun _ => False)) (fun _ _ _ h => h)
    have r7 := row_set3 r6 HG2.out (p := p + 1 + 1) (by decide) (.int .i64 things) (.int .i64 most) (.slice A5 (keepL W L).length c5)
    have hFl : ∀ k, F1 k → ¬ k = p + 1 + 1 := fun k hk e => by
      rcases HF2.out k hk with h | h
      · have := HFp.out k h; omega
      · omega
    have hsz2 := HM2.out.size
    refine ⟨A5, c5, F1, fun k => wc.heap.size ≤ k ∧ k < (((w6.setCell ⟨p + 1 + 1, 0, none⟩ (.int .i64 things)).setCell ⟨p + 1 + 1, 1, none⟩ (.int .i64 most)).setCell ⟨p + 1 + 1, 2, none⟩ (.slice A5 (keepL W L).length c5)).heap.size, rfl,
      HQ2.out.keep h7 hFl (fun k hk => by omega), Doc.made (w := wc) r7 HQ2.out.q.lt, HM2.out.trans h7 (fun k hk e => by omega), fun k hk => (HF2.out k hk).imp id (fun h => by omega), fun k hk => by have := hk.1; omega⟩
end Go.Proofs.YtipbaffhlekpfaaDoor
