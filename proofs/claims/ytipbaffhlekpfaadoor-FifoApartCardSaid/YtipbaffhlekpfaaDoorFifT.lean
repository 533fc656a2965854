import Derived.Test.YtipbaffhlekpfaaDoorFifK
import Derived.Deep.CutBlock
import Derived.Deep.RegionHeld3
/- step: one call on both queues. -/
namespace Go.Proofs.YtipbaffhlekpfaaDoor
open Go Go.RowKit Go.Cu Go.Proofs.YtipbaffhlekpfaaDoor.errs

/-- What a step leaves: both queues hold the same. -/
def StepPost (w0 w : World) (F G : Nat → Prop) (b : Nat) (things most : Int) (L : List (Int × Int)) (e : Ending) (w' : World) : Prop :=
  ∃ L' A' c' F' G', e = .returned (.tuple #[qv things most A' L'.length c', .bool true]) ∧ L'.length ≤ L.length + 1 ∧ Fq w0 w' F' b things most L' ∧ Doc w' F' G' A' c' L' ∧ Mod F w w' ∧ (∀ k, F' k → F k ∨ w.heap.size ≤ k) ∧ (∀ k, G' k → G k ∨ w.heap.size ≤ k)
theorem far3 {w : World} {p q : Nat} {x y z a b c : Value} (h0 : w.cell? ⟨p, 0, none⟩ = some x) (h1 : w.cell? ⟨p, 1, none⟩ = some y) (h2 : w.cell? ⟨p, 2, none⟩ = some z) (hne : p ≠ q) :
    (((w.setCell ⟨q, 0, none⟩ a).setCell ⟨q, 1, none⟩ b).setCell ⟨q, 2, none⟩ c).drew.cell? ⟨p, 0, none⟩ = some x ∧ (((w.setCell ⟨q, 0, none⟩ a).setCell ⟨q, 1, none⟩ b).setCell ⟨q, 2, none⟩ c).drew.cell? ⟨p, 1, none⟩ = some y ∧ (((w.setCell ⟨q, 0, none⟩ a).setCell ⟨q, 1, none⟩ b).setCell ⟨q, 2, none⟩ c).drew.cell? ⟨p, 2, none⟩ = some z := by
  have hb : (((w.setCell ⟨q, 0, none⟩ a).setCell ⟨q, 1, none⟩ b).setCell ⟨q, 2, none⟩ c).heap[p]? = w.heap[p]? := by
    rw [Below.heap_setCell _ _ _ _ hne, Below.heap_setCell _ _ _ _ hne, Below.heap_setCell _ _ _ _ hne]
  have hc : ∀ i, (((w.setCell ⟨q, 0, none⟩ a).setCell ⟨q, 1, none⟩ b).setCell ⟨q, 2, none⟩ c).drew.cell? ⟨p, i, none⟩ = w.cell? ⟨p, i, none⟩ := fun i => World.cell?_of_block (w := w) hb
  rw [hc, hc, hc]
  exact ⟨h0, h1, h2⟩
theorem far5 {w : World} {p q r : Nat} {x y z a b c s t : Value} (h0 : w.cell? ⟨p, 0, none⟩ = some x) (h1 : w.cell? ⟨p, 1, none⟩ = some y) (h2 : w.cell? ⟨p, 2, none⟩ = some z) (h3 : w.cell? ⟨r, 1, none⟩ = some s) (h4 : w.cell? ⟨r, 2, none⟩ = some t) (hne : p ≠ q) (hne2 : r ≠ q) :
    (((w.setCell ⟨q, 0, none⟩ a).setCell ⟨q, 1, none⟩ b).setCell ⟨q, 2, none⟩ c).cell? ⟨p, 0, none⟩ = some x ∧ (((w.setCell ⟨q, 0, none⟩ a).setCell ⟨q, 1, none⟩ b).setCell ⟨q, 2, none⟩ c).cell? ⟨p, 1, none⟩ = some y ∧ (((w.setCell ⟨q, 0, none⟩ a).setCell ⟨q, 1, none⟩ b).setCell ⟨q, 2, none⟩ c).cell? ⟨p, 2, none⟩ = some z ∧
      (((w.setCell ⟨q, 0, none⟩ a).setCell ⟨q, 1, none⟩ b).setCell ⟨q, 2, none⟩ c).cell? ⟨r, 1, none⟩ = some s ∧ (((w.setCell ⟨q, 0, none⟩ a).setCell ⟨q, 1, none⟩ b).setCell ⟨q, 2, none⟩ c).cell? ⟨r, 2, none⟩ = some t := by
  have hb : ∀ k, k ≠ q → (((w.setCell ⟨q, 0, none⟩ a).setCell ⟨q, 1, none⟩ b).setCell ⟨q, 2, none⟩ c).heap[k]? = w.heap[k]? := fun k hne => by
    rw [Below.heap_setCell _ _ _ _ hne, Below.heap_setCell _ _ _ _ hne, Below.heap_setCell _ _ _ _ hne]
  have hc : ∀ k i, k ≠ q → (((w.setCell ⟨q, 0, none⟩ a).setCell ⟨q, 1, none⟩ b).setCell ⟨q, 2, none⟩ c).cell? ⟨k, i, none⟩ = w.cell? ⟨k, i, none⟩ := fun k i h => World.cell?_of_block (w := w) (hb k h)
  rw [hc _ _ hne, hc _ _ hne, hc _ _ hne, hc _ _ hne2, hc _ _ hne2]
  exact ⟨h0, h1, h2, h3, h4⟩
theorem Fq.keepF {w0 w w' : World} {F : Nat → Prop} {b : Nat} {things most : Int} {L : List (Int × Int)} (h : Fq w0 w F b things most L) (hm : Mod (fun _ => False) w w') : Fq w0 w' F b things most L := h.keep hm (fun _ _ h => h) (fun _ h => h.elim)
theorem below_eq {w w' : World} (h : w = w') : Below w.heap.size w w' := h ▸ Below.refl _ _
theorem step_end {w0 w we : World} {F G F' G' : Nat → Prop} {b : Nat} {things most : Int} {L L' : List (Int × Int)} {A' : Option Addr} {c' : Nat} {x y z : Value} (hl : L'.length ≤ L.length + 1) (hq : Fq w0 we F' b things most L') (hd : Doc we F' G' A' c' L') (hm : Mod F w we)
    (hF : ∀ k, F' k → F k ∨ w.heap.size ≤ k) (hG : ∀ k, G' k → G k ∨ w.heap.size ≤ k) (p : Nat) (hp : w.heap.size ≤ p) (hw : w0.heap.size ≤ w.heap.size) (hnF : ¬ F' p) (hb : we.heap[p]? = some (.cells #[x, y, z] 41 (0, 0))) :
    StepPost w0 w F G b things most L (.returned (.tuple #[qv things most A' L'.length c', .bool true])) (((we.setCell ⟨p, 0, none⟩ (.int .i64 things)).setCell ⟨p, 1, none⟩ (.int .i64 most)).setCell ⟨p, 2, none⟩ (.slice A' L'.length c')) := by
  have h7 := mod_set3 (Mod.refl (fun k => k = p) we) p rfl (.int .i64 things) (.int .i64 most) (.slice A' L'.length c')
  exact ⟨L', A', c', F', G', rfl, hl, hq.keep h7 (fun k hk e => hnF (e ▸ hk)) (fun k hk => by omega), ⟨row_set3 hd.row hb (by decide) _ _ _, hd.apart, fun k hk => Nat.lt_of_lt_of_le (hd.lt k hk) h7.size⟩, hm.trans h7 (fun k hk e => by omega), hF, hG⟩

set_option maxRecDepth 10000 in
set_option maxHeartbeats 2000000 in
theorem step_else (w0 w : World) (adr : Nat → Addr) (hS : Sent w0 adr) (F G : Nat → Prop) (b : Nat) (things most : Int) (L : List (Int × Int)) (h : Fq w0 w F b things most L) (A : Option Addr) (c : Nat) (hd : Doc w F G A c L) (hn : L.length ≤ 4398046511103) (v wt : Int) (O : Option Addr) (m co : Nat) (W : List Int) (ho : Reads w0 1 (.slice O m co) m (W.map (Value.int .i64))) (kd : Int) (h1 : (kd == 1) = false) (h2 : (kd == 2) = false) (h3 : (kd == 3) = false) (h4 : (kd == 4) = false) (h5 : (kd == 5) = false) (h6 : (kd == 6) = false) (h7 : (kd == 7) = false) :
    Calls Tryd.prog 17 #[.pointer (some ⟨b, 0, none⟩), qv things most A L.length c, .agg #[.int .i64 kd, .int .i64 v, .int .i64 wt, .slice O m co]] w (StepPost w0 w F G b things most L) := by
  have HS := hide hS
  have HH := hide h
  have HD := hide hd
  have HO := hide ho
  have HLow := hide h.low
  have HF := hide h.q.lt
  have hsz0 := h.below.size
  have hfit := h.q.fits
  have H0 : Hid (∀ y : Int × Int, y ∈ (L : List (Int × Int)) → 0 ≤ y.2) := hide h.q.2.2.2.1
  have _ := hn
  clear h hd ho hS
  go_enter Tryd.func17, Tryd.ntmps17
  go_upto_region 1 with fail
  have hal : Below w.heap.size w (((w.alloc (.cells #[.int .i64 things, .int .i64 most, .slice A L.length c] 41)).alloc (.cells #[.int .i64 kd, .int .i64 v, .int .i64 wt, .slice O m co] 47)).alloc (.cells #[.int .i64 0, .int .i64 0, .slice none 0 0] 41)) := below_a3 _ _ _ _
  obtain ⟨w1, hw1⟩ : ∃ w1, ((w.alloc (.cells #[.int .i64 things, .int .i64 most, .slice A L.length c] 41)).alloc (.cells #[.int .i64 kd, .int .i64 v, .int .i64 wt, .slice O m co] 47)).alloc (.cells #[.int .i64 0, .int .i64 0, .slice none 0 0] 41) = w1 := ⟨_, rfl⟩
  obtain ⟨p, hp⟩ : ∃ p, w.heap.size = p := ⟨_, rfl⟩
  have b0 : w1.heap[p]? = some (.cells #[.int .i64 things, .int .i64 most, .slice A L.length c] 41 (0, 0)) := by rw [← hw1, ← hp]; simp only [alloc_at, World.size_alloc]; repeat (first | rw [if_pos (by first | trivial | omega)] | rw [if_neg (by omega)])
  have b1 : w1.heap[p + 1]? = some (.cells #[.int .i64 kd, .int .i64 v, .int .i64 wt, .slice O m co] 47 (0, 0)) := by rw [← hw1, ← hp]; simp only [alloc_at, World.size_alloc]; repeat (first | rw [if_pos (by first | trivial | omega)] | rw [if_neg (by omega)])
  have b2 : w1.heap[p + 1 + 1]? = some (.cells #[.int .i64 0, .int .i64 0, .slice none 0 0] 41 (0, 0)) := by rw [← hw1, ← hp]; simp only [alloc_at, World.size_alloc]; repeat (first | rw [if_pos (by first | trivial | omega)] | rw [if_neg (by omega)])
  have hsz1 : w1.heap.size = p + 1 + 1 + 1 := by rw [← hw1, ← hp]; simp
  rw [hw1] at hal
  rw [hw1, hp]
  have HQ1 := hide (HH.out.past hal)
  have HD1 := hide (HD.out.below hal)
  have HAl := hide hal
  have HFp : Hid (∀ k, F k → k < p) := hide (fun k hk => by have := HF.out k hk; omega)
  have HM1 : Hid (Mod F w w1) := hide (Mod.ofBelow hal F)
  have hnF2 : ¬ F (p + 1 + 1) := fun h => by have := HFp.out _ h; omega
  have HnF2 := hide hnF2
  obtain ⟨c0, c1, c2, _, _, _⟩ := box3 b0
  have o0 : w1.cell? ⟨p + 1, 0, none⟩ = some (.int .i64 kd) := by rw [cell_of_row w1 _ 0 _ _ _ b1]; rfl
  have o1 : w1.cell? ⟨p + 1, 1, none⟩ = some (.int .i64 v) := by rw [cell_of_row w1 _ 1 _ _ _ b1]; rfl
  have o2 : w1.cell? ⟨p + 1, 2, none⟩ = some (.int .i64 wt) := by rw [cell_of_row w1 _ 2 _ _ _ b1]; rfl
  have o3 : w1.cell? ⟨p + 1, 3, none⟩ = some (.slice O m co) := by rw [cell_of_row w1 _ 3 _ _ _ b1]; rfl
  obtain ⟨k0, k1, k2, f0, f1, f2⟩ := box3 b2
  have HB0 := hide b0
  have HB1 := hide b1
  have HB2 := hide b2
  clear hw1 b0 b1 b2 hal hnF2
  go_wp2
  have b9 := box3_set HB2.out (.int .i64 things) (.int .i64 most) (.slice A L.length c)
  obtain ⟨m0, m1, m2, _, _, _⟩ := box3 b9
  refine bodyPost_ret (by simp [results, Tryd.results17, go_sem, m0, m1, m2]; rfl) rfl ?_
  exact step_end (by omega) HQ1.out HD1.out HM1.out (fun k hk => .inl hk) (fun k hk => .inl hk) (p + 1 + 1) (by omega) hsz0 HnF2.out HB2.out

set_option maxRecDepth 10000 in
set_option maxHeartbeats 2000000 in
theorem step_5 (w0 w : World) (adr : Nat → Addr) (hS : Sent w0 adr) (F G : Nat → Prop) (b : Nat) (things most : Int) (L : List (Int × Int)) (h : Fq w0 w F b things most L) (A : Option Addr) (c : Nat) (hd : Doc w F G A c L) (hn : L.length ≤ 4398046511103) (v wt : Int) (O : Option Addr) (m co : Nat) (W : List Int) (ho : Reads w0 1 (.slice O m co) m (W.map (Value.int .i64))) :
    Calls Tryd.prog 17 #[.pointer (some ⟨b, 0, none⟩), qv things most A L.length c, .agg #[.int .i64 5, .int .i64 v, .int .i64 wt, .slice O m co]] w (StepPost w0 w F G b things most L) := by
  have HS := hide hS
  have HH := hide h
  have HD := hide hd
  have HO := hide ho
  have HLow := hide h.low
  have HF := hide h.q.lt
  have hsz0 := h.below.size
  have hfit := h.q.fits
  have H0 : Hid (∀ y : Int × Int, y ∈ (L : List (Int × Int)) → 0 ≤ y.2) := hide h.q.2.2.2.1
  have _ := hn
  clear h hd ho hS
  go_enter Tryd.func17, Tryd.ntmps17
  go_upto_region 1 with fail
  have hal : Below w.heap.size w (((w.alloc (.cells #[.int .i64 things, .int .i64 most, .slice A L.length c] 41)).alloc (.cells #[.int .i64 5, .int .i64 v, .int .i64 wt, .slice O m co] 47)).alloc (.cells #[.int .i64 0, .int .i64 0, .slice none 0 0] 41)) := below_a3 _ _ _ _
  obtain ⟨w1, hw1⟩ : ∃ w1, ((w.alloc (.cells #[.int .i64 things, .int .i64 most, .slice A L.length c] 41)).alloc (.cells #[.int .i64 5, .int .i64 v, .int .i64 wt, .slice O m co] 47)).alloc (.cells #[.int .i64 0, .int .i64 0, .slice none 0 0] 41) = w1 := ⟨_, rfl⟩
  obtain ⟨p, hp⟩ : ∃ p, w.heap.size = p := ⟨_, rfl⟩
  have b0 : w1.heap[p]? = some (.cells #[.int .i64 things, .int .i64 most, .slice A L.length c] 41 (0, 0)) := by rw [← hw1, ← hp]; simp only [alloc_at, World.size_alloc]; repeat (first | rw [if_pos (by first | trivial | omega)] | rw [if_neg (by omega)])
  have b1 : w1.heap[p + 1]? = some (.cells #[.int .i64 5, .int .i64 v, .int .i64 wt, .slice O m co] 47 (0, 0)) := by rw [← hw1, ← hp]; simp only [alloc_at, World.size_alloc]; repeat (first | rw [if_pos (by first | trivial | omega)] | rw [if_neg (by omega)])
  have b2 : w1.heap[p + 1 + 1]? = some (.cells #[.int .i64 0, .int .i64 0, .slice none 0 0] 41 (0, 0)) := by rw [← hw1, ← hp]; simp only [alloc_at, World.size_alloc]; repeat (first | rw [if_pos (by first | trivial | omega)] | rw [if_neg (by omega)])
  have hsz1 : w1.heap.size = p + 1 + 1 + 1 := by rw [← hw1, ← hp]; simp
  rw [hw1] at hal
  rw [hw1, hp]
  have HQ1 := hide (HH.out.past hal)
  have HD1 := hide (HD.out.below hal)
  have HAl := hide hal
  have HFp : Hid (∀ k, F k → k < p) := hide (fun k hk => by have := HF.out k hk; omega)
  have HM1 : Hid (Mod F w w1) := hide (Mod.ofBelow hal F)
  have hnF2 : ¬ F (p + 1 + 1) := fun h => by have := HFp.out _ h; omega
  have HnF2 := hide hnF2
  obtain ⟨c0, c1, c2, _, _, _⟩ := box3 b0
  have o0 : w1.cell? ⟨p + 1, 0, none⟩ = some (.int .i64 5) := by rw [cell_of_row w1 _ 0 _ _ _ b1]; rfl
  have o1 : w1.cell? ⟨p + 1, 1, none⟩ = some (.int .i64 v) := by rw [cell_of_row w1 _ 1 _ _ _ b1]; rfl
  have o2 : w1.cell? ⟨p + 1, 2, none⟩ = some (.int .i64 wt) := by rw [cell_of_row w1 _ 2 _ _ _ b1]; rfl
  have o3 : w1.cell? ⟨p + 1, 3, none⟩ = some (.slice O m co) := by rw [cell_of_row w1 _ 3 _ _ _ b1]; rfl
  obtain ⟨k0, k1, k2, f0, f1, f2⟩ := box3 b2
  have HB0 := hide b0
  have HB1 := hide b1
  have HB2 := hide b2
  clear hw1 b0 b1 b2 hal hnF2
  go_wp2_with fail
  refine (removes_any w0 w1 F G b things most L HQ1.out A c HD1.out hn O m co W HO.out).mono ?_
  rintro e w5 ⟨A5, c5, F5, G5, rfl, hq5, hd5, hm5, hF5, hG5⟩
  have e2 := hm5.heap HB2.out HnF2.out
  obtain ⟨x0, x1, x2, g0, g1, g2⟩ := box3 e2
  have HE2 := hide e2
  clear e2
  go_wp2
  have hle := keepL_le W L
  have hnF5 : ¬ F5 (p + 1 + 1) := fun hf => (hF5 _ hf).elim HnF2.out (fun h => by omega)
  have b9 := box3_set HE2.out (.int .i64 things) (.int .i64 most) (.slice A5 (keepL W L).length c5)
  obtain ⟨m0, m1, m2, _, _, _⟩ := box3 b9
  refine bodyPost_ret (by simp [results, Tryd.results17, go_sem, m0, m1, m2]; rfl) rfl ?_
  exact step_end (by omega) hq5 hd5 (HM1.out.trans hm5 (fun _ _ h => h)) (fun k hk => (hF5 k hk).imp id (fun h => by omega)) (fun k hk => .inr (by have := hG5 k hk; omega)) (p + 1 + 1) (by omega) hsz0 hnF5 HE2.out

set_option maxRecDepth 10000 in
set_option maxHeartbeats 2000000 in
theorem step_2_none (w0 w : World) (adr : Nat → Addr) (hS : Sent w0 adr) (F G : Nat → Prop) (b : Nat) (things most : Int)  (h : Fq w0 w F b things most []) (A : Option Addr) (c : Nat) (hd : Doc w F G A c []) (hn : 0 ≤ 4398046511103) (v wt : Int) (O : Option Addr) (m co : Nat) (W : List Int) (ho : Reads w0 1 (.slice O m co) m (W.map (Value.int .i64))) :
    Calls Tryd.prog 17 #[.pointer (some ⟨b, 0, none⟩), qv things most A 0 c, .agg #[.int .i64 2, .int .i64 v, .int .i64 wt, .slice O m co]] w (StepPost w0 w F G b things most []) := by
  have HS := hide hS
  have HH := hide h
  have HD := hide hd
  have HO := hide ho
  have HLow := hide h.low
  have HF := hide h.q.lt
  have hsz0 := h.below.size
  have hfit := h.q.fits
  have H0 : Hid (∀ y : Int × Int, y ∈ ([] : List (Int × Int)) → 0 ≤ y.2) := hide h.q.2.2.2.1
  have _ := hn
  clear h hd ho hS
  go_enter Tryd.func17, Tryd.ntmps17
  go_upto_region 1 with fail
  have hal : Below w.heap.size w (((w.alloc (.cells #[.int .i64 things, .int .i64 most, .slice A 0 c] 41)).alloc (.cells #[.int .i64 2, .int .i64 v, .int .i64 wt, .slice O m co] 47)).alloc (.cells #[.int .i64 0, .int .i64 0, .slice none 0 0] 41)) := below_a3 _ _ _ _
  obtain ⟨w1, hw1⟩ : ∃ w1, ((w.alloc (.cells #[.int .i64 things, .int .i64 most, .slice A 0 c] 41)).alloc (.cells #[.int .i64 2, .int .i64 v, .int .i64 wt, .slice O m co] 47)).alloc (.cells #[.int .i64 0, .int .i64 0, .slice none 0 0] 41) = w1 := ⟨_, rfl⟩
  obtain ⟨p, hp⟩ : ∃ p, w.heap.size = p := ⟨_, rfl⟩
  have b0 : w1.heap[p]? = some (.cells #[.int .i64 things, .int .i64 most, .slice A 0 c] 41 (0, 0)) := by rw [← hw1, ← hp]; simp only [alloc_at, World.size_alloc]; repeat (first | rw [if_pos (by first | trivial | omega)] | rw [if_neg (by omega)])
  have b1 : w1.heap[p + 1]? = some (.cells #[.int .i64 2, .int .i64 v, .int .i64 wt, .slice O m co] 47 (0, 0)) := by rw [← hw1, ← hp]; simp only [alloc_at, World.size_alloc]; repeat (first | rw [if_pos (by first | trivial | omega)] | rw [if_neg (by omega)])
  have b2 : w1.heap[p + 1 + 1]? = some (.cells #[.int .i64 0, .int .i64 0, .slice none 0 0] 41 (0, 0)) := by rw [← hw1, ← hp]; simp only [alloc_at, World.size_alloc]; repeat (first | rw [if_pos (by first | trivial | omega)] | rw [if_neg (by omega)])
  have hsz1 : w1.heap.size = p + 1 + 1 + 1 := by rw [← hw1, ← hp]; simp
  rw [hw1] at hal
  rw [hw1, hp]
  have HQ1 := hide (HH.out.past hal)
  have HD1 := hide (HD.out.below hal)
  have HAl := hide hal
  have HFp : Hid (∀ k, F k → k < p) := hide (fun k hk => by have := HF.out k hk; omega)
  have HM1 : Hid (Mod F w w1) := hide (Mod.ofBelow hal F)
  have hnF2 : ¬ F (p + 1 + 1) := fun h => by have := HFp.out _ h; omega
  have HnF2 := hide hnF2
  obtain ⟨c0, c1, c2, _, _, _⟩ := box3 b0
  have o0 : w1.cell? ⟨p + 1, 0, none⟩ = some (.int .i64 2) := by rw [cell_of_row w1 _ 0 _ _ _ b1]; rfl
  have o1 : w1.cell? ⟨p + 1, 1, none⟩ = some (.int .i64 v) := by rw [cell_of_row w1 _ 1 _ _ _ b1]; rfl
  have o2 : w1.cell? ⟨p + 1, 2, none⟩ = some (.int .i64 wt) := by rw [cell_of_row w1 _ 2 _ _ _ b1]; rfl
  have o3 : w1.cell? ⟨p + 1, 3, none⟩ = some (.slice O m co) := by rw [cell_of_row w1 _ 3 _ _ _ b1]; rfl
  obtain ⟨k0, k1, k2, f0, f1, f2⟩ := box3 b2
  have HB0 := hide b0
  have HB1 := hide b1
  have HB2 := hide b2
  clear hw1 b0 b1 b2 hal hnF2
  go_wp2_with fail
  refine (refget_none w1 things most A c).mono ?_
  rintro e w2 ⟨rfl, hb2⟩
  have HQ2 := hide (HQ1.out.past hb2)
  have HD2 := hide (HD1.out.below hb2)
  have HM2 := hide (HM1.out.trans (Mod.ofBelow hb2 F) (fun _ _ h => h))
  have e0 := (hb2.block _ (Array.getElem?_eq_some_iff.1 HB0.out).1).trans HB0.out
  have e2 := (hb2.block _ (Array.getElem?_eq_some_iff.1 HB2.out).1).trans HB2.out
  have HSz12 := hide hb2.size
  clear hb2 c0 c1 c2 o0 o1 o2 o3 k0 k1 k2 f0 f1 f2
  go_upto_region 7 with fail
  have hal3 : Below w2.heap.size w2 ((w2.alloc (.cells #[.int .i64 things, .int .i64 most, .slice A 0 c] 41)).alloc (.cells #[.int .i64 0, .int .i64 0] 55)) := below_a2 _ _ _
  have n0 : ((w2.alloc (.cells #[.int .i64 things, .int .i64 most, .slice A 0 c] 41)).alloc (.cells #[.int .i64 0, .int .i64 0] 55)).heap[w2.heap.size]? = some (.cells #[.int .i64 things, .int .i64 most, .slice A 0 c] 41 (0, 0)) := by simp only [alloc_at, World.size_alloc]; repeat (first | rw [if_pos (by first | trivial | omega)] | rw [if_neg (by omega)])
  have n1 := heap_a2 w2 (.cells #[.int .i64 things, .int .i64 most, .slice A 0 c] 41) #[.int .i64 0, .int .i64 0] 55
  obtain ⟨w3, hw3⟩ : ∃ w3, (w2.alloc (.cells #[.int .i64 things, .int .i64 most, .slice A 0 c] 41)).alloc (.cells #[.int .i64 0, .int .i64 0] 55) = w3 := ⟨_, rfl⟩
  obtain ⟨q, hq⟩ : ∃ q, w2.heap.size = q := ⟨_, rfl⟩
  rw [hw3] at hal3 n0 n1
  rw [hq] at n0 n1
  rw [hw3, hq]
  have HQ3 := hide (HQ2.out.past hal3)
  have HD3 := hide (HD2.out.below hal3)
  have HM3 := hide (HM2.out.trans (Mod.ofBelow hal3 F) (fun _ _ h => h))
  have g2 := (hal3.block _ (Array.getElem?_eq_some_iff.1 e2).1).trans e2
  obtain ⟨r0, r1, r2, _, _, _⟩ := box3 n0
  have s0 : w3.cell? ⟨q + 1, 0, none⟩ = some (.int .i64 0) := by rw [cell_of_row w3 _ 0 _ _ _ n1]; rfl
  have s1 : w3.cell? ⟨q + 1, 1, none⟩ = some (.int .i64 0) := by rw [cell_of_row w3 _ 1 _ _ _ n1]; rfl
  obtain ⟨x0, x1, x2, f0, f1, f2⟩ := box3 g2
  have g0 := (hal3.block _ (Array.getElem?_eq_some_iff.1 e0).1).trans e0
  obtain ⟨a0, a1, a2, _, _, _⟩ := box3 g0
  have HE0 := hide g0
  have HE2 := hide g2
  have HN0 := hide n0
  have HN1 := hide n1
  have hqs : w1.heap.size ≤ q := by rw [← hq]; exact HSz12.out
  have hq3 : q + 1 < w3.heap.size := (Array.getElem?_eq_some_iff.1 n1).1
  clear hal3 n0 n1 hw3 e0 e2 g0 g2
  go_wp2_with fail
  refine (get_none w3 F b things most HQ3.out.q).mono ?_
  rintro e wz ⟨rfl, rfl⟩
  go_wp2
  have b9 := box3_set HE2.out (.int .i64 things) (.int .i64 most) (.slice A 0 c)
  obtain ⟨m0, m1, m2, _, _, _⟩ := box3 b9
  refine bodyPost_ret (by simp [results, Tryd.results17, go_sem, m0, m1, m2]; rfl) rfl ?_
  exact step_end (by simp) HQ3.out HD3.out HM3.out (fun k hk => .inl hk) (fun k hk => .inl hk) (p + 1 + 1) (by omega) hsz0 HnF2.out HE2.out

set_option maxRecDepth 10000 in
set_option maxHeartbeats 2000000 in
theorem step_2_some (w0 w : World) (adr : Nat → Addr) (hS : Sent w0 adr) (F G : Nat → Prop) (b : Nat) (things most : Int) (x : Int × Int) (LT : List (Int × Int)) (h : Fq w0 w F b things most (x :: LT)) (A : Option Addr) (c : Nat) (hd : Doc w F G A c (x :: LT)) (hn : (LT.length + 1) ≤ 4398046511103) (v wt : Int) (O : Option Addr) (m co : Nat) (W : List Int) (ho : Reads w0 1 (.slice O m co) m (W.map (Value.int .i64))) :
    Calls Tryd.prog 17 #[.pointer (some ⟨b, 0, none⟩), qv things most A (LT.length + 1) c, .agg #[.int .i64 2, .int .i64 v, .int .i64 wt, .slice O m co]] w (StepPost w0 w F G b things most (x :: LT)) := by
  have HS := hide hS
  have HH := hide h
  have HD := hide hd
  have HO := hide ho
  have HLow := hide h.low
  have HF := hide h.q.lt
  have hsz0 := h.below.size
  have hfit := h.q.fits
  have H0 : Hid (∀ y : Int × Int, y ∈ ((x :: LT) : List (Int × Int)) → 0 ≤ y.2) := hide h.q.2.2.2.1
  have _ := hn
  clear h hd ho hS
  go_enter Tryd.func17, Tryd.ntmps17
  go_upto_region 1 with fail
  have hal : Below w.heap.size w (((w.alloc (.cells #[.int .i64 things, .int .i64 most, .slice A (LT.length + 1) c] 41)).alloc (.cells #[.int .i64 2, .int .i64 v, .int .i64 wt, .slice O m co] 47)).alloc (.cells #[.int .i64 0, .int .i64 0, .slice none 0 0] 41)) := below_a3 _ _ _ _
  obtain ⟨w1, hw1⟩ : ∃ w1, ((w.alloc (.cells #[.int .i64 things, .int .i64 most, .slice A (LT.length + 1) c] 41)).alloc (.cells #[.int .i64 2, .int .i64 v, .int .i64 wt, .slice O m co] 47)).alloc (.cells #[.int .i64 0, .int .i64 0, .slice none 0 0] 41) = w1 := ⟨_, rfl⟩
  obtain ⟨p, hp⟩ : ∃ p, w.heap.size = p := ⟨_, rfl⟩
  have b0 : w1.heap[p]? = some (.cells #[.int .i64 things, .int .i64 most, .slice A (LT.length + 1) c] 41 (0, 0)) := by rw [← hw1, ← hp]; simp only [alloc_at, World.size_alloc]; repeat (first | rw [if_pos (by first | trivial | omega)] | rw [if_neg (by omega)])
  have b1 : w1.heap[p + 1]? = some (.cells #[.int .i64 2, .int .i64 v, .int .i64 wt, .slice O m co] 47 (0, 0)) := by rw [← hw1, ← hp]; simp only [alloc_at, World.size_alloc]; repeat (first | rw [if_pos (by first | trivial | omega)] | rw [if_neg (by omega)])
  have b2 : w1.heap[p + 1 + 1]? = some (.cells #[.int .i64 0, .int .i64 0, .slice none 0 0] 41 (0, 0)) := by rw [← hw1, ← hp]; simp only [alloc_at, World.size_alloc]; repeat (first | rw [if_pos (by first | trivial | omega)] | rw [if_neg (by omega)])
  have hsz1 : w1.heap.size = p + 1 + 1 + 1 := by rw [← hw1, ← hp]; simp
  rw [hw1] at hal
  rw [hw1, hp]
  have HQ1 := hide (HH.out.past hal)
  have HD1 := hide (HD.out.below hal)
  have HAl := hide hal
  have HFp : Hid (∀ k, F k → k < p) := hide (fun k hk => by have := HF.out k hk; omega)
  have HM1 : Hid (Mod F w w1) := hide (Mod.ofBelow hal F)
  have hnF2 : ¬ F (p + 1 + 1) := fun h => by have := HFp.out _ h; omega
  have HnF2 := hide hnF2
  obtain ⟨c0, c1, c2, _, _, _⟩ := box3 b0
  have o0 : w1.cell? ⟨p + 1, 0, none⟩ = some (.int .i64 2) := by rw [cell_of_row w1 _ 0 _ _ _ b1]; rfl
  have o1 : w1.cell? ⟨p + 1, 1, none⟩ = some (.int .i64 v) := by rw [cell_of_row w1 _ 1 _ _ _ b1]; rfl
  have o2 : w1.cell? ⟨p + 1, 2, none⟩ = some (.int .i64 wt) := by rw [cell_of_row w1 _ 2 _ _ _ b1]; rfl
  have o3 : w1.cell? ⟨p + 1, 3, none⟩ = some (.slice O m co) := by rw [cell_of_row w1 _ 3 _ _ _ b1]; rfl
  obtain ⟨k0, k1, k2, f0, f1, f2⟩ := box3 b2
  have HB0 := hide b0
  have HB1 := hide b1
  have HB2 := hide b2
  clear hw1 b0 b1 b2 hal hnF2
  have hrow := HD1.out.row
  obtain ⟨A', c', he, hnc, _⟩ := hrow.shape
  injection he with he1 _ he3
  subst he3
  have HRd := hide hrow.reads
  have hln : LT.length + 1 ≤ c := by simpa using hnc
  clear hrow he1 hnc
  go_wp2_with fail
  refine (refget_some w1 things most A LT.length c x LT HRd.out hln (by omega)).mono ?_
  rintro e w2 ⟨A5, c5, rfl, hr5, hb2⟩
  have HQ2 := hide (HQ1.out.past hb2)
  have HM2 := hide (HM1.out.trans (Mod.ofBelow hb2 F) (fun _ _ h => h))
  have e0 := (hb2.block _ (Array.getElem?_eq_some_iff.1 HB0.out).1).trans HB0.out
  have e2 := (hb2.block _ (Array.getElem?_eq_some_iff.1 HB2.out).1).trans HB2.out
  have HSz12 := hide hb2.size
  have HD2 := hide (Doc.made (w := w1) hr5 HQ1.out.q.lt)
  clear hb2 hr5 c0 c1 c2 o0 o1 o2 o3 k0 k1 k2 f0 f1 f2
  go_upto_region 7 with fail
  have hal3 : Below w2.heap.size w2 ((w2.alloc (.cells #[.int .i64 things, .int .i64 most, .slice A5 LT.length c5] 41)).alloc (.cells #[.int .i64 x.1, .int .i64 x.2] 55)) := below_a2 _ _ _
  have n0 : ((w2.alloc (.cells #[.int .i64 things, .int .i64 most, .slice A5 LT.length c5] 41)).alloc (.cells #[.int .i64 x.1, .int .i64 x.2] 55)).heap[w2.heap.size]? = some (.cells #[.int .i64 things, .int .i64 most, .slice A5 LT.length c5] 41 (0, 0)) := by simp only [alloc_at, World.size_alloc]; repeat (first | rw [if_pos (by first | trivial | omega)] | rw [if_neg (by omega)])
  have n1 := heap_a2 w2 (.cells #[.int .i64 things, .int .i64 most, .slice A5 LT.length c5] 41) #[.int .i64 x.1, .int .i64 x.2] 55
  obtain ⟨w3, hw3⟩ : ∃ w3, (w2.alloc (.cells #[.int .i64 things, .int .i64 most, .slice A5 LT.length c5] 41)).alloc (.cells #[.int .i64 x.1, .int .i64 x.2] 55) = w3 := ⟨_, rfl⟩
  obtain ⟨q, hq⟩ : ∃ q, w2.heap.size = q := ⟨_, rfl⟩
  rw [hw3] at hal3 n0 n1
  rw [hq] at n0 n1
  rw [hw3, hq]
  have HQ3 := hide (HQ2.out.past hal3)
  have HD3 := hide (HD2.out.below hal3)
  have HM3 := hide (HM2.out.trans (Mod.ofBelow hal3 F) (fun _ _ h => h))
  have g2 := (hal3.block _ (Array.getElem?_eq_some_iff.1 e2).1).trans e2
  obtain ⟨r0, r1, r2, _, _, _⟩ := box3 n0
  have s0 : w3.cell? ⟨q + 1, 0, none⟩ = some (.int .i64 x.1) := by rw [cell_of_row w3 _ 0 _ _ _ n1]; rfl
  have s1 : w3.cell? ⟨q + 1, 1, none⟩ = some (.int .i64 x.2) := by rw [cell_of_row w3 _ 1 _ _ _ n1]; rfl
  obtain ⟨x0, x1, x2, f0, f1, f2⟩ := box3 g2
  have g0 := (hal3.block _ (Array.getElem?_eq_some_iff.1 e0).1).trans e0
  obtain ⟨a0, a1, a2, _, _, _⟩ := box3 g0
  have HE0 := hide g0
  have HE2 := hide g2
  have HN0 := hide n0
  have HN1 := hide n1
  have hqs : w1.heap.size ≤ q := by rw [← hq]; exact HSz12.out
  have hq3 : q + 1 < w3.heap.size := (Array.getElem?_eq_some_iff.1 n1).1
  clear hal3 n0 n1 hw3 e0 e2 g0 g2
  go_wp2_with fail
  refine (get_some w3 F b things most x LT HQ3.out.q).mono ?_
  rintro e w4 ⟨rfl, hq4, hm4⟩
  have hbq := hm4.heap HE2.out HnF2.out
  have hbn0 := hm4.heap HN0.out (fun hf => by have := HFp.out _ hf; omega)
  have hbn1 := hm4.heap HN1.out (fun hf => by have := HFp.out _ hf; omega)
  have HQ4 := hide (HQ3.out.step hq4 hm4)
  have HD4 := hide (HD3.out.mod hm4 (fun k hk => .inl hk))
  have HM4 := hide (HM3.out.trans hm4 (fun _ _ h => h))
  clear x0 x1 x2 f0 f1 f2 r0 r1 r2 s0 s1 a0 a1 a2
  obtain ⟨x0, x1, x2, f0, f1, f2⟩ := box3 hbq
  obtain ⟨r0, r1, r2, _, _, _⟩ := box3 hbn0
  have s0 : w4.cell? ⟨q + 1, 0, none⟩ = some (.int .i64 x.1) := by rw [cell_of_row w4 _ 0 _ _ _ hbn1]; rfl
  have s1 : w4.cell? ⟨q + 1, 1, none⟩ = some (.int .i64 x.2) := by rw [cell_of_row w4 _ 1 _ _ _ hbn1]; rfl
  have HBq := hide hbq
  clear hbq hbn1 hbn0
  go_wp2
  have b9 := box3_set HBq.out (.int .i64 things) (.int .i64 most) (.slice A5 LT.length c5)
  obtain ⟨m0, m1, m2, _, _, _⟩ := box3 b9
  refine bodyPost_ret (by simp [results, Tryd.results17, go_sem, m0, m1, m2]; rfl) rfl ?_
  exact step_end (by simp; omega) HQ4.out HD4.out HM4.out (fun k hk => .inl hk) (fun k hk => .inr (by have := hk.1; omega)) (p + 1 + 1) (by omega) hsz0 HnF2.out HBq.out

set_option maxRecDepth 10000 in
set_option maxHeartbeats 2000000 in
theorem step_3_none (w0 w : World) (adr : Nat → Addr) (hS : Sent w0 adr) (F G : Nat → Prop) (b : Nat) (things most : Int)  (h : Fq w0 w F b things most []) (A : Option Addr) (c : Nat) (hd : Doc w F G A c []) (hn : 0 ≤ 4398046511103) (v wt : Int) (O : Option Addr) (m co : Nat) (W : List Int) (ho : Reads w0 1 (.slice O m co) m (W.map (Value.int .i64))) :
    Calls Tryd.prog 17 #[.pointer (some ⟨b, 0, none⟩), qv things most A 0 c, .agg #[.int .i64 3, .int .i64 v, .int .i64 wt, .slice O m co]] w (StepPost w0 w F G b things most []) := by
  have HS := hide hS
  have HH := hide h
  have HD := hide hd
  have HO := hide ho
  have HLow := hide h.low
  have HF := hide h.q.lt
  have hsz0 := h.below.size
  have hfit := h.q.fits
  have H0 : Hid (∀ y : Int × Int, y ∈ ([] : List (Int × Int)) → 0 ≤ y.2) := hide h.q.2.2.2.1
  have _ := hn
  clear h hd ho hS
  go_enter Tryd.func17, Tryd.ntmps17
  go_upto_region 1 with fail
  have hal : Below w.heap.size w (((w.alloc (.cells #[.int .i64 things, .int .i64 most, .slice A 0 c] 41)).alloc (.cells #[.int .i64 3, .int .i64 v, .int .i64 wt, .slice O m co] 47)).alloc (.cells #[.int .i64 0, .int .i64 0, .slice none 0 0] 41)) := below_a3 _ _ _ _
  obtain ⟨w1, hw1⟩ : ∃ w1, ((w.alloc (.cells #[.int .i64 things, .int .i64 most, .slice A 0 c] 41)).alloc (.cells #[.int .i64 3, .int .i64 v, .int .i64 wt, .slice O m co] 47)).alloc (.cells #[.int .i64 0, .int .i64 0, .slice none 0 0] 41) = w1 := ⟨_, rfl⟩
  obtain ⟨p, hp⟩ : ∃ p, w.heap.size = p := ⟨_, rfl⟩
  have b0 : w1.heap[p]? = some (.cells #[.int .i64 things, .int .i64 most, .slice A 0 c] 41 (0, 0)) := by rw [← hw1, ← hp]; simp only [alloc_at, World.size_alloc]; repeat (first | rw [if_pos (by first | trivial | omega)] | rw [if_neg (by omega)])
  have b1 : w1.heap[p + 1]? = some (.cells #[.int .i64 3, .int .i64 v, .int .i64 wt, .slice O m co] 47 (0, 0)) := by rw [← hw1, ← hp]; simp only [alloc_at, World.size_alloc]; repeat (first | rw [if_pos (by first | trivial | omega)] | rw [if_neg (by omega)])
  have b2 : w1.heap[p + 1 + 1]? = some (.cells #[.int .i64 0, .int .i64 0, .slice none 0 0] 41 (0, 0)) := by rw [← hw1, ← hp]; simp only [alloc_at, World.size_alloc]; repeat (first | rw [if_pos (by first | trivial | omega)] | rw [if_neg (by omega)])
  have hsz1 : w1.heap.size = p + 1 + 1 + 1 := by rw [← hw1, ← hp]; simp
  rw [hw1] at hal
  rw [hw1, hp]
  have HQ1 := hide (HH.out.past hal)
  have HD1 := hide (HD.out.below hal)
  have HAl := hide hal
  have HFp : Hid (∀ k, F k → k < p) := hide (fun k hk => by have := HF.out k hk; omega)
  have HM1 : Hid (Mod F w w1) := hide (Mod.ofBelow hal F)
  have hnF2 : ¬ F (p + 1 + 1) := fun h => by have := HFp.out _ h; omega
  have HnF2 := hide hnF2
  obtain ⟨c0, c1, c2, _, _, _⟩ := box3 b0
  have o0 : w1.cell? ⟨p + 1, 0, none⟩ = some (.int .i64 3) := by rw [cell_of_row w1 _ 0 _ _ _ b1]; rfl
  have o1 : w1.cell? ⟨p + 1, 1, none⟩ = some (.int .i64 v) := by rw [cell_of_row w1 _ 1 _ _ _ b1]; rfl
  have o2 : w1.cell? ⟨p + 1, 2, none⟩ = some (.int .i64 wt) := by rw [cell_of_row w1 _ 2 _ _ _ b1]; rfl
  have o3 : w1.cell? ⟨p + 1, 3, none⟩ = some (.slice O m co) := by rw [cell_of_row w1 _ 3 _ _ _ b1]; rfl
  obtain ⟨k0, k1, k2, f0, f1, f2⟩ := box3 b2
  have HB0 := hide b0
  have HB1 := hide b1
  have HB2 := hide b2
  clear hw1 b0 b1 b2 hal hnF2
  go_wp2_with fail
  refine (refget_none w1 things most A c).mono ?_
  rintro e w2 ⟨rfl, hb2⟩
  have HQ2 := hide (HQ1.out.past hb2)
  have HD2 := hide (HD1.out.below hb2)
  have HM2 := hide (HM1.out.trans (Mod.ofBelow hb2 F) (fun _ _ h => h))
  have e0 := (hb2.block _ (Array.getElem?_eq_some_iff.1 HB0.out).1).trans HB0.out
  have e2 := (hb2.block _ (Array.getElem?_eq_some_iff.1 HB2.out).1).trans HB2.out
  have HSz12 := hide hb2.size
  clear hb2 c0 c1 c2 o0 o1 o2 o3 k0 k1 k2 f0 f1 f2
  go_upto_region 11 with fail
  have hal3 : Below w2.heap.size w2 ((w2.alloc (.cells #[.int .i64 things, .int .i64 most, .slice A 0 c] 41)).alloc (.cells #[.int .i64 0, .int .i64 0] 55)) := below_a2 _ _ _
  have n0 : ((w2.alloc (.cells #[.int .i64 things, .int .i64 most, .slice A 0 c] 41)).alloc (.cells #[.int .i64 0, .int .i64 0] 55)).heap[w2.heap.size]? = some (.cells #[.int .i64 things, .int .i64 most, .slice A 0 c] 41 (0, 0)) := by simp only [alloc_at, World.size_alloc]; repeat (first | rw [if_pos (by first | trivial | omega)] | rw [if_neg (by omega)])
  have n1 := heap_a2 w2 (.cells #[.int .i64 things, .int .i64 most, .slice A 0 c] 41) #[.int .i64 0, .int .i64 0] 55
  obtain ⟨w3, hw3⟩ : ∃ w3, (w2.alloc (.cells #[.int .i64 things, .int .i64 most, .slice A 0 c] 41)).alloc (.cells #[.int .i64 0, .int .i64 0] 55) = w3 := ⟨_, rfl⟩
  obtain ⟨q, hq⟩ : ∃ q, w2.heap.size = q := ⟨_, rfl⟩
  rw [hw3] at hal3 n0 n1
  rw [hq] at n0 n1
  rw [hw3, hq]
  have HQ3 := hide (HQ2.out.past hal3)
  have HD3 := hide (HD2.out.below hal3)
  have HM3 := hide (HM2.out.trans (Mod.ofBelow hal3 F) (fun _ _ h => h))
  have g2 := (hal3.block _ (Array.getElem?_eq_some_iff.1 e2).1).trans e2
  obtain ⟨r0, r1, r2, _, _, _⟩ := box3 n0
  have s0 : w3.cell? ⟨q + 1, 0, none⟩ = some (.int .i64 0) := by rw [cell_of_row w3 _ 0 _ _ _ n1]; rfl
  have s1 : w3.cell? ⟨q + 1, 1, none⟩ = some (.int .i64 0) := by rw [cell_of_row w3 _ 1 _ _ _ n1]; rfl
  obtain ⟨x0, x1, x2, f0, f1, f2⟩ := box3 g2
  have g0 := (hal3.block _ (Array.getElem?_eq_some_iff.1 e0).1).trans e0
  obtain ⟨a0, a1, a2, _, _, _⟩ := box3 g0
  have HE0 := hide g0
  have HE2 := hide g2
  have HN0 := hide n0
  have HN1 := hide n1
  have hqs : w1.heap.size ≤ q := by rw [← hq]; exact HSz12.out
  have hq3 : q + 1 < w3.heap.size := (Array.getElem?_eq_some_iff.1 n1).1
  clear hal3 n0 n1 hw3 e0 e2 g0 g2
  go_wp2_with fail
  refine (head_none w3 F b things most HQ3.out.q).mono ?_
  rintro e wz ⟨rfl, rfl⟩
  go_wp2
  have b9 := box3_set HE2.out (.int .i64 things) (.int .i64 most) (.slice A 0 c)
  obtain ⟨m0, m1, m2, _, _, _⟩ := box3 b9
  refine bodyPost_ret (by simp [results, Tryd.results17, go_sem, m0, m1, m2]; rfl) rfl ?_
  exact step_end (by simp) HQ3.out HD3.out HM3.out (fun k hk => .inl hk) (fun k hk => .inl hk) (p + 1 + 1) (by omega) hsz0 HnF2.out HE2.out

set_option maxRecDepth 10000 in
set_option maxHeartbeats 2000000 in
theorem step_3_some (w0 w : World) (adr : Nat → Addr) (hS : Sent w0 adr) (F G : Nat → Prop) (b : Nat) (things most : Int) (x : Int × Int) (LT : List (Int × Int)) (h : Fq w0 w F b things most (x :: LT)) (A : Option Addr) (c : Nat) (hd : Doc w F G A c (x :: LT)) (hn : (LT.length + 1) ≤ 4398046511103) (v wt : Int) (O : Option Addr) (m co : Nat) (W : List Int) (ho : Reads w0 1 (.slice O m co) m (W.map (Value.int .i64))) :
    Calls Tryd.prog 17 #[.pointer (some ⟨b, 0, none⟩), qv things most A (LT.length + 1) c, .agg #[.int .i64 3, .int .i64 v, .int .i64 wt, .slice O m co]] w (StepPost w0 w F G b things most (x :: LT)) := by
  have HS := hide hS
  have HH := hide h
  have HD := hide hd
  have HO := hide ho
  have HLow := hide h.low
  have HF := hide h.q.lt
  have hsz0 := h.below.size
  have hfit := h.q.fits
  have H0 : Hid (∀ y : Int × Int, y ∈ ((x :: LT) : List (Int × Int)) → 0 ≤ y.2) := hide h.q.2.2.2.1
  have _ := hn
  clear h hd ho hS
  go_enter Tryd.func17, Tryd.ntmps17
  go_upto_region 1 with fail
  have hal : Below w.heap.size w (((w.alloc (.cells #[.int .i64 things, .int .i64 most, .slice A (LT.length + 1) c] 41)).alloc (.cells #[.int .i64 3, .int .i64 v, .int .i64 wt, .slice O m co] 47)).alloc (.cells #[.int .i64 0, .int .i64 0, .slice none 0 0] 41)) := below_a3 _ _ _ _
  obtain ⟨w1, hw1⟩ : ∃ w1, ((w.alloc (.cells #[.int .i64 things, .int .i64 most, .slice A (LT.length + 1) c] 41)).alloc (.cells #[.int .i64 3, .int .i64 v, .int .i64 wt, .slice O m co] 47)).alloc (.cells #[.int .i64 0, .int .i64 0, .slice none 0 0] 41) = w1 := ⟨_, rfl⟩
  obtain ⟨p, hp⟩ : ∃ p, w.heap.size = p := ⟨_, rfl⟩
  have b0 : w1.heap[p]? = some (.cells #[.int .i64 things, .int .i64 most, .slice A (LT.length + 1) c] 41 (0, 0)) := by rw [← hw1, ← hp]; simp only [alloc_at, World.size_alloc]; repeat (first | rw [if_pos (by first | trivial | omega)] | rw [if_neg (by omega)])
  have b1 : w1.heap[p + 1]? = some (.cells #[.int .i64 3, .int .i64 v, .int .i64 wt, .slice O m co] 47 (0, 0)) := by rw [← hw1, ← hp]; simp only [alloc_at, World.size_alloc]; repeat (first | rw [if_pos (by first | trivial | omega)] | rw [if_neg (by omega)])
  have b2 : w1.heap[p + 1 + 1]? = some (.cells #[.int .i64 0, .int .i64 0, .slice none 0 0] 41 (0, 0)) := by rw [← hw1, ← hp]; simp only [alloc_at, World.size_alloc]; repeat (first | rw [if_pos (by first | trivial | omega)] | rw [if_neg (by omega)])
  have hsz1 : w1.heap.size = p + 1 + 1 + 1 := by rw [← hw1, ← hp]; simp
  rw [hw1] at hal
  rw [hw1, hp]
  have HQ1 := hide (HH.out.past hal)
  have HD1 := hide (HD.out.below hal)
  have HAl := hide hal
  have HFp : Hid (∀ k, F k → k < p) := hide (fun k hk => by have := HF.out k hk; omega)
  have HM1 : Hid (Mod F w w1) := hide (Mod.ofBelow hal F)
  have hnF2 : ¬ F (p + 1 + 1) := fun h => by have := HFp.out _ h; omega
  have HnF2 := hide hnF2
  obtain ⟨c0, c1, c2, _, _, _⟩ := box3 b0
  have o0 : w1.cell? ⟨p + 1, 0, none⟩ = some (.int .i64 3) := by rw [cell_of_row w1 _ 0 _ _ _ b1]; rfl
  have o1 : w1.cell? ⟨p + 1, 1, none⟩ = some (.int .i64 v) := by rw [cell_of_row w1 _ 1 _ _ _ b1]; rfl
  have o2 : w1.cell? ⟨p + 1, 2, none⟩ = some (.int .i64 wt) := by rw [cell_of_row w1 _ 2 _ _ _ b1]; rfl
  have o3 : w1.cell? ⟨p + 1, 3, none⟩ = some (.slice O m co) := by rw [cell_of_row w1 _ 3 _ _ _ b1]; rfl
  obtain ⟨k0, k1, k2, f0, f1, f2⟩ := box3 b2
  have HB0 := hide b0
  have HB1 := hide b1
  have HB2 := hide b2
  clear hw1 b0 b1 b2 hal hnF2
  have hrow := HD1.out.row
  obtain ⟨A', c', he, hnc, _⟩ := hrow.shape
  injection he with he1 _ he3
  subst he3
  have HRd := hide hrow.reads
  have hln : LT.length + 1 ≤ c := by simpa using hnc
  clear hrow he1 hnc
  go_wp2_with fail
  refine (refget_some w1 things most A LT.length c x LT HRd.out hln (by omega)).mono ?_
  rintro e w2 ⟨A5, c5, rfl, hr5, hb2⟩
  have HQ2 := hide (HQ1.out.past hb2)
  have HM2 := hide (HM1.out.trans (Mod.ofBelow hb2 F) (fun _ _ h => h))
  have e0 := (hb2.block _ (Array.getElem?_eq_some_iff.1 HB0.out).1).trans HB0.out
  have e2 := (hb2.block _ (Array.getElem?_eq_some_iff.1 HB2.out).1).trans HB2.out
  have HSz12 := hide hb2.size
  have HD2 := hide (HD1.out.below hb2)
  clear hb2 hr5 c0 c1 c2 o0 o1 o2 o3 k0 k1 k2 f0 f1 f2
  go_upto_region 11 with fail
  have hal3 : Below w2.heap.size w2 ((w2.alloc (.cells #[.int .i64 things, .int .i64 most, .slice A5 LT.length c5] 41)).alloc (.cells #[.int .i64 x.1, .int .i64 x.2] 55)) := below_a2 _ _ _
  have n0 : ((w2.alloc (.cells #[.int .i64 things, .int .i64 most, .slice A5 LT.length c5] 41)).alloc (.cells #[.int .i64 x.1, .int .i64 x.2] 55)).heap[w2.heap.size]? = some (.cells #[.int .i64 things, .int .i64 most, .slice A5 LT.length c5] 41 (0, 0)) := by simp only [alloc_at, World.size_alloc]; repeat (first | rw [if_pos (by first | trivial | omega)] | rw [if_neg (by omega)])
  have n1 := heap_a2 w2 (.cells #[.int .i64 things, .int .i64 most, .slice A5 LT.length c5] 41) #[.int .i64 x.1, .int .i64 x.2] 55
  obtain ⟨w3, hw3⟩ : ∃ w3, (w2.alloc (.cells #[.int .i64 things, .int .i64 most, .slice A5 LT.length c5] 41)).alloc (.cells #[.int .i64 x.1, .int .i64 x.2] 55) = w3 := ⟨_, rfl⟩
  obtain ⟨q, hq⟩ : ∃ q, w2.heap.size = q := ⟨_, rfl⟩
  rw [hw3] at hal3 n0 n1
  rw [hq] at n0 n1
  rw [hw3, hq]
  have HQ3 := hide (HQ2.out.past hal3)
  have HD3 := hide (HD2.out.below hal3)
  have HM3 := hide (HM2.out.trans (Mod.ofBelow hal3 F) (fun _ _ h => h))
  have g2 := (hal3.block _ (Array.getElem?_eq_some_iff.1 e2).1).trans e2
  obtain ⟨r0, r1, r2, _, _, _⟩ := box3 n0
  have s0 : w3.cell? ⟨q + 1, 0, none⟩ = some (.int .i64 x.1) := by rw [cell_of_row w3 _ 0 _ _ _ n1]; rfl
  have s1 : w3.cell? ⟨q + 1, 1, none⟩ = some (.int .i64 x.2) := by rw [cell_of_row w3 _ 1 _ _ _ n1]; rfl
  obtain ⟨x0, x1, x2, f0, f1, f2⟩ := box3 g2
  have g0 := (hal3.block _ (Array.getElem?_eq_some_iff.1 e0).1).trans e0
  obtain ⟨a0, a1, a2, _, _, _⟩ := box3 g0
  have HE0 := hide g0
  have HE2 := hide g2
  have HN0 := hide n0
  have HN1 := hide n1
  have hqs : w1.heap.size ≤ q := by rw [← hq]; exact HSz12.out
  have hq3 : q + 1 < w3.heap.size := (Array.getElem?_eq_some_iff.1 n1).1
  clear hal3 n0 n1 hw3 e0 e2 g0 g2
  go_wp2_with fail
  refine (head_some w3 F b things most x LT HQ3.out.q).mono ?_
  rintro e w4 ⟨rfl, hb4⟩
  have hbq := (hb4.block _ (Array.getElem?_eq_some_iff.1 HE2.out).1).trans HE2.out
  have hbe0 := (hb4.block _ (Array.getElem?_eq_some_iff.1 HE0.out).1).trans HE0.out
  have hbn1 := (hb4.block _ (Array.getElem?_eq_some_iff.1 HN1.out).1).trans HN1.out
  have HQ4 := hide (HQ3.out.past hb4)
  have HD4 := hide (HD3.out.below hb4)
  have HM4 := hide (HM3.out.trans (Mod.ofBelow hb4 F) (fun _ _ h => h))
  clear x0 x1 x2 f0 f1 f2 r0 r1 r2 s0 s1 a0 a1 a2
  obtain ⟨x0, x1, x2, f0, f1, f2⟩ := box3 hbq
  obtain ⟨r0, r1, r2, _, _, _⟩ := box3 hbe0
  have s0 : w4.cell? ⟨q + 1, 0, none⟩ = some (.int .i64 x.1) := by rw [cell_of_row w4 _ 0 _ _ _ hbn1]; rfl
  have s1 : w4.cell? ⟨q + 1, 1, none⟩ = some (.int .i64 x.2) := by rw [cell_of_row w4 _ 1 _ _ _ hbn1]; rfl
  have HBq := hide hbq
  clear hbq hbn1 hbe0
  go_wp2
  have b9 := box3_set HBq.out (.int .i64 things) (.int .i64 most) (.slice A (LT.length + 1) c)
  obtain ⟨m0, m1, m2, _, _, _⟩ := box3 b9
  refine bodyPost_ret (by simp [results, Tryd.results17, go_sem, m0, m1, m2]; rfl) rfl ?_
  exact step_end (L' := x :: LT) (by simp) HQ4.out HD4.out HM4.out (fun k hk => .inl hk) (fun k hk => .inl hk) (p + 1 + 1) (by omega) hsz0 HnF2.out HBq.out

set_option maxRecDepth 10000 in
set_option maxHeartbeats 2000000 in
theorem step_7 (w0 w : World) (adr : Nat → Addr) (hS : Sent w0 adr) (F G : Nat → Prop) (b : Nat) (things most : Int) (L : List (Int × Int)) (h : Fq w0 w F b things most L) (A : Option Addr) (c : Nat) (hd : Doc w F G A c L) (hn : L.length ≤ 4398046511103) (v wt : Int) (O : Option Addr) (m co : Nat) (W : List Int) (ho : Reads w0 1 (.slice O m co) m (W.map (Value.int .i64))) :
    Calls Tryd.prog 17 #[.pointer (some ⟨b, 0, none⟩), qv things most A L.length c, .agg #[.int .i64 7, .int .i64 v, .int .i64 wt, .slice O m co]] w (StepPost w0 w F G b things most L) := by
  have HS := hide hS
  have HH := hide h
  have HD := hide hd
  have HO := hide ho
  have HLow := hide h.low
  have HF := hide h.q.lt
  have hsz0 := h.below.size
  have hfit := h.q.fits
  have H0 : Hid (∀ y : Int × Int, y ∈ (L : List (Int × Int)) → 0 ≤ y.2) := hide h.q.2.2.2.1
  have _ := hn
  clear h hd ho hS
  go_enter Tryd.func17, Tryd.ntmps17
  go_upto_region 1 with fail
  have hal : Below w.heap.size w (((w.alloc (.cells #[.int .i64 things, .int .i64 most, .slice A L.length c] 41)).alloc (.cells #[.int .i64 7, .int .i64 v, .int .i64 wt, .slice O m co] 47)).alloc (.cells #[.int .i64 0, .int .i64 0, .slice none 0 0] 41)) := below_a3 _ _ _ _
  obtain ⟨w1, hw1⟩ : ∃ w1, ((w.alloc (.cells #[.int .i64 things, .int .i64 most, .slice A L.length c] 41)).alloc (.cells #[.int .i64 7, .int .i64 v, .int .i64 wt, .slice O m co] 47)).alloc (.cells #[.int .i64 0, .int .i64 0, .slice none 0 0] 41) = w1 := ⟨_, rfl⟩
  obtain ⟨p, hp⟩ : ∃ p, w.heap.size = p := ⟨_, rfl⟩
  have b0 : w1.heap[p]? = some (.cells #[.int .i64 things, .int .i64 most, .slice A L.length c] 41 (0, 0)) := by rw [← hw1, ← hp]; simp only [alloc_at, World.size_alloc]; repeat (first | rw [if_pos (by first | trivial | omega)] | rw [if_neg (by omega)])
  have b1 : w1.heap[p + 1]? = some (.cells #[.int .i64 7, .int .i64 v, .int .i64 wt, .slice O m co] 47 (0, 0)) := by rw [← hw1, ← hp]; simp only [alloc_at, World.size_alloc]; repeat (first | rw [if_pos (by first | trivial | omega)] | rw [if_neg (by omega)])
  have b2 : w1.heap[p + 1 + 1]? = some (.cells #[.int .i64 0, .int .i64 0, .slice none 0 0] 41 (0, 0)) := by rw [← hw1, ← hp]; simp only [alloc_at, World.size_alloc]; repeat (first | rw [if_pos (by first | trivial | omega)] | rw [if_neg (by omega)])
  have hsz1 : w1.heap.size = p + 1 + 1 + 1 := by rw [← hw1, ← hp]; simp
  rw [hw1] at hal
  rw [hw1, hp]
  have HQ1 := hide (HH.out.past hal)
  have HD1 := hide (HD.out.below hal)
  have HAl := hide hal
  have HFp : Hid (∀ k, F k → k < p) := hide (fun k hk => by have := HF.out k hk; omega)
  have HM1 : Hid (Mod F w w1) := hide (Mod.ofBelow hal F)
  have hnF2 : ¬ F (p + 1 + 1) := fun h => by have := HFp.out _ h; omega
  have HnF2 := hide hnF2
  obtain ⟨c0, c1, c2, _, _, _⟩ := box3 b0
  have o0 : w1.cell? ⟨p + 1, 0, none⟩ = some (.int .i64 7) := by rw [cell_of_row w1 _ 0 _ _ _ b1]; rfl
  have o1 : w1.cell? ⟨p + 1, 1, none⟩ = some (.int .i64 v) := by rw [cell_of_row w1 _ 1 _ _ _ b1]; rfl
  have o2 : w1.cell? ⟨p + 1, 2, none⟩ = some (.int .i64 wt) := by rw [cell_of_row w1 _ 2 _ _ _ b1]; rfl
  have o3 : w1.cell? ⟨p + 1, 3, none⟩ = some (.slice O m co) := by rw [cell_of_row w1 _ 3 _ _ _ b1]; rfl
  obtain ⟨k0, k1, k2, f0, f1, f2⟩ := box3 b2
  have HB0 := hide b0
  have HB1 := hide b1
  have HB2 := hide b2
  clear hw1 b0 b1 b2 hal hnF2
  go_upto_region 20 with fail
  have HQd := hide (HQ1.out.past (w' := w1.drew) ⟨rfl, rfl, rfl, Nat.le_refl _, fun _ _ => rfl⟩)
  have HDd := hide (HD1.out.below (w' := w1.drew) ⟨rfl, rfl, rfl, Nat.le_refl _, fun _ _ => rfl⟩)
  have HMd : Hid (Mod F w w1.drew) := hide HM1.out.drew
  have hSd : w1.drew.cell? ⟨p, 0, none⟩ = some (.int .i64 things) ∧ w1.drew.cell? ⟨p, 1, none⟩ = some (.int .i64 most) ∧ w1.drew.cell? ⟨p, 2, none⟩ = some (.slice A L.length c) := ⟨c0, c1, c2⟩
  have hb2 : w1.drew.heap[p + 1 + 1]? = some (.cells #[.int .i64 0, .int .i64 0, .slice none 0 0] 41 (0, 0)) := HB2.out
  have HBd := hide hb2
  clear hb2 o0 o1 o2 o3
  go_region_held3 (fun w' => w'.cell? ⟨p, 0, none⟩ = some (.int .i64 things) ∧ w'.cell? ⟨p, 1, none⟩ = some (.int .i64 most) ∧ w'.cell? ⟨p, 2, none⟩ = some (.slice A L.length c)) (first | assumption | exact ⟨c0, c1, c2⟩ | exact far3 c0 c1 c2 (by omega)) (first
    | (go_at_call 21; refine (remove_nofn _ F b things most L HQd.out.q).mono ?_; rintro e wz ⟨rfl, rfl⟩))
  go_wp2
  have b9 : ((((w1.setCell ⟨p + 1 + 1, 0, none⟩ (.int .i64 things)).setCell ⟨p + 1 + 1, 1, none⟩ (.int .i64 most)).setCell ⟨p + 1 + 1, 2, none⟩ (.slice A L.length c)).drew).heap[p + 1 + 1]? = some (.cells #[.int .i64 things, .int .i64 most, (.slice A L.length c)] 41 (0, 0)) := box3_set HB2.out (.int .i64 things) (.int .i64 most) (.slice A L.length c)
  obtain ⟨m0, m1, m2, _, _, _⟩ := box3 b9
  refine bodyPost_ret (by simp [results, Tryd.results17, go_sem, m0, m1, m2]; rfl) rfl ?_
  exact step_end (we := w1.drew) (by omega) HQd.out HDd.out HMd.out (fun k hk => .inl hk) (fun k hk => .inl hk) (p + 1 + 1) (by omega) hsz0 HnF2.out HB2.out

set_option maxRecDepth 10000 in
set_option maxHeartbeats 2000000 in
theorem step_6 (w0 w : World) (adr : Nat → Addr) (hS : Sent w0 adr) (F G : Nat → Prop) (b : Nat) (things most : Int) (L : List (Int × Int)) (h : Fq w0 w F b things most L) (A : Option Addr) (c : Nat) (hd : Doc w F G A c L) (hn : L.length ≤ 4398046511103) (v wt : Int) (O : Option Addr) (m co : Nat) (W : List Int) (ho : Reads w0 1 (.slice O m co) m (W.map (Value.int .i64))) :
    Calls Tryd.prog 17 #[.pointer (some ⟨b, 0, none⟩), qv things most A L.length c, .agg #[.int .i64 6, .int .i64 v, .int .i64 wt, .slice O m co]] w (StepPost w0 w F G b things most L) := by
  have HS := hide hS
  have HH := hide h
  have HD := hide hd
  have HO := hide ho
  have HLow := hide h.low
  have HF := hide h.q.lt
  have hsz0 := h.below.size
  have hfit := h.q.fits
  have H0 : Hid (∀ y : Int × Int, y ∈ (L : List (Int × Int)) → 0 ≤ y.2) := hide h.q.2.2.2.1
  have _ := hn
  clear h hd ho hS
  go_enter Tryd.func17, Tryd.ntmps17
  go_upto_region 1 with fail
  have hal : Below w.heap.size w (((w.alloc (.cells #[.int .i64 things, .int .i64 most, .slice A L.length c] 41)).alloc (.cells #[.int .i64 6, .int .i64 v, .int .i64 wt, .slice O m co] 47)).alloc (.cells #[.int .i64 0, .int .i64 0, .slice none 0 0] 41)) := below_a3 _ _ _ _
  obtain ⟨w1, hw1⟩ : ∃ w1, ((w.alloc (.cells #[.int .i64 things, .int .i64 most, .slice A L.length c] 41)).alloc (.cells #[.int .i64 6, .int .i64 v, .int .i64 wt, .slice O m co] 47)).alloc (.cells #[.int .i64 0, .int .i64 0, .slice none 0 0] 41) = w1 := ⟨_, rfl⟩
  obtain ⟨p, hp⟩ : ∃ p, w.heap.size = p := ⟨_, rfl⟩
  have b0 : w1.heap[p]? = some (.cells #[.int .i64 things, .int .i64 most, .slice A L.length c] 41 (0, 0)) := by rw [← hw1, ← hp]; simp only [alloc_at, World.size_alloc]; repeat (first | rw [if_pos (by first | trivial | omega)] | rw [if_neg (by omega)])
  have b1 : w1.heap[p + 1]? = some (.cells #[.int .i64 6, .int .i64 v, .int .i64 wt, .slice O m co] 47 (0, 0)) := by rw [← hw1, ← hp]; simp only [alloc_at, World.size_alloc]; repeat (first | rw [if_pos (by first | trivial | omega)] | rw [if_neg (by omega)])
  have b2 : w1.heap[p + 1 + 1]? = some (.cells #[.int .i64 0, .int .i64 0, .slice none 0 0] 41 (0, 0)) := by rw [← hw1, ← hp]; simp only [alloc_at, World.size_alloc]; repeat (first | rw [if_pos (by first | trivial | omega)] | rw [if_neg (by omega)])
  have hsz1 : w1.heap.size = p + 1 + 1 + 1 := by rw [← hw1, ← hp]; simp
  rw [hw1] at hal
  rw [hw1, hp]
  have HQ1 := hide (HH.out.past hal)
  have HD1 := hide (HD.out.below hal)
  have HAl := hide hal
  have HFp : Hid (∀ k, F k → k < p) := hide (fun k hk => by have := HF.out k hk; omega)
  have HM1 : Hid (Mod F w w1) := hide (Mod.ofBelow hal F)
  have hnF2 : ¬ F (p + 1 + 1) := fun h => by have := HFp.out _ h; omega
  have HnF2 := hide hnF2
  obtain ⟨c0, c1, c2, _, _, _⟩ := box3 b0
  have o0 : w1.cell? ⟨p + 1, 0, none⟩ = some (.int .i64 6) := by rw [cell_of_row w1 _ 0 _ _ _ b1]; rfl
  have o1 : w1.cell? ⟨p + 1, 1, none⟩ = some (.int .i64 v) := by rw [cell_of_row w1 _ 1 _ _ _ b1]; rfl
  have o2 : w1.cell? ⟨p + 1, 2, none⟩ = some (.int .i64 wt) := by rw [cell_of_row w1 _ 2 _ _ _ b1]; rfl
  have o3 : w1.cell? ⟨p + 1, 3, none⟩ = some (.slice O m co) := by rw [cell_of_row w1 _ 3 _ _ _ b1]; rfl
  obtain ⟨k0, k1, k2, f0, f1, f2⟩ := box3 b2
  have HB0 := hide b0
  have HB1 := hide b1
  have HB2 := hide b2
  clear hw1 b0 b1 b2 hal hnF2
  have HRd : Hid (Reads w1.drew 2 (.slice A L.length c) L.length (pairs L)) := hide HD1.out.row.reads
  go_upto_region 18 with fail
  have HQd := hide (HQ1.out.past (w' := w1.drew) ⟨rfl, rfl, rfl, Nat.le_refl _, fun _ _ => rfl⟩)
  have HDd := hide (HD1.out.below (w' := w1.drew) ⟨rfl, rfl, rfl, Nat.le_refl _, fun _ _ => rfl⟩)
  have HMd : Hid (Mod F w w1.drew) := hide HM1.out.drew
  have hSd : w1.drew.cell? ⟨p, 0, none⟩ = some (.int .i64 things) ∧ w1.drew.cell? ⟨p, 1, none⟩ = some (.int .i64 most) ∧ w1.drew.cell? ⟨p, 2, none⟩ = some (.slice A L.length c) := ⟨c0, c1, c2⟩
  have hb2 : w1.drew.heap[p + 1 + 1]? = some (.cells #[.int .i64 0, .int .i64 0, .slice none 0 0] 41 (0, 0)) := HB2.out
  have HBd := hide hb2
  clear hb2 o0 o1 o2 o3
  go_region_held3 (fun w' => w'.cell? ⟨p, 0, none⟩ = some (.int .i64 things) ∧ w'.cell? ⟨p, 1, none⟩ = some (.int .i64 most) ∧ w'.cell? ⟨p, 2, none⟩ = some (.slice A L.length c)) (first | assumption | exact ⟨c0, c1, c2⟩ | exact far3 c0 c1 c2 (by omega)) (first
    | (go_at_call 18; refine (walked_any w1.drew F b things most L HQd.out.q things most A L.length c HRd.out (by omega)).mono ?_; rintro e w9 ⟨rfl, hb9⟩
       have e0 := (hb9.block _ (Array.getElem?_eq_some_iff.1 HB0.out).1).trans HB0.out
       have e2 := (hb9.block _ (Array.getElem?_eq_some_iff.1 HB2.out).1).trans HB2.out
       have HQ9 := hide (HQd.out.past hb9)
       have HD9 := hide (HDd.out.below hb9)
       have HM9 := hide (HMd.out.trans (Mod.ofBelow hb9 F) (fun _ _ h => h))
       clear c0 c1 c2 k0 k1 k2 f0 f1 f2 hb9
       obtain ⟨c0, c1, c2, _, _, _⟩ := box3 e0
       obtain ⟨k0, k1, k2, f0, f1, f2⟩ := box3 e2
       have HE2 := hide e2
       clear e0 e2))
  go_wp2
  have b9 := box3_set HE2.out (.int .i64 things) (.int .i64 most) (.slice A L.length c)
  obtain ⟨m0, m1, m2, _, _, _⟩ := box3 b9
  refine bodyPost_ret (by simp [results, Tryd.results17, go_sem, m0, m1, m2]; rfl) rfl ?_
  exact step_end (by omega) HQ9.out HD9.out HM9.out (fun k hk => .inl hk) (fun k hk => .inl hk) (p + 1 + 1) (by omega) hsz0 HnF2.out HE2.out

set_option maxRecDepth 10000 in
set_option maxHeartbeats 2000000 in
theorem step_4 (w0 w : World) (adr : Nat → Addr) (hS : Sent w0 adr) (F G : Nat → Prop) (b : Nat) (things most : Int) (L : List (Int × Int)) (h : Fq w0 w F b things most L) (A : Option Addr) (c : Nat) (hd : Doc w F G A c L) (hn : L.length ≤ 4398046511103) (v wt : Int) (O : Option Addr) (m co : Nat) (W : List Int) (ho : Reads w0 1 (.slice O m co) m (W.map (Value.int .i64))) :
    Calls Tryd.prog 17 #[.pointer (some ⟨b, 0, none⟩), qv things most A L.length c, .agg #[.int .i64 4, .int .i64 v, .int .i64 wt, .slice O m co]] w (StepPost w0 w F G b things most L) := by
  have HS := hide hS
  have HH := hide h
  have HD := hide hd
  have HO := hide ho
  have HLow := hide h.low
  have HF := hide h.q.lt
  have hsz0 := h.below.size
  have hfit := h.q.fits
  have H0 : Hid (∀ y : Int × Int, y ∈ (L : List (Int × Int)) → 0 ≤ y.2) := hide h.q.2.2.2.1
  have _ := hn
  clear h hd ho hS
  go_enter Tryd.func17, Tryd.ntmps17
  go_upto_region 1 with fail
  have hal : Below w.heap.size w (((w.alloc (.cells #[.int .i64 things, .int .i64 most, .slice A L.length c] 41)).alloc (.cells #[.int .i64 4, .int .i64 v, .int .i64 wt, .slice O m co] 47)).alloc (.cells #[.int .i64 0, .int .i64 0, .slice none 0 0] 41)) := below_a3 _ _ _ _
  obtain ⟨w1, hw1⟩ : ∃ w1, ((w.alloc (.cells #[.int .i64 things, .int .i64 most, .slice A L.length c] 41)).alloc (.cells #[.int .i64 4, .int .i64 v, .int .i64 wt, .slice O m co] 47)).alloc (.cells #[.int .i64 0, .int .i64 0, .slice none 0 0] 41) = w1 := ⟨_, rfl⟩
  obtain ⟨p, hp⟩ : ∃ p, w.heap.size = p := ⟨_, rfl⟩
  have b0 : w1.heap[p]? = some (.cells #[.int .i64 things, .int .i64 most, .slice A L.length c] 41 (0, 0)) := by rw [← hw1, ← hp]; simp only [alloc_at, World.size_alloc]; repeat (first | rw [if_pos (by first | trivial | omega)] | rw [if_neg (by omega)])
  have b1 : w1.heap[p + 1]? = some (.cells #[.int .i64 4, .int .i64 v, .int .i64 wt, .slice O m co] 47 (0, 0)) := by rw [← hw1, ← hp]; simp only [alloc_at, World.size_alloc]; repeat (first | rw [if_pos (by first | trivial | omega)] | rw [if_neg (by omega)])
  have b2 : w1.heap[p + 1 + 1]? = some (.cells #[.int .i64 0, .int .i64 0, .slice none 0 0] 41 (0, 0)) := by rw [← hw1, ← hp]; simp only [alloc_at, World.size_alloc]; repeat (first | rw [if_pos (by first | trivial | omega)] | rw [if_neg (by omega)])
  have hsz1 : w1.heap.size = p + 1 + 1 + 1 := by rw [← hw1, ← hp]; simp
  rw [hw1] at hal
  rw [hw1, hp]
  have HQ1 := hide (HH.out.past hal)
  have HD1 := hide (HD.out.below hal)
  have HAl := hide hal
  have HFp : Hid (∀ k, F k → k < p) := hide (fun k hk => by have := HF.out k hk; omega)
  have HM1 : Hid (Mod F w w1) := hide (Mod.ofBelow hal F)
  have hnF2 : ¬ F (p + 1 + 1) := fun h => by have := HFp.out _ h; omega
  have HnF2 := hide hnF2
  obtain ⟨c0, c1, c2, _, _, _⟩ := box3 b0
  have o0 : w1.cell? ⟨p + 1, 0, none⟩ = some (.int .i64 4) := by rw [cell_of_row w1 _ 0 _ _ _ b1]; rfl
  have o1 : w1.cell? ⟨p + 1, 1, none⟩ = some (.int .i64 v) := by rw [cell_of_row w1 _ 1 _ _ _ b1]; rfl
  have o2 : w1.cell? ⟨p + 1, 2, none⟩ = some (.int .i64 wt) := by rw [cell_of_row w1 _ 2 _ _ _ b1]; rfl
  have o3 : w1.cell? ⟨p + 1, 3, none⟩ = some (.slice O m co) := by rw [cell_of_row w1 _ 3 _ _ _ b1]; rfl
  obtain ⟨k0, k1, k2, f0, f1, f2⟩ := box3 b2
  have HB0 := hide b0
  have HB1 := hide b1
  have HB2 := hide b2
  clear hw1 b0 b1 b2 hal hnF2
  have HRd : Hid (Reads w1.drew 2 (.slice A L.length c) L.length (pairs L)) := hide HD1.out.row.reads
  go_upto_region 14 with fail
  have HQd := hide (HQ1.out.past (w' := w1.drew) ⟨rfl, rfl, rfl, Nat.le_refl _, fun _ _ => rfl⟩)
  have HDd := hide (HD1.out.below (w' := w1.drew) ⟨rfl, rfl, rfl, Nat.le_refl _, fun _ _ => rfl⟩)
  have HMd : Hid (Mod F w w1.drew) := hide HM1.out.drew
  have hSd : w1.drew.cell? ⟨p, 0, none⟩ = some (.int .i64 things) ∧ w1.drew.cell? ⟨p, 1, none⟩ = some (.int .i64 most) ∧ w1.drew.cell? ⟨p, 2, none⟩ = some (.slice A L.length c) := ⟨c0, c1, c2⟩
  have hb2 : w1.drew.heap[p + 1 + 1]? = some (.cells #[.int .i64 0, .int .i64 0, .slice none 0 0] 41 (0, 0)) := HB2.out
  have HBd := hide hb2
  clear hb2 o0 o1 o2 o3
  go_region_held3 (fun w' => w'.cell? ⟨p, 0, none⟩ = some (.int .i64 things) ∧ w'.cell? ⟨p, 1, none⟩ = some (.int .i64 most) ∧ w'.cell? ⟨p, 2, none⟩ = some (.slice A L.length c)) (first | assumption | exact ⟨c0, c1, c2⟩ | exact far3 c0 c1 c2 (by omega)) (first
    | (go_at_call 11; refine (len_any _ F b things most L HQd.out.q).mono ?_; rintro e wz ⟨rfl, rfl⟩)
    | (go_at_call 12; refine (weight_any _ F b things most L HQd.out.q).mono ?_; rintro e wz ⟨rfl, rfl⟩)
    | (go_at_call 19; refine (sum_any w1.drew things most A L.length c L HRd.out H0.out (by omega)).mono ?_; rintro e w9 ⟨rfl, hb9⟩
       have e0 := (hb9.block _ (Array.getElem?_eq_some_iff.1 HB0.out).1).trans HB0.out
       have e2 := (hb9.block _ (Array.getElem?_eq_some_iff.1 HB2.out).1).trans HB2.out
       have HQ9 := hide (HQd.out.past hb9)
       have HD9 := hide (HDd.out.below hb9)
       have HM9 := hide (HMd.out.trans (Mod.ofBelow hb9 F) (fun _ _ h => h))
       clear c0 c1 c2 k0 k1 k2 f0 f1 f2 hb9
       obtain ⟨c0, c1, c2, _, _, _⟩ := box3 e0
       obtain ⟨k0, k1, k2, f0, f1, f2⟩ := box3 e2
       have HE2 := hide e2
       clear e0 e2))
  go_wp2
  have b9 := box3_set HE2.out (.int .i64 things) (.int .i64 most) (.slice A L.length c)
  obtain ⟨m0, m1, m2, _, _, _⟩ := box3 b9
  refine bodyPost_ret (by simp [results, Tryd.results17, go_sem, m0, m1, m2]; rfl) rfl ?_
  exact step_end (by omega) HQ9.out HD9.out HM9.out (fun k hk => .inl hk) (fun k hk => .inl hk) (p + 1 + 1) (by omega) hsz0 HnF2.out HE2.out

set_option maxRecDepth 10000 in
set_option maxHeartbeats 2000000 in
theorem step_1_neg (w0 w : World) (adr : Nat → Addr) (hS : Sent w0 adr) (F G : Nat → Prop) (b : Nat) (things most : Int) (L : List (Int × Int)) (h : Fq w0 w F b things most L) (A : Option Addr) (c : Nat) (hd : Doc w F G A c L) (hn : L.length ≤ 4398046511103) (v wt : Int) (O : Option Addr) (m co : Nat) (W : List Int) (ho : Reads w0 1 (.slice O m co) m (W.map (Value.int .i64))) (hw : wt < 0) :
    Calls Tryd.prog 17 #[.pointer (some ⟨b, 0, none⟩), qv things most A L.length c, .agg #[.int .i64 1, .int .i64 v, .int .i64 wt, .slice O m co]] w (StepPost w0 w F G b things most L) := by
  have HS := hide hS
  have HH := hide h
  have HD := hide hd
  have HO := hide ho
  have HLow := hide h.low
  have HF := hide h.q.lt
  have hsz0 := h.below.size
  have hfit := h.q.fits
  have H0 : Hid (∀ y : Int × Int, y ∈ (L : List (Int × Int)) → 0 ≤ y.2) := hide h.q.2.2.2.1
  have _ := hn
  clear h hd ho hS
  go_enter Tryd.func17, Tryd.ntmps17
  go_upto_region 1 with fail
  have hal : Below w.heap.size w (((w.alloc (.cells #[.int .i64 things, .int .i64 most, .slice A L.length c] 41)).alloc (.cells #[.int .i64 1, .int .i64 v, .int .i64 wt, .slice O m co] 47)).alloc (.cells #[.int .i64 0, .int .i64 0, .slice none 0 0] 41)) := below_a3 _ _ _ _
  obtain ⟨w1, hw1⟩ : ∃ w1, ((w.alloc (.cells #[.int .i64 things, .int .i64 most, .slice A L.length c] 41)).alloc (.cells #[.int .i64 1, .int .i64 v, .int .i64 wt, .slice O m co] 47)).alloc (.cells #[.int .i64 0, .int .i64 0, .slice none 0 0] 41) = w1 := ⟨_, rfl⟩
  obtain ⟨p, hp⟩ : ∃ p, w.heap.size = p := ⟨_, rfl⟩
  have b0 : w1.heap[p]? = some (.cells #[.int .i64 things, .int .i64 most, .slice A L.length c] 41 (0, 0)) := by rw [← hw1, ← hp]; simp only [alloc_at, World.size_alloc]; repeat (first | rw [if_pos (by first | trivial | omega)] | rw [if_neg (by omega)])
  have b1 : w1.heap[p + 1]? = some (.cells #[.int .i64 1, .int .i64 v, .int .i64 wt, .slice O m co] 47 (0, 0)) := by rw [← hw1, ← hp]; simp only [alloc_at, World.size_alloc]; repeat (first | rw [if_pos (by first | trivial | omega)] | rw [if_neg (by omega)])
  have b2 : w1.heap[p + 1 + 1]? = some (.cells #[.int .i64 0, .int .i64 0, .slice none 0 0] 41 (0, 0)) := by rw [← hw1, ← hp]; simp only [alloc_at, World.size_alloc]; repeat (first | rw [if_pos (by first | trivial | omega)] | rw [if_neg (by omega)])
  have hsz1 : w1.heap.size = p + 1 + 1 + 1 := by rw [← hw1, ← hp]; simp
  rw [hw1] at hal
  rw [hw1, hp]
  have HQ1 := hide (HH.out.past hal)
  have HD1 := hide (HD.out.below hal)
  have HAl := hide hal
  have HFp : Hid (∀ k, F k → k < p) := hide (fun k hk => by have := HF.out k hk; omega)
  have HM1 : Hid (Mod F w w1) := hide (Mod.ofBelow hal F)
  have hnF2 : ¬ F (p + 1 + 1) := fun h => by have := HFp.out _ h; omega
  have HnF2 := hide hnF2
  obtain ⟨c0, c1, c2, _, _, _⟩ := box3 b0
  have o0 : w1.cell? ⟨p + 1, 0, none⟩ = some (.int .i64 1) := by rw [cell_of_row w1 _ 0 _ _ _ b1]; rfl
  have o1 : w1.cell? ⟨p + 1, 1, none⟩ = some (.int .i64 v) := by rw [cell_of_row w1 _ 1 _ _ _ b1]; rfl
  have o2 : w1.cell? ⟨p + 1, 2, none⟩ = some (.int .i64 wt) := by rw [cell_of_row w1 _ 2 _ _ _ b1]; rfl
  have o3 : w1.cell? ⟨p + 1, 3, none⟩ = some (.slice O m co) := by rw [cell_of_row w1 _ 3 _ _ _ b1]; rfl
  obtain ⟨k0, k1, k2, f0, f1, f2⟩ := box3 b2
  have HB0 := hide b0
  have HB1 := hide b1
  have HB2 := hide b2
  clear hw1 b0 b1 b2 hal hnF2
  have HRd := hide HD1.out.row.reads
  go_wp2_with fail
  refine (refput_neg w1 things most A L.length c v wt hw).mono ?_
  rintro e w2 ⟨rfl, hb2⟩
  have HQ2 := hide (HQ1.out.past hb2)
  have HM2 := hide (HM1.out.trans (Mod.ofBelow hb2 F) (fun _ _ h => h))
  have e1 := (hb2.block _ (Array.getElem?_eq_some_iff.1 HB1.out).1).trans HB1.out
  have e2 := (hb2.block _ (Array.getElem?_eq_some_iff.1 HB2.out).1).trans HB2.out
  have HSz12 := hide hb2.size
  have HD2 := hide (HD1.out.below hb2)
  clear hb2 c0 c1 c2 o0 o1 o2 o3 k0 k1 k2 f0 f1 f2
  go_upto_region 4 with fail
  have hal3 : Below w2.heap.size w2 (w2.alloc (.cells #[.int .i64 things, .int .i64 most, .slice A L.length c] 41)) := (Below.refl _ _).alloc (Nat.le_refl _) _
  have n0 : (w2.alloc (.cells #[.int .i64 things, .int .i64 most, .slice A L.length c] 41)).heap[w2.heap.size]? = some (.cells #[.int .i64 things, .int .i64 most, .slice A L.length c] 41 (0, 0)) := heap_a1 _ _ _
  obtain ⟨w3, hw3⟩ : ∃ w3, w2.alloc (.cells #[.int .i64 things, .int .i64 most, .slice A L.length c] 41) = w3 := ⟨_, rfl⟩
  obtain ⟨q, hq⟩ : ∃ q, w2.heap.size = q := ⟨_, rfl⟩
  rw [hw3] at hal3 n0
  rw [hq] at n0
  rw [hw3, hq]
  have g1 := (hal3.block _ (Array.getElem?_eq_some_iff.1 e1).1).trans e1
  have g2 := (hal3.block _ (Array.getElem?_eq_some_iff.1 e2).1).trans e2
  have hqs : w1.heap.size ≤ q := by rw [← hq]; exact HSz12.out
  have hbd : Below w2.heap.size w2 w3.drew := hal3.drew
  have HSz3 : Hid (w1.heap.size ≤ w3.drew.heap.size) := hide (by have := HSz12.out; have := hbd.size; omega)
  have HQd := hide (HQ2.out.past hbd)
  have HDd := hide (HD2.out.below hbd)
  have HMd := hide (HM2.out.trans (Mod.ofBelow hbd F) (fun _ _ h => h))
  have HB1d : Hid (w3.drew.heap[p + 1]? = some (.cells #[.int .i64 1, .int .i64 v, .int .i64 wt, .slice O m co] 47 (0, 0))) := hide g1
  have HB2d : Hid (w3.drew.heap[p + 1 + 1]? = some (.cells #[.int .i64 0, .int .i64 0, .slice none 0 0] 41 (0, 0))) := hide g2
  have HNd : Hid (w3.drew.heap[q]? = some (.cells #[.int .i64 things, .int .i64 most, .slice A L.length c] 41 (0, 0))) := hide n0
  obtain ⟨c0, c1, c2, _, _, _⟩ := box3 n0
  have o1 : w3.cell? ⟨p + 1, 1, none⟩ = some (.int .i64 v) := by rw [cell_of_row w3 _ 1 _ _ _ g1]; rfl
  have o2 : w3.cell? ⟨p + 1, 2, none⟩ = some (.int .i64 wt) := by rw [cell_of_row w3 _ 2 _ _ _ g1]; rfl
  obtain ⟨k0, k1, k2, f0, f1, f2⟩ := box3 g2
  have hSd : w3.drew.cell? ⟨q, 0, none⟩ = some (.int .i64 things) ∧ w3.drew.cell? ⟨q, 1, none⟩ = some (.int .i64 most) ∧ w3.drew.cell? ⟨q, 2, none⟩ = some (.slice A L.length c) ∧ w3.drew.cell? ⟨p + 1, 1, none⟩ = some (.int .i64 v) ∧ w3.drew.cell? ⟨p + 1, 2, none⟩ = some (.int .i64 wt) := ⟨c0, c1, c2, o1, o2⟩
  have hSf := HS.out.below HQd.out.below
  have HSf := hide hSf
  have hFx : ∀ k, p ≤ k → ¬ F k := fun k hk hf => by have := HFp.out k hf; omega
  have HFx := hide hFx
  clear hal3 hbd n0 g1 g2 e1 e2 hw3 hSf hFx
  go_region_held3 (fun w' => w'.cell? ⟨q, 0, none⟩ = some (.int .i64 things) ∧ w'.cell? ⟨q, 1, none⟩ = some (.int .i64 most) ∧ w'.cell? ⟨q, 2, none⟩ = some (.slice A L.length c) ∧ w'.cell? ⟨p + 1, 1, none⟩ = some (.int .i64 v) ∧ w'.cell? ⟨p + 1, 2, none⟩ = some (.int .i64 wt)) (first | assumption | exact ⟨c0, c1, c2, o1, o2⟩ | exact far5 c0 c1 c2 o1 o2 (by omega) (by omega)) (first
    | (go_at_call 14; have hE := HSf.out.cell 2 (by decide) (by decide); refine (put_neg _ b v wt hw _ hE).mono ?_; rintro e w9 ⟨rfl, hww⟩
       have hb9 := below_eq hww
       have hm9 := Mod.ofBelow hb9 F
       have t1 := (hb9.block _ (Array.getElem?_eq_some_iff.1 HB1d.out).1).trans HB1d.out
       have t2 := (hb9.block _ (Array.getElem?_eq_some_iff.1 HB2d.out).1).trans HB2d.out
       have tq := (hb9.block _ (Array.getElem?_eq_some_iff.1 HNd.out).1).trans HNd.out
       have HQ9 := hide (HQd.out.past hb9)
       have HD9 := hide (HDd.out.below hb9)
       have HM9 := hide (HMd.out.trans hm9 (fun _ _ h => h))
       clear hb9
       have HS9 := hide (HS.out.below HQ9.out.below)
       have HSz9 := hide hm9.size
       clear c0 c1 c2 o1 o2 k0 k1 k2 f0 f1 f2 hm9
       obtain ⟨c0, c1, c2, _, _, _⟩ := box3 tq
       have o1 : w9.cell? ⟨p + 1, 1, none⟩ = some (.int .i64 v) := by rw [cell_of_row w9 _ 1 _ _ _ t1]; rfl
       have o2 : w9.cell? ⟨p + 1, 2, none⟩ = some (.int .i64 wt) := by rw [cell_of_row w9 _ 2 _ _ _ t1]; rfl
       obtain ⟨k0, k1, k2, f0, f1, f2⟩ := box3 t2
       have HE2 := hide t2
       clear t1 t2 tq)
    | (go_at_call 13; refine (code_err _ adr HS9.out 2 (by decide) (by decide) (by decide)).mono ?_; rintro e wz ⟨rfl, rfl⟩))
  go_wp2
  have b9 := box3_set HE2.out (.int .i64 things) (.int .i64 most) (.slice A L.length c)
  obtain ⟨m0, m1, m2, _, _, _⟩ := box3 b9
  refine bodyPost_ret (by simp [results, Tryd.results17, go_sem, m0, m1, m2]; rfl) rfl ?_
  exact step_end (by omega) HQ9.out HD9.out HM9.out (fun k hk => .inl hk) (fun k hk => .inl hk) (p + 1 + 1) (by omega) hsz0 HnF2.out HE2.out

set_option maxRecDepth 10000 in
set_option maxHeartbeats 2000000 in
theorem step_1_full (w0 w : World) (adr : Nat → Addr) (hS : Sent w0 adr) (F G : Nat → Prop) (b : Nat) (things most : Int) (L : List (Int × Int)) (h : Fq w0 w F b things most L) (A : Option Addr) (c : Nat) (hd : Doc w F G A c L) (hn : L.length ≤ 4398046511103) (v wt : Int) (O : Option Addr) (m co : Nat) (W : List Int) (ho : Reads w0 1 (.slice O m co) m (W.map (Value.int .i64))) (hw : ¬ wt < 0) (hfull : things ≤ L.length ∨ most - wsum L < wt) :
    Calls Tryd.prog 17 #[.pointer (some ⟨b, 0, none⟩), qv things most A L.length c, .agg #[.int .i64 1, .int .i64 v, .int .i64 wt, .slice O m co]] w (StepPost w0 w F G b things most L) := by
  have HS := hide hS
  have HH := hide h
  have HD := hide hd
  have HO := hide ho
  have HLow := hide h.low
  have HF := hide h.q.lt
  have hsz0 := h.below.size
  have hfit := h.q.fits
  have H0 : Hid (∀ y : Int × Int, y ∈ (L : List (Int × Int)) → 0 ≤ y.2) := hide h.q.2.2.2.1
  have _ := hn
  clear h hd ho hS
  go_enter Tryd.func17, Tryd.ntmps17
  go_upto_region 1 with fail
  have hal : Below w.heap.size w (((w.alloc (.cells #[.int .i64 things, .int .i64 most, .slice A L.length c] 41)).alloc (.cells #[.int .i64 1, .int .i64 v, .int .i64 wt, .slice O m co] 47)).alloc (.cells #[.int .i64 0, .int .i64 0, .slice none 0 0] 41)) := below_a3 _ _ _ _
  obtain ⟨w1, hw1⟩ : ∃ w1, ((w.alloc (.cells #[.int .i64 things, .int .i64 most, .slice A L.length c] 41)).alloc (.cells #[.int .i64 1, .int .i64 v, .int .i64 wt, .slice O m co] 47)).alloc (.cells #[.int .i64 0, .int .i64 0, .slice none 0 0] 41) = w1 := ⟨_, rfl⟩
  obtain ⟨p, hp⟩ : ∃ p, w.heap.size = p := ⟨_, rfl⟩
  have b0 : w1.heap[p]? = some (.cells #[.int .i64 things, .int .i64 most, .slice A L.length c] 41 (0, 0)) := by rw [← hw1, ← hp]; simp only [alloc_at, World.size_alloc]; repeat (first | rw [if_pos (by first | trivial | omega)] | rw [if_neg (by omega)])
  have b1 : w1.heap[p + 1]? = some (.cells #[.int .i64 1, .int .i64 v, .int .i64 wt, .slice O m co] 47 (0, 0)) := by rw [← hw1, ← hp]; simp only [alloc_at, World.size_alloc]; repeat (first | rw [if_pos (by first | trivial | omega)] | rw [if_neg (by omega)])
  have b2 : w1.heap[p + 1 + 1]? = some (.cells #[.int .i64 0, .int .i64 0, .slice none 0 0] 41 (0, 0)) := by rw [← hw1, ← hp]; simp only [alloc_at, World.size_alloc]; repeat (first | rw [if_pos (by first | trivial | omega)] | rw [if_neg (by omega)])
  have hsz1 : w1.heap.size = p + 1 + 1 + 1 := by rw [← hw1, ← hp]; simp
  rw [hw1] at hal
  rw [hw1, hp]
  have HQ1 := hide (HH.out.past hal)
  have HD1 := hide (HD.out.below hal)
  have HAl := hide hal
  have HFp : Hid (∀ k, F k → k < p) := hide (fun k hk => by have := HF.out k hk; omega)
  have HM1 : Hid (Mod F w w1) := hide (Mod.ofBelow hal F)
  have hnF2 : ¬ F (p + 1 + 1) := fun h => by have := HFp.out _ h; omega
  have HnF2 := hide hnF2
  obtain ⟨c0, c1, c2, _, _, _⟩ := box3 b0
  have o0 : w1.cell? ⟨p + 1, 0, none⟩ = some (.int .i64 1) := by rw [cell_of_row w1 _ 0 _ _ _ b1]; rfl
  have o1 : w1.cell? ⟨p + 1, 1, none⟩ = some (.int .i64 v) := by rw [cell_of_row w1 _ 1 _ _ _ b1]; rfl
  have o2 : w1.cell? ⟨p + 1, 2, none⟩ = some (.int .i64 wt) := by rw [cell_of_row w1 _ 2 _ _ _ b1]; rfl
  have o3 : w1.cell? ⟨p + 1, 3, none⟩ = some (.slice O m co) := by rw [cell_of_row w1 _ 3 _ _ _ b1]; rfl
  obtain ⟨k0, k1, k2, f0, f1, f2⟩ := box3 b2
  have HB0 := hide b0
  have HB1 := hide b1
  have HB2 := hide b2
  clear hw1 b0 b1 b2 hal hnF2
  have HRd := hide HD1.out.row.reads
  go_wp2_with fail
  refine (refput_full w1 things most A L.length c L HRd.out H0.out hfit.2.2.1 (by omega) v wt (by omega) (by omega)).mono ?_
  rintro e w2 ⟨rfl, hb2⟩
  have HQ2 := hide (HQ1.out.past hb2)
  have HM2 := hide (HM1.out.trans (Mod.ofBelow hb2 F) (fun _ _ h => h))
  have e1 := (hb2.block _ (Array.getElem?_eq_some_iff.1 HB1.out).1).trans HB1.out
  have e2 := (hb2.block _ (Array.getElem?_eq_some_iff.1 HB2.out).1).trans HB2.out
  have HSz12 := hide hb2.size
  have HD2 := hide (HD1.out.below hb2)
  clear hb2 c0 c1 c2 o0 o1 o2 o3 k0 k1 k2 f0 f1 f2
  go_upto_region 4 with fail
  have hal3 : Below w2.heap.size w2 (w2.alloc (.cells #[.int .i64 things, .int .i64 most, .slice A L.length c] 41)) := (Below.refl _ _).alloc (Nat.le_refl _) _
  have n0 : (w2.alloc (.cells #[.int .i64 things, .int .i64 most, .slice A L.length c] 41)).heap[w2.heap.size]? = some (.cells #[.int .i64 things, .int .i64 most, .slice A L.length c] 41 (0, 0)) := heap_a1 _ _ _
  obtain ⟨w3, hw3⟩ : ∃ w3, w2.alloc (.cells #[.int .i64 things, .int .i64 most, .slice A L.length c] 41) = w3 := ⟨_, rfl⟩
  obtain ⟨q, hq⟩ : ∃ q, w2.heap.size = q := ⟨_, rfl⟩
  rw [hw3] at hal3 n0
  rw [hq] at n0
  rw [hw3, hq]
  have g1 := (hal3.block _ (Array.getElem?_eq_some_iff.1 e1).1).trans e1
  have g2 := (hal3.block _ (Array.getElem?_eq_some_iff.1 e2).1).trans e2
  have hqs : w1.heap.size ≤ q := by rw [← hq]; exact HSz12.out
  have hbd : Below w2.heap.size w2 w3.drew := hal3.drew
  have HSz3 : Hid (w1.heap.size ≤ w3.drew.heap.size) := hide (by have := HSz12.out; have := hbd.size; omega)
  have HQd := hide (HQ2.out.past hbd)
  have HDd := hide (HD2.out.below hbd)
  have HMd := hide (HM2.out.trans (Mod.ofBelow hbd F) (fun _ _ h => h))
  have HB1d : Hid (w3.drew.heap[p + 1]? = some (.cells #[.int .i64 1, .int .i64 v, .int .i64 wt, .slice O m co] 47 (0, 0))) := hide g1
  have HB2d : Hid (w3.drew.heap[p + 1 + 1]? = some (.cells #[.int .i64 0, .int .i64 0, .slice none 0 0] 41 (0, 0))) := hide g2
  have HNd : Hid (w3.drew.heap[q]? = some (.cells #[.int .i64 things, .int .i64 most, .slice A L.length c] 41 (0, 0))) := hide n0
  obtain ⟨c0, c1, c2, _, _, _⟩ := box3 n0
  have o1 : w3.cell? ⟨p + 1, 1, none⟩ = some (.int .i64 v) := by rw [cell_of_row w3 _ 1 _ _ _ g1]; rfl
  have o2 : w3.cell? ⟨p + 1, 2, none⟩ = some (.int .i64 wt) := by rw [cell_of_row w3 _ 2 _ _ _ g1]; rfl
  obtain ⟨k0, k1, k2, f0, f1, f2⟩ := box3 g2
  have hSd : w3.drew.cell? ⟨q, 0, none⟩ = some (.int .i64 things) ∧ w3.drew.cell? ⟨q, 1, none⟩ = some (.int .i64 most) ∧ w3.drew.cell? ⟨q, 2, none⟩ = some (.slice A L.length c) ∧ w3.drew.cell? ⟨p + 1, 1, none⟩ = some (.int .i64 v) ∧ w3.drew.cell? ⟨p + 1, 2, none⟩ = some (.int .i64 wt) := ⟨c0, c1, c2, o1, o2⟩
  have hSf := HS.out.below HQd.out.below
  have HSf := hide hSf
  have hFx : ∀ k, p ≤ k → ¬ F k := fun k hk hf => by have := HFp.out k hf; omega
  have HFx := hide hFx
  clear hal3 hbd n0 g1 g2 e1 e2 hw3 hSf hFx
  go_region_held3 (fun w' => w'.cell? ⟨q, 0, none⟩ = some (.int .i64 things) ∧ w'.cell? ⟨q, 1, none⟩ = some (.int .i64 most) ∧ w'.cell? ⟨q, 2, none⟩ = some (.slice A L.length c) ∧ w'.cell? ⟨p + 1, 1, none⟩ = some (.int .i64 v) ∧ w'.cell? ⟨p + 1, 2, none⟩ = some (.int .i64 wt)) (first | assumption | exact ⟨c0, c1, c2, o1, o2⟩ | exact far5 c0 c1 c2 o1 o2 (by omega) (by omega)) (first
    | (go_at_call 14; have hE := HSf.out.cell 6 (by decide) (by decide); refine (put_full _ F b things most L HQd.out.q v wt (by omega) (by omega) _ hE).mono ?_; rintro e w9 ⟨rfl, hb9⟩
       have hm9 := Mod.ofBelow hb9 F
       have t1 := (hb9.block _ (Array.getElem?_eq_some_iff.1 HB1d.out).1).trans HB1d.out
       have t2 := (hb9.block _ (Array.getElem?_eq_some_iff.1 HB2d.out).1).trans HB2d.out
       have tq := (hb9.block _ (Array.getElem?_eq_some_iff.1 HNd.out).1).trans HNd.out
       have HQ9 := hide (HQd.out.past hb9)
       have HD9 := hide (HDd.out.below hb9)
       have HM9 := hide (HMd.out.trans hm9 (fun _ _ h => h))
       clear hb9
       have HS9 := hide (HS.out.below HQ9.out.below)
       have HSz9 := hide hm9.size
       clear c0 c1 c2 o1 o2 k0 k1 k2 f0 f1 f2 hm9
       obtain ⟨c0, c1, c2, _, _, _⟩ := box3 tq
       have o1 : w9.cell? ⟨p + 1, 1, none⟩ = some (.int .i64 v) := by rw [cell_of_row w9 _ 1 _ _ _ t1]; rfl
       have o2 : w9.cell? ⟨p + 1, 2, none⟩ = some (.int .i64 wt) := by rw [cell_of_row w9 _ 2 _ _ _ t1]; rfl
       obtain ⟨k0, k1, k2, f0, f1, f2⟩ := box3 t2
       have HE2 := hide t2
       clear t1 t2 tq)
    | (go_at_call 13; refine (code_err _ adr HS9.out 6 (by decide) (by decide) (by decide)).mono ?_; rintro e wz ⟨rfl, rfl⟩))
  go_wp2
  have b9 := box3_set HE2.out (.int .i64 things) (.int .i64 most) (.slice A L.length c)
  obtain ⟨m0, m1, m2, _, _, _⟩ := box3 b9
  refine bodyPost_ret (by simp [results, Tryd.results17, go_sem, m0, m1, m2]; rfl) rfl ?_
  exact step_end (by omega) HQ9.out HD9.out HM9.out (fun k hk => .inl hk) (fun k hk => .inl hk) (p + 1 + 1) (by omega) hsz0 HnF2.out HE2.out

set_option maxRecDepth 10000 in
set_option maxHeartbeats 2000000 in
theorem step_1_ok (w0 w : World) (adr : Nat → Addr) (hS : Sent w0 adr) (F G : Nat → Prop) (b : Nat) (things most : Int) (L : List (Int × Int)) (h : Fq w0 w F b things most L) (A : Option Addr) (c : Nat) (hd : Doc w F G A c L) (hn : L.length ≤ 4398046511103) (v wt : Int) (O : Option Addr) (m co : Nat) (W : List Int) (ho : Reads w0 1 (.slice O m co) m (W.map (Value.int .i64))) (hw : ¬ wt < 0) (hroom : ¬ things ≤ L.length) (hfit2 : ¬ most - wsum L < wt) :
    Calls Tryd.prog 17 #[.pointer (some ⟨b, 0, none⟩), qv things most A L.length c, .agg #[.int .i64 1, .int .i64 v, .int .i64 wt, .slice O m co]] w (StepPost w0 w F G b things most L) := by
  have HS := hide hS
  have HH := hide h
  have HD := hide hd
  have HO := hide ho
  have HLow := hide h.low
  have HF := hide h.q.lt
  have hsz0 := h.below.size
  have hfit := h.q.fits
  have H0 : Hid (∀ y : Int × Int, y ∈ (L : List (Int × Int)) → 0 ≤ y.2) := hide h.q.2.2.2.1
  have _ := hn
  clear h hd ho hS
  go_enter Tryd.func17, Tryd.ntmps17
  go_upto_region 1 with fail
  have hal : Below w.heap.size w (((w.alloc (.cells #[.int .i64 things, .int .i64 most, .slice A L.length c] 41)).alloc (.cells #[.int .i64 1, .int .i64 v, .int .i64 wt, .slice O m co] 47)).alloc (.cells #[.int .i64 0, .int .i64 0, .slice none 0 0] 41)) := below_a3 _ _ _ _
  obtain ⟨w1, hw1⟩ : ∃ w1, ((w.alloc (.cells #[.int .i64 things, .int .i64 most, .slice A L.length c] 41)).alloc (.cells #[.int .i64 1, .int .i64 v, .int .i64 wt, .slice O m co] 47)).alloc (.cells #[.int .i64 0, .int .i64 0, .slice none 0 0] 41) = w1 := ⟨_, rfl⟩
  obtain ⟨p, hp⟩ : ∃ p, w.heap.size = p := ⟨_, rfl⟩
  have b0 : w1.heap[p]? = some (.cells #[.int .i64 things, .int .i64 most, .slice A L.length c] 41 (0, 0)) := by rw [← hw1, ← hp]; simp only [alloc_at, World.size_alloc]; repeat (first | rw [if_pos (by first | trivial | omega)] | rw [if_neg (by omega)])
  have b1 : w1.heap[p + 1]? = some (.cells #[.int .i64 1, .int .i64 v, .int .i64 wt, .slice O m co] 47 (0, 0)) := by rw [← hw1, ← hp]; simp only [alloc_at, World.size_alloc]; repeat (first | rw [if_pos (by first | trivial | omega)] | rw [if_neg (by omega)])
  have b2 : w1.heap[p + 1 + 1]? = some (.cells #[.int .i64 0, .int .i64 0, .slice none 0 0] 41 (0, 0)) := by rw [← hw1, ← hp]; simp only [alloc_at, World.size_alloc]; repeat (first | rw [if_pos (by first | trivial | omega)] | rw [if_neg (by omega)])
  have hsz1 : w1.heap.size = p + 1 + 1 + 1 := by rw [← hw1, ← hp]; simp
  rw [hw1] at hal
  rw [hw1, hp]
  have HQ1 := hide (HH.out.past hal)
  have HD1 := hide (HD.out.below hal)
  have HAl := hide hal
  have HFp : Hid (∀ k, F k → k < p) := hide (fun k hk => by have := HF.out k hk; omega)
  have HM1 : Hid (Mod F w w1) := hide (Mod.ofBelow hal F)
  have hnF2 : ¬ F (p + 1 + 1) := fun h => by have := HFp.out _ h; omega
  have HnF2 := hide hnF2
  obtain ⟨c0, c1, c2, _, _, _⟩ := box3 b0
  have o0 : w1.cell? ⟨p + 1, 0, none⟩ = some (.int .i64 1) := by rw [cell_of_row w1 _ 0 _ _ _ b1]; rfl
  have o1 : w1.cell? ⟨p + 1, 1, none⟩ = some (.int .i64 v) := by rw [cell_of_row w1 _ 1 _ _ _ b1]; rfl
  have o2 : w1.cell? ⟨p + 1, 2, none⟩ = some (.int .i64 wt) := by rw [cell_of_row w1 _ 2 _ _ _ b1]; rfl
  have o3 : w1.cell? ⟨p + 1, 3, none⟩ = some (.slice O m co) := by rw [cell_of_row w1 _ 3 _ _ _ b1]; rfl
  obtain ⟨k0, k1, k2, f0, f1, f2⟩ := box3 b2
  have HB0 := hide b0
  have HB1 := hide b1
  have HB2 := hide b2
  clear hw1 b0 b1 b2 hal hnF2
  have HRd := hide HD1.out.row.reads
  go_wp2_with fail
  refine (refput_ok w1 things most A L.length c L HRd.out H0.out hfit.2.2.1 (by omega) v wt (by omega) (by omega) (by omega) hn).mono ?_
  rintro e w2 ⟨A5, c5, rfl, hr5, hb2⟩
  have HQ2 := hide (HQ1.out.past hb2)
  have HM2 := hide (HM1.out.trans (Mod.ofBelow hb2 F) (fun _ _ h => h))
  have e1 := (hb2.block _ (Array.getElem?_eq_some_iff.1 HB1.out).1).trans HB1.out
  have e2 := (hb2.block _ (Array.getElem?_eq_some_iff.1 HB2.out).1).trans HB2.out
  have HSz12 := hide hb2.size
  have hlL : (L ++ [(v, wt)]).length = L.length + 1 := by simp
  have HD2 := hide (Doc.made (w := w1) (L := L ++ [(v, wt)]) (by rw [hlL]; exact hr5) HQ1.out.q.lt)
  clear hr5
  clear hb2 c0 c1 c2 o0 o1 o2 o3 k0 k1 k2 f0 f1 f2
  go_upto_region 4 with fail
  have hal3 : Below w2.heap.size w2 (w2.alloc (.cells #[.int .i64 things, .int .i64 most, .slice A5 (L.length + 1) c5] 41)) := (Below.refl _ _).alloc (Nat.le_refl _) _
  have n0 : (w2.alloc (.cells #[.int .i64 things, .int .i64 most, .slice A5 (L.length + 1) c5] 41)).heap[w2.heap.size]? = some (.cells #[.int .i64 things, .int .i64 most, .slice A5 (L.length + 1) c5] 41 (0, 0)) := heap_a1 _ _ _
  obtain ⟨w3, hw3⟩ : ∃ w3, w2.alloc (.cells #[.int .i64 things, .int .i64 most, .slice A5 (L.length + 1) c5] 41) = w3 := ⟨_, rfl⟩
  obtain ⟨q, hq⟩ : ∃ q, w2.heap.size = q := ⟨_, rfl⟩
  rw [hw3] at hal3 n0
  rw [hq] at n0
  rw [hw3, hq]
  have g1 := (hal3.block _ (Array.getElem?_eq_some_iff.1 e1).1).trans e1
  have g2 := (hal3.block _ (Array.getElem?_eq_some_iff.1 e2).1).trans e2
  have hqs : w1.heap.size ≤ q := by rw [← hq]; exact HSz12.out
  have hbd : Below w2.heap.size w2 w3.drew := hal3.drew
  have HSz3 : Hid (w1.heap.size ≤ w3.drew.heap.size) := hide (by have := HSz12.out; have := hbd.size; omega)
  have HQd := hide (HQ2.out.past hbd)
  have HDd := hide (HD2.out.below hbd)
  have HMd := hide (HM2.out.trans (Mod.ofBelow hbd F) (fun _ _ h => h))
  have HB1d : Hid (w3.drew.heap[p + 1]? = some (.cells #[.int .i64 1, .int .i64 v, .int .i64 wt, .slice O m co] 47 (0, 0))) := hide g1
  have HB2d : Hid (w3.drew.heap[p + 1 + 1]? = some (.cells #[.int .i64 0, .int .i64 0, .slice none 0 0] 41 (0, 0))) := hide g2
  have HNd : Hid (w3.drew.heap[q]? = some (.cells #[.int .i64 things, .int .i64 most, .slice A5 (L.length + 1) c5] 41 (0, 0))) := hide n0
  obtain ⟨c0, c1, c2, _, _, _⟩ := box3 n0
  have o1 : w3.cell? ⟨p + 1, 1, none⟩ = some (.int .i64 v) := by rw [cell_of_row w3 _ 1 _ _ _ g1]; rfl
  have o2 : w3.cell? ⟨p + 1, 2, none⟩ = some (.int .i64 wt) := by rw [cell_of_row w3 _ 2 _ _ _ g1]; rfl
  obtain ⟨k0, k1, k2, f0, f1, f2⟩ := box3 g2
  have hSd : w3.drew.cell? ⟨q, 0, none⟩ = some (.int .i64 things) ∧ w3.drew.cell? ⟨q, 1, none⟩ = some (.int .i64 most) ∧ w3.drew.cell? ⟨q, 2, none⟩ = some (.slice A5 (L.length + 1) c5) ∧ w3.drew.cell? ⟨p + 1, 1, none⟩ = some (.int .i64 v) ∧ w3.drew.cell? ⟨p + 1, 2, none⟩ = some (.int .i64 wt) := ⟨c0, c1, c2, o1, o2⟩
  have hSf := HS.out.below HQd.out.below
  have HSf := hide hSf
  have hFx : ∀ k, p ≤ k → ¬ F k := fun k hk hf => by have := HFp.out k hf; omega
  have HFx := hide hFx
  clear hal3 hbd n0 g1 g2 e1 e2 hw3 hSf hFx
  go_region_held3 (fun w' => w'.cell? ⟨q, 0, none⟩ = some (.int .i64 things) ∧ w'.cell? ⟨q, 1, none⟩ = some (.int .i64 most) ∧ w'.cell? ⟨q, 2, none⟩ = some (.slice A5 (L.length + 1) c5) ∧ w'.cell? ⟨p + 1, 1, none⟩ = some (.int .i64 v) ∧ w'.cell? ⟨p + 1, 2, none⟩ = some (.int .i64 wt)) (first | assumption | exact ⟨c0, c1, c2, o1, o2⟩ | exact far5 c0 c1 c2 o1 o2 (by omega) (by omega)) (first
    | (go_at_call 14; refine (put_ok _ F b things most L HQd.out.q v wt (by omega) (by omega) (by omega) (by omega)).mono ?_; rintro e w9 ⟨rfl, hq9, hm9⟩
       have hm9F := hm9
       have t1 := hm9.heap HB1d.out (HFx.out _ (by omega))
       have t2 := hm9.heap HB2d.out (HFx.out _ (by omega))
       have tq := hm9.heap HNd.out (HFx.out _ (by omega))
       have HQ9 := hide (HQd.out.wide hq9 hm9)
       have HD9 := hide (HDd.out.mod (F' := Wide F w3.drew w9) hm9 (fun k hk => hk.elim .inl (fun h => .inr h.1)))
       have HM9 := hide (HMd.out.trans hm9 (fun _ _ h => h))
       have HS9 := hide (HS.out.below HQ9.out.below)
       have HSz9 := hide hm9.size
       clear c0 c1 c2 o1 o2 k0 k1 k2 f0 f1 f2 hm9 hm9F hq9
       obtain ⟨c0, c1, c2, _, _, _⟩ := box3 tq
       have o1 : w9.cell? ⟨p + 1, 1, none⟩ = some (.int .i64 v) := by rw [cell_of_row w9 _ 1 _ _ _ t1]; rfl
       have o2 : w9.cell? ⟨p + 1, 2, none⟩ = some (.int .i64 wt) := by rw [cell_of_row w9 _ 2 _ _ _ t1]; rfl
       obtain ⟨k0, k1, k2, f0, f1, f2⟩ := box3 t2
       have HE2 := hide t2
       clear t1 t2 tq)
    | (go_at_call 13; refine (code_nil _).mono ?_; rintro e wz ⟨rfl, rfl⟩))
  go_wp2
  have b9 := box3_set HE2.out (.int .i64 things) (.int .i64 most) (.slice A5 (L.length + 1) c5)
  obtain ⟨m0, m1, m2, _, _, _⟩ := box3 b9
  refine bodyPost_ret (by simp [results, Tryd.results17, go_sem, m0, m1, m2]; rfl) rfl ?_
  have hfin := step_end (L := L) (F := F) (G := G) (L' := L ++ [(v, wt)]) (by simp) HQ9.out HD9.out HM9.out (fun k hk => hk.elim .inl (fun h => .inr (by have := h.1; have := HSz3.out; omega))) (fun k hk => .inr (by have := hk.1; omega)) (p + 1 + 1) (by omega) hsz0 (fun hf => hf.elim HnF2.out (fun h => by have := h.1; have := HSz3.out; omega)) HE2.out
  rw [hlL] at hfin
  exact hfin

theorem step_any (w0 w : World) (adr : Nat → Addr) (hS : Sent w0 adr) (F G : Nat → Prop) (b : Nat) (things most : Int) (L : List (Int × Int)) (h : Fq w0 w F b things most L) (A : Option Addr) (c : Nat) (hd : Doc w F G A c L) (hn : L.length ≤ 4398046511103) (kd v wt : Int) (O : Option Addr) (m co : Nat) (W : List Int) (ho : Reads w0 1 (.slice O m co) m (W.map (Value.int .i64))) :
    Calls Tryd.prog 17 #[.pointer (some ⟨b, 0, none⟩), qv things most A L.length c, .agg #[.int .i64 kd, .int .i64 v, .int .i64 wt, .slice O m co]] w (StepPost w0 w F G b things most L) := by
  by_cases h1 : kd = 1
  · subst h1
    by_cases hw : wt < 0
    · exact step_1_neg w0 w adr hS F G b things most L h A c hd hn v wt O m co W ho hw
    · by_cases hf : things ≤ (L.length : Int) ∨ most - wsum L < wt
      · exact step_1_full w0 w adr hS F G b things most L h A c hd hn v wt O m co W ho hw hf
      · exact step_1_ok w0 w adr hS F G b things most L h A c hd hn v wt O m co W ho hw (fun h => hf (.inl h)) (fun h => hf (.inr h))
  by_cases h2 : kd = 2
  · subst h2
    cases L with
    | nil => exact step_2_none w0 w adr hS F G b things most h A c hd (by decide) v wt O m co W ho
    | cons x LT => exact step_2_some w0 w adr hS F G b things most x LT h A c hd hn v wt O m co W ho
  by_cases h3 : kd = 3
  · subst h3
    cases L with
    | nil => exact step_3_none w0 w adr hS F G b things most h A c hd (by decide) v wt O m co W ho
    | cons x LT => exact step_3_some w0 w adr hS F G b things most x LT h A c hd hn v wt O m co W ho
  by_cases h4 : kd = 4
  · subst h4; exact step_4 w0 w adr hS F G b things most L h A c hd hn v wt O m co W ho
  by_cases h5 : kd = 5
  · subst h5; exact step_5 w0 w adr hS F G b things most L h A c hd hn v wt O m co W ho
  by_cases h6 : kd = 6
  · subst h6; exact step_6 w0 w adr hS F G b things most L h A c hd hn v wt O m co W ho
  by_cases h7 : kd = 7
  · subst h7; exact step_7 w0 w adr hS F G b things most L h A c hd hn v wt O m co W ho
  exact step_else w0 w adr hS F G b things most L h A c hd hn v wt O m co W ho kd (by simpa using h1) (by simpa using h2) (by simpa using h3) (by simpa using h4) (by simpa using h5) (by simpa using h6) (by simpa using h7)
end Go.Proofs.YtipbaffhlekpfaaDoor
