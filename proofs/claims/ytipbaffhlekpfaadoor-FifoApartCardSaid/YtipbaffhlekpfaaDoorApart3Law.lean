/-
  FifoApart: for every two scripts the law returns true: two queues that take their calls in turns answer as each alone.
-/
import Derived.Test.YtipbaffhlekpfaaDoorFifOp
import Derived.Test.YtipbaffhlekpfaaDoorHeld
namespace Go.Proofs.YtipbaffhlekpfaaDoor.fifoApart
open Go Go.RowKit Go.Cu Go.Proofs.YtipbaffhlekpfaaDoor Go.Proofs.YtipbaffhlekpfaaDoor.errs

/-- The two queues, and the variable that holds the document's. -/
structure Two (w0 w : World) (F G : Nat → Prop) (b : Nat) (things most : Int) (L : List (Int × Int)) (A : Option Addr) (c pq : Nat) : Prop where
  q : Fq w0 w F b things most L
  d : Doc w F G A c L
  v : w.heap[pq]? = some (.cells #[.int .i64 things, .int .i64 most, .slice A L.length c] 41 (0, 0))
  nf : ¬ F pq
  low : w0.heap.size ≤ pq

theorem Two.past {w0 w w' : World} {F G : Nat → Prop} {b : Nat} {things most : Int} {L : List (Int × Int)} {A : Option Addr} {c pq : Nat} (h : Two w0 w F G b things most L A c pq) (hb : Below w.heap.size w w') : Two w0 w' F G b things most L A c pq :=
  ⟨h.q.past hb, h.d.below hb, (hb.block _ (Array.getElem?_eq_some_iff.1 h.v).1).trans h.v, h.nf, h.low⟩
theorem cell_new {w : World} {o : Obj} {a : Addr} {v : Value} (h : w.cell? a = some v) : (w.alloc o).cell? a = some v :=
  (((Below.refl w.heap.size w).alloc (Nat.le_refl _) o).cell (World.block_lt_of_cell? w a h)).trans h
theorem cell_newset {w : World} {o : Obj} {a : Addr} {v x y z : Value} (h : w.cell? a = some v) : ((((w.alloc o).setCell ⟨w.heap.size, 0, none⟩ x).setCell ⟨w.heap.size, 1, none⟩ y).setCell ⟨w.heap.size, 2, none⟩ z).cell? a = some v :=
  ((below_set3 ((Below.refl w.heap.size w).alloc (Nat.le_refl _) o) (Nat.le_refl _) x y z).cell (World.block_lt_of_cell? w a h)).trans h
theorem cell_far {w : World} {q : Nat} {a : Addr} {v x y z : Value} (h : w.cell? a = some v) (hne : a.block ≠ q) : (((w.setCell ⟨q, 0, none⟩ x).setCell ⟨q, 1, none⟩ y).setCell ⟨q, 2, none⟩ z).cell? a = some v := by
  refine (World.cell?_of_block (w := w) ?_).trans h
  rw [Below.heap_setCell _ _ _ _ hne, Below.heap_setCell _ _ _ _ hne, Below.heap_setCell _ _ _ _ hne]
theorem ops_cells {w : World} {A : Option Addr} {n c : Nat} {ops : List OpD} (hr : Reads w 4 (.slice A n c) n (ops.flatMap opCell)) {i : Nat} {o : OpD} (ho : ops[i]? = some o) :
    ∃ ad, A = some ad ∧ w.cell? (ad.add (i * 4)) = some (.int .i64 o.kd) ∧ w.cell? ⟨(ad.add (i * 4)).block, (ad.add (i * 4)).off + 1, none⟩ = some (.int .i64 o.v) ∧ w.cell? ⟨(ad.add (i * 4)).block, (ad.add (i * 4)).off + 2, none⟩ = some (.int .i64 o.wt) ∧
      w.cell? ⟨(ad.add (i * 4)).block, (ad.add (i * 4)).off + 3, none⟩ = some (.slice o.O o.m o.co) := by
  have hi : i < ops.length := (List.getElem?_eq_some_iff.1 ho).1
  obtain ⟨h1, A', c', he, _, h3⟩ := hr
  rw [ops_length] at h1
  injection he with he _ _
  rcases h3 with h3 | ⟨ad, hA, h4⟩
  · omega
  · have e : ∀ k, k ≠ 0 → ad.add (i * 4 + k) = ⟨(ad.add (i * 4)).block, (ad.add (i * 4)).off + k, none⟩ := fun k hk => by
      unfold Addr.add
      by_cases h : i * 4 = 0 <;> simp [h, hk, Nat.add_assoc]
    refine ⟨ad, by rw [he, hA], ?_, ?_, ?_, ?_⟩
    · exact h4 _ _ (ops_at ho 0 _ rfl)
    · rw [← e 1 (by decide)]; exact h4 _ _ (ops_at ho 1 _ rfl)
    · rw [← e 2 (by decide)]; exact h4 _ _ (ops_at ho 2 _ rfl)
    · rw [← e 3 (by decide)]; exact h4 _ _ (ops_at ho 3 _ rfl)

/-- The other queue lies on behind a step of this one. -/
theorem Two.other {w0 w w' : World} {F G F1 : Nat → Prop} {b : Nat} {things most : Int} {L : List (Int × Int)} {A : Option Addr} {c pq : Nat} (h : Two w0 w F G b things most L A c pq) (hm : Mod F1 w w') (h1 : ∀ k, F k → ¬ F1 k) (h2 : ∀ k, G k → ¬ F1 k) (h3 : ¬ F1 pq) (hlow : ∀ k, F1 k → w0.heap.size ≤ k) : Two w0 w' F G b things most L A c pq :=
  ⟨h.q.keep hm h1 hlow, ⟨h.d.row.kept hm (fun k hk _ => h2 k hk), h.d.apart, fun k hk => Nat.lt_of_lt_of_le (h.d.lt k hk) hm.size⟩, hm.heap h.v h3, h.nf, h.low⟩
/-- the variable takes what the step gave -/
theorem Two.store {w0 w : World} {F G : Nat → Prop} {b : Nat} {things most : Int} {L : List (Int × Int)} {A : Option Addr} {c pq : Nat} {x y z : Value} (hq : Fq w0 w F b things most L) (hd : Doc w F G A c L) (hv : w.heap[pq]? = some (.cells #[x, y, z] 41 (0, 0))) (hn : ¬ F pq) (hl : w0.heap.size ≤ pq) :
    Two w0 (((w.setCell ⟨pq, 0, none⟩ (.int .i64 things)).setCell ⟨pq, 1, none⟩ (.int .i64 most)).setCell ⟨pq, 2, none⟩ (.slice A L.length c)) F G b things most L A c pq := by
  have hm := mod_set3 (Mod.refl (fun k => k = pq) w) pq rfl (.int .i64 things) (.int .i64 most) (.slice A L.length c)
  exact ⟨hq.keep hm (fun k hk e => hn (e ▸ hk)) (fun k e => by omega), ⟨row_set3 hd.row hv (by decide) _ _ _, hd.apart, fun k hk => Nat.lt_of_lt_of_le (hd.lt k hk) hm.size⟩, box3_set hv _ _ _, hn, hl⟩
theorem Two.far {w0 w : World} {F G : Nat → Prop} {b : Nat} {things most : Int} {L : List (Int × Int)} {A : Option Addr} {c pq p1 : Nat} {x y z : Value} (h : Two w0 w F G b things most L A c pq) (hv : w.heap[p1]? = some (.cells #[x, y, z] 41 (0, 0))) (hn : ¬ F p1) (hne : pq ≠ p1) (hl : w0.heap.size ≤ p1) (u1 u2 u3 : Value) :
    Two w0 (((w.setCell ⟨p1, 0, none⟩ u1).setCell ⟨p1, 1, none⟩ u2).setCell ⟨p1, 2, none⟩ u3) F G b things most L A c pq := by
  have hm := mod_set3 (Mod.refl (fun k => k = p1) w) p1 rfl u1 u2 u3
  exact ⟨h.q.keep hm (fun k hk e => hn (e ▸ hk)) (fun k e => by omega), ⟨row_set3 h.d.row hv (by decide) _ _ _, h.d.apart, fun k hk => Nat.lt_of_lt_of_le (h.d.lt k hk) hm.size⟩, hm.heap h.v hne, h.nf, h.low⟩
/-- Two pairs of queues that have nothing in common. -/
structure Four (w0 w : World) (F G F2 G2 : Nat → Prop) (b b2 : Nat) (L L2 : List (Int × Int)) (A : Option Addr) (c : Nat) (A2 : Option Addr) (c2 p q : Nat) : Prop where
  one : Two w0 w F G b 6 40 L A c p
  two : Two w0 w F2 G2 b2 3 100 L2 A2 c2 q
  ff : ∀ k, F k → ¬ F2 k
  gf : ∀ k, G k → ¬ F2 k
  fg : ∀ k, F k → ¬ G2 k
  p2 : ¬ F2 p
  q1 : ¬ F q
  ne : p ≠ q
/-- one step of the first -/
theorem Four.step1 {w0 w w' : World} {F G F2 G2 F' G' : Nat → Prop} {b b2 : Nat} {L L2 L' : List (Int × Int)} {A A2 A' : Option Addr} {c c2 c' p q : Nat} (h : Four w0 w F G F2 G2 b b2 L L2 A c A2 c2 p q)
    (hq : Fq w0 w' F' b 6 40 L') (hd : Doc w' F' G' A' c' L') (hm : Mod F w w') (hF : ∀ k, F' k → F k ∨ w.heap.size ≤ k) (hG : ∀ k, G' k → G k ∨ w.heap.size ≤ k) :
    Four w0 (((w'.setCell ⟨p, 0, none⟩ (.int .i64 6)).setCell ⟨p, 1, none⟩ (.int .i64 40)).setCell ⟨p, 2, none⟩ (.slice A' L'.length c')) F' G' F2 G2 b b2 L' L2 A' c' A2 c2 p q := by
  have hp := (Array.getElem?_eq_some_iff.1 h.one.v).1
  have hqq := (Array.getElem?_eq_some_iff.1 h.two.v).1
  have hv := hm.heap h.one.v h.one.nf
  have hn : ¬ F' p := fun hf => (hF p hf).elim h.one.nf (fun hl => by omega)
  have h2 := h.two.other hm (fun k h2 h1 => h.ff k h1 h2) (fun k hg hf => h.fg k hf hg) h.q1 h.one.q.low
  refine ⟨Two.store hq hd hv hn h.one.low, h2.far hv h.p2 (fun e => h.ne e.symm) h.one.low _ _ _, fun k hf => ?_, fun k hg => ?_, fun k hf => ?_, h.p2, fun hf => ?_, h.ne⟩
  · rcases hF k hf with hf | hl
    · exact h.ff k hf
    · exact fun h2 => by have := h.two.q.q.lt k h2; omega
  · rcases hG k hg with hg | hl
    · exact h.gf k hg
    · exact fun h2 => by have := h.two.q.q.lt k h2; omega
  · rcases hF k hf with hf | hl
    · exact h.fg k hf
    · exact fun h2 => by have := h.two.d.lt k h2; omega
  · exact (hF q hf).elim h.q1 (fun hl => by omega)
/-- one step of the second -/
theorem Four.step2 {w0 w w' : World} {F G F2 G2 F' G' : Nat → Prop} {b b2 : Nat} {L L2 L' : List (Int × Int)} {A A2 A' : Option Addr} {c c2 c' p q : Nat} (h : Four w0 w F G F2 G2 b b2 L L2 A c A2 c2 p q)
    (hq : Fq w0 w' F' b2 3 100 L') (hd : Doc w' F' G' A' c' L') (hm : Mod F2 w w') (hF : ∀ k, F' k → F2 k ∨ w.heap.size ≤ k) (hG : ∀ k, G' k → G2 k ∨ w.heap.size ≤ k) :
    Four w0 (((w'.setCell ⟨q, 0, none⟩ (.int .i64 3)).setCell ⟨q, 1, none⟩ (.int .i64 100)).setCell ⟨q, 2, none⟩ (.slice A' L'.length c')) F G F' G' b b2 L L' A c A' c' p q := by
  have hp := (Array.getElem?_eq_some_iff.1 h.one.v).1
  have hqq := (Array.getElem?_eq_some_iff.1 h.two.v).1
  have hv := hm.heap h.two.v h.two.nf
  have hn : ¬ F' q := fun hf => (hF q hf).elim h.two.nf (fun hl => by omega)
  have h1 := h.one.other hm (fun k h1 h2 => h.ff k h1 h2) (fun k hg hf => h.gf k hg hf) h.p2 h.two.q.low
  refine ⟨h1.far hv h.q1 h.ne h.two.low _ _ _, Two.store hq hd hv hn h.two.low, fun k hf h2 => ?_, fun k hg h2 => ?_, fun k hf hg => ?_, fun hf => ?_, h.q1, h.ne⟩
  · rcases hF k h2 with h2 | hl
    · exact h.ff k hf h2
    · have := h.one.q.q.lt k hf; omega
  · rcases hF k h2 with h2 | hl
    · exact h.gf k hg h2
    · have := h.one.d.lt k hg; omega
  · rcases hG k hg with hg | hl
    · exact h.fg k hf hg
    · have := h.one.q.q.lt k hf; omega
  · exact (hF p hf).elim h.p2 (fun hl => by omega)
theorem Four.past {w0 w w' : World} {F G F2 G2 : Nat → Prop} {b b2 : Nat} {L L2 : List (Int × Int)} {A A2 : Option Addr} {c c2 p q : Nat} (h : Four w0 w F G F2 G2 b b2 L L2 A c A2 c2 p q) (hb : Below w.heap.size w w') : Four w0 w' F G F2 G2 b b2 L L2 A c A2 c2 p q :=
  ⟨h.one.past hb, h.two.past hb, h.ff, h.gf, h.fg, h.p2, h.q1, h.ne⟩

set_option maxRecDepth 10000 in
set_option maxHeartbeats 4000000 in
theorem walk (w0 : World) (adr : Nat → Addr) (hS : Sent w0 adr) (v1 v2 : Value) (n1 n2 : Nat) (ops1 ops2 : List OpD) (ho1 : Ops w0 v1 n1 ops1) (ho2 : Ops w0 v2 n2 ops2) (hn1 : n1 ≤ 2932031007317) (hn2 : n2 ≤ 2932031007317) :
    Calls Tryd.prog 7 #[v1, v2] w0 fun e w' => e = .returned (.bool true) ∧ Below w0.heap.size w0 w' := by
  obtain ⟨SA1, sc1, rfl⟩ := ho1.reads.shape
  obtain ⟨SA2, sc2, rfl⟩ := ho2.reads.shape
  have HOp1 := hide ho1
  have HOp2 := hide ho2
  have HS := hide hS
  clear ho1 ho2 hS
  go_enter Tryd.func7, Tryd.ntmps7
  go_wp2_with fail
  refine (wakes_true w0 adr HS.out).mono ?_
  rintro e w1 ⟨rfl, hb1⟩
  have HB1 := hide hb1
  clear hb1
  go_wp2_with fail
  refine (new_any w1 6 40 (by decide) (by decide) (by decide)).mono ?_
  rintro e w2 ⟨b, rfl, hq, hb2⟩
  have HQ := hide (Fq.made HB1.out hq hb2)
  clear hq hb2
  go_wp2_with fail
  refine (new_any w2 3 100 (by decide) (by decide) (by decide)).mono ?_
  rintro e w3 ⟨b2, rfl, hq, hb3⟩
  have HQ2 := hide (Fq.made HQ.out.below hq hb3)
  have HQ1 := hide (HQ.out.past hb3)
  have hs23 := hb3.size
  clear hq hb3
  go_wp2_with fail
  refine (refnew_any w3 6 40 (by decide) (by decide)).mono ?_
  rintro e w4 ⟨rfl, hb4⟩
  have HQ3 := hide (HQ1.out.past hb4)
  have HQ4 := hide (HQ2.out.past hb4)
  have hs34 := hb4.size
  clear hb4
  go_upto_region 8 with fail
  have hb5 : Below w4.heap.size w4 (w4.alloc (.cells #[.int .i64 6, .int .i64 40, .slice none 0 0] 41)) := (Below.refl _ _).alloc (Nat.le_refl _) _
  have hv5 : (w4.alloc (.cells #[.int .i64 6, .int .i64 40, .slice none 0 0] 41)).heap[w4.heap.size]? = some (.cells #[.int .i64 6, .int .i64 40, .slice none 0 0] 41 (0, 0)) := heap_alloc_new w4 _
  obtain ⟨w5, hw5⟩ : ∃ w5, w4.alloc (.cells #[.int .i64 6, .int .i64 40, .slice none 0 0] 41) = w5 := ⟨_, rfl⟩
  obtain ⟨p, hp⟩ : ∃ p, w4.heap.size = p := ⟨_, rfl⟩
  rw [hw5] at hb5 hv5
  rw [hp] at hv5
  rw [hw5, hp]
  have HQ5 := hide (HQ3.out.past hb5)
  have HQ6 := hide (HQ4.out.past hb5)
  have HV5 := hide hv5
  clear hw5 hb5 hv5
  go_wp2_with fail
  refine (refnew_any w5 3 100 (by decide) (by decide)).mono ?_
  rintro e w6 ⟨rfl, hb6⟩
  have HQ7 := hide (HQ5.out.past hb6)
  have HQ8 := hide (HQ6.out.past hb6)
  have HV6 := hide ((hb6.block _ (Array.getElem?_eq_some_iff.1 HV5.out).1).trans HV5.out)
  clear hb6
  go_upto_region 9 with fail
  have hb7 : Below w6.heap.size w6 (w6.alloc (.cells #[.int .i64 3, .int .i64 100, .slice none 0 0] 41)) := (Below.refl _ _).alloc (Nat.le_refl _) _
  have hv7 : (w6.alloc (.cells #[.int .i64 3, .int .i64 100, .slice none 0 0] 41)).heap[w6.heap.size]? = some (.cells #[.int .i64 3, .int .i64 100, .slice none 0 0] 41 (0, 0)) := heap_alloc_new w6 _
  obtain ⟨w7, hw7⟩ : ∃ w7, w6.alloc (.cells #[.int .i64 3, .int .i64 100, .slice none 0 0] 41) = w7 := ⟨_, rfl⟩
  obtain ⟨q, hq⟩ : ∃ q, w6.heap.size = q := ⟨_, rfl⟩
  rw [hw7] at hb7 hv7
  rw [hq] at hv7
  rw [hw7, hq]
  have hpq : p < q := by rw [← hq]; exact (Array.getElem?_eq_some_iff.1 HV6.out).1
  have HF4 : Hid (Four w0 w7 (fun j => w1.heap.size ≤ j ∧ j < w2.heap.size) (fun _ => False) (fun j => w2.heap.size ≤ j ∧ j < w3.heap.size) (fun _ => False) b b2 [] [] none 0 none 0 p q) :=
    hide ⟨⟨HQ7.out.past hb7, ⟨Row.nil _ _ _ _, fun _ h => h.elim, fun _ h => h.elim⟩, (hb7.block _ (Array.getElem?_eq_some_iff.1 HV6.out).1).trans HV6.out, fun h => by have := h.2; omega, by have := HB1.out.size; have := HQ1.out.below.size; omega⟩,
      ⟨HQ8.out.past hb7, ⟨Row.nil _ _ _ _, fun _ h => h.elim, fun _ h => h.elim⟩, hv7, fun h => by have := h.2; omega, by have := HB1.out.size; have := HQ1.out.below.size; omega⟩,
      fun k h1 h2 => by have := h1.2; have := h2.1; omega, fun _ h => h.elim, fun _ _ h => h, fun h => by have := h.2; omega, fun h => by have := h.2; omega, by omega⟩
  clear hw7 hb7 hv7 HQ HQ1 HQ2 HQ3 HQ4 HQ5 HQ6 HQ7 HQ8 HV5 HV6 HB1
  go_wp2_with fail
  go_loopw [13] (fun v13 wr => ∃ i : Nat, v13 = .int .i64 i ∧ (i ≤ n1 ∨ i ≤ n2) ∧ Hid (∃ F G F2 G2 L L2 A c A2 c2, L.length ≤ i ∧ L2.length ≤ i ∧ Four w0 wr F G F2 G2 b b2 L L2 A c A2 c2 p q)) (fun v13 _ => n1 + n2 - (intOf v13).toNat)
  case atStart => exact ⟨0, rfl, .inl (Nat.zero_le _), hide ⟨_, _, _, _, [], [], none, 0, none, 0, Nat.le_refl _, Nat.le_refl _, HF4.out⟩⟩
  case round =>
    clear HF4
    obtain ⟨i, rfl, hi, hst⟩ := hrel
    by_cases hlt : i < n1 ∨ i < n2
    · have hlen : i < n1 + n2 := by omega
      have hi1 : i ≤ 2932031007317 := by omega
      have hcs : i < n1 ∨ (¬ i < n1 ∧ i < n2) := by omega
      clear hlt
      go_upto_region 10 with fail
      go_cut [56] from 47 to 91 (fun s56 wc => s56 = .bool true ∧ wr = wc)
      case first =>
        rcases hcs with h1 | ⟨h1, h2⟩
        all_goals
          go_wp2
          go_meet
          case rel => exact ⟨by first | rfl | simp [*], rfl⟩
      case rest =>
        obtain ⟨rfl, rfl⟩ := hcut
        go_upto_if 62 with fail
        go_cut [14] from 47 to 91 (fun s14 wc => s14 = .bool true ∧ Hid (∃ F G F2 G2 L L2 A c A2 c2, L.length ≤ i + 1 ∧ L2.length ≤ i ∧ Four w0 wc F G F2 G2 b b2 L L2 A c A2 c2 p q))
        case first => as_aux_lemma =>
          obtain ⟨F, G, F2, G2, L, L2, A, c, A2, c2, hL1, hL2, hf4⟩ := hst.out
          have HF4 := hide hf4
          clear hst hf4
          by_cases hlt1 : i < n1
          · obtain ⟨o, hoi⟩ : ∃ o, ops1[i]? = some o := ⟨_, List.getElem?_eq_getElem (by rw [HOp1.out.length]; exact hlt1)⟩
            have hb0 := HF4.out.one.q.below
            have hrd : Reads wr 4 (.slice SA1 n1 sc1) n1 (ops1.flatMap opCell) := Reads.kept HOp1.out.reads (fun a _ hc => (hb0.cell (World.block_lt_of_cell? w0 a hc)).trans hc)
            obtain ⟨ad, hA, s0, s1, s2, s3⟩ := ops_cells hrd hoi
            have hlt0 : (ad.add (i * 4)).block < w0.heap.size := by
              obtain ⟨ad', hA', s0', _⟩ := ops_cells HOp1.out.reads hoi
              rw [hA] at hA'
              injection hA' with hA'
              subst hA'
              exact World.block_lt_of_cell? _ _ s0'
            have hAA := hA
            subst hA
            have HO := hide (HOp1.out.each o (List.mem_of_getElem? hoi))
            have HB0 := hide hb0
            obtain ⟨c0, c1, c2', _, _, _⟩ := box3 HF4.out.one.v
            clear hrd hoi hb0 hAA
            go_upto_region 14 with fail
            have HFd := hide (HF4.out.past (w' := wr.drew) ⟨rfl, rfl, rfl, Nat.le_refl _, fun _ _ => rfl⟩)
            have hSd : wr.drew.cell? (ad.add (i * 4)) = some (.int .i64 o.kd) ∧ wr.drew.cell? ⟨(ad.add (i * 4)).block, (ad.add (i * 4)).off + 1, none⟩ = some (.int .i64 o.v) ∧ wr.drew.cell? ⟨(ad.add (i * 4)).block, (ad.add (i * 4)).off + 2, none⟩ = some (.int .i64 o.wt) ∧ wr.drew.cell? ⟨(ad.add (i * 4)).block, (ad.add (i * 4)).off + 3, none⟩ = some (.slice o.O o.m o.co) := ⟨s0, s1, s2, s3⟩
            refine wp_region_held_n (n := 12) (l := #[false, false, false, false, false, false, false, false, false, false, false, false]) (S := (fun w' => w'.cell? (ad.add (i * 4)) = some (.int .i64 o.kd) ∧ w'.cell? ⟨(ad.add (i * 4)).block, (ad.add (i * 4)).off + 1, none⟩ = some (.int .i64 o.v) ∧ w'.cell? ⟨(ad.add (i * 4)).block, (ad.add (i * 4)).off + 2, none⟩ = some (.int .i64 o.wt) ∧ w'.cell? ⟨(ad.add (i * 4)).block, (ad.add (i * 4)).off + 3, none⟩ = some (.slice o.O o.m o.co))) rfl rfl (by kernel_rfl) hSd ?_
            refine wpAnyH_yields (i := 0) (oi := ?_) (v := ?_) ?_ (by kernel_rfl) (by kernel_rfl) (by kernel_rfl) (by assumption) ?_ ?_ ?_ ?_
            rotate_left 2
            · (simp only [List.getElem?_toArray, List.getElem?_cons_zero] <;> exact rfl)
            · rfl
            · (intro w' hSw; obtain ⟨hq1, hq2, hq3, hq4⟩ := hSw; go_simp <;> with_reducible rfl)
            · exact fun _ _ _ h => h
            simp only [Act.put, List.setIfInBounds_toArray, List.set]
            refine wpAnyH_yields (i := 2) (oi := ?_) (v := ?_) ?_ (by kernel_rfl) (by kernel_rfl) (by kernel_rfl) (by assumption) ?_ ?_ ?_ ?_
            rotate_left 2
            · (simp only [List.getElem?_toArray, List.getElem?_cons_succ, List.getElem?_cons_zero] <;> exact rfl)
            · rfl
            · (intro w' hSw; obtain ⟨hq1, hq2, hq3, hq4⟩ := hSw; go_simp <;> with_reducible rfl)
            · exact fun _ _ _ h => h
            simp only [Act.put, List.setIfInBounds_toArray, List.set]
            refine wpAnyH_yields (i := 3) (oi := ?_) (v := ?_) ?_ (by kernel_rfl) (by kernel_rfl) (by kernel_rfl) (by assumption) ?_ ?_ ?_ ?_
            rotate_left 2
            · (simp only [List.getElem?_toArray, List.getElem?_cons_succ, List.getElem?_cons_zero] <;> exact rfl)
            · rfl
            · (intro w' hSw; obtain ⟨hq1, hq2, hq3, hq4⟩ := hSw; go_simp <;> with_reducible rfl)
            · exact fun _ _ _ h => h
            simp only [Act.put, List.setIfInBounds_toArray, List.set]
            refine wpAnyH_yields (i := 4) (oi := ?_) (v := ?_) ?_ (by kernel_rfl) (by kernel_rfl) (by kernel_rfl) (by assumption) ?_ ?_ ?_ ?_
            rotate_left 2
            · (simp only [List.getElem?_toArray, List.getElem?_cons_succ, List.getElem?_cons_zero] <;> exact rfl)
            · rfl
            · (intro w' hSw; obtain ⟨hq1, hq2, hq3, hq4⟩ := hSw; go_simp <;> with_reducible rfl)
            · exact fun _ _ _ h => h
            simp only [Act.put, List.setIfInBounds_toArray, List.set]
            refine wpAnyH_yields (i := 5) (oi := ?_) (v := ?_) ?_ (by kernel_rfl) (by kernel_rfl) (by kernel_rfl) (by assumption) ?_ ?_ ?_ ?_
            rotate_left 2
            · (simp only [List.getElem?_toArray, List.getElem?_cons_succ, List.getElem?_cons_zero] <;> exact rfl)
            · rfl
            · (intro w' hSw; obtain ⟨hq1, hq2, hq3, hq4⟩ := hSw; go_simp <;> with_reducible rfl)
            · exact fun _ _ _ h => h
            simp only [Act.put, List.setIfInBounds_toArray, List.set]
            refine wpAnyH_ready (rs := [1]) (by kernel_rfl) (by simp) (AllReadyH.cons (o := ?_) ?_ (fun K hK => ?_) AllReadyH.nil)
            rotate_left 1
            · (simp only [List.getElem?_toArray, List.getElem?_cons_succ, List.getElem?_cons_zero] <;> exact rfl)
            go_simp
            refine hK.out _ _ (by assumption) (fun hHeld => ?_)
            clear hK K
            try simp only [List.setIfInBounds_toArray, List.set_cons_zero, List.set_cons_succ]
            refine wpAnyH_ready (rs := [6]) (by kernel_rfl) (by simp) (AllReadyH.cons (o := ?_) ?_ (fun K hK => ?_) AllReadyH.nil)
            rotate_left 1
            · (simp only [List.getElem?_toArray, List.getElem?_cons_succ, List.getElem?_cons_zero] <;> exact rfl)
            go_simp
            go_at_call 17
            refine (step_any w0 wr.drew adr HS.out F G b 6 40 L HFd.out.one.q A c HFd.out.one.d (by omega) o.kd o.v o.wt o.O o.m o.co o.W HO.out).mono ?_
            rintro e w9 ⟨L', A', c', F', G', rfl, hl9, hq9, hd9, hm9, hF9, hG9⟩
            have hv9 := hm9.heap HFd.out.one.v HFd.out.one.nf
            have hcell : ∀ a v, wr.cell? a = some v → a.block < w0.heap.size → w9.cell? a = some v := fun a v hc ha => (World.cell?_of_block (w := wr) ((hq9.below.block _ ha).trans (HB0.out.block _ ha).symm)).trans hc
            have z0 := hcell _ _ s0 hlt0
            have z1 := hcell _ _ s1 hlt0
            have z2 := hcell _ _ s2 hlt0
            have z3 := hcell _ _ s3 hlt0
            have HP9 := hide (show _ ∧ _ ∧ _ ∧ _ ∧ _ ∧ _ from ⟨hl9, hq9, hd9, hm9, hF9, hG9⟩)
            have hna : (ad.add (i * 4)).block ≠ p := by have := HF4.out.one.low; omega
            clear c0 c1 c2' s0 s1 s2 s3 hcell hl9 hq9 hd9 hm9 hF9 hG9
            obtain ⟨c0, c1, c2', f0, f1, f2⟩ := box3 hv9
            clear hv9
            refine hK.out _ _ (⟨z0, z1, z2, z3⟩) (fun hHeld => ?_)
            clear hK K
            try simp only [List.setIfInBounds_toArray, List.set_cons_zero, List.set_cons_succ]
            refine wpAnyH_yields (i := 7) (oi := ?_) (v := ?_) ?_ (by kernel_rfl) (by kernel_rfl) (by kernel_rfl) (by assumption) ?_ ?_ ?_ ?_
            rotate_left 2
            · (simp only [List.getElem?_toArray, List.getElem?_cons_succ, List.getElem?_cons_zero] <;> exact rfl)
            · rfl
            · (intro w' hSw; obtain ⟨hq1, hq2, hq3, hq4⟩ := hSw; go_simp <;> with_reducible rfl)
            · exact fun _ _ _ h => h
            simp only [Act.put, List.setIfInBounds_toArray, List.set]
            refine wpAnyH_yields (i := 8) (oi := ?_) (v := ?_) ?_ (by kernel_rfl) (by kernel_rfl) (by kernel_rfl) (by assumption) ?_ ?_ ?_ ?_
            rotate_left 2
            · (simp only [List.getElem?_toArray, List.getElem?_cons_succ, List.getElem?_cons_zero] <;> exact rfl)
            · rfl
            · (intro w' hSw; obtain ⟨hq1, hq2, hq3, hq4⟩ := hSw; go_simp <;> with_reducible rfl)
            · exact fun _ _ _ h => h
            simp only [Act.put, List.setIfInBounds_toArray, List.set]
            refine wpAnyH_yields (i := 9) (oi := ?_) (v := ?_) ?_ (by kernel_rfl) (by kernel_rfl) (by kernel_rfl) (by assumption) ?_ ?_ ?_ ?_
            rotate_left 2
            · (simp only [List.getElem?_toArray, List.getElem?_cons_succ, List.getElem?_cons_zero] <;> exact rfl)
            · rfl
            · (intro w' hSw; obtain ⟨hq1, hq2, hq3, hq4⟩ := hSw; go_simp <;> with_reducible rfl)
            · exact fun _ _ _ h => h
            simp only [Act.put, List.setIfInBounds_toArray, List.set]
            refine wpAnyH_ready (rs := [10]) (by kernel_rfl) (by simp) (AllReadyH.cons (o := ?_) ?_ (fun K hK => ?_) AllReadyH.nil)
            rotate_left 1
            · (simp only [List.getElem?_toArray, List.getElem?_cons_succ, List.getElem?_cons_zero] <;> exact rfl)
            go_simp
            refine hK.out _ _ (⟨cell_far z0 hna, cell_far z1 hna, cell_far z2 hna, cell_far z3 hna⟩) (fun hHeld => ?_)
            clear hK K
            try simp only [List.setIfInBounds_toArray, List.set_cons_zero, List.set_cons_succ]
            refine wpAnyH_yields (i := 11) (oi := ?_) (v := ?_) ?_ (by kernel_rfl) (by kernel_rfl) (by kernel_rfl) (by assumption) ?_ ?_ ?_ ?_
            rotate_left 2
            · (simp only [List.getElem?_toArray, List.getElem?_cons_succ, List.getElem?_cons_zero] <;> exact rfl)
            · rfl
            · (intro w' hSw; obtain ⟨hq1, hq2, hq3, hq4⟩ := hSw; go_simp <;> with_reducible rfl)
            · exact fun _ _ _ h => h
            simp only [Act.put, List.setIfInBounds_toArray, List.set]
            refine wpAnyH_done (by kernel_rfl) ?_ _
            clear hSd z0 z1 z2 z3
            go_wp2
            go_meet
            have hfin := HFd.out.step1 HP9.out.2.1 HP9.out.2.2.1 HP9.out.2.2.2.1 HP9.out.2.2.2.2.1 HP9.out.2.2.2.2.2
            have r5 := HP9.out.1
            case rel => exact ⟨rfl, F', G', F2, G2, L', L2, A', c', A2, c2, by omega, by omega, hfin⟩
          · go_wp2
            go_meet
            case rel => exact ⟨rfl, F, G, F2, G2, L, L2, A, c, A2, c2, by omega, by omega, HF4.out⟩
        case rest => as_aux_lemma =>
          obtain ⟨rfl, hst⟩ := hcut
          go_upto_if 79 with fail
          go_cut [14] from 47 to 91 (fun s14 wd => s14 = .bool true ∧ Hid (∃ F G F2 G2 L L2 A c A2 c2, L.length ≤ i + 1 ∧ L2.length ≤ i + 1 ∧ Four w0 wd F G F2 G2 b b2 L L2 A c A2 c2 p q))
          case first => as_aux_lemma =>
            obtain ⟨F, G, F2, G2, L, L2, A, c, A2, c2, hL1, hL2, hf4⟩ := hst.out
            have HF4 := hide hf4
            clear hst hf4
            by_cases hlt2 : i < n2
            · obtain ⟨o, hoi⟩ : ∃ o, ops2[i]? = some o := ⟨_, List.getElem?_eq_getElem (by rw [HOp2.out.length]; exact hlt2)⟩
              have hb0 := HF4.out.one.q.below
              have hrd : Reads wc 4 (.slice SA2 n2 sc2) n2 (ops2.flatMap opCell) := Reads.kept HOp2.out.reads (fun a _ hc => (hb0.cell (World.block_lt_of_cell? w0 a hc)).trans hc)
              obtain ⟨ad, hA, s0, s1, s2, s3⟩ := ops_cells hrd hoi
              have hlt0 : (ad.add (i * 4)).block < w0.heap.size := by
                obtain ⟨ad', hA', s0', _⟩ := ops_cells HOp2.out.reads hoi
                rw [hA] at hA'
                injection hA' with hA'
                subst hA'
                exact World.block_lt_of_cell? _ _ s0'
              have hAA := hA
              subst hA
              have HO := hide (HOp2.out.each o (List.mem_of_getElem? hoi))
              have HB0 := hide hb0
              obtain ⟨c0, c1, c2', _, _, _⟩ := box3 HF4.out.two.v
              clear hrd hoi hb0 hAA
              go_upto_region 16 with fail
              have HFd := hide (HF4.out.past (w' := wc.drew) ⟨rfl, rfl, rfl, Nat.le_refl _, fun _ _ => rfl⟩)
              have hSd : wc.drew.cell? (ad.add (i * 4)) = some (.int .i64 o.kd) ∧ wc.drew.cell? ⟨(ad.add (i * 4)).block, (ad.add (i * 4)).off + 1, none⟩ = some (.int .i64 o.v) ∧ wc.drew.cell? ⟨(ad.add (i * 4)).block, (ad.add (i * 4)).off + 2, none⟩ = some (.int .i64 o.wt) ∧ wc.drew.cell? ⟨(ad.add (i * 4)).block, (ad.add (i * 4)).off + 3, none⟩ = some (.slice o.O o.m o.co) := ⟨s0, s1, s2, s3⟩
              refine wp_region_held_n (n := 12) (l := #[false, false, false, false, false, false, false, false, false, false, false, false]) (S := (fun w' => w'.cell? (ad.add (i * 4)) = some (.int .i64 o.kd) ∧ w'.cell? ⟨(ad.add (i * 4)).block, (ad.add (i * 4)).off + 1, none⟩ = some (.int .i64 o.v) ∧ w'.cell? ⟨(ad.add (i * 4)).block, (ad.add (i * 4)).off + 2, none⟩ = some (.int .i64 o.wt) ∧ w'.cell? ⟨(ad.add (i * 4)).block, (ad.add (i * 4)).off + 3, none⟩ = some (.slice o.O o.m o.co))) rfl rfl (by kernel_rfl) hSd ?_
              refine wpAnyH_yields (i := 0) (oi := ?_) (v := ?_) ?_ (by kernel_rfl) (by kernel_rfl) (by kernel_rfl) (by assumption) ?_ ?_ ?_ ?_
              rotate_left 2
              · (simp only [List.getElem?_toArray, List.getElem?_cons_zero] <;> exact rfl)
              · rfl
              · (intro w' hSw; obtain ⟨hq1, hq2, hq3, hq4⟩ := hSw; go_simp <;> with_reducible rfl)
              · exact fun _ _ _ h => h
              simp only [Act.put, List.setIfInBounds_toArray, List.set]
              refine wpAnyH_yields (i := 2) (oi := ?_) (v := ?_) ?_ (by kernel_rfl) (by kernel_rfl) (by kernel_rfl) (by assumption) ?_ ?_ ?_ ?_
              rotate_left 2
              · (simp only [List.getElem?_toArray, List.getElem?_cons_succ, List.getElem?_cons_zero] <;> exact rfl)
              · rfl
              · (intro w' hSw; obtain ⟨hq1, hq2, hq3, hq4⟩ := hSw; go_simp <;> with_reducible rfl)
              · exact fun _ _ _ h => h
              simp only [Act.put, List.setIfInBounds_toArray, List.set]
              refine wpAnyH_yields (i := 3) (oi := ?_) (v := ?_) ?_ (by kernel_rfl) (by kernel_rfl) (by kernel_rfl) (by assumption) ?_ ?_ ?_ ?_
              rotate_left 2
              · (simp only [List.getElem?_toArray, List.getElem?_cons_succ, List.getElem?_cons_zero] <;> exact rfl)
              · rfl
              · (intro w' hSw; obtain ⟨hq1, hq2, hq3, hq4⟩ := hSw; go_simp <;> with_reducible rfl)
              · exact fun _ _ _ h => h
              simp only [Act.put, List.setIfInBounds_toArray, List.set]
              refine wpAnyH_yields (i := 4) (oi := ?_) (v := ?_) ?_ (by kernel_rfl) (by kernel_rfl) (by kernel_rfl) (by assumption) ?_ ?_ ?_ ?_
              rotate_left 2
              · (simp only [List.getElem?_toArray, List.getElem?_cons_succ, List.getElem?_cons_zero] <;> exact rfl)
              · rfl
              · (intro w' hSw; obtain ⟨hq1, hq2, hq3, hq4⟩ := hSw; go_simp <;> with_reducible rfl)
              · exact fun _ _ _ h => h
              simp only [Act.put, List.setIfInBounds_toArray, List.set]
              refine wpAnyH_yields (i := 5) (oi := ?_) (v := ?_) ?_ (by kernel_rfl) (by kernel_rfl) (by kernel_rfl) (by assumption) ?_ ?_ ?_ ?_
              rotate_left 2
              · (simp only [List.getElem?_toArray, List.getElem?_cons_succ, List.getElem?_cons_zero] <;> exact rfl)
              · rfl
              · (intro w' hSw; obtain ⟨hq1, hq2, hq3, hq4⟩ := hSw; go_simp <;> with_reducible rfl)
              · exact fun _ _ _ h => h
              simp only [Act.put, List.setIfInBounds_toArray, List.set]
              refine wpAnyH_ready (rs := [1]) (by kernel_rfl) (by simp) (AllReadyH.cons (o := ?_) ?_ (fun K hK => ?_) AllReadyH.nil)
              rotate_left 1
              · (simp only [List.getElem?_toArray, List.getElem?_cons_succ, List.getElem?_cons_zero] <;> exact rfl)
              go_simp
              refine hK.out _ _ (by assumption) (fun hHeld => ?_)
              clear hK K
              try simp only [List.setIfInBounds_toArray, List.set_cons_zero, List.set_cons_succ]
              refine wpAnyH_ready (rs := [6]) (by kernel_rfl) (by simp) (AllReadyH.cons (o := ?_) ?_ (fun K hK => ?_) AllReadyH.nil)
              rotate_left 1
              · (simp only [List.getElem?_toArray, List.getElem?_cons_succ, List.getElem?_cons_zero] <;> exact rfl)
              go_simp
              go_at_call 17
              refine (step_any w0 wc.drew adr HS.out F2 G2 b2 3 100 L2 HFd.out.two.q A2 c2 HFd.out.two.d (by omega) o.kd o.v o.wt o.O o.m o.co o.W HO.out).mono ?_
              rintro e w9 ⟨L', A', c', F', G', rfl, hl9, hq9, hd9, hm9, hF9, hG9⟩
              have hv9 := hm9.heap HFd.out.two.v HFd.out.two.nf
              have hcell : ∀ a v, wc.cell? a = some v → a.block < w0.heap.size → w9.cell? a = some v := fun a v hc ha => (World.cell?_of_block (w := wc) ((hq9.below.block _ ha).trans (HB0.out.block _ ha).symm)).trans hc
              have z0 := hcell _ _ s0 hlt0
              have z1 := hcell _ _ s1 hlt0
              have z2 := hcell _ _ s2 hlt0
              have z3 := hcell _ _ s3 hlt0
              have HP9 := hide (show _ ∧ _ ∧ _ ∧ _ ∧ _ ∧ _ from ⟨hl9, hq9, hd9, hm9, hF9, hG9⟩)
              have hna : (ad.add (i * 4)).block ≠ q := by have := HF4.out.two.low; omega
              clear c0 c1 c2' s0 s1 s2 s3 hcell hl9 hq9 hd9 hm9 hF9 hG9
              obtain ⟨c0, c1, c2', f0, f1, f2⟩ := box3 hv9
              clear hv9
              refine hK.out _ _ (⟨z0, z1, z2, z3⟩) (fun hHeld => ?_)
              clear hK K
              try simp only [List.setIfInBounds_toArray, List.set_cons_zero, List.set_cons_succ]
              refine wpAnyH_yields (i := 7) (oi := ?_) (v := ?_) ?_ (by kernel_rfl) (by kernel_rfl) (by kernel_rfl) (by assumption) ?_ ?_ ?_ ?_
              rotate_left 2
              · (simp only [List.getElem?_toArray, List.getElem?_cons_succ, List.getElem?_cons_zero] <;> exact rfl)
              · rfl
              · (intro w' hSw; obtain ⟨hq1, hq2, hq3, hq4⟩ := hSw; go_simp <;> with_reducible rfl)
              · exact fun _ _ _ h => h
              simp only [Act.put, List.setIfInBounds_toArray, List.set]
              refine wpAnyH_yields (i := 8) (oi := ?_) (v := ?_) ?_ (by kernel_rfl) (by kernel_rfl) (by kernel_rfl) (by assumption) ?_ ?_ ?_ ?_
              rotate_left 2
              · (simp only [List.getElem?_toArray, List.getElem?_cons_succ, List.getElem?_cons_zero] <;> exact rfl)
              · rfl
              · (intro w' hSw; obtain ⟨hq1, hq2, hq3, hq4⟩ := hSw; go_simp <;> with_reducible rfl)
              · exact fun _ _ _ h => h
              simp only [Act.put, List.setIfInBounds_toArray, List.set]
              refine wpAnyH_yields (i := 9) (oi := ?_) (v := ?_) ?_ (by kernel_rfl) (by kernel_rfl) (by kernel_rfl) (by assumption) ?_ ?_ ?_ ?_
              rotate_left 2
              · (simp only [List.getElem?_toArray, List.getElem?_cons_succ, List.getElem?_cons_zero] <;> exact rfl)
              · rfl
              · (intro w' hSw; obtain ⟨hq1, hq2, hq3, hq4⟩ := hSw; go_simp <;> with_reducible rfl)
              · exact fun _ _ _ h => h
              simp only [Act.put, List.setIfInBounds_toArray, List.set]
              refine wpAnyH_ready (rs := [10]) (by kernel_rfl) (by simp) (AllReadyH.cons (o := ?_) ?_ (fun K hK => ?_) AllReadyH.nil)
              rotate_left 1
              · (simp only [List.getElem?_toArray, List.getElem?_cons_succ, List.getElem?_cons_zero] <;> exact rfl)
              go_simp
              refine hK.out _ _ (⟨cell_far z0 hna, cell_far z1 hna, cell_far z2 hna, cell_far z3 hna⟩) (fun hHeld => ?_)
              clear hK K
              try simp only [List.setIfInBounds_toArray, List.set_cons_zero, List.set_cons_succ]
              refine wpAnyH_yields (i := 11) (oi := ?_) (v := ?_) ?_ (by kernel_rfl) (by kernel_rfl) (by kernel_rfl) (by assumption) ?_ ?_ ?_ ?_
              rotate_left 2
              · (simp only [List.getElem?_toArray, List.getElem?_cons_succ, List.getElem?_cons_zero] <;> exact rfl)
              · rfl
              · (intro w' hSw; obtain ⟨hq1, hq2, hq3, hq4⟩ := hSw; go_simp <;> with_reducible rfl)
              · exact fun _ _ _ h => h
              simp only [Act.put, List.setIfInBounds_toArray, List.set]
              refine wpAnyH_done (by kernel_rfl) ?_ _
              clear hSd z0 z1 z2 z3
              go_wp2
              go_meet
              have hfin := HFd.out.step2 HP9.out.2.1 HP9.out.2.2.1 HP9.out.2.2.2.1 HP9.out.2.2.2.2.1 HP9.out.2.2.2.2.2
              have r5 := HP9.out.1
              case rel => exact ⟨rfl, F, G, F', G', L, L', A, c, A', c', by omega, by omega, hfin⟩
            · go_wp2
              go_meet
              case rel => exact ⟨rfl, F, G, F2, G2, L, L2, A, c, A2, c2, by omega, by omega, HF4.out⟩
          case rest => as_aux_lemma =>
            obtain ⟨rfl, hst⟩ := hcut
            go_wp2
            go_roundw
            case rel => exact ⟨i + 1, by go_num, by omega, hst⟩
            case measure => simp [intOf]; omega
    · have h1 : ¬ i < n1 := by omega
      have h2 : ¬ i < n2 := by omega
      obtain ⟨F, G, F2, G2, L, L2, A, c, A2, c2, hL1, hL2, hf4⟩ := hst.out
      have HF4 := hide hf4
      obtain ⟨c0, c1, c2', _, _, _⟩ := box3 hf4.one.v
      obtain ⟨d0, d1, d2', _, _, _⟩ := box3 hf4.two.v
      clear hst hf4 hlt
      go_wp2_with fail
      refine (walked_any wr F b 6 40 L HF4.out.one.q.q 6 40 A L.length c HF4.out.one.d.row.reads (by omega)).mono ?_
      rintro e w8 ⟨rfl, hb8⟩
      have HF8 := hide (HF4.out.past hb8)
      clear c0 c1 c2' d0 d1 d2' hb8
      obtain ⟨d0, d1, d2', _, _, _⟩ := box3 HF8.out.two.v
      go_wp2_with fail
      refine (walked_any w8 F2 b2 3 100 L2 HF8.out.two.q.q 3 100 A2 L2.length c2 HF8.out.two.d.row.reads (by omega)).mono ?_
      rintro e w9 ⟨rfl, hb9⟩
      have HF9 := hide (HF8.out.past hb9)
      clear d0 d1 d2' hb9
      go_wp2
      go_ret
      exact ⟨rfl, HF9.out.one.q.below⟩
end Go.Proofs.YtipbaffhlekpfaaDoor.fifoApart
