/-
  FifoPlays: for every room and script the law returns true: every call on a queue of numbers, in every order.
-/
import Derived.Test.YtipbaffhlekpfaaDoorFifOp
namespace Go.Proofs.YtipbaffhlekpfaaDoor.fifoPlays
open Go Go.RowKit Go.Cu Go.Proofs.YtipbaffhlekpfaaDoor Go.Proofs.YtipbaffhlekpfaaDoor.errs

/-- The two queues, and the variable that holds the document's. -/
structure Two (w0 w : World) (F G : Nat → Prop) (b : Nat) (things most : Int) (L : List (Int × Int)) (A : Option Addr) (c pq : Nat) : Prop where
  q : Fq w0 w F b things most L
  d : Doc w F G A c L
  v : w.heap[pq]? = some (.cells #[.int .i64 things, .int .i64 most, .slice A L.length c] 41 (0, 0))
  nf : ¬ F pq
  low : w0.heap.size ≤ pq

theorem Two.past {w0 w w' : World} {F G : Nat → Prop} {b : Nat} {things most : Int} {L : List (Int × Int)} {A : Option Addr} {c pq : Nat} (h : Two w0 w F G b things most L A c pq) (hb : Below w.heap.size w w') : Two w0 w' F G b things most L A c pq :=
  ⟨h.q.past hb, h.d.below hb, (hb.block _ (Array.getElem?_eq_some_iff.1 h.v).1).trans h.v, h.nf, h.low⟩
theorem cell_new {w : World} {o : Obj} {a : Addr} {v : Value} (h : w.cell? a = some v) : (w.alloc o).cell? a = some v :=
  (((Below.refl w.heap.size w).alloc (Nat.le_refl _) o).cell (World.block_lt_of_cell? w a h)).trans h
theorem cell_newset {w : World} {o : Obj} {a : Addr} {v x y z : Value} (h : w.cell? a = some v) : ((((w.alloc o).setCell ⟨w.heap.size, 0, none⟩ x).setCell ⟨w.heap.size, 1, none⟩ y).setCell ⟨w.heap.size, 2, none⟩ z).cell? a = some v :=
  ((below_set3 ((Below.refl w.heap.size w).alloc (Nat.le_refl _) o) (Nat.le_refl _) x y z).cell (World.block_lt_of_cell? w a h)).trans h
theorem cell_far {w : World} {q : Nat} {a : Addr} {v x y z : Value} (h : w.cell? a = some v) (hne : a.block ≠ q) : (((w.setCell ⟨q, 0, none⟩ x).setCell ⟨q, 1, none⟩ y).setCell ⟨q, 2, none⟩ z).cell? a = some v := by
  refine (World.cell?_of_block (w := w) ?_).trans h
  rw [Below.heap_setCell _ _ _ _ hne, Below.heap_setCell _ _ _ _ hne, Below.heap_setCell _ _ _ _ hne]
theorem ops_cells {w : World} {A : Option Addr} {n c : Nat} {ops : List OpD} (hr : Reads w 4 (.slice A n c) n (ops.flatMap opCell)) {i : Nat} {o : OpD} (ho : ops[i]? = some o) :
    ∃ ad, A = some ad ∧ w.cell? (ad.add (i * 4)) = some (.int .i64 o.kd) ∧ w.cell? ⟨(ad.add (i * 4)).block, (ad.add (i * 4)).off + 1, none⟩ = some (.int .i64 o.v) ∧ w.cell? ⟨(ad.add (i * 4)).block, (ad.add (i * 4)).off + 2, none⟩ = some (.int .i64 o.wt) ∧
      w.cell? ⟨(ad.add (i * 4)).block, (ad.add (i * 4)).off + 3, none⟩ = some (.slice o.O o.m o.co) := by
  have hi : i < ops.length := (List.getElem?_eq_some_iff.1 ho).1
  obtain ⟨h1, A', c', he, _, h3⟩ := hr
  rw [ops_length] at h1
  injection he with he _ _
  rcases h3 with h3 | ⟨ad, hA, h4⟩
  · omega
  · have e : ∀ k, k ≠ 0 → ad.add (i * 4 + k) = ⟨(ad.add (i * 4)).block, (ad.add (i * 4)).off + k, none⟩ := fun k hk => by
      unfold Addr.add
      by_cases h : i * 4 = 0 <;> simp [h, hk, Nat.add_assoc]
    refine ⟨ad, by rw [he, hA], ?_, ?_, ?_, ?_⟩
    · exact h4 _ _ (ops_at ho 0 _ rfl)
    · rw [← e 1 (by decide)]; exact h4 _ _ (ops_at ho 1 _ rfl)
    · rw [← e 2 (by decide)]; exact h4 _ _ (ops_at ho 2 _ rfl)
    · rw [← e 3 (by decide)]; exact h4 _ _ (ops_at ho 3 _ rfl)
set_option maxRecDepth 10000 in
set_option maxHeartbeats 4000000 in
theorem walk (w : World) (adr : Nat → Addr) (hS : Sent w adr) (things most : Int) (hmst : most ≤ 9223372036854775807) (sv : Value) (n : Nat) (ops : List OpD) (ho : Ops w sv n ops) (hn : n ≤ 2932031007317) :
    Calls Tryd.prog 4 #[.agg #[.int .i64 things, .int .i64 most], sv] w fun e w' => e = .returned (.bool true) ∧ Below w.heap.size w w' := by
  obtain ⟨SA, sc, rfl⟩ := ho.reads.shape
  have hal : Below w.heap.size w (w.alloc (.cells #[.int .i64 things, .int .i64 most] 23)) := (Below.refl _ _).alloc (Nat.le_refl _) _
  obtain ⟨w0, hw0⟩ : ∃ w0, w.alloc (.cells #[.int .i64 things, .int .i64 most] 23) = w0 := ⟨_, rfl⟩
  obtain ⟨p0, hp0⟩ : ∃ p0, w.heap.size = p0 := ⟨_, rfl⟩
  have hc0 : w0.cell? ⟨p0, 0, none⟩ = some (.int .i64 things) := by rw [← hw0, ← hp0]; simp
  have hc1 : w0.cell? ⟨p0, 1, none⟩ = some (.int .i64 most) := by rw [← hw0, ← hp0]; simp
  have HAl : Hid (Below w.heap.size w w0) := by rw [← hw0]; exact hide hal
  have HOp : Hid (Ops w0 (.slice SA n sc) n ops) := hide (ho.below HAl.out)
  have HS : Hid (Sent w0 adr) := hide (hS.below HAl.out)
  have HC0 := hide hc0
  have HC1 := hide hc1
  clear ho hal hS hc0 hc1
  go_enter Tryd.func4, Tryd.ntmps4
  go_wp2_with fail
  refine (wakes_true w0 adr HS.out).mono ?_
  rintro e w1 ⟨rfl, hb1⟩
  have HB1 := hide hb1
  have a0 := (hb1.cell (World.block_lt_of_cell? w0 _ HC0.out)).trans HC0.out
  have a1 := (hb1.cell (World.block_lt_of_cell? w0 _ HC1.out)).trans HC1.out
  clear hb1
  by_cases hbad : things < 0 ∨ most < 0
  · have hE := (HS.out.below HB1.out).cell 2 (by decide) (by decide)
    have HBad := hide hbad
    clear hbad
    go_wp2_with fail
    refine (new_bad w1 things most HBad.out _ hE).mono ?_
    rintro e w2 ⟨rfl, hb2⟩
    have HB2 := hide (HB1.out.trans (hb2.mono HB1.out.size))
    have b0 := (hb2.cell (World.block_lt_of_cell? w1 _ a0)).trans a0
    have b1 := (hb2.cell (World.block_lt_of_cell? w1 _ a1)).trans a1
    clear hb2 hE a0 a1
    go_wp2_with fail
    refine (refnew_bad w2 things most HBad.out).mono ?_
    rintro e w3 ⟨rfl, hb3⟩
    have HB3 := hide (HB2.out.trans (hb3.mono HB2.out.size))
    clear hb3 b0 b1
    go_upto_region 5 with fail
    obtain ⟨w4, hw4⟩ : ∃ w4, w3.alloc (.cells #[.int .i64 0, .int .i64 0, .slice none 0 0] 41) = w4 := ⟨_, rfl⟩
    have hb4 : Below w3.heap.size w3 w4 := by rw [← hw4]; exact (Below.refl _ _).alloc (Nat.le_refl _) _
    have HB4 := hide (HB3.out.trans (hb4.mono HB3.out.size))
    rw [hw4]
    clear hw4 hb4
    go_wp2_with fail
    refine (code_err w4 adr (HS.out.below HB4.out) 2 (by decide) (by decide) (by decide)).mono ?_
    rintro e w5 ⟨rfl, rfl⟩
    go_wp2_with fail
    go_loopw [9] (fun v9 wr => v9 = .int .i64 0 ∧ wr = w5) (fun _ _ => 0)
    case atStart => exact ⟨rfl, rfl⟩
    case round =>
      obtain ⟨rfl, rfl⟩ := hrel
      rcases Nat.eq_zero_or_pos n with hn0 | hn0
      all_goals
        go_wp2
        go_quiet (fail)
        go_wp2
        go_ret
        exact ⟨rfl, (HAl.out.trans (HB4.out.mono HAl.out.size)).trans ⟨rfl, rfl, rfl, Nat.le_refl _, fun _ _ => rfl⟩⟩
  · have t1 : ¬ things < 0 := by omega
    have t2 : ¬ most < 0 := by omega
    clear hbad
    go_wp2_with fail
    refine (new_any w1 things most (by omega) (by omega) hmst).mono ?_
    rintro e w2 ⟨b, rfl, hq, hb2⟩
    have HQ := hide (Fq.made HB1.out hq hb2)
    have b0 := (hb2.cell (World.block_lt_of_cell? w1 _ a0)).trans a0
    have b1 := (hb2.cell (World.block_lt_of_cell? w1 _ a1)).trans a1
    clear hq hb2 a0 a1
    go_wp2_with fail
    refine (refnew_any w2 things most (by omega) (by omega)).mono ?_
    rintro e w3 ⟨rfl, hb3⟩
    have HQ3 := hide (HQ.out.past hb3)
    have hsz23 := hb3.size
    clear hb3 b0 b1
    go_upto_region 5 with fail
    have hb4 : Below w3.heap.size w3 (w3.alloc (.cells #[.int .i64 things, .int .i64 most, .slice none 0 0] 41)) := (Below.refl _ _).alloc (Nat.le_refl _) _
    have hv4 : (w3.alloc (.cells #[.int .i64 things, .int .i64 most, .slice none 0 0] 41)).heap[w3.heap.size]? = some (.cells #[.int .i64 things, .int .i64 most, .slice none 0 0] 41 (0, 0)) := heap_alloc_new w3 _
    obtain ⟨w4, hw4⟩ : ∃ w4, w3.alloc (.cells #[.int .i64 things, .int .i64 most, .slice none 0 0] 41) = w4 := ⟨_, rfl⟩
    obtain ⟨pq, hpq⟩ : ∃ pq, w3.heap.size = pq := ⟨_, rfl⟩
    rw [hw4] at hb4 hv4
    rw [hpq] at hv4
    rw [hw4, hpq]
    have HT : Hid (Two w0 w4 (fun j => w1.heap.size ≤ j ∧ j < w2.heap.size) (fun _ => False) b things most [] none 0 pq) := hide ⟨HQ3.out.past hb4, ⟨Row.nil _ _ _ _, fun _ h => h.elim, fun _ h => h.elim⟩, hv4, fun h => by have := h.2; omega, by have := HQ3.out.below.size; omega⟩
    clear hw4 hb4 hv4
    go_wp2_with fail
    refine (code_nil w4).mono ?_
    rintro e w5 ⟨rfl, rfl⟩
    go_wp2_with fail
    go_loopw [9] (fun v9 wr => ∃ i : Nat, i ≤ n ∧ v9 = .int .i64 i ∧ Hid (∃ F G L A c, L.length ≤ i ∧ Two w0 wr F G b things most L A c pq)) (fun v9 _ => n - (intOf v9).toNat)
    case atStart => exact ⟨0, Nat.zero_le _, rfl, hide ⟨_, _, [], none, 0, Nat.le_refl _, HT.out⟩⟩
    case round =>
      clear HT HQ HQ3 HB1
      obtain ⟨i, hi, rfl, hst⟩ := hrel
      obtain ⟨F, G, L, A, c, hL, hT⟩ := hst.out
      have HT := hide hT
      obtain ⟨c0, c1, c2, _, _, _⟩ := box3 hT.v
      have hb0 := hT.q.below
      have hlow := hT.low
      have hpl := (Array.getElem?_eq_some_iff.1 hT.v).1
      clear hst hT
      by_cases hlt : i < n
      · obtain ⟨o, hoi⟩ : ∃ o, ops[i]? = some o := ⟨_, List.getElem?_eq_getElem (by rw [HOp.out.length]; exact hlt)⟩
        have hrd : Reads wr 4 (.slice SA n sc) n (ops.flatMap opCell) := Reads.kept HOp.out.reads (fun a _ hc => (hb0.cell (World.block_lt_of_cell? w0 a hc)).trans hc)
        obtain ⟨ad, hA, s0, s1, s2, s3⟩ := ops_cells hrd hoi
        have hlt0 : (ad.add (i * 4)).block < w0.heap.size := by
          obtain ⟨ad', hA', s0', _⟩ := ops_cells HOp.out.reads hoi
          rw [hA] at hA'
          injection hA' with hA'
          subst hA'
          exact World.block_lt_of_cell? _ _ s0'
        subst hA
        have HO := hide (HOp.out.each o (List.mem_of_getElem? hoi))
        have HB0 := hide hb0
        clear hrd hoi hb0
        go_upto_region 10 with fail
        go_cut [10, 11] from 41 to 63 (fun s10 s11 wc => ∃ q10, s10 = .pointer (some ⟨q10, 0, none⟩) ∧ s11 = .bool true ∧ Hid (∃ F' G' L' A' c', L'.length ≤ i + 1 ∧ Fq w0 wc F' b things most L' ∧ Doc wc F' G' A' c' L' ∧ ¬ F' pq ∧ wc.heap[pq]? = some (.cells #[.int .i64 things, .int .i64 most, .slice A L.length c] 41 (0, 0)) ∧ wc.heap[q10]? = some (.cells #[.int .i64 things, .int .i64 most, .slice A' L'.length c'] 41 (0, 0)) ∧ pq ≠ q10))
        case first => as_aux_lemma =>
          have hSd : wr.drew.cell? ⟨pq, 0, none⟩ = some (.int .i64 things) ∧ wr.drew.cell? ⟨pq, 1, none⟩ = some (.int .i64 most) ∧ wr.drew.cell? ⟨pq, 2, none⟩ = some (.slice A L.length c) ∧ wr.drew.cell? (ad.add (i * 4)) = some (.int .i64 o.kd) ∧ wr.drew.cell? ⟨(ad.add (i * 4)).block, (ad.add (i * 4)).off + 1, none⟩ = some (.int .i64 o.v) ∧ wr.drew.cell? ⟨(ad.add (i * 4)).block, (ad.add (i * 4)).off + 2, none⟩ = some (.int .i64 o.wt) ∧ wr.drew.cell? ⟨(ad.add (i * 4)).block, (ad.add (i * 4)).off + 3, none⟩ = some (.slice o.O o.m o.co) := ⟨c0, c1, c2, s0, s1, s2, s3⟩
          have HTd := hide (HT.out.past (w' := wr.drew) ⟨rfl, rfl, rfl, Nat.le_refl _, fun _ _ => rfl⟩)
          have hba : Below wr.heap.size wr (wr.alloc (.cells #[.int .i64 0, .int .i64 0, .slice none 0 0] 41)).drew := ((Below.refl _ _).alloc (Nat.le_refl _) _).drew
          have HTa := hide (HT.out.past hba)
          have HSd := hide (HS.out.below HTd.out.q.below)
          have HSa := hide (HS.out.below HTa.out.q.below)
          have HZ : Hid ((wr.alloc (.cells #[.int .i64 0, .int .i64 0, .slice none 0 0] 41)).drew.heap[wr.heap.size]? = some (.cells #[.int .i64 0, .int .i64 0, .slice none 0 0] 41 (0, 0))) := hide (heap_alloc_new wr _)
          have hnq : pq ≠ wr.heap.size := by omega
          have hna : (ad.add (i * 4)).block ≠ wr.heap.size := by have := HB0.out.size; omega
          have hcl : ∀ a v, wr.cell? a = some v → (wr.alloc (.cells #[.int .i64 0, .int .i64 0, .slice none 0 0] 41)).drew.cell? a = some v := fun a v h => (hba.cell (World.block_lt_of_cell? wr a h)).trans h
          have HCl := hide hcl
          have nota0 : ¬ (wr.alloc (.cells #[.int .i64 0, .int .i64 0, .slice none 0 0] 41)).drew.heap.size ≤ wr.heap.size := fun h => absurd (show wr.heap.size + 1 ≤ wr.heap.size by simpa using h) (by omega)
          have HNota := hide nota0
          clear nota0
          clear hba hcl
          go_region_held3 (fun w' => w'.cell? ⟨pq, 0, none⟩ = some (.int .i64 things) ∧ w'.cell? ⟨pq, 1, none⟩ = some (.int .i64 most) ∧ w'.cell? ⟨pq, 2, none⟩ = some (.slice A L.length c) ∧ w'.cell? (ad.add (i * 4)) = some (.int .i64 o.kd) ∧ w'.cell? ⟨(ad.add (i * 4)).block, (ad.add (i * 4)).off + 1, none⟩ = some (.int .i64 o.v) ∧ w'.cell? ⟨(ad.add (i * 4)).block, (ad.add (i * 4)).off + 2, none⟩ = some (.int .i64 o.wt) ∧ w'.cell? ⟨(ad.add (i * 4)).block, (ad.add (i * 4)).off + 3, none⟩ = some (.slice o.O o.m o.co))
            (first | assumption | with_reducible exact ⟨c0, c1, c2, z0, z1, z2, z3⟩ | with_reducible exact ⟨HCl.out _ _ c0, HCl.out _ _ c1, HCl.out _ _ c2, HCl.out _ _ s0, HCl.out _ _ s1, HCl.out _ _ s2, HCl.out _ _ s3⟩ | with_reducible exact ⟨cell_new c0, cell_new c1, cell_new c2, cell_new z0, cell_new z1, cell_new z2, cell_new z3⟩ | with_reducible exact ⟨cell_newset c0, cell_newset c1, cell_newset c2, cell_newset z0, cell_newset z1, cell_newset z2, cell_newset z3⟩ | with_reducible exact ⟨cell_far c0 hnq, cell_far c1 hnq, cell_far c2 hnq, cell_far z0 hna, cell_far z1 hna, cell_far z2 hna, cell_far z3 hna⟩) (first
            | (go_at_call 17; with_reducible refine Calls.mono (w := wr.drew) (R := StepPost w0 wr.drew F G b things most L) ?_ ?_
               exact step_any w0 wr.drew adr HS.out F G b things most L HTd.out.q A c HTd.out.d (by omega) o.kd o.v o.wt o.O o.m o.co o.W HO.out
               rintro e w9 ⟨L', A', c', F', G', rfl, hl9, hq9, hd9, hm9, hF9, hG9⟩
               have hv9 := hm9.heap HTd.out.v HTd.out.nf
               have hnf9 : ¬ F' pq := fun hf => (hF9 _ hf).elim HTd.out.nf (fun h => by have := (Array.getElem?_eq_some_iff.1 HTd.out.v).1; omega)
               have hcell : ∀ a v, wr.cell? a = some v → a.block < w0.heap.size → w9.cell? a = some v := fun a v hc ha => (World.cell?_of_block (w := wr) ((hq9.below.block _ ha).trans (HB0.out.block _ ha).symm)).trans hc
               have z0 := hcell _ _ s0 hlt0
               have z1 := hcell _ _ s1 hlt0
               have z2 := hcell _ _ s2 hlt0
               have z3 := hcell _ _ s3 hlt0
               have HP9 := hide (show _ ∧ _ ∧ _ ∧ _ from ⟨hl9, hq9, hd9, hnf9⟩)
               have HV9 := hide hv9
               clear c0 c1 c2 s0 s1 s2 s3 hcell hl9 hq9 hd9 hm9 hF9 hG9 hnf9
               obtain ⟨c0, c1, c2, _, _, _⟩ := box3 hv9
               clear hv9)
            | (go_at_call 17; with_reducible refine Calls.mono (w := (wr.alloc (.cells #[.int .i64 0, .int .i64 0, .slice none 0 0] 41)).drew) (R := StepPost w0 (wr.alloc (.cells #[.int .i64 0, .int .i64 0, .slice none 0 0] 41)).drew F G b things most L) ?_ ?_
               exact step_any w0 (wr.alloc (.cells #[.int .i64 0, .int .i64 0, .slice none 0 0] 41)).drew adr HS.out F G b things most L HTa.out.q A c HTa.out.d (by omega) o.kd o.v o.wt o.O o.m o.co o.W HO.out
               rintro e w9 ⟨L', A', c', F', G', rfl, hl9, hq9, hd9, hm9, hF9, hG9⟩
               have hv9 := hm9.heap HTa.out.v HTa.out.nf
               have hnf9 : ¬ F' pq := fun hf => (hF9 _ hf).elim HTa.out.nf (fun h => by have := (Array.getElem?_eq_some_iff.1 HTa.out.v).1; omega)
               have hcell : ∀ a v, wr.cell? a = some v → a.block < w0.heap.size → w9.cell? a = some v := fun a v hc ha => (World.cell?_of_block (w := wr) ((hq9.below.block _ ha).trans (HB0.out.block _ ha).symm)).trans hc
               have z0 := hcell _ _ s0 hlt0
               have z1 := hcell _ _ s1 hlt0
               have z2 := hcell _ _ s2 hlt0
               have z3 := hcell _ _ s3 hlt0
               have hqa9 := hm9.heap HZ.out (fun hf => by have := HTd.out.q.q.lt _ hf; have : wr.heap.size < wr.heap.size := this; omega)
               have HNfa : Hid (¬ F' wr.heap.size) := hide (fun hf => (hF9 _ hf).elim (fun hf => by have := HTd.out.q.q.lt _ hf; have : wr.heap.size < wr.heap.size := this; omega) (fun h => HNota.out h))
               obtain ⟨k0, k1, k2, f0, f1, f2⟩ := box3 hqa9
               have HZ9 := hide hqa9
               clear hqa9
               have HP9 := hide (show _ ∧ _ ∧ _ ∧ _ from ⟨hl9, hq9, hd9, hnf9⟩)
               have HV9 := hide hv9
               clear c0 c1 c2 s0 s1 s2 s3 hcell hl9 hq9 hd9 hm9 hF9 hG9 hnf9
               obtain ⟨c0, c1, c2, _, _, _⟩ := box3 hv9
               clear hv9))
          · rename_i hheld
            clear hheld hSd c0 c1 c2 z0 z1 z2 z3
            go_wp2
            go_meet
            have hb : Below w9.heap.size w9 (w9.alloc (.cells #[.int .i64 things, .int .i64 most, .slice A' L'.length c'] 41)) := (Below.refl _ _).alloc (Nat.le_refl _) _
            have hpl9 := (Array.getElem?_eq_some_iff.1 HV9.out).1
            have r4 := heap_alloc_new w9 (.cells #[.int .i64 things, .int .i64 most, .slice A' L'.length c'] 41)
            have r1 := HP9.out.2.1.past hb
            have r2 := HP9.out.2.2.1.below hb
            have r3 := (hb.block _ hpl9).trans HV9.out
            have r5 : L'.length ≤ i + 1 := by have := HP9.out.1; omega
            have r6 := HP9.out.2.2.2
            have r7 : pq ≠ w9.heap.size := by omega
            case rel => exact ⟨w9.heap.size, rfl, rfl, F', G', L', A', c', r5, r1, r2, r6, r3, r4, r7⟩
          · rename_i hheld
            clear hheld hSd c0 c1 c2 z0 z1 z2 z3
            go_wp2
            go_meet
            have hm := mod_set3 (Mod.refl (fun k => k = wr.heap.size) w9) wr.heap.size rfl (.int .i64 things) (.int .i64 most) (.slice A' L'.length c')
            have hws := HB0.out.size
            have r1 := HP9.out.2.1.keep hm (fun k hk e => HNfa.out (e ▸ hk)) (fun k e => by omega)
            have r2 : Doc _ F' G' A' c' L' := ⟨row_set3 HP9.out.2.2.1.row HZ9.out (by decide) (.int .i64 things) (.int .i64 most) (.slice A' L'.length c'), HP9.out.2.2.1.apart, fun k hk => Nat.lt_of_lt_of_le (HP9.out.2.2.1.lt k hk) hm.size⟩
            have r3 := hm.heap HV9.out hnq
            have r4 := box3_set HZ9.out (.int .i64 things) (.int .i64 most) (.slice A' L'.length c')
            have r5 : L'.length ≤ i + 1 := by have := HP9.out.1; omega
            have r6 := HP9.out.2.2.2
            case rel => exact ⟨wr.heap.size, rfl, rfl, F', G', L', A', c', r5, r1, r2, r6, r3, r4, hnq⟩
        case rest => as_aux_lemma =>
          obtain ⟨q10, rfl, rfl, hst⟩ := hcut
          obtain ⟨F', G', L', A', c', hL', hq', hd', hnf', hv', hn', hne'⟩ := hst.out
          obtain ⟨r0, r1, r2, _, _, _⟩ := box3 hn'
          obtain ⟨k0, k1, k2, f0, f1, f2⟩ := box3 hv'
          have HR := hide (show _ ∧ _ ∧ _ from ⟨hq', hd', hv'⟩)
          clear hst hq' hd' hv' hn'
          go_wp2
          go_roundw
          have hm := mod_set3 (Mod.refl (fun k => k = pq) wc) pq rfl (.int .i64 things) (.int .i64 most) (.slice A' L'.length c')
          case rel => exact ⟨i + 1, by omega, by go_num, hide ⟨F', G', L', A', c', hL', ⟨HR.out.1.keep hm (fun k hk e => hnf' (e ▸ hk)) (fun k e => by omega), ⟨row_set3 HR.out.2.1.row HR.out.2.2 (by decide) _ _ _, HR.out.2.1.apart, fun k hk => Nat.lt_of_lt_of_le (HR.out.2.1.lt k hk) hm.size⟩, box3_set HR.out.2.2 _ _ _, hnf', hlow⟩⟩⟩
          case measure => simp [intOf]; omega
      · obtain rfl : i = n := by omega
        clear hlt
        go_upto_region 14 with fail
        have HTd := hide (HT.out.past (w' := wr.drew) ⟨rfl, rfl, rfl, Nat.le_refl _, fun _ _ => rfl⟩)
        have hfit := HT.out.q.q.fits
        have H0 : Hid (∀ x : Int × Int, x ∈ L → 0 ≤ x.2) := hide HT.out.q.q.2.2.2.1
        have hSd : wr.drew.cell? ⟨pq, 0, none⟩ = some (.int .i64 things) ∧ wr.drew.cell? ⟨pq, 1, none⟩ = some (.int .i64 most) ∧ wr.drew.cell? ⟨pq, 2, none⟩ = some (.slice A L.length c) := ⟨c0, c1, c2⟩
        go_region_held3 (fun w' => w'.cell? ⟨pq, 0, none⟩ = some (.int .i64 things) ∧ w'.cell? ⟨pq, 1, none⟩ = some (.int .i64 most) ∧ w'.cell? ⟨pq, 2, none⟩ = some (.slice A L.length c)) (first | assumption | with_reducible exact ⟨c0, c1, c2⟩) (first
          | (go_at_call 18; refine (walked_any wr.drew F b things most L HTd.out.q.q things most A L.length c HTd.out.d.row.reads (by omega)).mono ?_
             rintro e w9 ⟨rfl, hb9⟩
             have HT9 := hide (HTd.out.past hb9)
             clear c0 c1 c2 hb9
             obtain ⟨c0, c1, c2, _, _, _⟩ := box3 HT9.out.v)
          | (go_at_call 11; refine (len_any _ F b things most L HT9.out.q.q).mono ?_; rintro e wz ⟨rfl, rfl⟩)
          | (go_at_call 12; refine (weight_any _ F b things most L HT9.out.q.q).mono ?_; rintro e wz ⟨rfl, rfl⟩)
          | (go_at_call 19; refine (sum_any _ things most A L.length c L HT9.out.d.row.reads H0.out (by omega)).mono ?_
             rintro e w10 ⟨rfl, hb10⟩
             have HT10 := hide (HT9.out.past hb10)
             clear c0 c1 c2 hb10
             obtain ⟨c0, c1, c2, _, _, _⟩ := box3 HT10.out.v))
        go_wp2
        go_ret
        exact ⟨rfl, HAl.out.trans (HT10.out.q.below.mono HAl.out.size)⟩
end Go.Proofs.YtipbaffhlekpfaaDoor.fifoPlays
