/-
  HandlesOn: for every script, connection and life the law returns true. Conditions: the sentinels' variables hold their errors; the script can be read.
-/
import Derived.Test.YtjkahckglhpjeaaDoorHWakes
import Derived.Test.YtjkahckglhpjeaaDoorHOps
import Derived.Deep.CutBlock
namespace Go.Proofs.YtjkahckglhpjeaaDoor.handlesOn
open Go Go.RowKit Go.Cu Go.Proofs.YtjkahckglhpjeaaDoor Go.Proofs.YtjkahckglhpjeaaDoor.errs

/-- how many of a list are j or below -/
def upto (F : List Int) (j : Int) : Nat := (F.filter (fun x => decide (x ≤ j))).length
theorem upto_out {F : List Int} {j : Int} (h : ¬ (j + 1) ∈ F) : upto F (j + 1) = upto F j := by
  unfold upto
  congr 1
  refine List.filter_congr (fun x hx => ?_)
  have : x ≠ j + 1 := fun e => h (e ▸ hx)
  by_cases h1 : x ≤ j
  · rw [decide_eq_true h1, decide_eq_true (show x ≤ j + 1 by omega)]
  · rw [decide_eq_false h1, decide_eq_false (show ¬ x ≤ j + 1 by omega)]
theorem upto_in {F : List Int} {j : Int} (hr : F.Pairwise (fun x y => x < y)) (h : (j + 1) ∈ F) : F[upto F j]? = some (j + 1) ∧ upto F (j + 1) = upto F j + 1 := by
  obtain ⟨a, b, rfl⟩ := List.append_of_mem h
  obtain ⟨h1, h2, _⟩ := mid_ne hr
  have ea : a.filter (fun x => decide (x ≤ j)) = a := List.filter_eq_self.2 (fun x hx => by have := h1 x hx; simp; omega)
  have eb : b.filter (fun x => decide (x ≤ j)) = [] := List.filter_eq_nil_iff.2 (fun x hx => by have := h2 x hx; simp; omega)
  have ea2 : a.filter (fun x => decide (x ≤ j + 1)) = a := List.filter_eq_self.2 (fun x hx => by have := h1 x hx; simp; omega)
  have eb2 : b.filter (fun x => decide (x ≤ j + 1)) = [] := List.filter_eq_nil_iff.2 (fun x hx => by have := h2 x hx; simp; omega)
  have e1 : upto (a ++ (j + 1) :: b) j = a.length := by
    unfold upto
    rw [List.filter_append, ea, List.filter_cons_of_neg (by simp; omega), eb, List.append_nil]
  have e2 : upto (a ++ (j + 1) :: b) (j + 1) = a.length + 1 := by
    unfold upto
    rw [List.filter_append, ea2, List.filter_cons_of_pos (by simp), eb2]
    simp
  rw [e1, e2]
  exact ⟨by simp, rfl⟩
theorem upto_all {F : List Int} {j : Int} (h : ∀ x ∈ F, x ≤ j) : upto F j = F.length := by
  unfold upto
  rw [List.filter_eq_self.2 (fun x hx => by simpa using h x hx)]
theorem upto_none {F : List Int} {j : Int} (h : ∀ x ∈ F, j < x) : upto F j = 0 := by
  unfold upto
  rw [List.filter_eq_nil_iff.2 (fun x hx => by have := h x hx; simp; omega)]
  rfl
theorem uniq {L : List HE} (hr : L.Pairwise (fun x y => x.h ≠ y.h)) {e e' : HE} (he' : e' ∈ L) (he : e ∈ L) (hh : e'.h = e.h) : e' = e := by
  obtain ⟨i, hi⟩ := List.mem_iff_getElem?.1 he'
  obtain ⟨j, hj⟩ := List.mem_iff_getElem?.1 he
  obtain ⟨hi1, hi2⟩ := List.getElem?_eq_some_iff.1 hi
  obtain ⟨hj1, hj2⟩ := List.getElem?_eq_some_iff.1 hj
  rcases Nat.lt_trichotomy i j with h | h | h
  · exact absurd hh (by have := List.pairwise_iff_getElem.1 hr i j hi1 hj1 h; rwa [hi2, hj2] at this)
  · subst h
    rw [← hi2, ← hj2]
  · exact absurd hh.symm (by have := List.pairwise_iff_getElem.1 hr j i hj1 hi1 h; rwa [hi2, hj2] at this)
theorem mem_onF {L : List HE} {conn life x : Int} : x ∈ onF L conn life ↔ ∃ e ∈ L, e.h = x ∧ sel conn life e = true := by
  unfold onF
  rw [List.mem_map]
  constructor
  · rintro ⟨e, h1, h2⟩
    obtain ⟨h1, h3⟩ := List.mem_filter.1 h1
    exact ⟨e, h1, h2, h3⟩
  · rintro ⟨e, h1, h2, h3⟩
    exact ⟨e, List.mem_filter.2 ⟨h1, h3⟩, h2⟩
/-- the script's cells -/
theorem ops_cells {w : World} {A : Option Addr} {n c : Nat} {ops : List OpH} (hr : Reads w 5 (.slice A n c) n (ops.flatMap OpH.cells)) {i : Nat} {o : OpH} (ho : ops[i]? = some o) :
    ∃ ad, A = some ad ∧ w.cell? (ad.add (i * 5)) = some (.int .i64 o.kd) ∧ w.cell? ⟨(ad.add (i * 5)).block, (ad.add (i * 5)).off + 1, none⟩ = some (.int .i64 o.p.conn) ∧ w.cell? ⟨(ad.add (i * 5)).block, (ad.add (i * 5)).off + 1 + 1, none⟩ = some (.int .i64 o.p.life) ∧
      w.cell? ⟨(ad.add (i * 5)).block, (ad.add (i * 5)).off + 1 + 2, none⟩ = some (.int .u32 o.p.id) ∧ w.cell? ⟨(ad.add (i * 5)).block, (ad.add (i * 5)).off + 4, none⟩ = some (.int .i64 o.hd) := by
  have hi : i < ops.length := (List.getElem?_eq_some_iff.1 ho).1
  have hg := flat_get opCell_length ho
  obtain ⟨h1, A', c', he, _, h3⟩ := hr
  rw [flat_length opCell_length] at h1
  injection he with he _ _
  rcases h3 with h3 | ⟨ad, hA, h4⟩
  · omega
  · have e : ∀ k, k ≠ 0 → ad.add (i * 5 + k) = ⟨(ad.add (i * 5)).block, (ad.add (i * 5)).off + k, none⟩ := fun k hk => by
      unfold Addr.add
      by_cases h : i * 5 = 0 <;> simp [h, hk, Nat.add_assoc]
    refine ⟨ad, by rw [he, hA], h4 _ _ (hg 0 _ rfl), ?_, ?_, ?_, ?_⟩
    · rw [← e 1 (by decide)]; exact h4 _ _ (hg 1 _ rfl)
    · rw [Nat.add_assoc, ← e 2 (by decide)]; exact h4 _ _ (hg 2 _ rfl)
    · rw [Nat.add_assoc, ← e 3 (by decide)]; exact h4 _ _ (hg 3 _ rfl)
    · rw [← e 4 (by decide)]; exact h4 _ _ (hg 4 _ rfl)
theorem Reads.past {w w' : World} {sz n : Nat} {v : Value} {xs : List Value} (h : Reads w sz v n xs) (hb : Below w.heap.size w w') : Reads w' sz v n xs := h.kept (fun a _ hc => (hb.cell (World.block_lt_of_cell? w a hc)).trans hc)

set_option maxRecDepth 10000 in
set_option maxHeartbeats 4000000 in
theorem walk (w : World) (adr : Nat → Addr) (hS : Sent w adr) (sv : Value) (n : Nat) (ops : List OpH) (ho : Ops w sv n ops) (conn life : Int) :
    Calls Tryd.prog 3 #[sv, .int .i64 conn, .int .i64 life] w fun e w' => e = .returned (.bool true) ∧ Below w.heap.size w w' := by
  have HOp := hide ho
  have HS := hide hS
  obtain ⟨SA, sc, rfl⟩ := ho.reads.shape
  have hsn := maxLen_lt ho.reads.size
  clear ho hS
  go_enter Tryd.func3, Tryd.ntmps3
  go_wp2_with fail
  refine (wakes_true w adr HS.out).mono ?_
  rintro e w1 ⟨rfl, hb1⟩
  have HB1 := hide hb1
  clear hb1
  go_wp2_with fail
  refine (new_any w1).mono ?_
  rintro e w2 ⟨c, rfl, m1, m2, h1, l1, l2, l3, hb2⟩
  have HC2 := hide (H1.made HB1.out h1 l1 l2 l3 hb2)
  clear h1 l1 l2 l3 hb2
  go_wp2_with fail
  go_loopw [8, 9] (fun gv t wr => ∃ i g : Nat, i ≤ n ∧ t = .int .i64 i ∧ gv = .int .i64 g ∧ Hid (g ≤ 2147483648) ∧ Hid (∃ L, H1 w wr c m1 m2 g L)) (fun _ t _ => n - (intOf t).toNat)
  case atStart => exact ⟨0, 0, Nat.zero_le _, rfl, rfl, hide (by omega), hide ⟨[], HC2.out⟩⟩
  case round =>
    clear HC2
    obtain ⟨i, g, hi, rfl, rfl, hgl, hst⟩ := hrel
    obtain ⟨L, hT⟩ := hst.out
    have HT := hide hT
    clear hst hT
    by_cases hlt : i < n
    · as_aux_lemma =>
      obtain ⟨⟨kd, p, hd⟩, hoi⟩ : ∃ o, ops[i]? = some o := ⟨_, List.getElem?_eq_getElem (by rw [HOp.out.length]; exact hlt)⟩
      obtain ⟨w1f, w2f, w3f⟩ := HOp.out.each _ (List.mem_of_getElem? hoi)
      have w2f : p.wf := w2f
      have w3f : (Lit.int .i64 hd).wf = true := w3f
      obtain ⟨ad, rfl, s0, s1, s2, s3, s4⟩ := ops_cells (Reads.past HOp.out.reads HT.out.below) hoi
      have s0 : wr.cell? (ad.add (i * 5)) = some (.int .i64 kd) := s0
      have s1 : wr.cell? ⟨(ad.add (i * 5)).block, (ad.add (i * 5)).off + 1, none⟩ = some (.int .i64 p.conn) := s1
      have s2 : wr.cell? ⟨(ad.add (i * 5)).block, (ad.add (i * 5)).off + 1 + 1, none⟩ = some (.int .i64 p.life) := s2
      have s3 : wr.cell? ⟨(ad.add (i * 5)).block, (ad.add (i * 5)).off + 1 + 2, none⟩ = some (.int .u32 p.id) := s3
      have s4 : wr.cell? ⟨(ad.add (i * 5)).block, (ad.add (i * 5)).off + 4, none⟩ = some (.int .i64 hd) := s4
      clear hoi w1f
      by_cases hk : kd = 2
      · subst hk
        clear s1 s2 s3
        go_wp2_with fail
        rcases splitH L hd with hno | ⟨a, e, b, rfl, rfl, _⟩
        · refine (drop_no wr c m1 m2 g L HT.out.hs hd w3f hno).mono ?_
          rintro r w3 ⟨rfl, hb3⟩
          have HT3 := hide (HT.out.past hb3)
          clear hb3 s0 s4 hno
          go_wp2
          go_roundw
          case rel => exact ⟨i + 1, g, by omega, by go_num, rfl, hgl, hide ⟨_, HT3.out⟩⟩
          case measure => simp [intOf]; omega
        · refine (drop_yes wr c m1 m2 g a b e HT.out.hs w3f).mono ?_
          rintro r w3 ⟨rfl, h3, hm3⟩
          have HT3 := hide (HT.out.turn h3 hm3)
          clear h3 hm3 s0 s4
          go_wp2
          go_roundw
          case rel => exact ⟨i + 1, g, by omega, by go_num, rfl, hgl, hide ⟨_, HT3.out⟩⟩
          case measure => simp [intOf]; omega
      · have hk2 : (kd == 2) = false := by simpa using hk
        clear s4
        go_wp2_with fail
        rcases splitP L p with hno | ⟨a, e, b, rfl, rfl, _⟩
        · by_cases hg : g < 2147483648
          · refine (bind_ok wr c m1 m2 g L HT.out.hs p w2f hno hg).mono ?_
            rintro r w3 ⟨rfl, h3, hm3⟩
            have HT3 := hide (HT.out.turn h3 hm3)
            have hgt : decide ((g : Int) < (g : Int) + 1) = true := decide_eq_true (by omega)
            have HG := hide hg
            clear h3 hm3 s0 s1 s2 s3 hno hg
            go_wp2
            go_roundw
            case rel => exact ⟨i + 1, g + 1, by omega, by go_num, rfl, hide (by have := HG.out; omega), hide ⟨_, HT3.out⟩⟩
            case measure => simp [intOf]; omega
          · have hE := (HS.out.below HT.out.below).cell 32 (by decide) (by decide)
            refine (bind_full wr c m1 m2 g L HT.out.hs p w2f hno (by omega) _ hE).mono ?_
            rintro r w3 ⟨rfl, hb3⟩
            have HT3 := hide (HT.out.past hb3)
            clear hb3 s0 s1 s2 s3 hno hE hg
            go_wp2
            go_roundw
            case rel => exact ⟨i + 1, g, by omega, by go_num, rfl, hgl, hide ⟨_, HT3.out⟩⟩
            case measure => simp [intOf]; omega
        · have hE := (HS.out.below HT.out.below).cell 8 (by decide) (by decide)
          refine (bind_twice wr c m1 m2 g a b e HT.out.hs _ hE).mono ?_
          rintro r w3 ⟨rfl, hb3⟩
          have HT3 := hide (HT.out.past hb3)
          clear hb3 s0 s1 s2 s3 hE
          go_wp2
          go_roundw
          case rel => exact ⟨i + 1, g, by omega, by go_num, rfl, hgl, hide ⟨_, HT3.out⟩⟩
          case measure => simp [intOf]; omega
    · as_aux_lemma =>
      obtain rfl : i = n := by omega
      go_wp2_with fail
      refine (on_any wr c m1 m2 g L HT.out.hs conn life).mono ?_
      rintro r w3 ⟨A, nl, cc, rfl, hn, hr3, hb3⟩
      have HT3 := hide (HT.out.past hb3)
      have HR3 := hide hr3.reads
      have HN := hide hn
      have hnl : nl ≤ 2147483648 := by have := onF_len L conn life; have := HT.out.hs.len_le; have := hgl.out; omega
      have HFr := hide (onF_rise HT.out.hs.rise conn life)
      clear hn hr3 hb3
      go_wp2_with fail
      go_loopw [13, 14] (fun av kv wr => ∃ j : Nat, j ≤ g ∧ kv = .int .i64 ((j : Int) + 1) ∧ av = .int .i64 (upto (onF L conn life) j) ∧ Hid (H1 w wr c m1 m2 g L) ∧ Hid (Reads wr 1 (.slice A nl cc) nl (ints (onF L conn life)))) (fun _ kv _ => g + 1 - (intOf kv).toNat)
      case atStart => exact ⟨0, Nat.zero_le _, rfl, by rw [upto_none (fun x hx => by obtain ⟨e, he, h1, _⟩ := mem_onF.1 hx; have := HT.out.hs.rng e he; omega)]; rfl, HT3, HR3⟩
      case round =>
        obtain ⟨j, hj, rfl, rfl, HQ, HRd⟩ := hrel
        by_cases hjl : j < g
        · as_aux_lemma =>
          have hle : decide ((j : Int) + 1 ≤ (g : Int)) = true := decide_eq_true (by omega)
          have HJl := hide hjl
          have hwr : IntKind.i64.wrap ((j : Int) + 1 + 1) = (j : Int) + 1 + 1 := by rw [IntKind.wrap_i64]; have := hgl.out; omega
          have hwf : (Lit.int .i64 ((j : Int) + 1)).wf = true := WalkArith.wf_i64 (by have := hgl.out; omega)
          have HWf := hide hwf
          clear hwf hjl hj hlt hi
          rcases splitH L ((j : Int) + 1) with hno | ⟨a, e, b, hL, he, _⟩
          · have hout := upto_out (F := onF L conn life) (j := j) (fun hx => by obtain ⟨e, he, h1, _⟩ := mem_onF.1 hx; exact hno e he h1)
            have HOut := hide hout
            obtain ⟨u, hu⟩ : ∃ u, upto (onF L conn life) j = u := ⟨_, rfl⟩
            have HU := hide hu
            have HNo := hide hno
            rw [hu]
            clear hout hu hno
            go_wp2_with fail
            refine (find_no wr c m1 m2 g L HQ.out.hs _ HWf.out HNo.out).mono ?_
            unfold Pl.v Pl.zero
            rintro r w4 ⟨rfl, hb4⟩
            have hal : Below w4.heap.size w4 (w4.alloc (.cells #[.int .i64 0, .int .i64 0, .int .u32 0] 28)) := (Below.refl _ _).alloc (Nat.le_refl _) _
            have HQ4 := hide ((HQ.out.past hb4).past hal)
            have HR4 := hide (Reads.past (Reads.past HRd.out hb4) hal)
            clear hb4 hal
            go_wp2
            go_roundw
            case rel => exact ⟨j + 1, by have := HJl.out; omega, by go_num, by rw [← HU.out, ← HOut.out]; rfl, HQ4, HR4⟩
            case measure => simp [intOf]; have := HJl.out; omega
          · have hf := find_yes wr c m1 m2 g a b e (hL ▸ HQ.out.hs) (by rw [he]; exact HWf.out)
            rw [he] at hf
            have hmem : e ∈ L := by rw [hL]; exact List.mem_append_right _ (List.mem_cons_self ..)
            unfold Pl.v at hf
            have HF := hide hf
            have HHe := hide he
            have HMem := hide hmem
            have HLe := hide hL
            clear hf he hmem hL
            by_cases hsel : sel conn life e = true
            · obtain ⟨hat, hup⟩ := upto_in HFr.out (j := j) (mem_onF.2 ⟨e, HMem.out, HHe.out, hsel⟩)
              have hlen : upto (onF L conn life) j < nl := by rw [HN.out]; exact (List.getElem?_eq_some_iff.1 hat).1
              have HUp := hide hup
              have hse := hsel
              unfold sel at hse
              rw [Bool.and_eq_true] at hse
              have e1 : (e.p.conn != conn) = false := by simpa using hse.1
              have e2 : (e.p.life != life) = false := by simpa using hse.2
              obtain ⟨u, hu⟩ : ∃ u, upto (onF L conn life) j = u := ⟨_, rfl⟩
              rw [hu] at hat hlen
              have HU := hide hu
              have HAt := hide (ints_get hat)
              rw [hu]
              have hge : decide (nl ≤ u) = false := decide_eq_false (by omega)
              have hwu : IntKind.i64.wrap ((u : Int) + 1) = (u : Int) + 1 := by rw [IntKind.wrap_i64]; omega
              have HLn := hide hlen
              obtain ⟨ad2, q2, he2, -⟩ := reads_pos HRd.out (by omega)
              injection he2 with hA2 h2a hc2
              subst hA2
              subst hc2
              clear h2a hat hup hu hsel hse
              go_wp2_with fail
              refine HF.out.mono ?_
              rintro r w4 ⟨rfl, hb4⟩
              have hal : Below w4.heap.size w4 (w4.alloc (.cells #[.int .i64 e.p.conn, .int .i64 e.p.life, .int .u32 e.p.id] 28)) := (Below.refl _ _).alloc (Nat.le_refl _) _
              have HQ4 := hide ((HQ.out.past hb4).past hal)
              have HR4 := hide (Reads.past (Reads.past HRd.out hb4) hal)
              clear hb4 hal
              obtain ⟨ad3, q3, he3, hcell⟩ := reads_pos HR4.out (by omega)
              injection he3 with he3 h3a h3b
              injection he3 with he3
              subst he3
              clear h3a h3b
              have hcell := hcell u _ HAt.out
              go_wp2
              go_roundw
              case rel => exact ⟨j + 1, by have := HJl.out; omega, by go_num, by rw [show ((j + 1 : Nat) : Int) = (j : Int) + 1 from rfl, HUp.out, HU.out]; go_num, HQ4, HR4⟩
              case measure => simp [intOf]; have := HJl.out; omega
            · have hsf : sel conn life e = false := by simpa using hsel
              have hout := upto_out (F := onF L conn life) (j := j) (fun hx => by
                obtain ⟨e', he', h1, h2⟩ := mem_onF.1 hx
                have hee : e' = e := uniq HQ.out.hs.hne he' HMem.out (h1.trans HHe.out.symm)
                rw [hee, hsf] at h2
                cases h2)
              have HOut := hide hout
              obtain ⟨u, hu⟩ : ∃ u, upto (onF L conn life) j = u := ⟨_, rfl⟩
              have HU := hide hu
              rw [hu]
              have hcs : (e.p.conn != conn) = true ∨ ((e.p.conn != conn) = false ∧ (e.p.life != life) = true) := by
                unfold sel at hsf
                rw [Bool.and_eq_false_iff] at hsf
                rcases hsf with hsf | hsf
                · exact .inl (by simpa using hsf)
                · by_cases h1 : e.p.conn = conn
                  · exact .inr ⟨by simpa using h1, by simpa using hsf⟩
                  · exact .inl (by simpa using h1)
              clear hout hu hsel hsf
              rcases hcs with e1 | ⟨e1, e2⟩
              all_goals
                go_wp2_with fail
                refine HF.out.mono ?_
                rintro r w4 ⟨rfl, hb4⟩
                have hal : Below w4.heap.size w4 (w4.alloc (.cells #[.int .i64 e.p.conn, .int .i64 e.p.life, .int .u32 e.p.id] 28)) := (Below.refl _ _).alloc (Nat.le_refl _) _
                have HQ4 := hide ((HQ.out.past hb4).past hal)
                have HR4 := hide (Reads.past (Reads.past HRd.out hb4) hal)
                clear hb4 hal
                go_wp2
                go_roundw
                case rel => exact ⟨j + 1, by have := HJl.out; omega, by go_num, by rw [← HU.out, ← HOut.out]; rfl, HQ4, HR4⟩
                case measure => simp [intOf]; have := HJl.out; omega
        · obtain rfl : j = g := by omega
          have hup := upto_all (F := onF L conn life) (j := j) (fun x hx => by obtain ⟨e, he, h1, _⟩ := mem_onF.1 hx; have := HT.out.hs.rng e he; omega)
          rw [hup, ← HN.out]
          clear hup
          go_wp2
          go_ret
          exact ⟨rfl, HQ.out.below⟩
end Go.Proofs.YtjkahckglhpjeaaDoor.handlesOn
