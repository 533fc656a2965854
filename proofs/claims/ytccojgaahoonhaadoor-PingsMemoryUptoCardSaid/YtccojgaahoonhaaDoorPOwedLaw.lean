import Derived.Test.YtccojgaahoonhaaDoorPOwed
/- PingsOwed. -/
namespace Go.Proofs.YtccojgaahoonhaaDoor
open Go Go.RowKit Go.Shelf Go.Cu Go.Proofs.YtccojgaahoonhaaDoor.errs

def opC (ops : List (Int × Int)) : List Value := ops.flatMap fun o => [.int .i64 o.1, .int .u32 o.2]
theorem opC_length (ops : List (Int × Int)) : (opC ops).length = ops.length * 2 := by
  induction ops with
  | nil => rfl
  | cons o r ih => rw [show opC (o :: r) = [.int .i64 o.1, .int .u32 o.2] ++ opC r from rfl, List.length_append, ih]; simp; omega
theorem opC_get {ops : List (Int × Int)} {i : Nat} {o : Int × Int} (h : ops[i]? = some o) : (opC ops)[i * 2]? = some (.int .i64 o.1) ∧ (opC ops)[i * 2 + 1]? = some (.int .u32 o.2) := by
  induction ops generalizing i with
  | nil => simp at h
  | cons p r ih =>
    cases i with
    | zero => simp at h; subst h; simp [opC]
    | succ i =>
      have := ih (i := i) (by simpa using h)
      rw [show opC (p :: r) = [.int .i64 p.1, .int .u32 p.2] ++ opC r from rfl, show (i + 1) * 2 = 2 + i * 2 by omega, show 2 + i * 2 + 1 = 2 + (i * 2 + 1) by omega]
      rw [List.getElem?_append_right (by simp), List.getElem?_append_right (by simp)]
      simpa using this
theorem opc_cells {w : World} {A : Option Addr} {n c : Nat} {ops : List (Int × Int)} (hr : Reads w 2 (.slice A n c) n (opC ops)) {i : Nat} {o : Int × Int} (ho : ops[i]? = some o) :
    ∃ ad, A = some ad ∧ w.cell? (ad.add (i * 2)) = some (.int .i64 o.1) ∧ w.cell? ⟨(ad.add (i * 2)).block, (ad.add (i * 2)).off + 1, none⟩ = some (.int .u32 o.2) := by
  have hi : i < ops.length := (List.getElem?_eq_some_iff.1 ho).1
  obtain ⟨h1, A', c', he, _, h3⟩ := hr
  rw [opC_length] at h1
  injection he with he _ _
  have hg := opC_get ho
  rcases h3 with h3 | ⟨ad, hA, h4⟩
  · omega
  · have e : ad.add (i * 2 + 1) = ⟨(ad.add (i * 2)).block, (ad.add (i * 2)).off + 1, none⟩ := by
      unfold Addr.add
      by_cases h : i * 2 = 0 <;> simp [h, Nat.add_assoc]
    exact ⟨ad, by rw [he, hA], h4 _ _ hg.1, by rw [← e]; exact h4 _ _ hg.2⟩
theorem St.took {B : Nat} {w : World} {c m q c2 m2 q2 most K : Nat} {Oa Ob Tk : List Int} {A : Option Addr} {cap : Nat} (h : St B w c m q c2 m2 q2 most K Oa Ob Tk A cap) {a : Nat} {t : Int} (ht : Tk[a]? = some t) : ∃ ad, A = some ad ∧ w.cell? (ad.add a) = some (.int .u32 t) := by
  obtain ⟨hB, FT, FO, FT2, FO2, FK, n, x, f, z, T, hs, hn, hT⟩ := h
  have hl := (List.getElem?_eq_some_iff.1 ht).1
  obtain ⟨ad, c', he, hc⟩ := reads_pos hs.k.reads (by omega)
  injection he with he _ _
  exact ⟨ad, he, hc a _ (us_get ht)⟩
namespace pingsOwed
/-- between two rounds -/
def Rel (w0 w : World) (c m q c2 m2 q2 most : Nat) (i ns : Nat) (at_ : Nat) (Tk : List Int) (A : Option Addr) (cap : Nat) : Prop :=
  St w0.heap.size w c m q c2 m2 q2 most (min i ns) (Tk.drop at_) (Tk.drop at_) Tk A cap ∧ at_ ≤ Tk.length ∧ Tk.length ≤ i ∧ Tk.length - at_ ≤ most ∧ Below w0.heap.size w0 w
set_option maxRecDepth 10000 in
set_option maxHeartbeats 4000000 in
theorem walk_small (w : World) (adr : Nat → Addr) (hS : Sent w adr) (most : Int) (hn : most < 1 ∨ 1024 < most) (tv sv : Value) :
    Calls Tryd.prog 5 #[.int .i64 most, tv, sv] w fun e w' => e = .returned (.bool true) ∧ Below w.heap.size w w' := by
  have HS := hide hS
  have hd : decide (most < 1) = true ∨ decide (most < 1) = false ∧ decide (1024 < most) = true := by
    by_cases h : most < 1
    · exact .inl (by simp [h])
    · refine .inr ⟨by simp [h], ?_⟩
      simp; omega
  clear hS
  go_enter Tryd.func5, Tryd.ntmps5
  go_wp2_with fail
  refine (fixed_true w adr HS.out).mono ?_
  rintro e w1 ⟨rfl, hb1⟩
  have HB1 := hide hb1
  clear hb1
  go_wp2_with fail
  refine (new_bad w1 most hn _ ((HS.out.below HB1.out).cell 2 (by decide) (by decide))).mono ?_
  rintro e w2 ⟨rfl, hb2⟩
  have HB2 := hide (HB1.out.trans (hb2.mono HB1.out.size))
  clear hb2
  go_wp2_with fail
  refine (new_bad w2 most hn _ ((HS.out.below HB2.out).cell 2 (by decide) (by decide))).mono ?_
  rintro e w3 ⟨rfl, hb3⟩
  have HB3 := hide (HB2.out.trans (hb3.mono HB2.out.size))
  clear hb3
  rcases hd with hd | ⟨hd, hd2⟩
  · go_wp2
    go_ret
    exact ⟨rfl, HB3.out⟩
  · go_wp2
    go_ret
    exact ⟨rfl, HB3.out⟩
set_option maxRecDepth 200000 in
set_option maxHeartbeats 8000000 in
theorem walk_big (w : World) (adr : Nat → Addr) (hS : Sent w adr) (most : Nat) (hm1 : 1 ≤ most) (hm2 : most ≤ 1024) (tv sv : Value) (nt ns : Nat) (L : List Int) (ops : List (Int × Int)) (hT : Reads w 1 tv nt (us L)) (hO : Reads w 2 sv ns (opC ops))
    (hLw : ∀ t ∈ L, (Lit.int .u32 t).wf = true) (hOw : ∀ o ∈ ops, (Lit.int .i64 o.1).wf = true ∧ (Lit.int .u32 o.2).wf = true) (hnt : nt ≤ 35184372088832) (hns : ns ≤ 8796093022208) :
    Calls Tryd.prog 5 #[.int .i64 most, tv, sv] w fun e w' => e = .returned (.bool true) ∧ Below w.heap.size w w' := by
  have HS := hide hS
  have HT := hide hT
  have HO := hide hO
  obtain ⟨TA, tc, rfl⟩ := hT.shape
  obtain ⟨SA, sc, rfl⟩ := hO.shape
  have HLw := hide hLw
  have HOw := hide hOw
  have hL : L.length = nt := by have := hT.1; rw [us_length] at this; omega
  have hOl : ops.length = ns := by have := hO.1; rw [opC_length] at this; omega
  have HL := hide hL
  have HOl := hide hOl
  clear hS hT hO hLw hOw hL hOl
  go_enter Tryd.func5, Tryd.ntmps5
  go_wp2_with fail
  refine (fixed_true w adr HS.out).mono ?_
  rintro e w1 ⟨rfl, hb1⟩
  have HB1 := hide hb1
  clear hb1
  go_wp2_with fail
  refine (new_ok w1 most hm1 hm2).mono ?_
  rintro e w2 ⟨c, m, q, FT, FO, rfl, h2, hl2, hb2⟩
  have H2 := hide h2
  have HL2 := hide hl2
  have HB2 := hide (HB1.out.trans (hb2.mono HB1.out.size))
  have hs2 := hb2.size
  have HS2 := hide hs2
  clear hb2 h2 hl2 hs2
  go_wp2_with fail
  refine (new_ok w2 most hm1 hm2).mono ?_
  rintro e w3 ⟨c2, m2, q2, FT2, FO2, rfl, h3, hl3, hb3⟩
  have hst : Hid (Rel w w3 c m q c2 m2 q2 most 0 ns 0 [] none 0) := hide (by
    have hb1 := HB1.out.size
    have hb2 := HB2.out.size
    have hs2 := HS2.out
    have h2 := H2.out
    refine ⟨⟨Nat.le_trans hb2 hb3.size, FT, FO, FT2, FO2, fun _ => False, 0, 0, mf [], 0, [], ⟨h2.past hb3, ⟨h3.cells, h3.mp, h3.ff, h3.lt, h3.tO, h3.cT, h3.cO, h3.mT, h3.mO, by omega, by omega, hm1, hm2, by omega, fun l v hv => by rw [mf_nil] at hv; cases hv⟩, Row.nil _ _ _ _, fun _ h => h.elim, fun j hj hj2 => by have := h2.low j hj; have := hl3 j hj2; omega, fun _ _ h => h.elim, fun _ _ h => h.elim, fun j hj => by have := HL2.out j hj; omega, fun j hj => by have := hl3 j hj; omega, fun _ h => h.elim⟩, by omega, by simp⟩, Nat.le_refl _, Nat.le_refl _, by simp, HB2.out.trans (hb3.mono hb2)⟩)
  clear hb3 h3 hl3 H2 HL2 HB2 HS2 HB1
  go_wp2
  go_loopw [11, 12, 60] (fun tk av t wr => ∃ (i a : Nat) (Tk : List Int) (A : Option Addr) (cap : Nat), i ≤ nt ∧ t = .int .i64 i ∧ av = .int .i64 a ∧ tk = .slice A Tk.length cap ∧ Hid (Rel w wr c m q c2 m2 q2 most i ns a Tk A cap)) (fun _ _ t _ => nt - (intOf t).toNat)
  case atStart => exact ⟨0, 0, [], none, 0, Nat.zero_le _, rfl, rfl, rfl, hst⟩
  case round =>
    clear hst
    obtain ⟨i, a, Tk, A, cap, hi, rfl, rfl, rfl, hst⟩ := hrel
    by_cases hlt : i < nt
    · obtain ⟨x, hx⟩ : ∃ x, L[i]? = some x := ⟨_, List.getElem?_eq_getElem (by have := HL.out; omega)⟩
      obtain ⟨ad, tc', he, hcell⟩ := reads_pos (Reads.past' HT.out hst.out.2.2.2.2) (by omega)
      injection he with he _ hct
      subst he
      subst hct
      have h1 := hcell i _ (us_get hx)
      clear hcell
      go_upto_if 68 with fail
      go_cut [12, 60] from 60 to 195 (fun s12 s60 wc => s60 = .int .i64 i ∧ ∃ a' : Nat, s12 = .int .i64 a' ∧ Hid (St w.heap.size wc c m q c2 m2 q2 most (min (i + 1) ns) (Tk.drop a') (Tk.drop a') Tk A cap ∧ a' ≤ Tk.length ∧ Tk.length ≤ i ∧ Tk.length - a' ≤ most ∧ Below w.heap.size w wc))
      case first => as_aux_lemma =>
        obtain ⟨hst, ha, hTk, hmo, hbel⟩ := hst.out
        by_cases hs : i < ns
        · obtain ⟨o, ho⟩ : ∃ o, ops[i]? = some o := ⟨_, List.getElem?_eq_getElem (by have := HOl.out; omega)⟩
          obtain ⟨sd, he, sk, st⟩ := opc_cells (Reads.past' HO.out hbel) ho
          subst he
          have hwf := (HOw.out o (List.mem_of_getElem? ho)).2
          have HWf := hide hwf
          have hmin : min (i + 1) ns = min i ns + 1 := by omega
          have hKb : min i ns ≤ 8796093022208 := by omega
          have HR := hide hst
          have HB := hide hbel
          have HSr := hide (HS.out.below hbel)
          clear hst hbel ho hwf
          obtain ⟨kd, tk⟩ := o
          simp only at sk st HWf
          by_cases k0 : kd = 0
          · subst k0
            go_wp2_with (go_at_call 9; refine (st_ask HR.out (by omega) _ (HSr.out.cell 31 (by decide) (by decide))).mono ?_; rintro e w4 ⟨⟨v, rfl⟩, hs4, hb4⟩; have HS4 := hide hs4; have HB4 := hide hb4; clear hs4 hb4)
            go_meet
            case rel => exact ⟨rfl, a, rfl, by rw [hmin]; exact HS4.out, ha, hTk, hmo, HB.out.trans HB4.out⟩
          · by_cases k1 : kd = 1
            · subst k1
              clear k0
              go_wp2_with (go_at_call 10; refine (st_heard HR.out (by omega) tk HWf.out _ (HSr.out.cell 22 (by decide) (by decide))).mono ?_; rintro e w4 ⟨⟨v, rfl⟩, hs4, hb4⟩; have HS4 := hide hs4; have HB4 := hide hb4; clear hs4 hb4)
              go_meet
              case rel => exact ⟨rfl, a, rfl, by rw [hmin]; exact HS4.out, ha, hTk, hmo, HB.out.trans HB4.out⟩
            · by_cases k2 : kd = 2
              · subst k2
                clear k0 k1
                go_wp2_with (go_at_call 11; refine (st_answered HR.out).mono ?_; rintro e w4 ⟨⟨v, rfl⟩, hs4, hb4⟩; have HS4 := hide hs4; have HB4 := hide hb4; clear hs4 hb4)
                go_meet
                case rel => exact ⟨rfl, a, rfl, by rw [hmin]; exact HS4.out, ha, hTk, hmo, HB.out.trans HB4.out⟩
              · have hw1 : ∀ {wx : World} {Oa Ob : List Int}, St w.heap.size wx c m q c2 m2 q2 most (min i ns) Oa Ob Tk A cap → St w.heap.size wx c m q c2 m2 q2 most (min (i + 1) ns) Oa Ob Tk A cap := fun h => by
                  rw [hmin]
                  obtain ⟨hB, FT, FO, FT2, FO2, FK, n, x, f, z, T, hs, hn, hT⟩ := h
                  exact ⟨hB, FT, FO, FT2, FO2, FK, n, x, f, z, T, hs, by omega, by omega⟩
                by_cases k4 : kd = 4
                · subst k4
                  clear k0 k1 k2
                  by_cases hal : a < Tk.length
                  · obtain ⟨t, ht⟩ : ∃ t, Tk[a]? = some t := ⟨_, List.getElem?_eq_getElem hal⟩
                    have hdr : Tk.drop a = t :: Tk.drop (a + 1) := by
                      rw [List.drop_eq_getElem_cons hal]
                      congr 1
                      simpa [hal] using ht
                    have HR2 := HR.out
                    rw [hdr] at HR2
                    have HR3 := hide HR2
                    have HTt := hide ht
                    clear HR HR2 ht hdr
                    go_wp2_with (first
                      | (go_at_call 18
                         first
                         | (with_reducible refine Calls.mono (st_replied1_some t HR3.out) ?_; rintro e w4 ⟨rfl, hs4, hb4⟩; have HS4 := hide hs4; have HB4 := hide hb4; clear hs4 hb4)
                         | (with_reducible refine Calls.mono (st_replied2_some t HS4.out) ?_; rintro e w5 ⟨rfl, hs5, hb5⟩
                            have HS5 := hide hs5; have HB5 := hide hb5
                            obtain ⟨td, hA, hcl⟩ := hs5.took HTt.out
                            subst hA
                            clear hs5 hb5))
                      | fail)
                    go_meet
                    case rel => exact ⟨rfl, a + 1, by go_num, hw1 HS5.out, by omega, hTk, by omega, HB.out.trans (HB4.out.trans HB5.out)⟩
                  · have hdr : Tk.drop a = [] := List.drop_eq_nil_of_le (by omega)
                    have HR2 := HR.out
                    rw [hdr] at HR2
                    have HR3 := hide HR2
                    clear HR HR2
                    go_wp2_with (go_at_call 18; first | (with_reducible refine Calls.mono (st_replied1_none HR3.out) ?_; rintro e w4 ⟨rfl, rfl⟩) | (with_reducible refine Calls.mono (st_replied2_none HR3.out) ?_; rintro e w4 ⟨rfl, rfl⟩))
                    go_meet
                    case rel => exact ⟨rfl, a, rfl, by rw [hdr]; exact hw1 HR3.out, ha, hTk, hmo, HB.out⟩
                · have e0 : (kd == 0) = false := by simpa using k0
                  have e1 : (kd == 1) = false := by simpa using k1
                  have e2 : (kd == 2) = false := by simpa using k2
                  have e4 : (kd == 4) = false := by simpa using k4
                  clear k0 k1 k2 k4
                  go_wp2
                  go_meet
                  case rel => exact ⟨rfl, a, rfl, hw1 HR.out, ha, hTk, hmo, HB.out⟩
        · have hmin : min (i + 1) ns = min i ns := by omega
          have hR : Hid (St w.heap.size wr c m q c2 m2 q2 most (min (i + 1) ns) (Tk.drop a) (Tk.drop a) Tk A cap ∧ a ≤ Tk.length ∧ Tk.length ≤ i ∧ Tk.length - a ≤ most ∧ Below w.heap.size w wr) := hide ⟨by rw [hmin]; exact hst, ha, hTk, hmo, hbel⟩
          clear hst hbel
          go_wp2
          go_meet
          case rel => exact ⟨rfl, a, rfl, hR⟩
      case rest => as_aux_lemma =>
        obtain ⟨rfl, b, rfl, hx2⟩ := hcut
        obtain ⟨hst2, hb, hTk, hmo, hbel⟩ := hx2.out
        clear hst hx2 h1
        obtain ⟨k, hk⟩ : ∃ k, Tk.length = b + k := ⟨Tk.length - b, by omega⟩
        have hO : (Tk.drop b).length = k := by simp; omega
        have hx0 := HLw.out x (List.mem_of_getElem? hx)
        have HX := hide hx0
        have HR := hide hst2
        have HB := hide hbel
        have HSc := hide (HS.out.below hbel)
        clear hx hx0 hst2 hbel
        by_cases hf : most ≤ k
        · obtain rfl : k = most := by omega
          clear hf
          have HE4 : Hid (wc.cell? ⟨4, 0, none⟩ = some (.iface 122 (.pointer (some (adr 21))))) := hide (HSc.out.cell 21 (by decide) (by decide))
          have HFl : Hid (k ≤ (Tk.drop b).length) := hide (by rw [hO]; exact Nat.le_refl _)
          have hz1 : ((k : Int) != ((b + k : Nat) : Int) - (b : Int)) = false := by simp; omega
          have hz2 : ((k : Int) != (b : Int) + (k : Int) - (b : Int)) = false := by simp; omega
          have hz3 : ((k : Int) != (k : Int)) = false := by simp
          go_wp2_with fail
          refine (st_asked1_full HR.out HFl.out x _ HE4.out).mono ?_
          rintro e w4 ⟨rfl, hs4, hb4⟩
          have HS4 := hide hs4
          have HB4 := hide (HB.out.trans hb4)
          have HE5 := hide ((HS.out.below HB4.out).cell 21 (by decide) (by decide))
          clear hs4 hb4
          go_wp2_with fail
          refine (st_asked2_full HS4.out HFl.out x _ HE5.out).mono ?_
          rintro e w5 ⟨rfl, hs5, hb5⟩
          have HS5 := hide hs5
          have HB5 := hide (HB4.out.trans hb5)
          clear hs5 hb5
          go_wp2_with fail
          refine (code_err _ adr (HS.out.below HB5.out) 21 (by decide) (by decide) (by decide)).mono ?_
          rintro e w5 ⟨rfl, rfl⟩
          go_wp2_with fail
          refine (st_owed1 HS5.out).mono ?_
          rintro e w6 ⟨rfl, rfl⟩
          rw [hO]
          go_wp2_with fail
          refine (st_owed2 HS5.out).mono ?_
          rintro e w6 ⟨rfl, rfl⟩
          rw [hO]
          go_wp2_with fail
          refine (st_owed1 HS5.out).mono ?_
          rintro e w6 ⟨rfl, rfl⟩
          rw [hO]
          go_wp2_with fail
          refine (st_owed1 HS5.out).mono ?_
          rintro e w6 ⟨rfl, rfl⟩
          rw [hO]
          go_wp2_with fail
          refine (st_waiting1 HS5.out).mono ?_
          rintro e w7 ⟨rfl, hs7, hb7⟩
          have HS7 := hide hs7
          have HB7 := hide (HB5.out.trans hb7)
          clear hs7 hb7
          go_wp2
          go_roundw
          case rel => exact ⟨i + 1, b, Tk, A, cap, by omega, by go_num, rfl, by rw [hk], HS7.out, hb, by omega, hmo, HB7.out⟩
          case measure => simp [intOf]; omega
        · have HFn : Hid ((Tk.drop b).length < most) := hide (by rw [hO]; omega)
          have hO2 : (Tk.drop b ++ [x]).length = k + 1 := by rw [List.length_append, hO]; rfl
          have hlt2 : ¬ most ≤ k := hf
          obtain ⟨i0, hi0, hz0, hz1, hz2⟩ := info_parts info_u
          go_wp2_with fail
          refine (st_asked1_ok HR.out HFn.out x).mono ?_
          rintro e w4 ⟨rfl, hs4, hb4⟩
          have HS4 := hide hs4
          have HB4 := hide (HB.out.trans hb4)
          clear hs4 hb4
          go_wp2_with fail
          refine (st_asked2_ok HS4.out HFn.out x).mono ?_
          rintro e w5 ⟨rfl, hs5, hb5⟩
          have HB5 := hide (HB4.out.trans hb5)
          obtain ⟨hBs, FT, FO, FT2, FO2, FK, n, x0, f, z, T, hs, hn, hT⟩ := hs5
          have HSS := hide hs
          have HR5 := hide (hs.k.alloc (.cells #[.int .u32 x] 30))
          have HO5 := hide (reads_one w5 (.int .u32 x) 30 1)
          clear hb5 hs
          rw [hk] at HR5
          go_wp2_with (first
            | (at_builtin; refine wpList_append_row rfl _ _ 29 rfl 30 i0 (.int .u32 0) 1 4 Tryd.underlying29 hi0 hz0 hz1 hz2 rfl (by decide) rfl HR5.out rfl HO5.out (us_one [x]) (by unfold maxLen; omega) (by omega) ?_; intro A2 cap2 w6 hr6 hm6
               have HR6 := hide hr6
               have HM6 := hide hm6
               clear hr6 hm6)
            | fail)
          have hal : Below w5.heap.size w5 (w5.alloc (.cells #[.int .u32 x] 30)) := (Below.refl _ _).alloc (Nat.le_refl _) _
          have hsz : (w5.alloc (.cells #[.int .u32 x] 30)).heap.size = w5.heap.size + 1 := by simp
          have hlen : (Tk ++ [x]).length = b + k + 1 := by rw [List.length_append, hk]; rfl
          have hs6 := HM6.out.size
          have hdr : (Tk ++ [x]).drop b = Tk.drop b ++ [x] := List.drop_append_of_le_length (by omega)
          have hr7 : Row w6 (fun j => FK j ∨ (j = w5.heap.size + 1 ∧ j < w6.heap.size)) 30 1 (.slice A2 (Tk ++ [x]).length cap2) (Tk ++ [x]).length (us (Tk ++ [x])) := by
            rw [hlen, ← us_append]
            exact Row.mono HR6.out (fun j hj hl => hj.imp id (fun e => ⟨by omega, hl⟩))
          have HS6 : Hid (St w.heap.size w6 c m q c2 m2 q2 most (min (i + 1) ns) (Tk.drop b ++ [x]) (Tk.drop b ++ [x]) (Tk ++ [x]) A2 cap2) := hide
            ⟨by omega, FT, FO, FT2, FO2, _, n, x0, f, z, T, (HSS.out.past hal).stepK (by omega) hr7 HM6.out (fun j hj => hj.imp id (fun e => ⟨by omega, e.2⟩)), hn, hT⟩
          have HB6 := hide (HB5.out.trans ((hal.mono hBs).trans (HM6.out.below (by omega) HSS.out.kB)))
          have hy1 : (((k + 1 : Nat) : Int) != ((b + k + 1 : Nat) : Int) - (b : Int)) = false := by simp; omega
          have hy2 : ((k : Int) + 1 != (b : Int) + (k : Int) + 1 - (b : Int)) = false := by simp; omega
          have hy3 : ((k : Int) + 1 != (k : Int) + 1) = false := by simp
          have HHd := hide hdr
          have HHl := hide hlen
          clear hal hsz hlen hs6 hdr hr7 HR6 HM6
          refine (st_owed1 HS6.out).mono ?_
          rintro e w7 ⟨rfl, rfl⟩
          rw [hO2]
          go_wp2_with fail
          refine (st_owed2 HS6.out).mono ?_
          rintro e w7 ⟨rfl, rfl⟩
          rw [hO2]
          go_wp2_with fail
          refine (st_owed1 HS6.out).mono ?_
          rintro e w7 ⟨rfl, rfl⟩
          rw [hO2]
          go_wp2_with fail
          refine (st_owed1 HS6.out).mono ?_
          rintro e w7 ⟨rfl, rfl⟩
          rw [hO2]
          go_wp2_with fail
          refine (st_waiting1 HS6.out).mono ?_
          rintro e w7 ⟨rfl, hs7, hb7⟩
          have HS7 := hide hs7
          have HB7 := hide (HB6.out.trans hb7)
          clear hs7 hb7
          go_wp2
          go_roundw
          case rel => exact ⟨i + 1, b, Tk ++ [x], A2, cap2, by omega, by go_num, rfl, by rw [HHl.out], ⟨by rw [HHd.out]; exact HS7.out, by rw [HHl.out]; omega, by rw [HHl.out]; omega, by rw [HHl.out]; omega, HB7.out⟩⟩
          case measure => simp [intOf]; omega
    · obtain rfl : i = nt := by omega
      obtain ⟨hs0, ha0, hT0, _, hb0⟩ := hst.out
      have HR := hide hs0
      have HB := hide hb0
      clear hst hs0 hb0
      obtain ⟨wo, rfl⟩ : ∃ wo : World, wo = wr := ⟨_, rfl⟩
      go_wp2
      go_loopw [12] (fun av wr => ∃ b : Nat, av = .int .i64 b ∧ b ≤ Tk.length ∧ Hid (St w.heap.size wr c m q c2 m2 q2 most (min i ns) (Tk.drop a) (Tk.drop b) Tk A cap ∧ Below w.heap.size w wr)) (fun av _ => Tk.length - (intOf av).toNat)
      case atStart => exact ⟨a, rfl, ha0, hide ⟨HR.out, HB.out⟩⟩
      case round =>
        obtain ⟨b, rfl, hb, hst⟩ := hrel
        have HR2 := hide hst.out.1
        have HB2 := hide hst.out.2
        clear hst
        by_cases hbl : b < Tk.length
        · obtain ⟨t, ht⟩ : ∃ t, Tk[b]? = some t := ⟨_, List.getElem?_eq_getElem hbl⟩
          have hdr : Tk.drop b = t :: Tk.drop (b + 1) := by
            rw [List.drop_eq_getElem_cons hbl]
            congr 1
            simpa [hbl] using ht
          have h2 := HR2.out
          rw [hdr] at h2
          have HR3 := hide h2
          have HTt := hide ht
          clear h2 ht hdr
          go_wp2_with fail
          refine (st_replied2_some t HR3.out).mono ?_
          rintro e w5 ⟨rfl, hs5, hb5⟩
          have HS5 := hide hs5
          have HB5 := hide (HB2.out.trans hb5)
          obtain ⟨td, hA, hcl⟩ := hs5.took HTt.out
          subst hA
          clear hs5 hb5
          go_wp2
          go_roundw
          case rel => exact ⟨b + 1, by go_num, by omega, hide ⟨HS5.out, HB5.out⟩⟩
          case measure => simp [intOf]; omega
        · have hdr : Tk.drop b = [] := List.drop_eq_nil_of_le (by omega)
          have h2 := HR2.out
          rw [hdr] at h2
          have HR3 := hide h2
          clear h2 hdr
          go_wp2_with fail
          refine (st_replied2_none HR3.out).mono ?_
          rintro e w5 ⟨rfl, rfl⟩
          go_wp2_with fail
          refine (st_owed2 HR3.out).mono ?_
          rintro e w5 ⟨rfl, rfl⟩
          go_wp2
          go_ret
          exact ⟨rfl, HB2.out⟩
end pingsOwed
end Go.Proofs.YtccojgaahoonhaaDoor
