/-
  HandlesNever: for every script of at most 1048576 calls the law returns true. Conditions: the sentinels' variables hold their errors; the script can be read.
-/
import Derived.Test.YtjkahckglhpjeaaDoorHOnLaw
import Derived.Test.YtjkahckglhpjeaaDoorHNever
import Derived.Deep.CutBlock
namespace Go.Proofs.YtjkahckglhpjeaaDoor.handlesNever
open Go Go.RowKit Go.Cu Go.Proofs.YtjkahckglhpjeaaDoor Go.Proofs.YtjkahckglhpjeaaDoor.errs Go.Proofs.YtjkahckglhpjeaaDoor.handlesOn

theorem below_at {w w' : World} {b : Nat} {o : Obj} (hb : Below w.heap.size w w') (h : w.heap[b]? = some o) : w'.heap[b]? = some o := (hb.block _ (Array.getElem?_eq_some_iff.1 h).1).trans h
theorem box5 {w : World} {p : Nat} {x y z u v : Value} {t : TypeId} (h : w.heap[p]? = some (.cells #[x, y, z, u, v] t (0, 0))) :
    w.cell? ⟨p, 0, none⟩ = some x ∧ w.cell? ⟨p, 1, none⟩ = some y ∧ w.cell? ⟨p, 2, none⟩ = some z ∧ w.cell? ⟨p, 3, none⟩ = some u ∧ w.cell? ⟨p, 4, none⟩ = some v :=
  ⟨by rw [cell_of_row w p 0 _ _ _ h]; rfl, by rw [cell_of_row w p 1 _ _ _ h]; rfl, by rw [cell_of_row w p 2 _ _ _ h]; rfl, by rw [cell_of_row w p 3 _ _ _ h]; rfl, by rw [cell_of_row w p 4 _ _ _ h]; rfl⟩

/-- a place's cells -/
theorem pls_cell {w : World} {A : Option Addr} {n c : Nat} {P : List Pl} (hr : Reads w 3 (.slice A n c) n (pls P)) {i : Nat} {p : Pl} (hp : P[i]? = some p) :
    ∃ ad, A = some ad ∧ w.cell? (ad.add (i * 3)) = some (.int .i64 p.conn) ∧ w.cell? ⟨(ad.add (i * 3)).block, (ad.add (i * 3)).off + 1, none⟩ = some (.int .i64 p.life) ∧ w.cell? ⟨(ad.add (i * 3)).block, (ad.add (i * 3)).off + 2, none⟩ = some (.int .u32 p.id) := by
  have hi : i < P.length := (List.getElem?_eq_some_iff.1 hp).1
  have hg := flat_get pl_length hp
  obtain ⟨h1, A', c', he, _, h3⟩ := hr
  rw [pls_length] at h1
  injection he with he _ _
  rcases h3 with h3 | ⟨ad, hA, h4⟩
  · omega
  · have e : ∀ k, k ≠ 0 → ad.add (i * 3 + k) = ⟨(ad.add (i * 3)).block, (ad.add (i * 3)).off + k, none⟩ := fun k hk => by
      unfold Addr.add
      by_cases h : i * 3 = 0 <;> simp [h, hk, Nat.add_assoc]
    refine ⟨ad, by rw [he, hA], h4 _ _ (hg 0 _ rfl), ?_, ?_⟩
    · rw [← e 1 (by decide)]; exact h4 _ _ (hg 1 _ rfl)
    · rw [← e 2 (by decide)]; exact h4 _ _ (hg 2 _ rfl)

set_option maxRecDepth 10000 in
set_option maxHeartbeats 8000000 in
theorem walk (w : World) (adr : Nat → Addr) (hS : Sent w adr) (sv : Value) (n : Nat) (ops : List OpH) (ho : Ops w sv n ops) (hn : n ≤ 1048576) :
    Calls Tryd.prog 5 #[sv] w fun e w' => e = .returned (.bool true) ∧ Below w.heap.size w w' := by
  have HOp := hide ho
  have HS := hide hS
  obtain ⟨SA, sc, rfl⟩ := ho.reads.shape
  obtain ⟨i0, hi0, hz0, hz1, hz2⟩ := info_parts info_bool
  obtain ⟨j0, hj0, hy0, hy1, hy2⟩ := info_parts info_pl
  clear ho hS
  go_enter Tryd.func5, Tryd.ntmps5
  go_wp2_with fail
  refine (wakes_true w adr HS.out).mono ?_
  rintro e w1 ⟨rfl, hb1⟩
  have HB1 := hide hb1
  clear hb1
  go_wp2_with fail
  refine (new_any w1).mono ?_
  rintro e w2 ⟨c, rfl, m1, m2, h1, l1, l2, l3, hb2⟩
  have HN2 : Hid (NS w w2 c m1 m2 0 [] (.slice none 0 0) (.slice none 0 0) [] []) := hide ⟨H1.made HB1.out h1 l1 l2 l3 hb2, Row.nil _ _ _ _, Row.nil _ _ _ _, Nv.nil⟩
  clear h1 l1 l2 l3 hb2
  go_wp2_with fail
  go_loopw [4, 5, 6, 7] (fun gv lv pv t wr => ∃ i g : Nat, i ≤ n ∧ g ≤ i ∧ t = .int .i64 i ∧ gv = .int .i64 g ∧ ∃ LA lc PA pc, lv = .slice LA g lc ∧ pv = .slice PA g pc ∧ Hid (∃ L B P, NS w wr c m1 m2 g L (.slice LA g lc) (.slice PA g pc) B P)) (fun _ _ _ t _ => n - (intOf t).toNat)
  case atStart => exact ⟨0, 0, Nat.zero_le _, Nat.le_refl _, rfl, rfl, none, 0, none, 0, rfl, rfl, hide ⟨[], [], [], HN2.out⟩⟩
  case round =>
    clear HN2
    obtain ⟨i, g, hi, hgi, rfl, rfl, LA, lc, PA, pc, rfl, rfl, hst⟩ := hrel
    obtain ⟨L, B, P, hT⟩ := hst.out
    have HT := hide hT
    clear hst hT
    by_cases hlt : i < n
    · as_aux_lemma =>
      obtain ⟨⟨kd, p, hd⟩, hoi⟩ : ∃ o, ops[i]? = some o := ⟨_, List.getElem?_eq_getElem (by rw [HOp.out.length]; exact hlt)⟩
      obtain ⟨_, w2f, w3f⟩ := HOp.out.each _ (List.mem_of_getElem? hoi)
      have w2f : p.wf := w2f
      have w3f : (Lit.int .i64 hd).wf = true := w3f
      have HWf := hide w3f
      have HWp := hide w2f
      have HU := hide (flat_get opCell_length hoi)
      have HRd := hide (Reads.past HOp.out.reads HT.out.h1.below)
      have hal : Below wr.heap.size wr (wr.alloc (.cells #[.int .i64 kd, .int .i64 p.conn, .int .i64 p.life, .int .u32 p.id, .int .i64 hd] 30)) := (Below.refl _ _).alloc (Nat.le_refl _) _
      have hbx := heap_alloc_new wr (.cells #[.int .i64 kd, .int .i64 p.conn, .int .i64 p.life, .int .u32 p.id, .int .i64 hd] 30)
      have hT1 := HT.out.past hal
      clear hoi w2f w3f hal
      go_upto_region 11 with (first
        | ((with_reducible refine at_index rfl ?_); refine wpList_atS rfl rfl _ _ 22 30 _ rfl rfl rfl (by simp) Tryd.underlying22 (by decide) size_op agg_op rfl HRd.out rfl (by omega) (by omega) (us := [.int .i64 kd, .int .i64 p.conn, .int .i64 p.life, .int .u32 p.id, .int .i64 hd]) rfl HU.out ?_; intro zz)
        | fail)
      obtain ⟨wa, hwa⟩ : ∃ wa, wr.alloc (.cells #[.int .i64 kd, .int .i64 p.conn, .int .i64 p.life, .int .u32 p.id, .int .i64 hd] 30) = wa := ⟨_, rfl⟩
      obtain ⟨q, hq⟩ : ∃ q, wr.heap.size = q := ⟨_, rfl⟩
      rw [hwa] at hbx hT1
      rw [hq] at hbx
      rw [hwa, hq]
      have HBx := hide hbx
      have HT1 := hide hT1
      clear hwa hq hbx hT1
      obtain ⟨o0, o1, o2, o3, o4⟩ := box5 HBx.out
      by_cases hk : kd = 2
      · subst hk
        rcases splitH L hd with hno | ⟨a, e, b, hL, he, _⟩
        · have HNo := hide hno
          clear hno
          by_cases hrg : 1 ≤ hd ∧ hd ≤ (g : Int)
          · obtain ⟨j, hj⟩ : ∃ j : Nat, hd = (j : Int) + 1 := ⟨(hd - 1).toNat, by omega⟩
            subst hj
            have hjg : j < g := by omega
            obtain ⟨ad, q1, he1, hcell⟩ := reads_pos HT1.out.live.reads (by omega)
            injection he1 with hA1 h1a hc1
            subst hA1
            subst hc1
            have hcell := hcell j _ (bools_get (HT1.out.nv.no j hjg HNo.out))
            have t1 : decide ((1 : Int) ≤ (j : Int) + 1) = true := decide_eq_true (by omega)
            have t2 : decide ((j : Int) + 1 ≤ (g : Int)) = true := decide_eq_true (by omega)
            clear h1a hrg o1 o2 o3
            go_wp2_with fail
            refine (drop_no wa c m1 m2 g L HT1.out.h1.hs _ HWf.out HNo.out).mono ?_
            rintro r w3 ⟨rfl, hb3⟩
            have HT3 := hide (HT1.out.past hb3)
            clear hb3 o0 o4 hcell t1 t2
            go_wp2
            go_roundw
            case rel => exact ⟨i + 1, g, by omega, by omega, by go_num, rfl, _, _, _, _, rfl, rfl, hide ⟨L, B, P, HT3.out⟩⟩
            case measure => simp [intOf]; omega
          · have hcs : decide ((1 : Int) ≤ hd) = false ∨ (decide ((1 : Int) ≤ hd) = true ∧ decide (hd ≤ (g : Int)) = false) := by
              by_cases h1 : 1 ≤ hd
              · exact .inr ⟨decide_eq_true h1, decide_eq_false (by omega)⟩
              · exact .inl (decide_eq_false h1)
            clear hrg o1 o2 o3
            rcases hcs with t1 | ⟨t1, t2⟩
            all_goals
              go_wp2_with fail
              refine (drop_no wa c m1 m2 g L HT1.out.h1.hs _ HWf.out HNo.out).mono ?_
              rintro r w3 ⟨rfl, hb3⟩
              have HT3 := hide (HT1.out.past hb3)
              clear hb3 o0 o4
              go_wp2
              go_roundw
              case rel => exact ⟨i + 1, g, by omega, by omega, by go_num, rfl, _, _, _, _, rfl, rfl, hide ⟨L, B, P, HT3.out⟩⟩
              case measure => simp [intOf]; omega
        · subst hL
          obtain ⟨j, hj, hbj, hpj⟩ := HT1.out.nv.yes e (by simp)
          have hjg : j < g := by have := HT1.out.nv.lb; have := (List.getElem?_eq_some_iff.1 hbj).1; omega
          have hdj : hd = (j : Int) + 1 := he.symm.trans hj
          subst hdj
          obtain ⟨ad, q1, he1, hcell⟩ := reads_pos HT1.out.live.reads (by omega)
          injection he1 with hA1 h1a hc1
          subst hA1
          subst hc1
          have hcell := hcell j _ (bools_get hbj)
          have t1 : decide ((1 : Int) ≤ (j : Int) + 1) = true := decide_eq_true (by omega)
          have t2 : decide ((j : Int) + 1 ≤ (g : Int)) = true := decide_eq_true (by omega)
          have hdr := drop_yes wa c m1 m2 g a b e HT1.out.h1.hs (by rw [he]; exact HWf.out)
          rw [he] at hdr
          have HDr := hide hdr
          have HHj := hide hj
          clear h1a o1 o2 o3 hdr hj hbj hpj he
          go_wp2_with fail
          refine HDr.out.mono ?_
          rintro r w3 ⟨rfl, hs3, hm3⟩
          have hrow3 := (HT1.out.rows hm3).1.narrow
          have hb3 := hm3.heap HBx.out (fun hk => HT1.out.h1.hs.not_row (by decide) _ hk ⟨_, HBx.out⟩)
          have HRow3 := hide hrow3
          have HS3 := hide hs3
          have HM3 := hide hm3
          clear o0 o4 hcell t1 t2 hrow3 hs3 hm3
          obtain ⟨o0, o1, o2, o3, o4⟩ := box5 hb3
          clear hb3 o0 o1 o2 o3
          go_wp2_with (first
            | ((with_reducible refine at_index rfl ?_); refine wpList_put1 rfl rfl _ _ _ 48 4 _ rfl rfl rfl rfl (by simp) Tryd.underlying48 size_bool rfl HRow3.out (j := (j : Int)) rfl (by omega) (by omega) (fun _ => rfl) rfl ?_; intro p w4 hr4 hm4; rw [Int.toNat_natCast] at hr4; have HT4 := hide (HT1.out.dropped HHj.out HS3.out HM3.out hr4 hm4); clear hr4 hm4)
            | fail)
          go_roundw
          case rel => exact ⟨i + 1, g, by omega, by omega, by go_num, rfl, _, _, _, _, rfl, rfl, hide ⟨_, _, _, HT4.out⟩⟩
          case measure => simp [intOf]; omega
      · have hk2 : (kd == 2) = false := by simpa using hk
        have t1 : decide ((2147483648 : Int) ≤ (g : Int)) = false := decide_eq_false (by omega)
        rcases splitP L p with hno | ⟨a, e, b, hL, he, _⟩
        · have HNo := hide hno
          clear hno hk
          go_wp2_with fail
          refine (of_no wa c m1 m2 g L HT1.out.h1.hs p HWp.out HNo.out).mono ?_
          rintro r w3 ⟨rfl, hb3⟩
          have HT3 := hide (HT1.out.past hb3)
          have HB3 := hide (below_at hb3 HBx.out)
          clear hb3 o0 o1 o2 o3 o4 hk2
          obtain ⟨o0, o1, o2, o3, o4⟩ := box5 HB3.out
          go_wp2_with fail
          refine (bind_ok w3 c m1 m2 g L HT3.out.h1.hs p HWp.out HNo.out (by omega)).mono ?_
          rintro r w4 ⟨rfl, hs4, hm4⟩
          obtain ⟨hl4, hp4⟩ := HT3.out.rows hm4
          have HH4 := hide (HT3.out.h1.turn hs4 hm4)
          have HB4 := hide (hm4.heap HB3.out (fun hk => HT3.out.h1.hs.not_row (by decide) _ hk ⟨_, HB3.out⟩))
          have HL4 := hide hl4
          have HP4 := hide hp4
          clear hs4 hm4 hl4 hp4 o0 o1 o2 o3 o4
          obtain ⟨o0, o1, o2, o3, o4⟩ := box5 HB4.out
          go_wp2_with fail
          refine (code_nil w4).mono ?_
          rintro r w4' ⟨rfl, rfl⟩
          have hal5 : Below w4'.heap.size w4' (w4'.alloc (.cells #[.bool true] 4)) := (Below.refl _ _).alloc (Nat.le_refl _) _
          have HAl5 := hide hal5
          have HL5 := hide (HL4.out.alloc (.cells #[.bool true] 4)).narrow
          clear hal5
          go_upto_region 27 with (first
            | (at_builtin; refine wpList_append_row rfl _ _ 48 rfl 4 i0 (.bool false) 1 1 Tryd.underlying48 hi0 hz0 hz1 hz2 rfl (by decide) rfl HL5.out rfl (reads_one _ _ _ _) (by simp [Value.oneCell']) (by unfold maxLen; omega) (by omega) ?_
               intro A6 c6 w6 hr6 hm6
               have h5 := HH4.out.past HAl5.out
               have h6 : H1 w w6 c m1 m2 (g + 1) (L ++ [⟨(g + 1 : Nat), p⟩]) := ⟨h5.hs.far (by decide) hm6, h5.low, h5.below.trans (hm6.below h5.below.size (fun k hk => hk.1))⟩
               have HH6 := hide h6
               have HL6 := hide (hr6.mono (G := New w) (fun k hk _ => hk.elim (fun h => h.1) (fun h => by rw [h]; exact h5.below.size)))
               have hp5 := (HP4.out.alloc (.cells #[.bool true] 4)).narrow
               have HP6 := hide ((hp5.kept hm6 (fun k hk _ hg => by
                 obtain ⟨_, c1, e1⟩ := hk
                 obtain ⟨_, c2, e2⟩ := hg
                 rw [e1] at e2
                 cases e2)).mono (G := New w) (fun k hk _ => hk.1))
               have hb5 := below_at HAl5.out HB4.out
               have HB6 := hide (hm6.heap hb5 (fun hk => not_ofE hb5 (by decide) hk.2))
               clear hr6 hm6 h5 h6 hp5 hb5)
            | fail)
          clear o0 o1 o2 o3 o4
          obtain ⟨o0, o1, o2, o3, o4⟩ := box5 HB6.out
          have hal7 : Below w6.heap.size w6 (w6.alloc (.cells #[.int .i64 p.conn, .int .i64 p.life, .int .u32 p.id] 28)) := (Below.refl _ _).alloc (Nat.le_refl _) _
          have HAl7 := hide hal7
          have HP7 := hide (HP6.out.alloc (.cells #[.int .i64 p.conn, .int .i64 p.life, .int .u32 p.id] 28)).narrow
          have HOne : Hid (Reads (w6.alloc (.cells #[.int .i64 p.conn, .int .i64 p.life, .int .u32 p.id] 28)) 3 (.slice (some ⟨w6.heap.size, 0, none⟩) 1 1) 1 (pls [p])) := hide (reads_new w6 (pls [p]) 28 1 1 3 rfl (by unfold maxLen; omega))
          clear hal7
          go_upto_region 28 with (first
            | (at_builtin; refine wpList_append_row rfl _ _ 49 rfl 28 j0 (.agg #[.int .i64 0, .int .i64 0, .int .u32 0]) 3 24 Tryd.underlying49 hj0 hy0 hy1 hy2 rfl (by decide) rfl HP7.out rfl HOne.out (pls_one _) (by unfold maxLen; omega) (by omega) ?_
               intro A8 c8 w8 hr8 hm8
               have h7 := HH6.out.past HAl7.out
               have HH8 : Hid (H1 w w8 c m1 m2 (g + 1) (L ++ [⟨(g + 1 : Nat), p⟩])) := hide ⟨h7.hs.far (by decide) hm8, h7.low, h7.below.trans (hm8.below h7.below.size (fun k hk => hk.1))⟩
               have HP8 := hide (hr8.mono (G := New w) (fun k hk _ => hk.elim (fun h => h.1) (fun h => by rw [h]; exact h7.below.size)))
               have hl7 := (HL6.out.alloc (.cells #[.int .i64 p.conn, .int .i64 p.life, .int .u32 p.id] 28)).narrow
               have HL8 := hide ((hl7.kept hm8 (fun k hk _ hg => by
                 obtain ⟨_, c1, e1⟩ := hk
                 obtain ⟨_, c2, e2⟩ := hg
                 rw [e1] at e2
                 cases e2)).mono (G := New w) (fun k hk _ => hk.1))
               have hb7 := below_at HAl7.out HB6.out
               have HB8 := hide (hm8.heap hb7 (fun hk => not_ofE hb7 (by decide) hk.2))
               clear hr8 hm8 h7 hl7 hb7)
            | fail)
          have HN8 : Hid (NS w w8 c m1 m2 (g + 1) (L ++ [⟨(g + 1 : Nat), p⟩]) (.slice A6 (g + 1) c6) (.slice A8 (g + 1) c8) (B ++ [true]) (P ++ [p])) := hide ⟨HH8.out, by rw [← bools_app]; exact HL8.out, by rw [← pls_app]; exact HP8.out, HT3.out.nv.bind p⟩
          clear o0 o1 o2 o3 o4 HL8 HP8 HP7 HL6 HP6 HL5 HL4 HP4 HH6 HH8 HOne
          obtain ⟨o0, o1, o2, o3, o4⟩ := box5 HB8.out
          go_wp2_with fail
          refine (of_yes w8 c m1 m2 (g + 1) L [] ⟨(g + 1 : Nat), p⟩ HN8.out.h1.hs).mono ?_
          rintro r w9 ⟨rfl, hb9⟩
          have HN9 := hide (HN8.out.past hb9)
          have HB9 := hide (below_at hb9 HB8.out)
          clear hb9 o0 o1 o2 o3 o4
          go_wp2_with fail
          refine (find_yes w9 c m1 m2 (g + 1) L [] ⟨(g + 1 : Nat), p⟩ HN9.out.h1.hs (WalkArith.wf_i64 (by show -9223372036854775808 ≤ ((g + 1 : Nat) : Int) ∧ ((g + 1 : Nat) : Int) ≤ 9223372036854775807; omega))).mono ?_
          unfold Pl.v
          rintro r w10 ⟨rfl, hb10⟩
          have hal : Below w10.heap.size w10 (w10.alloc (.cells #[.int .i64 p.conn, .int .i64 p.life, .int .u32 p.id] 28)) := (Below.refl _ _).alloc (Nat.le_refl _) _
          have HN10 := hide ((HN9.out.past hb10).past hal)
          have hb11 := below_at hal (below_at hb10 HB9.out)
          obtain ⟨o0, o1, o2, o3, o4⟩ := box5 hb11
          clear hb10 hal hb11
          go_wp2
          go_roundw
          case rel => exact ⟨i + 1, g + 1, by omega, by omega, by go_num, by go_num, A6, c6, A8, c8, rfl, rfl, hide ⟨_, _, _, HN10.out⟩⟩
          case measure => simp [intOf]; omega
        · subst hL
          subst he
          clear hk
          go_wp2_with fail
          refine (of_yes wa c m1 m2 g a b e HT1.out.h1.hs).mono ?_
          rintro r w3 ⟨rfl, hb3⟩
          have HT3 := hide (HT1.out.past hb3)
          have HB3 := hide (below_at hb3 HBx.out)
          have HE3 := hide ((HS.out.below (HT1.out.past hb3).h1.below).cell 8 (by decide) (by decide))
          clear hb3 o0 o1 o2 o3 o4 hk2
          obtain ⟨o0, o1, o2, o3, o4⟩ := box5 HB3.out
          go_wp2_with fail
          refine (bind_twice w3 c m1 m2 g a b e HT3.out.h1.hs _ HE3.out).mono ?_
          rintro r w4 ⟨rfl, hb4⟩
          have HT4 := hide (HT3.out.past hb4)
          have HB4 := hide (below_at hb4 HB3.out)
          clear hb4 o0 o1 o2 o3 o4
          obtain ⟨o0, o1, o2, o3, o4⟩ := box5 HB4.out
          go_wp2_with fail
          refine (code_err w4 adr (HS.out.below HT4.out.h1.below) 8 (by decide) (by decide) (by decide)).mono ?_
          rintro r w4' ⟨rfl, rfl⟩
          go_wp2_with fail
          refine (of_yes w4' c m1 m2 g a b e HT4.out.h1.hs).mono ?_
          rintro r w5 ⟨rfl, hb5⟩
          have HT5 := hide (HT4.out.past hb5)
          have HB5 := hide (below_at hb5 HB4.out)
          clear hb5 o0 o1 o2 o3 o4
          go_wp2_with fail
          refine (find_yes w5 c m1 m2 g a b e HT5.out.h1.hs (WalkArith.wf_i64 (by have := HT5.out.h1.hs.rng e (by simp); omega))).mono ?_
          unfold Pl.v
          rintro r w6 ⟨rfl, hb6⟩
          have hal : Below w6.heap.size w6 (w6.alloc (.cells #[.int .i64 e.p.conn, .int .i64 e.p.life, .int .u32 e.p.id] 28)) := (Below.refl _ _).alloc (Nat.le_refl _) _
          have HT7 := hide ((HT5.out.past hb6).past hal)
          have hb7 := below_at hal (below_at hb6 HB5.out)
          obtain ⟨o0, o1, o2, o3, o4⟩ := box5 hb7
          clear hb6 hal hb7
          go_wp2
          go_roundw
          case rel => exact ⟨i + 1, g, by omega, by omega, by go_num, rfl, _, _, _, _, rfl, rfl, hide ⟨_, _, _, HT7.out⟩⟩
          case measure => simp [intOf]; omega
    · as_aux_lemma =>
      obtain rfl : i = n := by omega
      clear hlt hi
      go_wp2_with fail
      go_loopw [18, 19] (fun nv kv wr => ∃ k : Nat, k ≤ g ∧ kv = .int .i64 k ∧ nv = .int .i64 (upto (L.map (·.h)) k) ∧ Hid (NS w wr c m1 m2 g L (.slice LA g lc) (.slice PA g pc) B P)) (fun _ kv _ => g - (intOf kv).toNat)
      case atStart => exact ⟨0, Nat.zero_le _, rfl, by rw [upto_none (fun x hx => by obtain ⟨e, he, rfl⟩ := List.mem_map.1 hx; have := HT.out.h1.hs.rng e he; omega)]; rfl, HT⟩
      case round =>
        obtain ⟨k, hk, rfl, rfl, HQ⟩ := hrel
        by_cases hkl : k < g
        · as_aux_lemma =>
          have HWf : Hid ((Lit.int .i64 ((k : Int) + 1)).wf = true) := hide (WalkArith.wf_i64 (by omega))
          have hle : decide ((k : Int) < (g : Int)) = true := decide_eq_true (by omega)
          obtain ⟨ad, q1, he1, hcell⟩ := reads_pos HQ.out.live.reads (by omega)
          injection he1 with hA1 h1a hc1
          subst hA1
          subst hc1
          clear h1a hcell
          rcases splitH L ((k : Int) + 1) with hno | ⟨a, e, b, hL, he, _⟩
          · have HNo := hide hno
            have HUp := hide (upto_out (F := L.map (·.h)) (j := k) (fun hx => by obtain ⟨e, he, h1⟩ := List.mem_map.1 hx; exact hno e he h1))
            obtain ⟨u, hu⟩ : ∃ u, upto (L.map (·.h)) k = u := ⟨_, rfl⟩
            rw [hu]
            have HU := hide hu
            clear hno hu
            go_wp2_with fail
            refine (find_no wr c m1 m2 g L HQ.out.h1.hs _ HWf.out HNo.out).mono ?_
            unfold Pl.v Pl.zero
            rintro r w4 ⟨rfl, hb4⟩
            have hal : Below w4.heap.size w4 (w4.alloc (.cells #[.int .i64 0, .int .i64 0, .int .u32 0] 28)) := (Below.refl _ _).alloc (Nat.le_refl _) _
            have hbz := heap_alloc_new w4 (.cells #[.int .i64 0, .int .i64 0, .int .u32 0] 28)
            have hQ5 := (HQ.out.past hb4).past hal
            go_upto_region 37 with fail
            obtain ⟨w5, hw5⟩ : ∃ w5, w4.alloc (.cells #[.int .i64 0, .int .i64 0, .int .u32 0] 28) = w5 := ⟨_, rfl⟩
            obtain ⟨q, hq⟩ : ∃ q, w4.heap.size = q := ⟨_, rfl⟩
            rw [hw5] at hbz hQ5
            rw [hq] at hbz
            rw [hw5, hq]
            have HQ5 := hide hQ5
            obtain ⟨z0, z1, z2, _⟩ := box3 hbz
            obtain ⟨ad', q', he', hcell⟩ := reads_pos HQ5.out.live.reads (by omega)
            injection he' with he' h2a h2b
            injection he' with he'
            subst he'
            have hcell := hcell k _ (bools_get (HQ5.out.nv.no k hkl HNo.out))
            clear h2a h2b hw5 hq hbz hQ5 hb4 hal
            go_quiet (fail)
            obtain ⟨w6, hw6⟩ : ∃ w6, w5.drewN nq = w6 := ⟨_, rfl⟩
            have hQ6 : NS w w6 c m1 m2 g L (.slice (some ad) g lc) (.slice PA g pc) B P := by rw [← hw6]; exact HQ5.out.past (below_drewN _ _)
            have HQ6 := hide hQ6
            rw [hw6]
            clear hw6 hQ6 z0 z1 z2 hcell
            go_wp2
            go_roundw
            case rel => exact ⟨k + 1, by omega, by go_num, by rw [← HU.out, ← HUp.out]; rfl, HQ6⟩
            case measure => simp [intOf]; omega
          · subst hL
            have hmem : ((k : Int) + 1) ∈ (a ++ e :: b).map (·.h) := List.mem_map.2 ⟨e, by simp, he⟩
            obtain ⟨_, hup⟩ := upto_in (HQ.out.h1.hs.rise.map _ (fun _ _ h => h)) hmem
            have HUp := hide hup
            obtain ⟨j, hj, hbj, hpj⟩ := HQ.out.nv.yes e (by simp)
            obtain rfl : j = k := by omega
            have HBj := hide hbj
            have HPj := hide hpj
            have hul : upto ((a ++ e :: b).map (·.h)) j ≤ g := by
              have h1 : upto ((a ++ e :: b).map (·.h)) j ≤ ((a ++ e :: b).map (·.h)).length := List.length_filter_le _ _
              have h2 := HQ.out.h1.hs.len_le
              rw [List.length_map] at h1
              omega
            obtain ⟨u, hu⟩ : ∃ u, upto ((a ++ e :: b).map (·.h)) j = u := ⟨_, rfl⟩
            rw [hu] at hul
            rw [hu]
            have HU := hide hu
            have hf := find_yes wr c m1 m2 g a b e HQ.out.h1.hs (by rw [he]; exact HWf.out)
            rw [he] at hf
            unfold Pl.v at hf
            have HF := hide hf
            have HHe := hide he
            clear hmem hup hj hbj hpj hu hf he
            go_wp2_with fail
            refine HF.out.mono ?_
            rintro r w4 ⟨rfl, hb4⟩
            have hal : Below w4.heap.size w4 (w4.alloc (.cells #[.int .i64 e.p.conn, .int .i64 e.p.life, .int .u32 e.p.id] 28)) := (Below.refl _ _).alloc (Nat.le_refl _) _
            have hbz := heap_alloc_new w4 (.cells #[.int .i64 e.p.conn, .int .i64 e.p.life, .int .u32 e.p.id] 28)
            have hQ5 := (HQ.out.past hb4).past hal
            go_upto_region 37 with fail
            obtain ⟨w5, hw5⟩ : ∃ w5, w4.alloc (.cells #[.int .i64 e.p.conn, .int .i64 e.p.life, .int .u32 e.p.id] 28) = w5 := ⟨_, rfl⟩
            obtain ⟨q, hq⟩ : ∃ q, w4.heap.size = q := ⟨_, rfl⟩
            rw [hw5] at hbz hQ5
            rw [hq] at hbz
            rw [hw5, hq]
            have HQ5 := hide hQ5
            have HBz := hide hbz
            obtain ⟨z0, z1, z2, _⟩ := box3 hbz
            obtain ⟨ad', q', he', hcell⟩ := reads_pos HQ5.out.live.reads (by omega)
            injection he' with he' h2a h2b
            injection he' with he'
            subst he'
            have hcell := hcell j _ (bools_get HBj.out)
            obtain ⟨ad2, hA2, y0, y1, y2⟩ := pls_cell HQ5.out.place.reads HPj.out
            subst hA2
            clear h2a h2b hw5 hq hbz hQ5 hb4 hal
            go_quiet (fail)
            obtain ⟨w6, hw6⟩ : ∃ w6, w5.drewN nq = w6 := ⟨_, rfl⟩
            have hQ6 : NS w w6 c m1 m2 g (a ++ e :: b) (.slice (some ad) g lc) (.slice (some ad2) g pc) B P := by rw [← hw6]; exact HQ5.out.past (below_drewN _ _)
            have hbz6 : w6.heap[q]? = some (.cells #[.int .i64 e.p.conn, .int .i64 e.p.life, .int .u32 e.p.id] 28 (0, 0)) := by rw [← hw6]; exact HBz.out
            have HQ6 := hide hQ6
            rw [hw6]
            clear hw6 hQ6 z0 z1 z2 hcell y0 y1 y2
            obtain ⟨z0, z1, z2, _⟩ := box3 hbz6
            clear hbz6
            have hof := of_yes w6 c m1 m2 g a b e HQ6.out.h1.hs
            rw [HHe.out] at hof
            unfold Pl.v at hof
            have HOf := hide hof
            clear hof
            go_wp2_with fail
            refine HOf.out.mono ?_
            rintro r w7 ⟨rfl, hb7⟩
            have HQ7 := hide (HQ6.out.past hb7)
            clear hb7 z0 z1 z2
            go_wp2
            go_roundw
            case rel => exact ⟨j + 1, by omega, by go_num, by rw [show ((j + 1 : Nat) : Int) = (j : Int) + 1 from rfl, HUp.out, HU.out]; go_num, HQ7⟩
            case measure => simp [intOf]; omega
        · as_aux_lemma =>
          obtain rfl : k = g := by omega
          have hup := upto_all (F := L.map (·.h)) (j := k) (fun x hx => by obtain ⟨e, he, rfl⟩ := List.mem_map.1 hx; exact (HQ.out.h1.hs.rng e he).2)
          rw [hup, List.length_map]
          clear hup
          go_wp2_with fail
          refine (find_no wr c m1 m2 k L HQ.out.h1.hs 0 rfl (fun e he => by have := HQ.out.h1.hs.rng e he; omega)).mono ?_
          unfold Pl.v Pl.zero
          rintro r w4 ⟨rfl, hb4⟩
          have hal4 : Below w4.heap.size w4 (w4.alloc (.cells #[.int .i64 0, .int .i64 0, .int .u32 0] 28)) := (Below.refl _ _).alloc (Nat.le_refl _) _
          have HQ5 := hide ((HQ.out.past hb4).past hal4)
          clear hb4 hal4
          go_wp2_with fail
          refine (find_no _ c m1 m2 k L HQ5.out.h1.hs _ (WalkArith.wf_i64 (by omega)) (fun e he => by have := HQ5.out.h1.hs.rng e he; omega)).mono ?_
          unfold Pl.v Pl.zero
          rintro r w6 ⟨rfl, hb6⟩
          have hal6 : Below w6.heap.size w6 (w6.alloc (.cells #[.int .i64 0, .int .i64 0, .int .u32 0] 28)) := (Below.refl _ _).alloc (Nat.le_refl _) _
          have HQ7 := hide ((HQ5.out.past hb6).past hal6)
          clear hb6 hal6
          go_wp2_with fail
          refine (len_any _ c m1 m2 k L HQ7.out.h1.hs).mono ?_
          rintro r w8 ⟨rfl, rfl⟩
          go_wp2
          go_ret
          exact ⟨rfl, HQ7.out.h1.below⟩
end Go.Proofs.YtjkahckglhpjeaaDoor.handlesNever
