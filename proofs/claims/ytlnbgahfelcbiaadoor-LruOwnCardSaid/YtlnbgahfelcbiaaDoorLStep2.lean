import Derived.Test.YtlnbgahfelcbiaaDoorLCR
/- step: one call on both; the other kinds. -/
namespace Go.Proofs.YtlnbgahfelcbiaaDoor
open Go Go.RowKit Go.Cu Go.Proofs.YtlnbgahfelcbiaaDoor.errs

set_option maxRecDepth 10000 in
set_option maxHeartbeats 4000000 in
theorem step_else (w0 w : World) (p : Option Nat) (c m : Nat) (room : Int) (L : List LE) (A : Option Addr) (n cc : Nat) (h : CR w0 w p c m room L A n cc) (hn : n ≤ 4398046511102) (kd k v wt un : Int) (h1 : (kd == 1) = false) (h2 : (kd == 2) = false) (h3 : (kd == 3) = false) (h4 : (kd == 4) = false) (h5 : (kd == 5) = false) :
    Calls Tryd.prog 22 #[pt p, cvv room A n cc, opV ⟨kd, k, v, wt, un⟩] w (StepPost w0 p c m room L w) := by
  obtain ⟨w1, q, hw1, hq, hal, hs1, hsb⟩ := boxesS w0 w h.below room A n cc ⟨kd, k, v, wt, un⟩
  have hln := h.len
  have HLn := hide hln
  have H1 := hide (h.past hal)
  have HD1 : Hid (Mod (InN p c m L) w w1) := hide (Mod.ofBelow hal _)
  have HS1 := hide hsb
  have hqw : w0.heap.size ≤ q := hsb.low
  obtain ⟨c0, c1, _, _⟩ := box2 hsb.b0
  obtain ⟨o0, o1, o2, o3, o4⟩ := box5 hsb.b1
  obtain ⟨r0, r1, f0, f1⟩ := box2 hsb.b2
  clear h hal hsb hln
  go_enter Tryd.func22, Tryd.ntmps22
  go_upto_region 24 with fail
  have HCd := hide (H1.out.past (Below.refl _ _).drew)
  have HSd : Hid (SB w0 w1.drew q room A n cc ⟨kd, k, v, wt, un⟩) := hide (HS1.out.past (Below.refl _ _).drew)
  have hSd : w1.drew.cell? ⟨q, 0, none⟩ = some (.int .i64 room) ∧ w1.drew.cell? ⟨q, 1, none⟩ = some (.slice A n cc) := ⟨c0, c1⟩
  have hn1 : q ≠ q + 2 := by omega
  go_region_held3 (fun w' => w'.cell? ⟨q, 0, none⟩ = some (.int .i64 room) ∧ w'.cell? ⟨q, 1, none⟩ = some (.slice A n cc)) (first | assumption | with_reducible exact ⟨c0, c1⟩ | with_reducible exact hSt) (first
    | (go_at_call 23; refine (looks_true _ p c m room room L A n cc HCd.out.cn HCd.out.row (by omega)).mono ?_
       rintro r w6 ⟨rfl, hb6⟩
       have HC6 := hide (HCd.out.past hb6)
       have HS6 := hide (HSd.out.past hb6)
       have HD6 := hide (HD1.out.drew.trans (Mod.ofBelow hb6 (fun _ => False)) (fun _ _ h => h.elim))
       clear hb6 hSd
       clear c0 c1 o0 o1 o2 o3 o4 r0 r1 f0 f1
       obtain ⟨c0, c1, _, _⟩ := box2 HS6.out.b0
       obtain ⟨r0, r1, f0, f1⟩ := box2 HS6.out.b2
       have hSt := And.intro (cell_far2 (x := .int .i64 room) (y := .slice A n cc) c0 hn1) (cell_far2 (x := .int .i64 room) (y := .slice A n cc) c1 hn1))
    | fail)
  have HCR := HC6
  go_wp2
  have hb := box2_set HS6.out.b2 (.int .i64 room) (.slice A n cc)
  obtain ⟨m0, m1, _, _⟩ := box2 hb
  refine bodyPost_ret (by simp [results, Tryd.results22, go_sem, m0, m1]; rfl) rfl ?_
  exact ⟨L, A, n, cc, rfl, HCR.out.far2 HS6.out.b2 (by decide) (by decide) (by decide) (by omega) _ _, by omega, (((HD6.out).setCell (p := ⟨q + 2, 0, none⟩) (fun hl => absurd hl (by show ¬ q + 2 < w.heap.size; omega)) (.int .i64 room)).setCell (p := ⟨q + 2, 1, none⟩) (fun hl => absurd hl (by show ¬ q + 2 < w.heap.size; omega)) (.slice A n cc))⟩

theorem code_one (w : World) (adr : Nat → Addr) (h : Sent w adr) : Calls Tryd.prog 21 #[.iface tTP (.pointer (some (adr 1)))] w fun e w' => e = .returned (.int .i64 1) ∧ w' = w := code_err w adr h 1 (by decide) (by decide) (by decide)
theorem refput_none (w : World) (room : Int) (A : Option Addr) (n cc : Nat) (L : List LE) (hL : L = []) (h0 : room = 0) (hr : Row w (fun _ => True) 105 4 (.slice A n cc) n (rowsC L)) (k v wt un : Int) :
    Calls Tryd.prog 52 #[cvv room A n cc, rowV ⟨0, k, v, wt, un⟩] w fun r w' => ∃ B k3 c3 G g gc e, r = .returned (.tuple #[cvv room B k3 c3, .slice G g gc, .int .i64 e]) ∧ Below w.heap.size w w' := by
  subst hL
  subst h0
  obtain rfl : 0 = n := rows_len hr.reads
  by_cases h1 : wt < 0
  · refine (refput_neg w 0 A 0 cc ⟨0, k, v, wt, un⟩ h1).mono ?_
    rintro r w' ⟨rfl, hb⟩
    exact ⟨_, _, _, _, _, _, _, rfl, hb⟩
  · by_cases h2 : 0 < wt
    · refine (refput_full w 0 A 0 cc ⟨0, k, v, wt, un⟩ h1 h2).mono ?_
      rintro r w' ⟨rfl, hb⟩
      exact ⟨_, _, _, _, _, _, _, rfl, hb⟩
    · refine (refput_ok w 0 A 0 cc [] hr (by decide) List.Pairwise.nil (fun e he => (List.not_mem_nil he).elim) (by decide) (by decide) ⟨0, k, v, wt, un⟩ (show 0 ≤ wt by omega) (show wt ≤ 0 by omega)).mono ?_
      rintro r w' ⟨x, G, g, gc, rfl, ⟨B, k3, c3, rfl, _, _, hb⟩, _, _⟩
      exact ⟨_, _, _, _, _, _, _, rfl, hb⟩

set_option maxRecDepth 10000 in
set_option maxHeartbeats 4000000 in
theorem step_put_none (w0 w : World) (c m : Nat) (room : Int) (L : List LE) (A : Option Addr) (n cc : Nat) (h : CR w0 w none c m room L A n cc) (k v wt un : Int) (adr : Nat → Addr) (hSe : Sent w0 adr) :
    Calls Tryd.prog 22 #[.pointer none, cvv room A n cc, opV ⟨1, k, v, wt, un⟩] w (StepPost w0 none c m room L w) := by
  obtain ⟨w1, q, hw1, hq, hal, hs1, hsb⟩ := boxesS w0 w h.below room A n cc ⟨1, k, v, wt, un⟩
  have hln := h.len
  have HLn := hide hln
  have H1 := hide (h.past hal)
  have HD1 : Hid (Mod (InN none c m L) w w1) := hide (Mod.ofBelow hal _)
  have HS1 := hide hsb
  have hqw : w0.heap.size ≤ q := hsb.low
  obtain ⟨c0, c1, _, _⟩ := box2 hsb.b0
  obtain ⟨o0, o1, o2, o3, o4⟩ := box5 hsb.b1
  obtain ⟨r0, r1, f0, f1⟩ := box2 hsb.b2
  clear h hal hsb hln
  have HSe := hide hSe
  have hE1 := hide ((hSe.below H1.out.below).cell 1 (by decide) (by decide))
  have HLr : Hid (L = [] ∧ room = 0) := hide (by
    rcases H1.out.cn with ⟨h, _⟩ | ⟨_, h1, h2⟩
    · cases h
    · exact ⟨h1, h2⟩)
  clear hSe
  go_enter Tryd.func22, Tryd.ntmps22
  go_wp2_with fail
  refine (put_nil w1 k v wt un _ hE1.out).mono ?_
  rintro r w2 ⟨rfl, hb2⟩
  have HC2 := hide (H1.out.past hb2)
  have HS2 := hide (HS1.out.past hb2)
  have HD2 := hide (HD1.out.trans (Mod.ofBelow hb2 (fun _ => False)) (fun _ _ h => h.elim))
  clear hb2
  clear c0 c1 o0 o1 o2 o3 o4 r0 r1 f0 f1
  obtain ⟨c0, c1, _, _⟩ := box2 HS2.out.b0
  obtain ⟨o0, o1, o2, o3, o4⟩ := box5 HS2.out.b1
  obtain ⟨r0, r1, f0, f1⟩ := box2 HS2.out.b2
  go_wp2_with fail
  refine (refput_none w2 room A n cc L HLr.out.1 HLr.out.2 HC2.out.row k v wt un).mono ?_
  rintro r w3 ⟨B, k3, c3, G, g, gc, e3, rfl, hb3⟩
  have HC3 := hide (HC2.out.past hb3)
  have HS3 := hide (HS2.out.past hb3)
  have HD3 := hide (HD2.out.trans (Mod.ofBelow hb3 (fun _ => False)) (fun _ _ h => h.elim))
  clear hb3
  clear c0 c1 o0 o1 o2 o3 o4 r0 r1 f0 f1
  obtain ⟨c0, c1, _, _⟩ := box2 HS3.out.b0
  obtain ⟨o0, o1, o2, o3, o4⟩ := box5 HS3.out.b1
  obtain ⟨r0, r1, f0, f1⟩ := box2 HS3.out.b2
  go_upto_region 6 with fail
  have hal : Below w3.heap.size w3 (w3.alloc (.cells #[.int .i64 room, .slice B k3 c3] 46)) := (Below.refl _ _).alloc (Nat.le_refl _) _
  obtain ⟨w4, hw4⟩ : ∃ w4, w3.alloc (.cells #[.int .i64 room, .slice B k3 c3] 46) = w4 := ⟨_, rfl⟩
  rw [hw4] at hal
  rw [hw4]
  have HCd := hide (HC3.out.past hal.drew)
  have HC4 := hide (HC3.out.past hal)
  have HSd : Hid (SB w0 w4.drew q room A n cc ⟨1, k, v, wt, un⟩) := hide (HS3.out.past hal.drew)
  have HD4 := hide (HD3.out.trans (Mod.ofBelow hal (fun _ => False)) (fun _ _ h => h.elim))
  clear hal hw4
  clear c0 c1 o0 o1 o2 o3 o4 r0 r1 f0 f1
  obtain ⟨c0, c1, _, _⟩ := box2 HSd.out.b0
  obtain ⟨o0, o1, o2, o3, o4⟩ := box5 HSd.out.b1
  obtain ⟨r0, r1, f0, f1⟩ := box2 HSd.out.b2
  have r0' : w4.cell? ⟨q + 2, 0, none⟩ = some (.int .i64 0) := r0
  have r1' : w4.cell? ⟨q + 2, 1, none⟩ = some (.slice none 0 0) := r1
  have f0' : w4.frozen? ⟨q + 2, 0, none⟩ = false := f0
  have f1' : w4.frozen? ⟨q + 2, 1, none⟩ = false := f1
  have hSd : w4.drew.cell? ⟨q, 0, none⟩ = some (.int .i64 room) ∧ w4.drew.cell? ⟨q, 1, none⟩ = some (.slice A n cc) := ⟨c0, c1⟩
  have hn1 : q ≠ q + 2 := by omega
  have hSt := And.intro (cell_far2 (x := .int .i64 room) (y := .slice A n cc) c0 hn1) (cell_far2 (x := .int .i64 room) (y := .slice A n cc) c1 hn1)
  go_region_held3 (fun w' => w'.cell? ⟨q, 0, none⟩ = some (.int .i64 room) ∧ w'.cell? ⟨q, 1, none⟩ = some (.slice A n cc)) (first | assumption | with_reducible exact ⟨c0, c1⟩ | with_reducible exact hSt) (first
    | (go_at_call 21; refine (code_one _ adr (HSe.out.below HCd.out.below)).mono ?_
       rintro r w5 ⟨rfl, rfl⟩)
    | fail)
  have HS4 : Hid (SB w0 w4 q room A n cc ⟨1, k, v, wt, un⟩) := hide ⟨HSd.out.b0, HSd.out.b1, HSd.out.b2, HSd.out.low⟩
  go_wp2
  have hb := box2_set HS4.out.b2 (.int .i64 room) (.slice A n cc)
  obtain ⟨m0, m1, _, _⟩ := box2 hb
  refine bodyPost_ret (by simp [results, Tryd.results22, go_sem, m0, m1]; rfl) rfl ?_
  exact ⟨L, A, n, cc, rfl, (HC4.out.far2 HS4.out.b2 (by decide) (by decide) (by decide) (by omega) _ _).past (Below.refl _ _).drew, by omega, ((((HD4.out).setCell (p := ⟨q + 2, 0, none⟩) (fun hl => absurd hl (by show ¬ q + 2 < w.heap.size; omega)) (.int .i64 room)).setCell (p := ⟨q + 2, 1, none⟩) (fun hl => absurd hl (by show ¬ q + 2 < w.heap.size; omega)) (.slice A n cc))).drew⟩

theorem add_block (a : Addr) (k : Nat) : (a.add k).block = a.block := by unfold Addr.add; split <;> rfl
theorem row_block {w : World} {F : Nat → Prop} {e : TypeId} {sz n c : Nat} {ad : Addr} {xs : List Value} (h : Row w F e sz (.slice (some ad) n c) n xs) (hn : 0 < n) : ∃ cur, w.heap[ad.block]? = some (.cells cur e (0, 0)) := by
  obtain ⟨_, A', c', he, h2, _, h4⟩ := h
  cases he
  rcases h4 with h4 | ⟨b, o, cur, he, _, hh, _⟩
  · omega
  · injection he with he
    subst he
    exact ⟨cur, hh⟩

set_option maxRecDepth 10000 in
set_option maxHeartbeats 4000000 in
theorem step_peek (w0 w : World) (p : Option Nat) (c m : Nat) (room : Int) (L : List LE) (A : Option Addr) (n cc : Nat) (h : CR w0 w p c m room L A n cc) (hn : n ≤ 4398046511102) (k v wt un : Int) (hk : (Lit.int .i64 k).wf = true) :
    Calls Tryd.prog 22 #[pt p, cvv room A n cc, opV ⟨3, k, v, wt, un⟩] w (StepPost w0 p c m room L w) := by
  obtain ⟨w1, q, hw1, hq, hal, hs1, hsb⟩ := boxesS w0 w h.below room A n cc ⟨3, k, v, wt, un⟩
  have hln := h.len
  have HLn := hide hln
  have H1 := hide (h.past hal)
  have HD1 : Hid (Mod (InN p c m L) w w1) := hide (Mod.ofBelow hal _)
  have HS1 := hide hsb
  have hqw : w0.heap.size ≤ q := hsb.low
  obtain ⟨c0, c1, _, _⟩ := box2 hsb.b0
  obtain ⟨o0, o1, o2, o3, o4⟩ := box5 hsb.b1
  obtain ⟨r0, r1, f0, f1⟩ := box2 hsb.b2
  clear h hal hsb hln
  obtain ⟨x, u, ok, i, hp⟩ := peekR_ex H1.out.cn.keys k
  have HP := hide hp
  go_enter Tryd.func22, Tryd.ntmps22
  go_wp2_with fail
  refine (peek_n H1.out.cn hk HP.out).mono ?_
  rintro r w2 ⟨rfl, hb2⟩
  have HC2 := hide (H1.out.past hb2)
  have HS2 := hide (HS1.out.past hb2)
  have HD2 := hide (HD1.out.trans (Mod.ofBelow hb2 (fun _ => False)) (fun _ _ h => h.elim))
  clear hb2
  clear c0 c1 o0 o1 o2 o3 o4 r0 r1 f0 f1
  obtain ⟨c0, c1, _, _⟩ := box2 HS2.out.b0
  obtain ⟨o0, o1, o2, o3, o4⟩ := box5 HS2.out.b1
  obtain ⟨r0, r1, f0, f1⟩ := box2 HS2.out.b2
  go_wp2_with fail
  refine (at_r HC2.out.row HC2.out.cn.keys HP.out).mono ?_
  rintro r w3 ⟨rfl, hb3⟩
  have HC3 := hide (HC2.out.past hb3)
  have HS3 := hide (HS2.out.past hb3)
  have HD3 := hide (HD2.out.trans (Mod.ofBelow hb3 (fun _ => False)) (fun _ _ h => h.elim))
  clear hb3
  clear c0 c1 o0 o1 o2 o3 o4 r0 r1 f0 f1
  obtain ⟨c0, c1, _, _⟩ := box2 HS3.out.b0
  obtain ⟨o0, o1, o2, o3, o4⟩ := box5 HS3.out.b1
  obtain ⟨r0, r1, f0, f1⟩ := box2 HS3.out.b2
  cases hp with
  | no hno =>
    clear hno
    go_wp2
    have HCR := HC3
    have hb := box2_set HS3.out.b2 (.int .i64 room) (.slice A n cc)
    obtain ⟨m0, m1, _, _⟩ := box2 hb
    refine bodyPost_ret (by simp [results, Tryd.results22, go_sem, m0, m1]; rfl) rfl ?_
    exact ⟨L, A, n, cc, rfl, HCR.out.far2 HS3.out.b2 (by decide) (by decide) (by decide) (by omega) _ _, by omega, (((HD3.out).setCell (p := ⟨q + 2, 0, none⟩) (fun hl => absurd hl (by show ¬ q + 2 < w.heap.size; omega)) (.int .i64 room)).setCell (p := ⟨q + 2, 1, none⟩) (fun hl => absurd hl (by show ¬ q + 2 < w.heap.size; omega)) (.slice A n cc))⟩
  
  | yes a b e hL hek =>
    have hx : L[a.length]? = some e := by rw [hL]; simp
    obtain ⟨ad, hA, q0, q1, q2, q3⟩ := rows_cell HC3.out.row.reads hx
    have hal : a.length < n := by have := HLn.out; rw [hL] at this; simp at this; omega
    subst hA
    have hbn : (ad.add (a.length * 4)).block ≠ q + 2 := by
      intro he
      obtain ⟨cur, hcur⟩ := row_block HC3.out.row (by omega)
      rw [add_block] at he
      have h2 := HS3.out.b2
      rw [← he, hcur] at h2
      injection h2 with h2
      injection h2 with _ h2
      revert h2
      decide
    have hLE : L.length = n := HLn.out
    clear hx hL hek
    have hn1 : q ≠ q + 2 := by omega
    have hSd : w3.drew.cell? ⟨q, 0, none⟩ = some (.int .i64 room) ∧ w3.drew.cell? ⟨q, 1, none⟩ = some (.slice (some ad) n cc) ∧ w3.drew.cell? ⟨(ad.add (a.length * 4)).block, (ad.add (a.length * 4)).off + 1, none⟩ = some (.int .i64 e.v) ∧ w3.drew.cell? ⟨(ad.add (a.length * 4)).block, (ad.add (a.length * 4)).off + 3, none⟩ = some (.int .i64 e.un) := ⟨c0, c1, q1, q3⟩
    have hSt := And.intro (cell_far2 (x := .int .i64 room) (y := .slice (some ad) n cc) c0 hn1) (And.intro (cell_far2 (x := .int .i64 room) (y := .slice (some ad) n cc) c1 hn1) (And.intro (cell_far2 (x := .int .i64 room) (y := .slice (some ad) n cc) q1 hbn) (cell_far2 (x := .int .i64 room) (y := .slice (some ad) n cc) q3 hbn)))
    clear hLE
    go_upto_region 17 with fail
    go_region_held3 (fun w' => w'.cell? ⟨q, 0, none⟩ = some (.int .i64 room) ∧ w'.cell? ⟨q, 1, none⟩ = some (.slice (some ad) n cc) ∧ w'.cell? ⟨(ad.add (a.length * 4)).block, (ad.add (a.length * 4)).off + 1, none⟩ = some (.int .i64 e.v) ∧ w'.cell? ⟨(ad.add (a.length * 4)).block, (ad.add (a.length * 4)).off + 3, none⟩ = some (.int .i64 e.un)) (first | assumption | with_reducible exact ⟨c0, c1, q1, q3⟩ | with_reducible exact hSt) (first | fail)
    go_wp2
    have hb := box2_set HS3.out.b2 (.int .i64 room) (.slice (some ad) n cc)
    obtain ⟨m0, m1, _, _⟩ := box2 hb
    refine bodyPost_ret (by simp [results, Tryd.results22, go_sem, m0, m1]; rfl) rfl ?_
    exact ⟨L, some ad, n, cc, rfl, (HC3.out.far2 HS3.out.b2 (by decide) (by decide) (by decide) (by omega) _ _).past (Below.refl _ _).drew, by omega, ((((HD3.out).setCell (p := ⟨q + 2, 0, none⟩) (fun hl => absurd hl (by show ¬ q + 2 < w.heap.size; omega)) (.int .i64 room)).setCell (p := ⟨q + 2, 1, none⟩) (fun hl => absurd hl (by show ¬ q + 2 < w.heap.size; omega)) (.slice (some ad) n cc))).drew⟩
end Go.Proofs.YtlnbgahfelcbiaaDoor
