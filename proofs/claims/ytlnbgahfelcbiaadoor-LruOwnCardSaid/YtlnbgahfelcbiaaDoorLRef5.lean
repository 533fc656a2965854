import Derived.Test.YtlnbgahfelcbiaaDoorLRef4
/- The document's cache: Put. -/
namespace Go.Proofs.YtlnbgahfelcbiaaDoor
open Go Go.RowKit Go.Cu

abbrev rowV (x : LE) : Value := .agg #[.int .i64 x.k, .int .i64 x.v, .int .i64 x.wt, .int .i64 x.un]
/-- the three boxes: the cache as it came, the row, and the result's -/
theorem boxes3 (w : World) (room : Int) (A : Option Addr) (n c : Nat) (x : LE) : ∃ w1 p, ((w.alloc (.cells #[.int .i64 room, .slice A n c] 46)).alloc (.cells #[.int .i64 x.k, .int .i64 x.v, .int .i64 x.wt, .int .i64 x.un] 105)).alloc (.cells #[.int .i64 0, .slice none 0 0] 46) = w1 ∧ w.heap.size = p ∧ Below w.heap.size w w1 ∧ w1.heap.size = p + 3 ∧
    w1.heap[p]? = some (.cells #[.int .i64 room, .slice A n c] 46 (0, 0)) ∧ w1.heap[p + 1]? = some (.cells #[.int .i64 x.k, .int .i64 x.v, .int .i64 x.wt, .int .i64 x.un] 105 (0, 0)) ∧ w1.heap[p + 2]? = some (.cells #[.int .i64 0, .slice none 0 0] 46 (0, 0)) := by
  refine ⟨_, _, rfl, rfl, (below_a2 w _ _).alloc (by simp; omega) _, by simp, ?_, ?_, ?_⟩
  · rw [Below.heap_alloc _ _ _ (by simp; omega), Below.heap_alloc _ _ _ (by simp)]
    exact heap_alloc_new w _
  · rw [Below.heap_alloc _ _ _ (by simp)]
    have h := heap_alloc_new (w.alloc (.cells #[.int .i64 room, .slice A n c] 46)) (.cells #[.int .i64 x.k, .int .i64 x.v, .int .i64 x.wt, .int .i64 x.un] 105)
    simp only [World.size_alloc] at h
    exact h
  · have h := heap_alloc_new ((w.alloc (.cells #[.int .i64 room, .slice A n c] 46)).alloc (.cells #[.int .i64 x.k, .int .i64 x.v, .int .i64 x.wt, .int .i64 x.un] 105)) (.cells #[.int .i64 0, .slice none 0 0] 46)
    simp only [World.size_alloc] at h
    exact h
set_option maxRecDepth 10000 in
theorem refput_neg (w : World) (room : Int) (A : Option Addr) (n c : Nat) (x : LE) (hx : x.wt < 0) :
    Calls Tryd.prog 52 #[cvv room A n c, rowV x] w fun r w' => r = .returned (.tuple #[cvv room A n c, .slice none 0 0, .int .i64 2]) ∧ Below w.heap.size w w' := by
  obtain ⟨w1, p, hw1, hp, hal, hs1, b0, b1, b2⟩ := boxes3 w room A n c x
  obtain ⟨c0, c1, _, _⟩ := box2 b0
  obtain ⟨q0, q1, q2, q3⟩ := box4 b1
  obtain ⟨r0, r1, f0, f1⟩ := box2 b2
  have HB2 := hide b2
  have HAl := hide hal
  have HAp : Hid (Below p w w1) := hide (by rw [← hp]; exact hal)
  clear b0 b1 b2 hal
  go_enter Tryd.func52, Tryd.ntmps52
  go_wp2
  have hb := box2_set HB2.out (.int .i64 room) (.slice A n c)
  obtain ⟨m0, m1, _, _⟩ := box2 hb
  refine bodyPost_ret (by simp [results, Tryd.results52, go_sem, m0, m1]; rfl) rfl ?_
  exact ⟨rfl, by first | exact below_set2 HAl.out (by omega) _ _ | exact below_set2 HAp.out (show p ≤ p + 1 + 1 by omega) _ _⟩
set_option maxRecDepth 10000 in
theorem refput_full (w : World) (room : Int) (A : Option Addr) (n c : Nat) (x : LE) (h0 : ¬ x.wt < 0) (hx : room < x.wt) :
    Calls Tryd.prog 52 #[cvv room A n c, rowV x] w fun r w' => r = .returned (.tuple #[cvv room A n c, .slice none 0 0, .int .i64 6]) ∧ Below w.heap.size w w' := by
  obtain ⟨w1, p, hw1, hp, hal, hs1, b0, b1, b2⟩ := boxes3 w room A n c x
  obtain ⟨c0, c1, _, _⟩ := box2 b0
  obtain ⟨q0, q1, q2, q3⟩ := box4 b1
  obtain ⟨r0, r1, f0, f1⟩ := box2 b2
  have HB2 := hide b2
  have HAl := hide hal
  have HAp : Hid (Below p w w1) := hide (by rw [← hp]; exact hal)
  clear b0 b1 b2 hal
  go_enter Tryd.func52, Tryd.ntmps52
  go_wp2
  have hb := box2_set HB2.out (.int .i64 room) (.slice A n c)
  obtain ⟨m0, m1, _, _⟩ := box2 hb
  refine bodyPost_ret (by simp [results, Tryd.results52, go_sem, m0, m1]; rfl) rfl ?_
  exact ⟨rfl, by first | exact below_set2 HAl.out (by omega) _ _ | exact below_set2 HAp.out (show p ≤ p + 1 + 1 by omega) _ _⟩

/-- what Put leaves of the document's -/
def RefPut (w : World) (room : Int) (L : List LE) (x : LE) (r : Ending) (w' : World) : Prop :=
  ∃ v B m cc, r = .returned (.tuple #[v, .slice B m cc, .int .i64 0]) ∧ RefIs w room (x :: stay (room - x.wt) (without L x.k)) v w' ∧ m = (goneKeys (without L x.k) (stay (room - x.wt) (without L x.k)).length).length ∧
    Row w' (New w) 3 1 (.slice B m cc) m (ints (goneKeys (without L x.k) (stay (room - x.wt) (without L x.k)).length))
/-- the boxes as they stand -/
structure Bx (w wr : World) (p : Nat) (room : Int) (B : Option Addr) (m cb : Nat) (x : LE) (S : List LE) : Prop where
  b0 : wr.heap[p]? = some (.cells #[.int .i64 room, .slice B m cb] 46 (0, 0))
  b1 : wr.heap[p + 1]? = some (.cells #[.int .i64 x.k, .int .i64 x.v, .int .i64 x.wt, .int .i64 x.un] 105 (0, 0))
  b2 : wr.heap[p + 2]? = some (.cells #[.int .i64 0, .slice none 0 0] 46 (0, 0))
  rd : Row wr (fun _ => True) 105 4 (.slice B m cb) m (rowsC S)
  below : Below w.heap.size w wr
theorem Bx.past {w wr w' : World} {p : Nat} {room : Int} {B : Option Addr} {m cb : Nat} {x : LE} {S : List LE} (h : Bx w wr p room B m cb x S) (hb : Below wr.heap.size wr w') : Bx w w' p room B m cb x S :=
  ⟨below_at hb h.b0, below_at hb h.b1, below_at hb h.b2, h.rd.kept (Mod.ofBelow hb (fun _ => False)) (fun _ _ _ h => h), h.below.trans (hb.mono h.below.size)⟩
/-- the cache's box turned -/
theorem Bx.turn {w wr w' : World} {p : Nat} {room : Int} {B C : Option Addr} {m cb k cc : Nat} {x : LE} {S S' : List LE} (h : Bx w wr p room B m cb x S) (hp : w.heap.size = p) (hb : Below wr.heap.size wr w') (hr : Row w' (New wr) 105 4 (.slice C k cc) k (rowsC S')) :
    Bx w ((w'.setCell ⟨p, 0, none⟩ (.int .i64 room)).setCell ⟨p, 1, none⟩ (.slice C k cc)) p room C k cc x S' := by
  have h0 := below_at hb h.b0
  have h1 := below_at hb h.b1
  have h2 := below_at hb h.b2
  exact ⟨box2_set h0 _ _, by rw [Below.heap_setCell _ _ _ _ (show p + 1 ≠ p by omega), Below.heap_setCell _ _ _ _ (show p + 1 ≠ p by omega)]; exact h1,
    by rw [Below.heap_setCell _ _ _ _ (show p + 2 ≠ p by omega), Below.heap_setCell _ _ _ _ (show p + 2 ≠ p by omega)]; exact h2,
    (row_set2 hr h0 (by decide) _ _).mono (fun _ _ _ => trivial), below_set2 (h.below.trans (hb.mono h.below.size)) (by omega) _ _⟩

/-- an append to a list of numbers leaves them -/
theorem Bx.app {w wr w' : World} {p : Nat} {room : Int} {B : Option Addr} {m cb : Nat} {x : LE} {S : List LE} {G : Nat → Prop} (h : Bx w wr p room B m cb x S) (hm : Mod (fun k => (New w k ∧ G k) ∧ OfE wr 3 k) wr w') : Bx w w' p room B m cb x S :=
  ⟨hm.heap h.b0 (fun hh => not_ofE h.b0 (by decide) hh.2), hm.heap h.b1 (fun hh => not_ofE h.b1 (by decide) hh.2), hm.heap h.b2 (fun hh => not_ofE h.b2 (by decide) hh.2), h.rd.other hm (by decide), h.below.trans (hm.below h.below.size (fun _ hk => hk.1.1))⟩
set_option maxRecDepth 100000 in
set_option maxHeartbeats 4000000 in
theorem refput_ok (w : World) (room : Int) (A : Option Addr) (n c : Nat) (L : List LE) (hr : Row w (fun _ => True) 105 4 (.slice A n c) n (rowsC L)) (hn : n ≤ 4398046511103) (hks : L.Pairwise (fun a b => a.k ≠ b.k)) (hw : ∀ e ∈ L, 0 ≤ e.wt) (hs : wsum L ≤ 9223372036854775807) (htop : room ≤ 9223372036854775807) (x : LE) (h0 : 0 ≤ x.wt) (hx : x.wt ≤ room) :
    Calls Tryd.prog 52 #[cvv room A n c, rowV x] w (RefPut w room L x) := by
  obtain ⟨w1, p, hw1, hp, hal, hs1, b0, b1, b2⟩ := boxes3 w room A n c x
  have HBx : Hid (Bx w w1 p room A n c x L) := hide ⟨b0, b1, b2, hr.kept (Mod.ofBelow hal (fun _ => False)) (fun _ _ _ h => h), hal⟩
  have hnc := row_le hr
  obtain ⟨c0, c1, _, _⟩ := box2 b0
  obtain ⟨q0, q1, q2, q3⟩ := box4 b1
  obtain ⟨i0, hi0, hz0, hz1, hz2⟩ := info_parts info_int
  obtain ⟨lim, hlim⟩ : ∃ lim, room - x.wt = lim := ⟨_, rfl⟩
  have hlim0 : 0 ≤ lim := by omega
  have hlim1 : x.wt + lim = room := by omega
  have hwr : IntKind.i64.wrap (room - x.wt) = lim := by rw [IntKind.wrap_i64]; omega
  have HLim := hide hlim
  have HNl := hide (rows_len hr.reads)
  have HKs := hide hks
  have HWs := hide hw
  have h1 : ¬ x.wt < 0 := by omega
  have h2 : ¬ room < x.wt := by omega
  clear hlim b0 b1 b2 hal hr hks hw
  rcases find_key L x.k with hnone | ⟨a, e, b, rfl, hek, ha⟩
  · have HNo := hide hnone
    obtain ⟨R, hgR⟩ : ∃ R, L = R := ⟨_, rfl⟩
    have HW : Hid (without L x.k = R) := hide (by rw [without_none hnone, hgR])
    have HWR : Hid (∀ e ∈ R, 0 ≤ e.wt) := hide (by rw [← hgR]; exact HWs.out)
    have hsR : wsum R ≤ 9223372036854775807 := by rw [← hgR]; exact hs
    have hRn : R.length = n := by rw [← hgR]; exact HNl.out
    have HRn := hide hRn
    have hRm : R.length ≤ 4398046511103 := by omega
    have HGR := hide hgR
    clear hnone hgR hs hRn
    go_enter Tryd.func52, Tryd.ntmps52
    go_wp2_with fail
    refine (refat_none w1 room A n c L HBx.out.rd.reads x.k HNo.out).mono ?_
    rintro r w2 ⟨rfl, hb2⟩
    have HB2 := hide (HBx.out.past hb2)
    rw [HGR.out] at HB2
    obtain ⟨d0, d1, _, _⟩ := box2 HB2.out.b0
    obtain ⟨u0, u1, u2, u3⟩ := box4 HB2.out.b1
    clear hb2 c0 c1 q0 q1 q2 q3
    go_wp2_with fail
    refine (refweight_any _ room A n c R HB2.out.rd.reads HWR.out hsR).mono ?_
    rintro r w4 ⟨rfl, hb4⟩
    have HB4 := hide (HB2.out.past hb4)
    clear hb4
    go_wp2_with fail
    go_loopg [8, 9] R.length (fun g s sm wr => ∃ j : Nat, j ≤ R.length ∧ g = j ∧ sm = .int .i64 (wsum (R.take j)) ∧ ∃ C k cc, s = .slice C k cc ∧ k + j ≤ R.length ∧ Hid (k = (goneKeys R j).length) ∧ Hid (Row wr (New w) 3 1 (.slice C k cc) k (ints (goneKeys R j))) ∧ Hid (stayN lim R R.length = stayN lim R j) ∧ Hid (∃ B cb, Bx w wr p room B j cb x (R.take j)))
    case atStart =>
      refine ⟨R.length, Nat.le_refl _, rfl, by rw [List.take_length], none, 0, 0, rfl, by omega, hide (by simp [goneKeys]), hide (by unfold goneKeys; rw [List.drop_length]; exact Row.nil _ _ _ _), hide rfl, hide ⟨A, c, ?_⟩⟩
      rw [List.take_length]
      exact (by rw [HRn.out]; exact HB4.out)
    case round =>
      clear HB4
      obtain ⟨j, hj, hgj, rfl, C, k, cc, rfl, hkj, HK, HGone, HSt, HBz⟩ := hrel
      obtain rfl : j = gk := hgj.symm
      clear hgj
      obtain ⟨B, cb, hbx⟩ := HBz.out
      have HBx1 := hide hbx
      obtain ⟨d0, d1, _, _⟩ := box2 hbx.b0
      obtain ⟨u0, u1, u2, u3⟩ := box4 hbx.b1
      by_cases hgt : lim < wsum (R.take j)
      · obtain ⟨j, rfl⟩ : ∃ i, j = i + 1 := ⟨j - 1, by
          cases j with
          | zero => rw [List.take_zero, wsum_nil] at hgt; omega
          | succ j => rfl⟩
        obtain ⟨e2, he, hd, ht⟩ := step_on R j (by omega)
        have hx2 : (R.take (j + 1))[j]? = some e2 := by rw [ht, List.getElem?_append_right (by rw [List.length_take]; omega), List.length_take]; simp [show j - min j R.length = 0 by omega]
        obtain ⟨ad, hA, q0, q1, q2, q3⟩ := rows_cell hbx.rd.reads hx2
        have hsum : wsum (R.take (j + 1)) = wsum (R.take j) + e2.wt := by rw [ht, wsum_app]; simp [wsum]
        have hle := wsum_take_le HWR.out (j + 1)
        have hle2 := wsum_take_le HWR.out j
        have hwr2 : IntKind.i64.wrap (wsum (R.take (j + 1)) - e2.wt) = wsum (R.take j) := by rw [IntKind.wrap_i64]; omega
        have HT := hide ht
        have HGo := hide hgt
        have HRow1 := hide (HGone.out.alloc (.cells #[.int .i64 e2.k] 3)).narrow
        have HBa := hide (hbx.past ((Below.refl _ wr).alloc (Nat.le_refl _) (.cells #[.int .i64 e2.k] 3)))
        have hws := hbx.below.size
        have HX2 := hide hx2
        have hlt63 : j ≤ 4398046511103 := by omega
        subst hA
        clear he hd ht hx2 q1 q3 u0 u1 u3 hbx hsum hle hle2 HBz
        go_wp2_with (first
          | (at_builtin; refine wpList_append_row rfl _ _ 32 rfl 3 i0 (.int .i64 0) 1 8 Tryd.underlying32 hi0 hz0 hz1 hz2 rfl (by decide) rfl HRow1.out rfl (reads_one _ _ _ _) (by simp [Value.oneCell']) (by unfold maxLen; omega) (by omega) ?_
             intro B1 b1 w6 hrow1 hmod1
             have HR1 := hide hrow1
             have hb6 := HBa.out.app (G := fun _ => True) (hmod1.mono (fun k _ hk => ⟨⟨hk.1, trivial⟩, hk.2⟩))
             have HB6 := hide hb6
             obtain ⟨d0, d1, _, _⟩ := box2 hb6.b0
             obtain ⟨ad6, hA6, t0, t1, t2, t3⟩ := rows_cell hb6.rd.reads HX2.out
             injection hA6 with hA6
             subst hA6
             clear hrow1 hmod1 hb6 t0 t1 t3)
          | fail)
        refine (without_ref w6 room (some ad) (j + 1) cb (row_le HB6.out.rd) (R.take j) [] e2 (by rw [← HT.out]; exact HB6.out.rd.reads) (by omega) j (by rw [List.length_take]; omega)).mono ?_
        rintro r w7 ⟨v7, rfl, D, m7, c7, rfl, hm7, hrow7, hb7⟩
        have hmj : m7 = j := by rw [hm7, List.append_nil, List.length_take]; omega
        subst hmj
        rw [List.append_nil] at hrow7
        have h60 := below_at hb7 HB6.out.b0
        obtain ⟨g0, g1, f0, f1⟩ := box2 h60
        have HB7 := hide (HB6.out.turn hp hb7 hrow7)
        have HG7 := hide (row_set2 (HR1.out.kept (Mod.ofBelow hb7 (fun _ => False)) (fun _ _ _ h => h)) h60 (by decide) (.int .i64 room) (.slice D m7 c7))
        clear hm7 hrow7 hb7 h60
        go_wp2
        go_roundg m7
        case measure => omega
        case rel =>
          have hstep := goneKeys_step (show m7 < R.length by omega) HT.out
          refine ⟨m7, by omega, rfl, rfl, B1, k + 1, b1, rfl, by omega, hide ?_, hide ?_, hide ?_, hide ⟨D, c7, HB7.out⟩⟩
          · rw [hstep, List.length_append, ← HK.out]; rfl
          · rw [hstep, ← ints_append]
            exact HG7.out.mono (fun k hk _ => by
              rcases hk with hk | hk
              · exact hk.1
              · show w.heap.size ≤ k
                rw [hk]; simp; omega)
          · rw [HSt.out, stayN_go HGo.out]
      · have hstop := stayN_stop (lim := lim) (R := R) (j := j) (by omega)
        have HJ := hide (HSt.out.trans hstop)
        clear hstop HBz hbx
        go_wp2_with fail
        refine (first_ref wr room B j cb (R.take j) x HBx1.out.rd.reads (by omega)).mono ?_
        rintro r w7 ⟨v7, rfl, D, m7, c7, rfl, hm7, hrow7, hb7⟩
        have h62 := below_at hb7 HBx1.out.b2
        obtain ⟨g0, g1, f0, f1⟩ := box2 h62
        have H62 := hide h62
        have HM7 := hide hm7
        have HR7 := hide hrow7
        have HG7 := hide (HGone.out.kept (Mod.ofBelow hb7 (fun _ => False)) (fun _ _ _ h => h))
        have HBl := hide (HBx1.out.below.trans (hb7.mono HBx1.out.below.size))
        have hwr7 := HBx1.out.below.size
        clear hm7 hrow7 hb7 h62
        go_wp2
        have hb := box2_set H62.out (.int .i64 room) (.slice D m7 c7)
        obtain ⟨m0, m1, _, _⟩ := box2 hb
        refine bodyPost_ret (by simp [results, Tryd.results52, go_sem, m0, m1]; rfl) rfl ?_
        have hst : stay (room - x.wt) (without L x.k) = R.take j := by rw [HW.out, HLim.out]; unfold stay; rw [HJ.out]
        have hsj : (R.take j).length = j := by rw [List.length_take]; omega
        refine ⟨_, C, k, cc, rfl, ⟨D, m7, c7, rfl, ?_, ?_, below_set2 HBl.out (by omega) _ _⟩, ?_, ?_⟩
        · rw [hst]; exact HM7.out
        · rw [hst]
          exact (row_set2 HR7.out H62.out (by decide) _ _).mono (fun k hk _ => by
            show w.heap.size ≤ k
            have : wr.heap.size ≤ k := hk
            omega)
        · rw [hst, HW.out, hsj]; exact HK.out
        · rw [hst, HW.out, hsj]; exact row_set2 HG7.out H62.out (by decide) _ _
  · have HKa : Hid (∀ y ∈ a, y.k ≠ e.k) := hide (by rw [hek]; exact ha)
    have HW : Hid (without (a ++ e :: b) x.k = a ++ b) := hide (by rw [← hek]; exact without_mid (sub_keys HKs.out).2)
    have HWR : Hid (∀ e ∈ a ++ b, 0 ≤ e.wt) := hide (fun y hy => HWs.out y (mem_mid hy))
    have hsR : wsum (a ++ b) ≤ 9223372036854775807 := by have := HWs.out e (by simp); rw [wsum_mid] at hs; omega
    have hRm : (a ++ b).length ≤ 4398046511103 := by have := HNl.out; simp at this ⊢; omega
    have hai : a.length ≤ 4398046511103 := by simp at hRm; omega
    rw [← hek] at q0
    have HEk := hide hek
    clear ha hek hs
    go_enter Tryd.func52, Tryd.ntmps52
    go_wp2_with fail
    refine (refat_mid w1 room A n c a b e HBx.out.rd.reads HKa.out).mono ?_
    rintro r w2 ⟨rfl, hb2⟩
    have HB2 := hide (HBx.out.past hb2)
    obtain ⟨d0, d1, _, _⟩ := box2 HB2.out.b0
    obtain ⟨u0, u1, u2, u3⟩ := box4 HB2.out.b1
    clear hb2 c0 c1 q0 q1 q2 q3
    go_wp2_with fail
    refine (without_ref w2 room A n c hnc a b e HB2.out.rd.reads (by omega) a.length rfl).mono ?_
    rintro r w3 ⟨v3, rfl, B, m, cb, rfl, hm, hrow, hb3⟩
    have HM := hide hm
    have HB3 := hide (HB2.out.turn hp hb3 hrow)
    obtain ⟨g0, g1, f0, f1⟩ := box2 (below_at hb3 HB2.out.b0)
    clear hm hb3 hrow d0 d1 u0 u1 u2 u3
    go_wp2_with fail
    obtain ⟨wz, hwz⟩ : ∃ wz, (w3.setCell ⟨p, 0, none⟩ (.int .i64 room)).setCell ⟨p, 1, none⟩ (.slice B m cb) = wz := ⟨_, rfl⟩
    rw [hwz] at HB3
    rw [hwz]
    clear hwz
    generalize hgL : a ++ e :: b = L at *
    generalize hgR : a ++ b = R at *
    refine (refweight_any _ room B m cb R HB3.out.rd.reads HWR.out hsR).mono ?_
    rintro r w4 ⟨rfl, hb4⟩
    have HB4 := hide (HB3.out.past hb4)
    clear hb4
    go_wp2_with fail
    go_loopg [8, 9] R.length (fun g s sm wr => ∃ j : Nat, j ≤ R.length ∧ g = j ∧ sm = .int .i64 (wsum (R.take j)) ∧ ∃ C k cc, s = .slice C k cc ∧ k + j ≤ R.length ∧ Hid (k = (goneKeys R j).length) ∧ Hid (Row wr (New w) 3 1 (.slice C k cc) k (ints (goneKeys R j))) ∧ Hid (stayN lim R R.length = stayN lim R j) ∧ Hid (∃ B cb, Bx w wr p room B j cb x (R.take j)))
    case atStart =>
      refine ⟨R.length, Nat.le_refl _, rfl, by rw [List.take_length], none, 0, 0, rfl, by omega, hide (by simp [goneKeys]), hide (by unfold goneKeys; rw [List.drop_length]; exact Row.nil _ _ _ _), hide rfl, hide ⟨B, cb, ?_⟩⟩
      rw [List.take_length]
      exact (by rw [← HM.out]; exact HB4.out)
    case round =>
      clear HB4
      obtain ⟨j, hj, hgj, rfl, C, k, cc, rfl, hkj, HK, HGone, HSt, HBz⟩ := hrel
      obtain rfl : j = gk := hgj.symm
      clear hgj
      obtain ⟨B, cb, hbx⟩ := HBz.out
      have HBx1 := hide hbx
      obtain ⟨d0, d1, _, _⟩ := box2 hbx.b0
      obtain ⟨u0, u1, u2, u3⟩ := box4 hbx.b1
      by_cases hgt : lim < wsum (R.take j)
      · obtain ⟨j, rfl⟩ : ∃ i, j = i + 1 := ⟨j - 1, by
          cases j with
          | zero => rw [List.take_zero, wsum_nil] at hgt; omega
          | succ j => rfl⟩
        obtain ⟨e2, he, hd, ht⟩ := step_on R j (by omega)
        have hx2 : (R.take (j + 1))[j]? = some e2 := by rw [ht, List.getElem?_append_right (by rw [List.length_take]; omega), List.length_take]; simp [show j - min j R.length = 0 by omega]
        obtain ⟨ad, hA, q0, q1, q2, q3⟩ := rows_cell hbx.rd.reads hx2
        have hsum : wsum (R.take (j + 1)) = wsum (R.take j) + e2.wt := by rw [ht, wsum_app]; simp [wsum]
        have hle := wsum_take_le HWR.out (j + 1)
        have hle2 := wsum_take_le HWR.out j
        have hwr2 : IntKind.i64.wrap (wsum (R.take (j + 1)) - e2.wt) = wsum (R.take j) := by rw [IntKind.wrap_i64]; omega
        have HT := hide ht
        have HGo := hide hgt
        have HRow1 := hide (HGone.out.alloc (.cells #[.int .i64 e2.k] 3)).narrow
        have HBa := hide (hbx.past ((Below.refl _ wr).alloc (Nat.le_refl _) (.cells #[.int .i64 e2.k] 3)))
        have hws := hbx.below.size
        have HX2 := hide hx2
        have hlt63 : j ≤ 4398046511103 := by omega
        subst hA
        clear he hd ht hx2 q1 q3 u0 u1 u3 hbx hsum hle hle2 HBz
        go_wp2_with (first
          | (at_builtin; refine wpList_append_row rfl _ _ 32 rfl 3 i0 (.int .i64 0) 1 8 Tryd.underlying32 hi0 hz0 hz1 hz2 rfl (by decide) rfl HRow1.out rfl (reads_one _ _ _ _) (by simp [Value.oneCell']) (by unfold maxLen; omega) (by omega) ?_
             intro B1 b1 w6 hrow1 hmod1
             have HR1 := hide hrow1
             have hb6 := HBa.out.app (G := fun _ => True) (hmod1.mono (fun k _ hk => ⟨⟨hk.1, trivial⟩, hk.2⟩))
             have HB6 := hide hb6
             obtain ⟨d0, d1, _, _⟩ := box2 hb6.b0
             obtain ⟨ad6, hA6, t0, t1, t2, t3⟩ := rows_cell hb6.rd.reads HX2.out
             injection hA6 with hA6
             subst hA6
             clear hrow1 hmod1 hb6 t0 t1 t3)
          | fail)
        refine (without_ref w6 room (some ad) (j + 1) cb (row_le HB6.out.rd) (R.take j) [] e2 (by rw [← HT.out]; exact HB6.out.rd.reads) (by omega) j (by rw [List.length_take]; omega)).mono ?_
        rintro r w7 ⟨v7, rfl, D, m7, c7, rfl, hm7, hrow7, hb7⟩
        have hmj : m7 = j := by rw [hm7, List.append_nil, List.length_take]; omega
        subst hmj
        rw [List.append_nil] at hrow7
        have h60 := below_at hb7 HB6.out.b0
        obtain ⟨g0, g1, f0, f1⟩ := box2 h60
        have HB7 := hide (HB6.out.turn hp hb7 hrow7)
        have HG7 := hide (row_set2 (HR1.out.kept (Mod.ofBelow hb7 (fun _ => False)) (fun _ _ _ h => h)) h60 (by decide) (.int .i64 room) (.slice D m7 c7))
        clear hm7 hrow7 hb7 h60
        go_wp2
        go_roundg m7
        case measure => omega
        case rel =>
          have hstep := goneKeys_step (show m7 < R.length by omega) HT.out
          refine ⟨m7, by omega, rfl, rfl, B1, k + 1, b1, rfl, by omega, hide ?_, hide ?_, hide ?_, hide ⟨D, c7, HB7.out⟩⟩
          · rw [hstep, List.length_append, ← HK.out]; rfl
          · rw [hstep, ← ints_append]
            exact HG7.out.mono (fun k hk _ => by
              rcases hk with hk | hk
              · exact hk.1
              · show w.heap.size ≤ k
                rw [hk]; simp; omega)
          · rw [HSt.out, stayN_go HGo.out]
      · have hstop := stayN_stop (lim := lim) (R := R) (j := j) (by omega)
        have HJ := hide (HSt.out.trans hstop)
        clear hstop HBz hbx
        go_wp2_with fail
        refine (first_ref wr room B j cb (R.take j) x HBx1.out.rd.reads (by omega)).mono ?_
        rintro r w7 ⟨v7, rfl, D, m7, c7, rfl, hm7, hrow7, hb7⟩
        have h62 := below_at hb7 HBx1.out.b2
        obtain ⟨g0, g1, f0, f1⟩ := box2 h62
        have H62 := hide h62
        have HM7 := hide hm7
        have HR7 := hide hrow7
        have HG7 := hide (HGone.out.kept (Mod.ofBelow hb7 (fun _ => False)) (fun _ _ _ h => h))
        have HBl := hide (HBx1.out.below.trans (hb7.mono HBx1.out.below.size))
        have hwr7 := HBx1.out.below.size
        clear hm7 hrow7 hb7 h62
        go_wp2
        have hb := box2_set H62.out (.int .i64 room) (.slice D m7 c7)
        obtain ⟨m0, m1, _, _⟩ := box2 hb
        refine bodyPost_ret (by simp [results, Tryd.results52, go_sem, m0, m1]; rfl) rfl ?_
        have hst : stay (room - x.wt) (without L x.k) = R.take j := by rw [HW.out, HLim.out]; unfold stay; rw [HJ.out]
        have hsj : (R.take j).length = j := by rw [List.length_take]; omega
        refine ⟨_, C, k, cc, rfl, ⟨D, m7, c7, rfl, ?_, ?_, below_set2 HBl.out (by omega) _ _⟩, ?_, ?_⟩
        · rw [hst]; exact HM7.out
        · rw [hst]
          exact (row_set2 HR7.out H62.out (by decide) _ _).mono (fun k hk _ => by
            show w.heap.size ≤ k
            have : wr.heap.size ≤ k := hk
            omega)
        · rw [hst, HW.out, hsj]; exact HK.out
        · rw [hst, HW.out, hsj]; exact row_set2 HG7.out H62.out (by decide) _ _
end Go.Proofs.YtlnbgahfelcbiaaDoor
