import Derived.Test.YtipfjnjjfojdgaaDoorTRef1
import Derived.Test.YtipfjnjjfojdgaaDoorTHeld2
import Derived.Deep.DeepCutAuto
/- The document's history: with. Printed by gen_w.py. -/
namespace Go.Cu
open Go Go.RowKit
/-- append, as one step of a region that draws its order -/
theorem step_append_row {P : Program} {ops : Array Oper} {o : Oper} {a : Act} {w : World} {K : Act → World → Prop} {Q : Exit → Act → World → Prop} {E : Prop}
    (hg : o.guard = none) (s x : Operand) (t : TypeId) (ho : o.op = .call { callee := .builtin .append, args := #[s, x], argTypes := #[t, t] })
    (e : TypeId) (i : TypeInfo) (z : Value) (sz bytes : Nat) (ht : P.underlying t = some (.slice e)) (hi : P.info? e = some i) (hz : i.zero = some z)
    (hsize : i.size = sz) (hby : i.bytes = bytes) (hzs : z.cells.size = sz) (hsz : 0 < sz)
    {F : Nat → Prop} {v : Value} {n : Nat} {xs : List Value} (hs : a.eval s = v) (h : Row w F e sz v n xs) {xv : Value} {m : Nat} {news : List Value} (hxv : a.eval x = xv) (hx : Reads w sz xv m news) (h1 : ∀ u ∈ news, u.oneCell' = true)
    (h63 : n + m ≤ maxLen) (hbytes : (n + m) * bytes ≤ 140737488355328)
    (hK : ∀ A' c' w', Row w' (fun k => F k ∨ k = w.heap.size) e sz (.slice A' (n + m) c') (n + m) (xs ++ news) → Mod F w w' → K (a.put o.dst (.slice A' (n + m) c')) w') :
    if Region.wanted o (yielded ops a.tmps) = true then Oper.wp P o a w K Q else E := by
  have hw : Region.wanted o (yielded ops a.tmps) = true := by simp [Region.wanted, hg]
  rw [if_pos hw]
  obtain ⟨v', w', hr, h2, h3⟩ := run_append_row (P := P) w t o.type e i z sz bytes ht hi hz hsize hby hzs hsz h hx h1 h63 hbytes
  obtain ⟨A', c', rfl, _⟩ := h2.shape
  unfold Oper.wp
  simp [execOp, ho, resolve, invoke, builtin, hs, hxv, hr, Result.andThen]
  exact hK A' c' w' h2 h3
end Go.Cu
namespace Go.Proofs.YtipfjnjjfojdgaaDoor
open Go Go.RowKit Go.Cu

section
variable {α : Type} (key : α → Int)
theorem put_lt {l : List α} {r : α} (h : ∀ x ∈ l, key x < key r) : put key l r = l ++ [r] := by
  induction l with
  | nil => rfl
  | cons x l ih =>
    rw [put_cons, if_pos (h x (by simp)), ih (fun y hy => h y (by simp [hy]))]
    rfl
theorem put_snoc_lt {l : List α} {x r : α} (h : ∀ y ∈ l, key y < key r) (hx : key r ≤ key x) : put key (l ++ [x]) r = l ++ [r] ++ (if key x = key r then [] else [x]) := by
  induction l with
  | nil =>
    show put key [x] r = _
    rw [put_cons, if_neg (by omega)]
    split <;> rfl
  | cons y l ih =>
    rw [List.cons_append, put_cons, if_pos (h y (by simp)), ih (fun z hz => h z (by simp [hz]))]
    rfl
theorem put_snoc_ge {l : List α} {x r : α} (h : ∃ y ∈ l, key r ≤ key y) : put key (l ++ [x]) r = put key l r ++ [x] := by
  induction l with
  | nil => obtain ⟨y, hy, _⟩ := h; cases hy
  | cons y l ih =>
    rw [List.cons_append, put_cons, put_cons]
    split
    · next hy =>
      obtain ⟨z, hz, hk⟩ := h
      rcases List.mem_cons.1 hz with rfl | hz
      · omega
      · rw [ih ⟨z, hz, hk⟩]
        rfl
    · split <;> rfl
end
/-- what lies in the new list after some rows -/
def Out (r : DR) (L : List DR) (d : Bool) (O : List DR) : Prop := (d = false ∧ O = L ∧ ∀ x ∈ L, x.k < r.k) ∨ (d = true ∧ O = put DR.k L r ∧ ∃ y ∈ L, r.k ≤ y.k)
theorem Out.start (r : DR) : Out r [] false [] := .inl ⟨rfl, rfl, fun _ h => by cases h⟩
section
variable {r x : DR} {L O : List DR}
theorem Out.below (h : Out r L false O) (hx : x.k < r.k) : Out r (L ++ [x]) false (O ++ [x]) := by
  rcases h with ⟨_, rfl, h⟩ | ⟨h, _⟩
  · refine .inl ⟨rfl, rfl, fun y hy => ?_⟩
    rcases List.mem_append.1 hy with hy | hy
    · exact h y hy
    · rw [List.mem_singleton] at hy; rw [hy]; exact hx
  · cases h
theorem Out.meet (h : Out r L false O) (hx : r.k < x.k) : Out r (L ++ [x]) true (O ++ [r] ++ [x]) := by
  rcases h with ⟨_, rfl, h⟩ | ⟨h, _⟩
  · refine .inr ⟨rfl, ?_, x, by simp, by omega⟩
    rw [put_snoc_lt DR.k h (by omega), if_neg (by omega)]
  · cases h
theorem Out.turn (h : Out r L false O) (hx : x.k = r.k) : Out r (L ++ [x]) true (O ++ [r]) := by
  rcases h with ⟨_, rfl, h⟩ | ⟨h, _⟩
  · refine .inr ⟨rfl, ?_, x, by simp, by omega⟩
    rw [put_snoc_lt DR.k h (by omega), if_pos hx]
    simp
  · cases h
theorem Out.past (h : Out r L true O) (hs : Srt DR.k (L ++ [x])) : Out r (L ++ [x]) true (O ++ [x]) ∧ r.k < x.k := by
  rcases h with ⟨h, _⟩ | ⟨_, rfl, y, hy, hk⟩
  · cases h
  · have hlt : y.k < x.k := (List.pairwise_append.1 hs).2.2 y hy x (by simp)
    refine ⟨.inr ⟨rfl, (put_snoc_ge DR.k ⟨y, hy, hk⟩).symm, y, by simp [hy], hk⟩, by omega⟩
theorem Out.last (h : Out r L false O) : O ++ [r] = put DR.k L r := by
  rcases h with ⟨_, rfl, h⟩ | ⟨h, _⟩
  · exact (put_lt DR.k h).symm
  · cases h
theorem Out.all (h : Out r L true O) : O = put DR.k L r := by
  rcases h with ⟨h, _⟩ | ⟨_, h, _⟩
  · cases h
  · exact h
theorem Out.len {d : Bool} (h : Out r L d O) : O.length ≤ L.length + 1 := by
  rcases h with ⟨_, rfl, _⟩ | ⟨_, rfl, h⟩
  · omega
  · clear h
    induction L with
    | nil => simp [put]
    | cons y L ih =>
      rw [put_cons]
      split
      · simpa using ih
      · split <;> simp
end
theorem cell_farB {w : World} {b o : Nat} {a : Addr} {x v : Value} (h : w.cell? a = some v) (hne : a.block ≠ b) : (w.setCell ⟨b, o, none⟩ x).cell? a = some v :=
  (World.cell?_of_block (w := w) (Below.heap_setCell _ _ _ _ hne)).trans h
/-- four boxes: the history, the row, the result, the new list -/
theorem with_boxes (w : World) (A : Option Addr) (n c : Nat) (r : DR) : ∃ w1 p, (((w.alloc (.cells #[.slice A n c] 44)).alloc (.cells (drA r) 54)).alloc (.cells #[.slice none 0 0] 44)).alloc (.cells #[.slice none 0 0] 44) = w1 ∧ w.heap.size = p ∧ Below w.heap.size w w1 ∧ w1.heap.size = p + 4 ∧
    w1.heap[p]? = some (.cells #[.slice A n c] 44 (0, 0)) ∧ w1.heap[p + 1]? = some (.cells (drA r) 54 (0, 0)) ∧ w1.heap[p + 1 + 1]? = some (.cells #[.slice none 0 0] 44 (0, 0)) ∧ w1.heap[p + 1 + 1 + 1]? = some (.cells #[.slice none 0 0] 44 (0, 0)) := by
  refine ⟨_, _, rfl, rfl, ((((Below.refl _ _).alloc (Nat.le_refl _) _).alloc (by simp) _).alloc (by simp; omega) _).alloc (by simp; omega) _, by simp, ?_, ?_, ?_, ?_⟩
  · rw [Below.heap_alloc _ _ _ (by simp [World.size_alloc] <;> omega), Below.heap_alloc _ _ _ (by simp [World.size_alloc] <;> omega), Below.heap_alloc _ _ _ (by simp [World.size_alloc] <;> omega)]
    exact heap_alloc_new w _
  · rw [Below.heap_alloc _ _ _ (by simp [World.size_alloc] <;> omega), Below.heap_alloc _ _ _ (by simp [World.size_alloc] <;> omega)]
    exact (by rw [World.size_alloc] : w.heap.size + 1 = (w.alloc (.cells #[.slice A n c] 44)).heap.size) ▸ heap_alloc_new _ _
  · rw [Below.heap_alloc _ _ _ (by simp [World.size_alloc] <;> omega)]
    exact (by simp : w.heap.size + 1 + 1 = ((w.alloc (.cells #[.slice A n c] 44)).alloc (.cells (drA r) 54)).heap.size) ▸ heap_alloc_new _ _
  · exact (by simp : w.heap.size + 1 + 1 + 1 = (((w.alloc (.cells #[.slice A n c] 44)).alloc (.cells (drA r) 54)).alloc (.cells #[.slice none 0 0] 44)).heap.size) ▸ heap_alloc_new _ _
/-- between two rounds -/
structure WS (w w1 : World) (p : Nat) (A : Option Addr) (n c : Nat) (r : DR) (wr : World) (B : Option Addr) (m cc : Nat) (O : List DR) : Prop where
  below : Below w.heap.size w wr
  size : p + 4 ≤ wr.heap.size
  b0 : wr.heap[p]? = some (.cells #[.slice A n c] 44 (0, 0))
  b1 : wr.heap[p + 1]? = some (.cells (drA r) 54 (0, 0))
  b2 : wr.heap[p + 1 + 1]? = some (.cells #[.slice none 0 0] 44 (0, 0))
  b3 : wr.heap[p + 1 + 1 + 1]? = some (.cells #[.slice B m cc] 44 (0, 0))
  row : Row wr (fun k => p + 4 ≤ k) 54 5 (.slice B m cc) m (drs O)
section
variable {w w1 wr w' : World} {p : Nat} {A : Option Addr} {n c : Nat} {r : DR} {B : Option Addr} {m cc : Nat} {O : List DR}
theorem WS.len (h : WS w w1 p A n c r wr B m cc O) : O.length = m := by
  have := h.row.1
  rw [drs_length] at this
  omega
theorem WS.past (h : WS w w1 p A n c r wr B m cc O) (hb : Below wr.heap.size wr w') (hs : w.heap.size ≤ wr.heap.size) : WS w w1 p A n c r w' B m cc O :=
  ⟨h.below.trans (hb.mono hs), Nat.le_trans h.size hb.size, below_at hb h.b0, below_at hb h.b1, below_at hb h.b2, below_at hb h.b3, h.row.kept (Mod.ofBelow hb (fun _ => False)) (fun _ _ _ h => h)⟩
/-- a row is appended, and the box set -/
theorem WS.app (h : WS w w1 p A n c r wr B m cc O) (hp : w.heap.size = p) {B3 : Option Addr} {c3 : Nat} {e : DR} {w3 : World} (hr : Row w3 (fun k => p + 4 ≤ k ∨ k = wr.heap.size) 54 5 (.slice B3 (m + 1) c3) (m + 1) (drs O ++ drs [e])) (hm : Mod (fun k => p + 4 ≤ k) wr w3) :
    WS w w1 p A n c r (w3.setCell ⟨p + 1 + 1 + 1, 0, none⟩ (.slice B3 (m + 1) c3)) B3 (m + 1) c3 (O ++ [e]) := by
  have hs := h.size
  have h3 : w3.heap[p + 1 + 1 + 1]? = some (.cells #[.slice B m cc] 44 (0, 0)) := hm.heap h.b3 (fun h => by omega)
  refine ⟨(h.below.trans (hm.below (by rw [hp]; omega) (fun k hk => by omega))).setCell (p := ⟨p + 1 + 1 + 1, 0, none⟩) (by show w.heap.size ≤ p + 1 + 1 + 1; omega) _, ?_, ?_, ?_, ?_, ?_, ?_⟩
  · rw [World.size_setCell]; exact Nat.le_trans hs hm.size
  · rw [Below.heap_setCell _ _ _ _ (show p ≠ p + 1 + 1 + 1 by omega)]; exact hm.heap h.b0 (fun h => by omega)
  · rw [Below.heap_setCell _ _ _ _ (show p + 1 ≠ p + 1 + 1 + 1 by omega)]; exact hm.heap h.b1 (fun h => by omega)
  · rw [Below.heap_setCell _ _ _ _ (show p + 1 + 1 ≠ p + 1 + 1 + 1 by omega)]; exact hm.heap h.b2 (fun h => by omega)
  · have := heap_setCell_same _ (p + 1 + 1 + 1) 0 _ 44 (.slice B3 (m + 1) c3) h3
    simpa using this
  · rw [drs_app] at hr
    refine (hr.far (p := ⟨p + 1 + 1 + 1, 0, none⟩) (fun hk => by have hk : p + 4 ≤ p + 1 + 1 + 1 ∨ p + 1 + 1 + 1 = wr.heap.size := hk; omega) _).mono (fun k hk _ => ?_)
    rcases hk with hk | hk
    · exact hk
    · omega
end
set_option maxRecDepth 100000 in
set_option maxHeartbeats 4000000 in
theorem with_r (w : World) (A : Option Addr) (n c : Nat) (E : List DR) (hr : Reads w 5 (.slice A n c) n (drs E)) (hsr : Srt DR.k E) (hn : n ≤ 2097152) (r : DR) :
    Calls Tryd.prog 36 #[docV A n c, drV r] w fun e w' => ∃ B m cc, e = .returned (docV B m cc) ∧ Row w' (fun k => w.heap.size ≤ k) 54 5 (.slice B m cc) m (drs (put DR.k E r)) ∧ Below w.heap.size w w' := by
  have hnl := drs_len hr
  obtain ⟨w1, p, hw1, hp, hb, hs1, b0, b1, b2, b3⟩ := with_boxes w A n c r
  obtain ⟨i0, hi0, hz0, hz1, hz2⟩ := info_parts info_dr
  obtain ⟨w2, hw2⟩ : ∃ w2, w1.setCell ⟨p + 1 + 1 + 1, 0, none⟩ (.slice none 0 0) = w2 := ⟨_, rfl⟩
  have HS0 : Hid (WS w w1 p A n c r w2 none 0 0 []) := hide (by
    rw [← hw2]
    refine ⟨hb.setCell (p := ⟨p + 1 + 1 + 1, 0, none⟩) (by show w.heap.size ≤ p + 1 + 1 + 1; omega) _, by rw [World.size_setCell]; omega, ?_, ?_, ?_, ?_, Row.nil _ _ _ _⟩
    · rw [Below.heap_setCell _ _ _ _ (show p ≠ p + 1 + 1 + 1 by omega)]; exact b0
    · rw [Below.heap_setCell _ _ _ _ (show p + 1 ≠ p + 1 + 1 + 1 by omega)]; exact b1
    · rw [Below.heap_setCell _ _ _ _ (show p + 1 + 1 ≠ p + 1 + 1 + 1 by omega)]; exact b2
    · have := heap_setCell_same _ (p + 1 + 1 + 1) 0 _ 44 (.slice none 0 0) b3
      simpa using this)
  obtain ⟨k0, f0⟩ := box1 b3
  have HR := hide hr
  have HL := hide hnl
  have HSr := hide hsr
  have HP := hide hp
  clear hr hnl hb b0 b1 b2 b3 hsr hs1
  go_enter Tryd.func36, Tryd.ntmps36
  go_upto_region 3 with fail
  try rw [hw2]
  clear k0 f0 hw1 hw2 hp
  go_wp2_with fail
  go_loopw [6, 7] (fun dv t wr => ∃ i : Nat, i ≤ n ∧ t = .int .i64 i ∧ ∃ d B m cc O, dv = .bool d ∧ m ≤ i + 1 ∧ Hid (WS w w1 p A n c r wr B m cc O ∧ Out r (E.take i) d O)) (fun _ t _ => n - (intOf t).toNat)
  case atStart => exact ⟨0, Nat.zero_le _, rfl, false, none, 0, 0, [], rfl, by omega, hide ⟨HS0.out, Out.start r⟩⟩
  case round =>
    clear HS0
    obtain ⟨i, hi, rfl, d, B, m, cc, O, rfl, hmi, HX⟩ := hrel
    obtain ⟨hws, hout⟩ := HX.out
    obtain ⟨c0, _⟩ := box1 hws.b0
    have HW := hide hws
    have HO := hide hout
    clear hws hout HX
    by_cases hlt : i < n
    · obtain ⟨x, hx, ht⟩ := step_on E i (by have := HL.out; omega)
      obtain ⟨ad, hA, s0, s1, s2, s3, s4⟩ := drs_cell (Reads.past HR.out HW.out.below) hx
      have HU := hide (drs_us hx)
      have HXi := hide hx
      have HT := hide ht
      have HSx : Hid (Srt DR.k (E.take i ++ [x])) := hide (by rw [← ht]; exact List.Pairwise.sublist (List.take_sublist _ _) HSr.out)
      subst hA
      clear hx ht
      have HA := hide (And.intro s0 (And.intro s1 (And.intro s2 (And.intro s3 s4))))
      obtain ⟨⟨r0, _⟩, _⟩ := box5 HW.out.b1
      go_upto_region 6 with fail
      go_cut [28] (fun v wx => ∃ b28, v = .bool b28 ∧ Hid (b28 = (!d && decide (r.k ≤ x.k)) ∧ Below wr.heap.size wr wx))
      case first =>
        clear s1 s2 s3 s4
        cases d with
        | true =>
          go_quiet (fail)
          go_wp2
          go_meet
          case rel => exact ⟨_, rfl, hide ⟨by simp, dn_below (Below.refl _ _) _⟩⟩
        | false =>
          by_cases hge : r.k ≤ x.k
          · go_quiet (fail)
            go_wp2
            go_meet
            case rel => exact ⟨_, rfl, hide ⟨by simp [hge], dn_below (Below.refl _ _) _⟩⟩
          · go_quiet (fail)
            go_wp2
            go_meet
            case rel => exact ⟨_, rfl, hide ⟨by simp [hge], dn_below (Below.refl _ _) _⟩⟩
      case rest =>
        obtain ⟨b28, rfl, hwc⟩ := hcut
        obtain ⟨wv, hwv⟩ : ∃ wv, wc = wv := ⟨_, rfl⟩
        rw [hwv] at hwc
        rw [hwv]
        have HB := hide hwc.out.2
        have HWv := hide (HW.out.past hwc.out.2 HW.out.below.size)
        have HB28 := hide hwc.out.1
        clear hwv hwc c0 r0 s0 s1 s2 s3 s4 HW
        go_upto_if 28 with (fail)
        go_cut [6] (fun dv wx => ∃ d1 B1 m1 cc1 O1, dv = .bool d1 ∧ Hid (WS w w1 p (some ad) n c r wx B1 m1 cc1 O1 ∧ (x.k = r.k → Out r (E.take i ++ [x]) d1 O1) ∧ (x.k ≠ r.k → Out r (E.take i ++ [x]) d1 (O1 ++ [x])) ∧ Below w.heap.size w wx ∧ O1.length ≤ i + 2))
        case first =>
          have hml : O.length = m := HWv.out.len
          have hol : O.length ≤ i + 1 := Nat.le_trans HO.out.len (Nat.add_le_add_right (List.length_take_le _ _) 1)
          have HOl := hide hol
          have HMl := hide hml
          clear hml hol
          cases d with
          | true =>
            have hb : b28 = false := HB28.out.trans (by simp)
            subst hb
            go_wp2
            go_meet
            case rel => exact ⟨true, B, m, cc, O, rfl, hide ⟨HWv.out, fun h => by have := (HO.out.past HSx.out).2; omega, fun _ => (HO.out.past HSx.out).1, HWv.out.below, by have := HOl.out; omega⟩⟩
          | false =>
            by_cases hge : r.k ≤ x.k
            · have hb : b28 = true := HB28.out.trans (by simp [hge])
              subst hb
              have HGe := hide hge
              obtain ⟨wz, hwz⟩ : ∃ wz, wv.alloc (.cells (drA r) 54) = wz := ⟨_, rfl⟩
              obtain ⟨qz, hqz⟩ : ∃ qz, wv.heap.size = qz := ⟨_, rfl⟩
              have HWz : Hid (WS w w1 p (some ad) n c r wz B m cc O) := hide (by rw [← hwz]; exact HWv.out.past (below_alloc wv _) HWv.out.below.size)
              have HOne : Hid (Reads wz 5 (.slice (some ⟨qz, 0, none⟩) 1 1) 1 (drs [r])) := hide (by rw [← hwz, ← hqz]; exact reads_new wv (drs [r]) 54 1 1 5 rfl (by unfold maxLen; omega))
              obtain ⟨⟨r0, r1, r2, r3, r4⟩, _⟩ := box5 HWv.out.b1
              obtain ⟨o0, _⟩ := box1 HWv.out.b3
              have hmb : m ≤ 2097153 := by have := HOl.out; have := HMl.out; omega
              go_wp2_with (first
                | (at_builtin; refine wpList_append_row rfl _ _ 42 rfl 54 i0 (.agg #[.int .i64 0, .slice none 0 0, .int .i64 0, .bool false, .bool false]) 5 48 Tryd.underlying42 hi0 hz0 hz1 hz2 rfl (by decide) rfl HWz.out.row rfl HOne.out (drs_one _) (by unfold maxLen; omega) (by omega) ?_
                   intro B3 c3 w3 hr3 hm3
                   have HR3 := hide hr3
                   have HM3 := hide hm3
                   obtain ⟨o3, fo3⟩ := box1 (hm3.heap HWz.out.b3 (fun h => by omega))
                   clear hr3 hm3)
                | fail)
              have HW4 := hide (HWz.out.app HP.out HR3.out HM3.out)
              go_meet
              case rel =>
                refine ⟨true, B3, m + 1, c3, O ++ [r], rfl, hide ⟨HW4.out, fun h => HO.out.turn h, fun h => HO.out.meet (by have := HGe.out; omega), HW4.out.below, ?_⟩⟩
                have := HOl.out
                rw [List.length_append]
                show O.length + 1 ≤ _
                omega
            · have hb : b28 = false := HB28.out.trans (by simp [hge])
              subst hb
              have HGe := hide hge
              clear hge
              go_wp2
              go_meet
              case rel => exact ⟨false, B, m, cc, O, rfl, hide ⟨HWv.out, fun h => by have := HGe.out; omega, fun _ => HO.out.below (by have := HGe.out; omega), HWv.out.below, by have := HOl.out; omega⟩⟩
        case rest =>
          obtain ⟨d1, B1, m1, cc1, O1, rfl, hx⟩ := hcut
          obtain ⟨hws, hin, hout, hbel, hol⟩ := hx.out
          obtain ⟨wu, hwu⟩ : ∃ wu, wc = wu := ⟨_, rfl⟩
          rw [hwu] at hws hbel
          rw [hwu]
          have HWu := hide hws
          have HIn := hide hin
          have HOut := hide hout
          have HOl := hide hol
          have HMl := hide hws.len
          have HTk : Hid (E.take (i + 1) = E.take i ++ [x]) := HT
          obtain ⟨c0, _⟩ := box1 hws.b0
          obtain ⟨⟨r0, _⟩, _⟩ := box5 hws.b1
          obtain ⟨ad2, hA2, s0, s1, s2, s3, s4⟩ := drs_cell (Reads.past HR.out hbel) HXi.out
          obtain rfl : ad = ad2 := Option.some.inj hA2
          clear hA2 hwu hx hws hin hout hbel hol HB HWv HB28
          go_upto_region 9 with fail
          by_cases hxk : x.k = r.k
          · have hne : (x.k != r.k) = false := bne_eq_false_iff_eq.2 hxk
            have HXk := hide hxk
            clear hxk s1 s2 s3 s4
            go_quiet (fail)
            go_wp2
            go_round
            case rel => exact ⟨i + 1, by omega, by go_num, d1, B1, m1, cc1, O1, rfl, by have := HOl.out; have := HMl.out; omega, hide ⟨HWu.out.past (dn_below (Below.refl _ _) _) HWu.out.below.size, by rw [HTk.out]; exact HIn.out HXk.out⟩⟩
            case measure => simp [intOf]; omega
          · have hne : (x.k != r.k) = true := bne_iff_ne.2 hxk
            have HXk := hide hxk
            have HC0 := hide c0
            have HEs := hide (And.intro s0 (And.intro s1 (And.intro s2 (And.intro s3 s4))))
            clear hxk
            go_quiet (fail)
            obtain ⟨w5, hw5⟩ : ∃ w5, wu.drewN nq = w5 := ⟨_, rfl⟩
            have HW5 : Hid (WS w w1 p (some ad) n c r w5 B1 m1 cc1 O1) := hide (by rw [← hw5]; exact HWu.out.past (dn_below (Below.refl _ _) _) HWu.out.below.size)
            rw [hw5]
            clear hw5 c0 r0 s0 s1 s2 s3 s4
            go_upto_region 10 with fail
            have HW6 : Hid (WS w w1 p (some ad) n c r w5.drew B1 m1 cc1 O1) := hide (HW5.out.past ((Below.refl _ _).drew) HW5.out.below.size)
            obtain ⟨c0, _⟩ := box1 HW6.out.b0
            obtain ⟨o0, _⟩ := box1 HW6.out.b3
            obtain ⟨ad2, hA2, s0, s1, s2, s3, s4⟩ := drs_cell (Reads.past HR.out HW6.out.below) HXi.out
            obtain rfl : ad = ad2 := Option.some.inj hA2
            obtain ⟨ad3, hA3, u0, _⟩ := drs_cell HR.out HXi.out
            obtain rfl : ad = ad3 := Option.some.inj hA3
            have hlow : (ad.add (i * 5)).block < p := by have := World.block_lt_of_cell? _ _ u0; have := HP.out; omega
            obtain ⟨wz, hwz⟩ : ∃ wz, w5.drew.alloc (.cells (drA x) 54) = wz := ⟨_, rfl⟩
            obtain ⟨qz, hqz⟩ : ∃ qz, w5.drew.heap.size = qz := ⟨_, rfl⟩
            have hbz : Below w5.drew.heap.size w5.drew wz := by rw [← hwz]; exact below_alloc w5.drew _
            have HWz : Hid (WS w w1 p (some ad) n c r wz B1 m1 cc1 O1) := hide (HW6.out.past hbz HW6.out.below.size)
            have HOne : Hid (Reads wz 5 (.slice (some ⟨qz, 0, none⟩) 1 1) 1 (drs [x])) := hide (by rw [← hwz, ← hqz]; exact reads_new w5.drew (drs [x]) 54 1 1 5 rfl (by unfold maxLen; omega))
            have z0 := cell_later hbz c0
            have z1 := cell_later hbz o0
            have t0 := cell_later hbz s0
            have t1 := cell_later hbz s1
            have t2 := cell_later hbz s2
            have t3 := cell_later hbz s3
            have t4 := cell_later hbz s4
            have hl2 : O1.length + 1 ≤ i + 2 := by
              have := (HOut.out HXk.out).len
              rw [List.length_append, List.length_append, List.length_take] at this
              simp only [List.length_singleton] at this
              omega
            have HL2 := hide hl2
            clear hl2
            have hmb : m1 ≤ 2097154 := by have := HOl.out; have := HMl.out; omega
            have hne0 : ∀ k, (ad.add (i * 5)).block ≠ p + k := fun k => by omega
            have hHeld := And.intro c0 (And.intro s0 (And.intro s1 (And.intro s2 (And.intro s3 s4))))
            clear u0 hA2 hA3 hbz
            refine wp_region_held_n (n := 11) (l := #[false, false, false, false, false, false, false, false, false, false, false]) (S := (fun w' => w'.cell? ⟨p, 0, none⟩ = some (.slice (some ad) n c) ∧ w'.cell? (ad.add (i * 5)) = some (.int .i64 x.k) ∧ w'.cell? ⟨(ad.add (i * 5)).block, (ad.add (i * 5)).off + 1, none⟩ = some (.slice x.A x.bs.length x.c) ∧ w'.cell? ⟨(ad.add (i * 5)).block, (ad.add (i * 5)).off + 2, none⟩ = some (.int .i64 x.rd) ∧ w'.cell? ⟨(ad.add (i * 5)).block, (ad.add (i * 5)).off + 3, none⟩ = some (.bool x.cl) ∧ w'.cell? ⟨(ad.add (i * 5)).block, (ad.add (i * 5)).off + 4, none⟩ = some (.bool x.en))) rfl rfl (by kernel_rfl) ⟨c0, s0, s1, s2, s3, s4⟩ ?_
            refine wpAnyH_yields (i := 0) (oi := ?_) (v := ?_) ?_ (by kernel_rfl) (by kernel_rfl) (by kernel_rfl) (by assumption) ?_ ?_ ?_ ?_
            rotate_left 2
            · (simp only [List.getElem?_toArray, List.getElem?_cons_zero] <;> exact rfl)
            · rfl
            · (intro w' hSw; obtain ⟨g0, g1, g2, g3, g4, g5⟩ := hSw; go_simp <;> with_reducible rfl)
            · exact fun _ _ _ h => h
            simp only [Act.put, List.setIfInBounds_toArray, List.set]
            refine wpAnyH_yields (i := 2) (oi := ?_) (v := ?_) ?_ (by kernel_rfl) (by kernel_rfl) (by kernel_rfl) (by assumption) ?_ ?_ ?_ ?_
            rotate_left 2
            · (simp only [List.getElem?_toArray, List.getElem?_cons_succ, List.getElem?_cons_zero] <;> exact rfl)
            · rfl
            · (intro w' hSw; obtain ⟨g0, g1, g2, g3, g4, g5⟩ := hSw; go_simp <;> with_reducible rfl)
            · exact fun _ _ _ h => h
            simp only [Act.put, List.setIfInBounds_toArray, List.set]
            refine wpAnyH_yields (i := 3) (oi := ?_) (v := ?_) ?_ (by kernel_rfl) (by kernel_rfl) (by kernel_rfl) (by assumption) ?_ ?_ ?_ ?_
            rotate_left 2
            · (simp only [List.getElem?_toArray, List.getElem?_cons_succ, List.getElem?_cons_zero] <;> exact rfl)
            · rfl
            · (intro w' hSw; obtain ⟨g0, g1, g2, g3, g4, g5⟩ := hSw; go_simp <;> with_reducible rfl)
            · exact fun _ _ _ h => h
            simp only [Act.put, List.setIfInBounds_toArray, List.set]
            refine wpAnyH_yields (i := 4) (oi := ?_) (v := ?_) ?_ (by kernel_rfl) (by kernel_rfl) (by kernel_rfl) (by assumption) ?_ ?_ ?_ ?_
            rotate_left 2
            · (simp only [List.getElem?_toArray, List.getElem?_cons_succ, List.getElem?_cons_zero] <;> exact rfl)
            · rfl
            · (intro w' hSw; obtain ⟨g0, g1, g2, g3, g4, g5⟩ := hSw; go_simp <;> with_reducible rfl)
            · exact fun _ _ _ h => h
            simp only [Act.put, List.setIfInBounds_toArray, List.set]
            refine wpAnyH_yields (i := 5) (oi := ?_) (v := ?_) ?_ (by kernel_rfl) (by kernel_rfl) (by kernel_rfl) (by assumption) ?_ ?_ ?_ ?_
            rotate_left 2
            · (simp only [List.getElem?_toArray, List.getElem?_cons_succ, List.getElem?_cons_zero] <;> exact rfl)
            · rfl
            · (intro w' hSw; obtain ⟨g0, g1, g2, g3, g4, g5⟩ := hSw; go_simp <;> with_reducible rfl)
            · exact fun _ _ _ h => h
            simp only [Act.put, List.setIfInBounds_toArray, List.set]
            refine wpAnyH_yields (i := 6) (oi := ?_) (v := ?_) ?_ (by kernel_rfl) (by kernel_rfl) (by kernel_rfl) (by assumption) ?_ ?_ ?_ ?_
            rotate_left 2
            · (simp only [List.getElem?_toArray, List.getElem?_cons_succ, List.getElem?_cons_zero] <;> exact rfl)
            · rfl
            · (intro w' hSw; obtain ⟨g0, g1, g2, g3, g4, g5⟩ := hSw; go_simp <;> with_reducible rfl)
            · exact fun _ _ _ h => h
            simp only [Act.put, List.setIfInBounds_toArray, List.set]
            refine wpAnyH_ready (rs := [1, 7]) (by kernel_rfl) (by simp) (AllReadyH.cons (o := ?_) ?_ (fun K hK => ?_) ?_)
            rotate_left 1
            · (simp only [List.getElem?_toArray, List.getElem?_cons_succ, List.getElem?_cons_zero] <;> exact rfl)
            · go_simp
              refine hK.out _ _ (by assumption) (fun hHeld => ?_)
              clear hK K
              try simp only [List.setIfInBounds_toArray, List.set_cons_zero, List.set_cons_succ]
              clear c0 o0 s0 s1 s2 s3 s4
              refine wpAnyH_ready (rs := [7]) (by kernel_rfl) (by simp) (AllReadyH.cons (o := ?_) ?_ (fun K hK => ?_) AllReadyH.nil)
              rotate_left 1
              · (simp only [List.getElem?_toArray, List.getElem?_cons_succ, List.getElem?_cons_zero] <;> exact rfl)
              go_simp
              clear hHeld
              refine hK.out _ _ (⟨z0, t0, t1, t2, t3, t4⟩) (fun hHeld => ?_)
              clear hK K
              try simp only [List.setIfInBounds_toArray, List.set_cons_zero, List.set_cons_succ]
              refine wpAnyH_ready (rs := [8]) (by kernel_rfl) (by simp) (AllReadyH.cons (o := ?_) ?_ (fun K hK => ?_) AllReadyH.nil)
              rotate_left 1
              · (simp only [List.getElem?_toArray, List.getElem?_cons_succ, List.getElem?_cons_zero] <;> exact rfl)
              refine step_append_row rfl _ _ 42 rfl 54 i0 (.agg #[.int .i64 0, .slice none 0 0, .int .i64 0, .bool false, .bool false]) 5 48 Tryd.underlying42 hi0 hz0 hz1 hz2 rfl (by decide) rfl HWz.out.row rfl HOne.out (drs_one _) (by unfold maxLen; omega) (by omega) ?_
              intro B3 c3 w3 hr3 hm3
              have HR3 := hide hr3
              have HM3 := hide hm3
              have c3' := hm3.cell z0 (fun h => by have h : p + 4 ≤ p := h; omega)
              obtain ⟨o3, fo3⟩ := box1 (hm3.heap HWz.out.b3 (fun h => by omega))
              have v0 := hm3.cell t0 (fun h => by have h : p + 4 ≤ (ad.add (i * 5)).block := h; omega)
              have v1 := hm3.cell t1 (fun h => by have h : p + 4 ≤ (ad.add (i * 5)).block := h; omega)
              have v2 := hm3.cell t2 (fun h => by have h : p + 4 ≤ (ad.add (i * 5)).block := h; omega)
              have v3 := hm3.cell t3 (fun h => by have h : p + 4 ≤ (ad.add (i * 5)).block := h; omega)
              have v4 := hm3.cell t4 (fun h => by have h : p + 4 ≤ (ad.add (i * 5)).block := h; omega)
              clear hr3 hm3 hHeld z0 z1 t0 t1 t2 t3 t4
              refine hK.out _ _ (⟨c3', v0, v1, v2, v3, v4⟩) (fun hHeld => ?_)
              clear hK K
              try simp only [List.setIfInBounds_toArray, List.set_cons_zero, List.set_cons_succ]
              refine wpAnyH_yields (i := 9) (oi := ?_) (v := ?_) ?_ (by kernel_rfl) (by kernel_rfl) (by kernel_rfl) (by assumption) ?_ ?_ ?_ ?_
              rotate_left 2
              · (simp only [List.getElem?_toArray, List.getElem?_cons_succ, List.getElem?_cons_zero] <;> exact rfl)
              · rfl
              · (intro w' hSw; obtain ⟨g0, g1, g2, g3, g4, g5⟩ := hSw; go_simp <;> with_reducible rfl)
              · exact fun _ _ _ h => h
              simp only [Act.put, List.setIfInBounds_toArray, List.set]
              refine wpAnyH_ready (rs := [10]) (by kernel_rfl) (by simp) (AllReadyH.cons (o := ?_) ?_ (fun K hK => ?_) AllReadyH.nil)
              rotate_left 1
              · (simp only [List.getElem?_toArray, List.getElem?_cons_succ, List.getElem?_cons_zero] <;> exact rfl)
              go_simp
              clear hHeld
              refine hK.out _ _ (⟨cell_farB c3' (fun e => by have e : p = p + 1 + 1 + 1 := e; omega), cell_farB v0 (fun e => hne0 3 e), cell_farB v1 (fun e => hne0 3 e), cell_farB v2 (fun e => hne0 3 e), cell_farB v3 (fun e => hne0 3 e), cell_farB v4 (fun e => hne0 3 e)⟩) (fun hHeld => ?_)
              clear hK K
              try simp only [List.setIfInBounds_toArray, List.set_cons_zero, List.set_cons_succ]
              refine wpAnyH_done (by kernel_rfl) ?_ _
              go_wp2
              have HW4 := hide (HWz.out.app HP.out HR3.out HM3.out)
              go_round
              case rel => exact ⟨i + 1, by omega, by go_num, d1, B3, m1 + 1, c3, O1 ++ [x], rfl, by have := HL2.out; have := HMl.out; omega, hide ⟨HW4.out, by rw [HTk.out]; exact HOut.out HXk.out⟩⟩
              case measure => simp [intOf]; omega
            · refine AllReadyH.cons (o := ?_) ?_ (fun K hK => ?_) AllReadyH.nil
              rotate_left 1
              · (simp only [List.getElem?_toArray, List.getElem?_cons_succ, List.getElem?_cons_zero] <;> exact rfl)
              go_simp
              clear hHeld c0 o0 s0 s1 s2 s3 s4
              refine hK.out _ _ (⟨z0, t0, t1, t2, t3, t4⟩) (fun hHeld => ?_)
              clear hK K
              try simp only [List.setIfInBounds_toArray, List.set_cons_zero, List.set_cons_succ]
              refine wpAnyH_ready (rs := [1]) (by kernel_rfl) (by simp) (AllReadyH.cons (o := ?_) ?_ (fun K hK => ?_) AllReadyH.nil)
              rotate_left 1
              · (simp only [List.getElem?_toArray, List.getElem?_cons_succ, List.getElem?_cons_zero] <;> exact rfl)
              go_simp
              refine hK.out _ _ (by assumption) (fun hHeld => ?_)
              clear hK K
              try simp only [List.setIfInBounds_toArray, List.set_cons_zero, List.set_cons_succ]
              refine wpAnyH_ready (rs := [8]) (by kernel_rfl) (by simp) (AllReadyH.cons (o := ?_) ?_ (fun K hK => ?_) AllReadyH.nil)
              rotate_left 1
              · (simp only [List.getElem?_toArray, List.getElem?_cons_succ, List.getElem?_cons_zero] <;> exact rfl)
              refine step_append_row rfl _ _ 42 rfl 54 i0 (.agg #[.int .i64 0, .slice none 0 0, .int .i64 0, .bool false, .bool false]) 5 48 Tryd.underlying42 hi0 hz0 hz1 hz2 rfl (by decide) rfl HWz.out.row rfl HOne.out (drs_one _) (by unfold maxLen; omega) (by omega) ?_
              intro B3 c3 w3 hr3 hm3
              have HR3 := hide hr3
              have HM3 := hide hm3
              have c3' := hm3.cell z0 (fun h => by have h : p + 4 ≤ p := h; omega)
              obtain ⟨o3, fo3⟩ := box1 (hm3.heap HWz.out.b3 (fun h => by omega))
              have v0 := hm3.cell t0 (fun h => by have h : p + 4 ≤ (ad.add (i * 5)).block := h; omega)
              have v1 := hm3.cell t1 (fun h => by have h : p + 4 ≤ (ad.add (i * 5)).block := h; omega)
              have v2 := hm3.cell t2 (fun h => by have h : p + 4 ≤ (ad.add (i * 5)).block := h; omega)
              have v3 := hm3.cell t3 (fun h => by have h : p + 4 ≤ (ad.add (i * 5)).block := h; omega)
              have v4 := hm3.cell t4 (fun h => by have h : p + 4 ≤ (ad.add (i * 5)).block := h; omega)
              clear hr3 hm3 hHeld z0 z1 t0 t1 t2 t3 t4
              refine hK.out _ _ (⟨c3', v0, v1, v2, v3, v4⟩) (fun hHeld => ?_)
              clear hK K
              try simp only [List.setIfInBounds_toArray, List.set_cons_zero, List.set_cons_succ]
              refine wpAnyH_yields (i := 9) (oi := ?_) (v := ?_) ?_ (by kernel_rfl) (by kernel_rfl) (by kernel_rfl) (by assumption) ?_ ?_ ?_ ?_
              rotate_left 2
              · (simp only [List.getElem?_toArray, List.getElem?_cons_succ, List.getElem?_cons_zero] <;> exact rfl)
              · rfl
              · (intro w' hSw; obtain ⟨g0, g1, g2, g3, g4, g5⟩ := hSw; go_simp <;> with_reducible rfl)
              · exact fun _ _ _ h => h
              simp only [Act.put, List.setIfInBounds_toArray, List.set]
              refine wpAnyH_ready (rs := [10]) (by kernel_rfl) (by simp) (AllReadyH.cons (o := ?_) ?_ (fun K hK => ?_) AllReadyH.nil)
              rotate_left 1
              · (simp only [List.getElem?_toArray, List.getElem?_cons_succ, List.getElem?_cons_zero] <;> exact rfl)
              go_simp
              clear hHeld
              refine hK.out _ _ (⟨cell_farB c3' (fun e => by have e : p = p + 1 + 1 + 1 := e; omega), cell_farB v0 (fun e => hne0 3 e), cell_farB v1 (fun e => hne0 3 e), cell_farB v2 (fun e => hne0 3 e), cell_farB v3 (fun e => hne0 3 e), cell_farB v4 (fun e => hne0 3 e)⟩) (fun hHeld => ?_)
              clear hK K
              try simp only [List.setIfInBounds_toArray, List.set_cons_zero, List.set_cons_succ]
              refine wpAnyH_done (by kernel_rfl) ?_ _
              go_wp2
              have HW4 := hide (HWz.out.app HP.out HR3.out HM3.out)
              go_round
              case rel => exact ⟨i + 1, by omega, by go_num, d1, B3, m1 + 1, c3, O1 ++ [x], rfl, by have := HL2.out; have := HMl.out; omega, hide ⟨HW4.out, by rw [HTk.out]; exact HOut.out HXk.out⟩⟩
              case measure => simp [intOf]; omega
    · obtain rfl : i = n := by omega
      have hE : E.take i = E := List.take_of_length_le (by have := HL.out; omega)
      rw [hE] at HO
      obtain ⟨o0, _⟩ := box1 HW.out.b3
      obtain ⟨k2, f2⟩ := box1 HW.out.b2
      have hmb : m ≤ 2097153 := Nat.le_trans hmi (by omega)
      clear hE
      cases d with
      | true =>
        have hbl : Below w.heap.size w (wr.setCell ⟨p + 1 + 1, 0, none⟩ (.slice B m cc)) := HW.out.below.setCell (p := ⟨p + 1 + 1, 0, none⟩) (by show w.heap.size ≤ p + 1 + 1; have := HP.out; omega) _
        have hs2 := heap_setCell_same _ (p + 1 + 1) 0 _ 44 (.slice B m cc) HW.out.b2
        have HBl := hide hbl
        have HS2 := hide hs2
        have HRo := hide (HW.out.row.far (p := ⟨p + 1 + 1, 0, none⟩) (fun hk => by have hk : p + 4 ≤ p + 1 + 1 := hk; omega) (.slice B m cc))
        clear hbl hs2
        go_wp2
        obtain ⟨m0, _⟩ := box1 (show (wr.setCell ⟨p + 1 + 1, 0, none⟩ (.slice B m cc)).heap[p + 1 + 1]? = some (.cells #[.slice B m cc] 44 (0, 0)) by simpa using HS2.out)
        refine bodyPost_ret (by simp [results, Tryd.results36, go_sem, m0]; rfl) rfl ?_
        refine ⟨B, m, cc, rfl, ?_, HBl.out⟩
        rw [← HO.out.all]
        exact HRo.out.mono (fun k hk _ => by have := HP.out; show w.heap.size ≤ k; omega)
      | false =>
        obtain ⟨wz, hwz⟩ : ∃ wz, wr.alloc (.cells (drA r) 54) = wz := ⟨_, rfl⟩
        obtain ⟨qz, hqz⟩ : ∃ qz, wr.heap.size = qz := ⟨_, rfl⟩
        have HWz : Hid (WS w w1 p A i c r wz B m cc O) := hide (by rw [← hwz]; exact HW.out.past (below_alloc wr _) HW.out.below.size)
        have HOne : Hid (Reads wz 5 (.slice (some ⟨qz, 0, none⟩) 1 1) 1 (drs [r])) := hide (by rw [← hwz, ← hqz]; exact reads_new wr (drs [r]) 54 1 1 5 rfl (by unfold maxLen; omega))
        obtain ⟨⟨r0, r1, r2, r3, r4⟩, _⟩ := box5 HW.out.b1
        clear k2 f2
        go_upto_region 13 with (first
          | (at_builtin; refine wpList_append_row rfl _ _ 42 rfl 54 i0 (.agg #[.int .i64 0, .slice none 0 0, .int .i64 0, .bool false, .bool false]) 5 48 Tryd.underlying42 hi0 hz0 hz1 hz2 rfl (by decide) rfl HWz.out.row rfl HOne.out (drs_one _) (by unfold maxLen; omega) (by omega) ?_
             intro B3 c3 w3 hr3 hm3
             have HR3 := hide hr3
             have HM3 := hide hm3
             obtain ⟨o3, fo3⟩ := box1 (hm3.heap HWz.out.b3 (fun h => by omega))
             clear hr3 hm3)
          | fail)
        have HW4 := hide (HWz.out.app HP.out HR3.out HM3.out)
        obtain ⟨w4, hw4⟩ : ∃ w4, w3.setCell ⟨p + 1 + 1 + 1, 0, none⟩ (.slice B3 (m + 1) c3) = w4 := ⟨_, rfl⟩
        rw [hw4] at HW4
        rw [hw4]
        clear hw4 hwz hqz o3 fo3 o0 r0 r1 r2 r3 r4
        obtain ⟨o0, _⟩ := box1 HW4.out.b3
        obtain ⟨k2, f2⟩ := box1 HW4.out.b2
        have hbl : Below w.heap.size w (w4.setCell ⟨p + 1 + 1, 0, none⟩ (.slice B3 (m + 1) c3)) := HW4.out.below.setCell (p := ⟨p + 1 + 1, 0, none⟩) (by show w.heap.size ≤ p + 1 + 1; have := HP.out; omega) _
        have hs2 := heap_setCell_same _ (p + 1 + 1) 0 _ 44 (.slice B3 (m + 1) c3) HW4.out.b2
        have HBl := hide hbl
        have HS2 := hide hs2
        have HRo := hide (HW4.out.row.far (p := ⟨p + 1 + 1, 0, none⟩) (fun hk => by have hk : p + 4 ≤ p + 1 + 1 := hk; omega) (.slice B3 (m + 1) c3))
        clear hbl hs2
        go_wp2
        obtain ⟨m0, _⟩ := box1 (show (w4.setCell ⟨p + 1 + 1, 0, none⟩ (.slice B3 (m + 1) c3)).heap[p + 1 + 1]? = some (.cells #[.slice B3 (m + 1) c3] 44 (0, 0)) by simpa using HS2.out)
        refine bodyPost_ret (by simp [results, Tryd.results36, go_sem, m0]; rfl) rfl ?_
        refine ⟨B3, m + 1, c3, rfl, ?_, HBl.out⟩
        rw [← HO.out.last]
        exact HRo.out.mono (fun k hk _ => by have := HP.out; show w.heap.size ≤ k; omega)
end Go.Proofs.YtipfjnjjfojdgaaDoor
