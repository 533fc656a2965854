import Derived.Test.YtipfjnjjfojdgaaDoorTRef2
/- The document's history: Closed, Ended. -/
namespace Go.Proofs.YtipfjnjjfojdgaaDoor
open Go Go.RowKit Go.Cu

def wroteE (R : List Rw) (k : Int) : Int := if (pastR R k).cl = true then 24 else 0
def gaveE (R : List Rw) (k : Int) (L : List Int) : Int := if L <+: (pastR R k).bs.drop (pastR R k).rd then 0 else 39
def endedE (R : List Rw) (k : Int) : Int := if (pastR R k).cl = true ∧ (pastR R k).rd = (pastR R k).bs.length then 0 else 39
theorem put_drw (E : List DR) (e : DR) : (put DR.k E e).map DR.rw = put Rw.k (E.map DR.rw) e.rw := by
  induction E with
  | nil => rfl
  | cons y r ih =>
    have h1 : Rw.k y.rw = DR.k y := rfl
    have h2 : Rw.k e.rw = DR.k e := rfl
    rw [List.map_cons, put_cons, put_cons, h1, h2]
    split
    · rw [List.map_cons, ih]
    · split <;> simp
theorem get_drw (E : List DR) (k : Int) : get Rw.k (E.map DR.rw) k = (get DR.k E k).map DR.rw := by
  induction E with
  | nil => rfl
  | cons y r ih =>
    have h1 : Rw.k y.rw = DR.k y := rfl
    rw [List.map_cons, get_cons, get_cons, h1, ih]
    split <;> rfl
/-- the key's row as Of tells it -/
def ofR (E : List DR) (k : Int) : DR := (get DR.k E k).getD (dr0 k)
theorem ofR_rw (E : List DR) (k : Int) : (ofR E k).rw = pastR (E.map DR.rw) k := by
  unfold ofR pastR
  rw [get_drw]
  cases get DR.k E k <;> rfl
theorem ofR_k (E : List DR) (k : Int) : (ofR E k).k = k := by
  unfold ofR
  cases hg : get DR.k E k with
  | none => rfl
  | some x => exact (get_mem DR.k hg).2
/-- v holds the document's history R; its memory lies in F -/
structure Doc (w : World) (F : Nat → Prop) (v : Value) (R : List Rw) : Prop where
  ex : ∃ A n c E, v = docV A n c ∧ Row w F 54 5 (.slice A n c) n (drs E) ∧ E.map DR.rw = R ∧ Srt DR.k E ∧ ∀ e ∈ E, Row w F 5 1 (.slice e.A e.bs.length e.c) e.bs.length (u8s e.bs)
section
variable {w w' : World} {F G : Nat → Prop} {v : Value} {R : List Rw}
theorem Doc.kept (h : Doc w F v R) (hm : Mod G w w') (hn : ∀ k, F k → k < w.heap.size → ¬ G k) : Doc w' F v R := by
  obtain ⟨A, n, c, E, h1, h2, h3, h4, h5⟩ := h.ex
  exact ⟨A, n, c, E, h1, h2.kept hm hn, h3, h4, fun e he => (h5 e he).kept hm hn⟩
theorem Doc.past (h : Doc w F v R) (hb : Below w.heap.size w w') : Doc w' F v R := h.kept (Mod.ofBelow hb (fun _ => False)) (fun _ _ _ h => h)
theorem Doc.mono (h : Doc w F v R) (hG : ∀ k, F k → k < w.heap.size → G k) : Doc w G v R := by
  obtain ⟨A, n, c, E, h1, h2, h3, h4, h5⟩ := h.ex
  exact ⟨A, n, c, E, h1, h2.mono hG, h3, h4, fun e he => (h5 e he).mono hG⟩
theorem Doc.start (w : World) (F : Nat → Prop) : Doc w F (docV none 0 0) [] := ⟨none, 0, 0, [], rfl, Row.nil _ _ _ _, rfl, List.Pairwise.nil, fun _ h => by cases h⟩
end
/-- the boxes of a call: the history, the result, the row -/
structure RB (w : World) (p q : Nat) (A : Option Addr) (n c : Nat) (e : DR) (wx : World) : Prop where
  below : Below w.heap.size w wx
  hp : w.heap.size = p
  hq : p + 1 < q
  b0 : wx.heap[p]? = some (.cells #[.slice A n c] 44 (0, 0))
  b1 : wx.heap[p + 1]? = some (.cells #[.slice none 0 0] 44 (0, 0))
  bq : wx.heap[q]? = some (.cells (drA e) 54 (0, 0))
section
variable {w wx wy : World} {p q : Nat} {A : Option Addr} {n c : Nat} {e : DR}
theorem RB.past (h : RB w p q A n c e wx) (hb : Below wx.heap.size wx wy) : RB w p q A n c e wy :=
  ⟨h.below.trans (hb.mono h.below.size), h.hp, h.hq, below_at hb h.b0, below_at hb h.b1, below_at hb h.bq⟩
theorem RB.setq (h : RB w p q A n c e wx) (j : Nat) (v : Value) {e' : DR} (he : (drA e).setIfInBounds j v = drA e') : RB w p q A n c e' (wx.setCell ⟨q, j, none⟩ v) := by
  have hp := h.hp
  have hq := h.hq
  refine ⟨h.below.setCell (p := ⟨q, j, none⟩) (by show w.heap.size ≤ q; omega) _, hp, hq, ?_, ?_, ?_⟩
  · rw [Below.heap_setCell _ _ _ _ (show p ≠ q by omega)]; exact h.b0
  · rw [Below.heap_setCell _ _ _ _ (show p + 1 ≠ q by omega)]; exact h.b1
  · rw [← he]
    exact heap_setCell_same _ q j _ 54 v h.bq
theorem two_boxes (w : World) (A : Option Addr) (n c : Nat) : ∃ w1 p, (w.alloc (.cells #[.slice A n c] 44)).alloc (.cells #[.slice none 0 0] 44) = w1 ∧ w.heap.size = p ∧ Below w.heap.size w w1 ∧ w1.heap.size = p + 1 + 1 ∧
    w1.heap[p]? = some (.cells #[.slice A n c] 44 (0, 0)) ∧ w1.heap[p + 1]? = some (.cells #[.slice none 0 0] 44 (0, 0)) := by
  refine ⟨_, _, rfl, rfl, ((Below.refl _ _).alloc (Nat.le_refl _) _).alloc (by simp) _, by simp, ?_, ?_⟩
  · rw [Below.heap_alloc _ _ _ (by simp)]
    exact heap_alloc_new w _
  · exact (by rw [World.size_alloc] : w.heap.size + 1 = (w.alloc (.cells #[.slice A n c] 44)).heap.size) ▸ heap_alloc_new _ _
theorem row_filled {w w1 w8 : World} {p : Nat} {A : Option Addr} {n c : Nat} (hp : w.heap.size = p) (hb1 : Below w.heap.size w w1) (hs1 : w1.heap.size = p + 1 + 1) (b0 : w1.heap[p]? = some (.cells #[.slice A n c] 44 (0, 0))) (b1 : w1.heap[p + 1]? = some (.cells #[.slice none 0 0] 44 (0, 0))) (hb : Below w1.heap.size w1 w8) (e : DR) :
    ∃ w9 q wa, w8.alloc (.cells #[.int .i64 0, .slice none 0 0, .int .i64 0, .bool false, .bool false] 54) = w9 ∧ w8.heap.size = q ∧
      ((((w9.setCell ⟨q, 0, none⟩ (.int .i64 e.k)).setCell ⟨q, 1, none⟩ (.slice e.A e.bs.length e.c)).setCell ⟨q, 2, none⟩ (.int .i64 e.rd)).setCell ⟨q, 3, none⟩ (.bool e.cl)).setCell ⟨q, 4, none⟩ (.bool e.en) = wa ∧
      w9.heap[q]? = some (.cells #[.int .i64 0, .slice none 0 0, .int .i64 0, .bool false, .bool false] 54 (0, 0)) ∧ RB w p q A n c e wa := by
  have hs := hb.size
  refine ⟨_, _, _, rfl, rfl, rfl, heap_alloc_new w8 _, ?_⟩
  have ha := heap_alloc_new w8 (.cells #[.int .i64 0, .slice none 0 0, .int .i64 0, .bool false, .bool false] 54)
  have hbl : Below w1.heap.size w1 (set5 (w8.alloc (.cells #[.int .i64 0, .slice none 0 0, .int .i64 0, .bool false, .bool false] 54)) w8.heap.size (.int .i64 e.k) (.slice e.A e.bs.length e.c) (.int .i64 e.rd) (.bool e.cl) (.bool e.en)) := below_set5 (hb.alloc hs _) hs _ _ _ _ _
  exact ⟨hb1.trans (hbl.mono hb1.size), hp, by omega, below_at hbl b0, below_at hbl b1, box5_set ha _ _ _ _ _⟩
/-- the result is stored -/
theorem RB.fin (h : RB w p q A n c e wx) {B : Option Addr} {m cc : Nat} {F : Nat → Prop} {E : List DR} {R : List Rw} (hrow : Row wx F 54 5 (.slice B m cc) m (drs E)) (hR : E.map DR.rw = R) (hs : Srt DR.k E) (hby : ∀ e ∈ E, Row wx F 5 1 (.slice e.A e.bs.length e.c) e.bs.length (u8s e.bs)) :
    (wx.setCell ⟨p + 1, 0, none⟩ (.slice B m cc)).cell? ⟨p + 1, 0, none⟩ = some (.slice B m cc) ∧ Below w.heap.size w (wx.setCell ⟨p + 1, 0, none⟩ (.slice B m cc)) ∧ Doc (wx.setCell ⟨p + 1, 0, none⟩ (.slice B m cc)) F (docV B m cc) R := by
  have hp := h.hp
  refine ⟨?_, h.below.setCell (p := ⟨p + 1, 0, none⟩) (by show w.heap.size ≤ p + 1; omega) _, B, m, cc, E, rfl, hrow.farE (p := ⟨p + 1, 0, none⟩) h.b1 (by decide) _, hR, hs, fun e he => (hby e he).farE (p := ⟨p + 1, 0, none⟩) h.b1 (by decide) _⟩
  have := heap_setCell_same _ (p + 1) 0 _ 44 (.slice B m cc) h.b1
  exact (box1 (show (wx.setCell ⟨p + 1, 0, none⟩ (.slice B m cc)).heap[p + 1]? = some (.cells #[.slice B m cc] 44 (0, 0)) by simpa using this)).1
end
theorem row_past {w w' : World} {F : Nat → Prop} {e : TypeId} {sz n : Nat} {v : Value} {xs : List Value} (h : Row w F e sz v n xs) (hb : Below w.heap.size w w') : Row w' F e sz v n xs := h.kept (Mod.ofBelow hb (fun _ => False)) (fun _ _ _ h => h)
/-- a new row is put: the history behind it -/
theorem put_rows {w w' : World} {F : Nat → Prop} {E : List DR} (hs : Srt DR.k E) (hby : ∀ e ∈ E, Row w F 5 1 (.slice e.A e.bs.length e.c) e.bs.length (u8s e.bs)) (hb : Below w.heap.size w w') {r : DR} (hr : Row w' (fun k => F k ∨ w.heap.size ≤ k) 5 1 (.slice r.A r.bs.length r.c) r.bs.length (u8s r.bs)) :
    ∀ e ∈ put DR.k E r, Row w' (fun k => F k ∨ w.heap.size ≤ k) 5 1 (.slice e.A e.bs.length e.c) e.bs.length (u8s e.bs) := by
  intro e he
  rcases (put_mem DR.k hs r e).1 he with rfl | ⟨he, _⟩
  · exact hr
  · exact (row_past (hby e he) hb).mono (fun k hk _ => .inl hk)
theorem ofR_row {w : World} {F : Nat → Prop} {E : List DR} (hby : ∀ e ∈ E, Row w F 5 1 (.slice e.A e.bs.length e.c) e.bs.length (u8s e.bs)) (k : Int) : Row w F 5 1 (.slice (ofR E k).A (ofR E k).bs.length (ofR E k).c) (ofR E k).bs.length (u8s (ofR E k).bs) := by
  unfold ofR
  cases hg : get DR.k E k with
  | none => exact Row.nil _ _ _ _
  | some x => exact hby x (get_mem DR.k hg).1
set_option maxRecDepth 10000 in
set_option maxHeartbeats 2000000 in
theorem closed_ref (w : World) {F : Nat → Prop} {v : Value} {R : List Rw} (hd : Doc w F v R) (hn : R.length ≤ 1048577) (k : Int) :
    Calls Tryd.prog 34 #[v, .int .i64 k] w fun r w' => ∃ v', r = .returned (.tuple #[v', .int .i64 (wroteE R k)]) ∧ Doc w' (fun k => F k ∨ w.heap.size ≤ k) v' (closedR R k) ∧ Below w.heap.size w w' := by
  obtain ⟨A, n, c, E, rfl, hrow, rfl, hsr, hby⟩ := hd.ex
  have hcl : (pastR (E.map DR.rw) k).cl = (ofR E k).cl := (congrArg Rw.cl (ofR_rw E k)).symm
  have hEl : E.length = n := drs_len hrow.reads
  rw [List.length_map] at hn
  obtain ⟨w1, p, hw1, hp, hb1, hs1, b0, b1⟩ := two_boxes w A n c
  have HR := hide hrow
  have HBy := hide hby
  have HSr := hide hsr
  have HOf := hide (of_r w1 A n c E (Reads.past hrow.reads hb1) (by omega) k)
  have HFill : ∀ w8, Below w1.heap.size w1 w8 → Hid _ := fun w8 hb8 => hide (row_filled hp hb1 hs1 b0 b1 hb8 (ofR E k))
  obtain ⟨c0, _⟩ := box1 b0
  clear hrow hby hsr hb1 hs1 b0 b1 hd
  go_enter Tryd.func34, Tryd.ntmps34
  go_upto_region 1 with fail
  try rw [hw1]
  try rw [hp]
  clear hw1 hp
  go_wp2_with fail
  refine HOf.out.mono ?_
  rintro r w8 ⟨rfl, hb8⟩
  obtain ⟨w9, q, wa, hw9, hq, hwa, hnew, hrb⟩ := (HFill w8 hb8).out
  obtain ⟨_, f0, f1, f2, f3, f4⟩ := box5 hnew
  have HRb := hide hrb
  have he : (get DR.k E k).getD (dr0 k) = ofR E k := rfl
  rw [he]
  clear HFill HOf hb8 hrb hnew he c0
  obtain ⟨e0, he0⟩ : ∃ e0, ofR E k = e0 := ⟨_, rfl⟩
  rw [he0] at hwa hcl HRb ⊢
  go_upto_region 2 with fail
  try rw [hwa]
  clear hw9 hq hwa f0 f1 f2 f3 f4
  obtain ⟨c0, _⟩ := box1 HRb.out.b0
  obtain ⟨o1, of1⟩ := box1 HRb.out.b1
  obtain ⟨⟨r0, r1, r2, r3, r4⟩, _, _, _, g3, _⟩ := box5 HRb.out.bq
  have HCl := hide hcl
  clear hcl
  by_cases hc : e0.cl = true
  · have HC := hide hc
    rw [hc] at r3
    obtain ⟨m0, hbl, hdoc⟩ := HRb.out.fin (row_past HR.out HRb.out.below) rfl HSr.out (fun e he => row_past (HBy.out e he) HRb.out.below)
    have HBl := hide hbl
    have HDoc := hide hdoc
    clear hc hbl hdoc r4
    go_wp2
    refine bodyPost_ret (by simp [results, Tryd.results34, go_sem, m0]; rfl) rfl ?_
    have hcc : (pastR (E.map DR.rw) k).cl = true := HCl.out.trans HC.out
    refine ⟨docV A n c, by rw [wroteE, if_pos hcc], ?_, HBl.out⟩
    · unfold closedR
      rw [if_pos hcc]
      exact HDoc.out.mono (fun k hk _ => .inl hk)
  · have HC := hide hc
    have hcf : e0.cl = false := by simpa using hc
    rw [hcf] at r3
    have hset := HRb.out.setq 3 (.bool true) (e' := { e0 with cl := true }) rfl
    obtain ⟨wb, hwb⟩ : ∃ wb, wa.setCell ⟨q, 3, none⟩ (.bool true) = wb := ⟨_, rfl⟩
    rw [hwb] at hset
    have HSet := hide hset
    clear hset hc hcf
    go_upto_region 5 with fail
    try rw [hwb]
    clear hwb c0 o1 of1 r0 r1 r2 r3 r4 g3
    obtain ⟨c0, _⟩ := box1 HSet.out.b0
    obtain ⟨⟨r0, r1, r2, r3, r4⟩, _⟩ := box5 HSet.out.bq
    go_wp2_with fail
    refine (with_r wb A n c E (Reads.past HR.out.reads HSet.out.below) HSr.out (by omega) { e0 with cl := true }).mono ?_
    rintro r wc ⟨B, m, cc, rfl, hrow, hbc⟩
    have hbw := HSet.out.below.trans (hbc.mono HSet.out.below.size)
    obtain ⟨o1, of1⟩ := box1 (HSet.out.past hbc).b1
    obtain ⟨m0, hbl, hdoc⟩ := (HSet.out.past hbc).fin (F := fun k => F k ∨ w.heap.size ≤ k) (hrow.mono (fun k hk _ => .inr (Nat.le_trans HSet.out.below.size hk))) rfl (put_srt DR.k HSr.out _) (put_rows HSr.out HBy.out hbw ((row_past (by rw [← he0]; exact ofR_row HBy.out k) hbw).mono (fun k hk _ => .inl hk)))
    have HBl := hide hbl
    have HDoc := hide hdoc
    clear hbl hdoc hrow hbc hbw c0 r0 r1 r2 r3 r4
    go_wp2
    refine bodyPost_ret (by simp [results, Tryd.results34, go_sem, m0]; rfl) rfl ?_
    have hcc : ¬ (pastR (E.map DR.rw) k).cl = true := by rw [HCl.out]; exact HC.out
    refine ⟨docV B m cc, by rw [wroteE, if_neg hcc], ?_, HBl.out⟩
    · unfold closedR
      rw [if_neg hcc]
      have h := HDoc.out
      rw [put_drw] at h
      have e2 : ({ e0 with cl := true } : DR).rw = { pastR (E.map DR.rw) k with cl := true } := by
        rw [← ofR_rw, he0]
        rfl
      rw [e2] at h
      exact h
end Go.Proofs.YtipfjnjjfojdgaaDoor
