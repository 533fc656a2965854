import Derived.Test.YtjkahckglhpjeaaDoorHRef3
import Derived.Test.YtjkahckglhpjeaaDoorHOps
/- The handles beside the document's; a call's variable. -/
namespace Go.Proofs.YtjkahckglhpjeaaDoor
open Go Go.RowKit Go.Cu

theorem find_all (w : World) (c m1 m2 g : Nat) (L : List HE) (h : HS w c m1 m2 g L) (x : Int) (hk : (Lit.int .i64 x).wf = true) :
    Calls Tryd.prog 13 #[ptr c, .int .i64 x] w fun r w' => r = .returned (.tuple #[(findR L x).1.v, .bool (findR L x).2]) ∧ Below w.heap.size w w' := by
  rcases splitH L x with hno | ⟨a, e, b, hL, he, ha⟩
  · rw [findR_no hno]
    exact find_no w c m1 m2 g L h x hk hno
  · subst hL
    subst he
    rw [findR_yes ha]
    exact find_yes w c m1 m2 g a b e h hk
theorem of_all (w : World) (c m1 m2 g : Nat) (L : List HE) (h : HS w c m1 m2 g L) (p : Pl) (hp : p.wf) :
    Calls Tryd.prog 16 #[ptr c, p.v] w fun r w' => r = .returned (.tuple #[.int .i64 (ofR L p).1, .bool (ofR L p).2]) ∧ Below w.heap.size w w' := by
  rcases splitP L p with hno | ⟨a, e, b, hL, he, ha⟩
  · rw [ofR_no hno]
    exact of_no w c m1 m2 g L h p hp hno
  · subst hL
    subst he
    rw [ofR_yes ha]
    exact of_yes w c m1 m2 g a b e h
theorem drop_all (w : World) (c m1 m2 g : Nat) (L : List HE) (h : HS w c m1 m2 g L) (x : Int) (hk : (Lit.int .i64 x).wf = true) :
    Calls Tryd.prog 10 #[ptr c, .int .i64 x] w fun r w' => r = .returned (.bool (findR L x).2) ∧ HS w' c m1 m2 g (wo L x) ∧ Mod (InH c m1 m2) w w' := by
  rcases splitH L x with hno | ⟨a, e, b, hL, he, ha⟩
  · rw [findR_no hno, wo_all hno]
    refine (drop_no w c m1 m2 g L h x hk hno).mono ?_
    rintro r w' ⟨rfl, hb⟩
    exact ⟨rfl, h.past hb, Mod.ofBelow hb _⟩
  · subst hL
    subst he
    rw [findR_yes ha, wo_mid h.hne]
    exact drop_yes w c m1 m2 g a b e h hk
theorem refdrop_all (w : World) (g : Nat) (A : Option Addr) (n c : Nat) (L : List HE) (hr : Row w (fun _ => True) 70 4 (.slice A n c) n (prs L)) (hn : n ≤ 1048576) (x : Int) :
    Calls Tryd.prog 24 #[cvv g A n c, .int .i64 x] w fun r w' => ∃ B n' cc, r = .returned (.tuple #[cvv g B n' cc, .bool (findR L x).2]) ∧ Row w' (fun _ => True) 70 4 (.slice B n' cc) n' (prs (wo L x)) ∧ Below w.heap.size w w' := by
  obtain ⟨⟨p, ok⟩, hf⟩ : ∃ y, findR L x = y := ⟨_, rfl⟩
  rw [hf]
  cases ok
  · refine (refdrop_no w g A n c L hr.reads hn x p hf).mono ?_
    rintro r w' ⟨rfl, hb⟩
    have hno : ∀ e ∈ L, e.h ≠ x := by
      rcases splitH L x with hno | ⟨a, e, b, hL, he, ha⟩
      · exact hno
      · subst hL
        subst he
        rw [findR_yes ha] at hf
        cases hf
    rw [wo_all hno]
    exact ⟨A, n, c, rfl, hr.kept (Mod.ofBelow hb (fun _ => False)) (fun _ _ _ h => h), hb⟩
  · refine (refdrop_yes w g A n c L hr hn x p hf).mono ?_
    rintro r w' ⟨B, cc, rfl, hrow, hb⟩
    exact ⟨B, _, cc, rfl, hrow, hb⟩
theorem reads_none (w : World) : Reads w 1 (.slice none 0 0) 0 (ints []) := ⟨rfl, none, 0, rfl, Nat.zero_le _, .inl rfl⟩

/-- the handles and the document's row, above a world -/
structure HC (w0 w : World) (c m1 m2 g : Nat) (L : List HE) (A : Option Addr) (n cc : Nat) : Prop where
  h1 : H1 w0 w c m1 m2 g L
  row : Row w (fun _ => True) 70 4 (.slice A n cc) n (prs L)
section
variable {w0 w w' : World} {c m1 m2 g g' : Nat} {L L' : List HE} {A A' : Option Addr} {n n' cc cc' : Nat}
theorem HC.past (h : HC w0 w c m1 m2 g L A n cc) (hb : Below w.heap.size w w') : HC w0 w' c m1 m2 g L A n cc := ⟨h.h1.past hb, h.row.kept (Mod.ofBelow hb (fun _ => False)) (fun _ _ _ h => h)⟩
theorem HC.len (h : HC w0 w c m1 m2 g L A n cc) : L.length = n := prs_len h.row.reads
theorem HC.le (h : HC w0 w c m1 m2 g L A n cc) : n ≤ g := by have := h.len; have := h.h1.hs.len_le; omega
/-- a step of the handles: the document's row lives on -/
theorem HC.turn (h : HC w0 w c m1 m2 g L A n cc) (hs : HS w' c m1 m2 g' L') (hm : Mod (InH c m1 m2) w w') (hr : Row w (fun _ => True) 70 4 (.slice A' n' cc') n' (prs L')) : HC w0 w' c m1 m2 g' L' A' n' cc' :=
  ⟨h.h1.turn hs hm, h.h1.hs.row (by decide) hm hr⟩
theorem HS.heap (h : HS w c m1 m2 g L) (hm : Mod (InH c m1 m2) w w') {b : Nat} {xs : Array Value} {t : TypeId} (hb : w.heap[b]? = some (.cells xs t (0, 0))) (ht : 62 ≠ t) : w'.heap[b]? = some (.cells xs t (0, 0)) :=
  hm.heap hb (fun hk => h.not_row ht _ hk ⟨_, hb⟩)
/-- a store into other memory -/
theorem HC.far2 (h : HC w0 w c m1 m2 g L A n cc) {b : Nat} {x y : Value} {t : TypeId} (hb : w.heap[b]? = some (.cells #[x, y] t (0, 0))) (h1 : 62 ≠ t) (h2 : t ≠ 70) (hl : w0.heap.size ≤ b) (u v : Value) : HC w0 ((w.setCell ⟨b, 0, none⟩ u).setCell ⟨b, 1, none⟩ v) c m1 m2 g L A n cc := by
  have hm : Mod (fun k => k = b) w ((w.setCell ⟨b, 0, none⟩ u).setCell ⟨b, 1, none⟩ v) := ((Mod.refl (fun k => k = b) w).setCell (p := ⟨b, 0, none⟩) (fun _ => rfl) u).setCell (p := ⟨b, 1, none⟩) (fun _ => rfl) v
  refine ⟨⟨h.h1.hs.kept hm (fun k hk e => ?_), h.h1.low, below_set2 h.h1.below hl u v⟩, row_set2 h.row hb h2 u v⟩
  subst e
  exact h.h1.hs.not_row h1 k hk ⟨_, hb⟩
end
abbrev opA (o : OpH) : Array Value := #[.int .i64 o.kd, .int .i64 o.p.conn, .int .i64 o.p.life, .int .u32 o.p.id, .int .i64 o.hd]
theorem box5 {w : World} {p : Nat} {x y z u v : Value} {t : TypeId} (h : w.heap[p]? = some (.cells #[x, y, z, u, v] t (0, 0))) :
    w.cell? ⟨p, 0, none⟩ = some x ∧ w.cell? ⟨p, 1, none⟩ = some y ∧ w.cell? ⟨p, 2, none⟩ = some z ∧ w.cell? ⟨p, 3, none⟩ = some u ∧ w.cell? ⟨p, 4, none⟩ = some v :=
  ⟨by rw [cell_of_row w p 0 _ _ _ h]; rfl, by rw [cell_of_row w p 1 _ _ _ h]; rfl, by rw [cell_of_row w p 2 _ _ _ h]; rfl, by rw [cell_of_row w p 3 _ _ _ h]; rfl, by rw [cell_of_row w p 4 _ _ _ h]; rfl⟩
/-- the three boxes of a step -/
structure SB (w0 w : World) (q g : Nat) (A : Option Addr) (n cc : Nat) (o : OpH) : Prop where
  b0 : w.heap[q]? = some (.cells #[.int .i64 g, .slice A n cc] 43 (0, 0))
  b1 : w.heap[q + 1]? = some (.cells (opA o) 30 (0, 0))
  b2 : w.heap[q + 2]? = some (.cells #[.int .i64 0, .slice none 0 0] 43 (0, 0))
  low : w0.heap.size ≤ q
section
variable {w0 w w' : World} {q g : Nat} {A : Option Addr} {n cc : Nat} {o : OpH}
theorem SB.past (h : SB w0 w q g A n cc o) (hb : Below w.heap.size w w') : SB w0 w' q g A n cc o := ⟨below_at hb h.b0, below_at hb h.b1, below_at hb h.b2, h.low⟩
theorem SB.mod {c m1 m2 g1 : Nat} {L : List HE} (h : SB w0 w q g A n cc o) (hc : HS w c m1 m2 g1 L) (hm : Mod (InH c m1 m2) w w') : SB w0 w' q g A n cc o :=
  ⟨hc.heap hm h.b0 (by decide), hc.heap hm h.b1 (by decide), hc.heap hm h.b2 (by decide), h.low⟩
theorem boxesS (w0 w : World) (hb : Below w0.heap.size w0 w) (g : Nat) (A : Option Addr) (n cc : Nat) (o : OpH) : ∃ w1 q, ((w.alloc (.cells #[.int .i64 g, .slice A n cc] 43)).alloc (.cells (opA o) 30)).alloc (.cells #[.int .i64 0, .slice none 0 0] 43) = w1 ∧ w.heap.size = q ∧ Below w.heap.size w w1 ∧ w1.heap.size = q + 3 ∧ SB w0 w1 q g A n cc o := by
  refine ⟨_, _, rfl, rfl, (((Below.refl _ _).alloc (Nat.le_refl _) _).alloc (by simp) _).alloc (by simp; omega) _, by simp, ?_, ?_, ?_, hb.size⟩
  · rw [Below.heap_alloc _ _ _ (by simp; omega), Below.heap_alloc _ _ _ (by simp)]
    exact heap_alloc_new w _
  · rw [Below.heap_alloc _ _ _ (by simp)]
    have h := heap_alloc_new (w.alloc (.cells #[.int .i64 g, .slice A n cc] 43)) (.cells (opA o) 30)
    simp only [World.size_alloc] at h
    exact h
  · have h := heap_alloc_new ((w.alloc (.cells #[.int .i64 g, .slice A n cc] 43)).alloc (.cells (opA o) 30)) (.cells #[.int .i64 0, .slice none 0 0] 43)
    simp only [World.size_alloc] at h
    exact h
end
/-- what a step leaves -/
def StepPost (w0 : World) (c m1 m2 g : Nat) (w : World) (r : Ending) (w' : World) : Prop :=
  ∃ g' L' A' n' c', r = .returned (.tuple #[cvv g' A' n' c', .bool true]) ∧ HC w0 w' c m1 m2 g' L' A' n' c' ∧ g' ≤ g + 1 ∧ Mod (InH c m1 m2) w w'
/-- the end of every step: the answer laid into its box -/
theorem HC.end_step {w0 w wx : World} {c m1 m2 g g' : Nat} {L' : List HE} {A' : Option Addr} {n' c' q : Nat} (h : HC w0 w c m1 m2 g' L' A' n' c') (hb : w.heap[q + 2]? = some (.cells #[.int .i64 0, .slice none 0 0] 43 (0, 0))) (hl : w0.heap.size ≤ q) (hg : g' ≤ g + 1) (hm : Mod (InH c m1 m2) wx w) (hx : wx.heap.size = q) :
    ∃ gn Ln An nn cn, Ending.returned (.tuple #[cvv g' A' n' c', .bool true]) = .returned (.tuple #[cvv gn An nn cn, .bool true]) ∧ HC w0 ((w.setCell ⟨q + 2, 0, none⟩ (.int .i64 g')).setCell ⟨q + 2, 1, none⟩ (.slice A' n' c')) c m1 m2 gn Ln An nn cn ∧ gn ≤ g + 1 ∧ Mod (InH c m1 m2) wx ((w.setCell ⟨q + 2, 0, none⟩ (.int .i64 g')).setCell ⟨q + 2, 1, none⟩ (.slice A' n' c')) :=
  ⟨g', L', A', n', c', rfl, h.far2 hb (by decide) (by decide) (by omega) _ _, hg, (hm.setCell (p := ⟨q + 2, 0, none⟩) (fun hl => absurd hl (by show ¬ q + 2 < wx.heap.size; omega)) _).setCell (p := ⟨q + 2, 1, none⟩) (fun hl => absurd hl (by show ¬ q + 2 < wx.heap.size; omega)) _⟩
theorem HC.end_stepD {w0 w wx : World} {c m1 m2 g g' : Nat} {L' : List HE} {A' : Option Addr} {n' c' q : Nat} (h : HC w0 w c m1 m2 g' L' A' n' c') (hb : w.heap[q + 2]? = some (.cells #[.int .i64 0, .slice none 0 0] 43 (0, 0))) (hl : w0.heap.size ≤ q) (hg : g' ≤ g + 1) (hm : Mod (InH c m1 m2) wx w) (hx : wx.heap.size = q) :
    ∃ gn Ln An nn cn, Ending.returned (.tuple #[cvv g' A' n' c', .bool true]) = .returned (.tuple #[cvv gn An nn cn, .bool true]) ∧ HC w0 ((w.setCell ⟨q + 2, 0, none⟩ (.int .i64 g')).setCell ⟨q + 2, 1, none⟩ (.slice A' n' c')).drew c m1 m2 gn Ln An nn cn ∧ gn ≤ g + 1 ∧ Mod (InH c m1 m2) wx ((w.setCell ⟨q + 2, 0, none⟩ (.int .i64 g')).setCell ⟨q + 2, 1, none⟩ (.slice A' n' c')).drew := by
  obtain ⟨gn, Ln, An, nn, cn, h1, h2, h3, h4⟩ := h.end_step hb hl hg hm hx
  exact ⟨gn, Ln, An, nn, cn, h1, h2.past (Below.refl _ _).drew, h3, h4.drew⟩
end Go.Proofs.YtjkahckglhpjeaaDoor
