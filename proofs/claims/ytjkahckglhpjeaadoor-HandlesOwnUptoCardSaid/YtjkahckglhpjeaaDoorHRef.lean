import Derived.Test.YtjkahckglhpjeaaDoorHWakes
import Derived.Test.YtjkahckglhpjeaaDoorFlat
import Derived.Deep.LoopGhost
/- The document's handles: rows of pairs; Of, Find, without, On. -/
namespace Go.Proofs.YtjkahckglhpjeaaDoor
open Go Go.RowKit Go.Cu

def prC (e : HE) : List Value := [.int .i64 e.h, .int .i64 e.p.conn, .int .i64 e.p.life, .int .u32 e.p.id]
theorem prC_length (e : HE) : (prC e).length = 4 := rfl
def prs (L : List HE) : List Value := L.flatMap prC
theorem prs_length (L : List HE) : (prs L).length = L.length * 4 := flat_length prC_length L
theorem prs_app (a b : List HE) : prs a ++ prs b = prs (a ++ b) := by simp [prs]
theorem prs_one (L : List HE) : ∀ u ∈ prs L, u.oneCell' = true := by
  intro u hu
  obtain ⟨e, _, hu⟩ := List.mem_flatMap.1 hu
  simp only [prC, List.mem_cons, List.not_mem_nil, or_false] at hu
  rcases hu with rfl | rfl | rfl | rfl <;> rfl
abbrev cvv (g : Nat) (A : Option Addr) (n c : Nat) : Value := .agg #[.int .i64 g, .slice A n c]
theorem size_pr : (Tryd.prog.info? 70).map (·.size) = some 4 := by kernel_rfl
theorem agg_pr (w : World) : (isAgg 70).run Tryd.prog w = .ok true w := by kernel_rfl
theorem info_pr : (Tryd.prog.info? 70).map (fun i => (i.zero, i.size, i.bytes)) = some (some (.agg #[.int .i64 0, .int .i64 0, .int .i64 0, .int .u32 0]), 4, 32) := by kernel_rfl
theorem prs_len {w : World} {A : Option Addr} {n c : Nat} {L : List HE} (hr : Reads w 4 (.slice A n c) n (prs L)) : L.length = n := by
  have := hr.1
  rw [prs_length] at this
  omega
theorem prs_cell {w : World} {A : Option Addr} {n c : Nat} {L : List HE} (hr : Reads w 4 (.slice A n c) n (prs L)) {i : Nat} {x : HE} (hx : L[i]? = some x) :
    ∃ ad, A = some ad ∧ w.cell? (ad.add (i * 4)) = some (.int .i64 x.h) ∧ w.cell? ⟨(ad.add (i * 4)).block, (ad.add (i * 4)).off + 1, none⟩ = some (.int .i64 x.p.conn) ∧
      w.cell? ⟨(ad.add (i * 4)).block, (ad.add (i * 4)).off + 1 + 1, none⟩ = some (.int .i64 x.p.life) ∧ w.cell? ⟨(ad.add (i * 4)).block, (ad.add (i * 4)).off + 1 + 2, none⟩ = some (.int .u32 x.p.id) := by
  have hi : i < L.length := (List.getElem?_eq_some_iff.1 hx).1
  have hg := flat_get prC_length hx
  obtain ⟨h1, A', c', he, _, h3⟩ := hr
  rw [prs_length] at h1
  injection he with he _ _
  rcases h3 with h3 | ⟨ad, hA, h4⟩
  · omega
  · have e : ∀ k, k ≠ 0 → ad.add (i * 4 + k) = ⟨(ad.add (i * 4)).block, (ad.add (i * 4)).off + k, none⟩ := fun k hk => by
      unfold Addr.add
      by_cases h : i * 4 = 0 <;> simp [h, hk, Nat.add_assoc]
    refine ⟨ad, by rw [he, hA], h4 _ _ (hg 0 _ rfl), ?_, ?_, ?_⟩
    · rw [← e 1 (by decide)]; exact h4 _ _ (hg 1 _ rfl)
    · rw [Nat.add_assoc, ← e 2 (by decide)]; exact h4 _ _ (hg 2 _ rfl)
    · rw [Nat.add_assoc, ← e 3 (by decide)]; exact h4 _ _ (hg 3 _ rfl)
theorem reads_past {w w' : World} {sz : Nat} {x : Value} {m : Nat} {news : List Value} (h : Reads w sz x m news) (hb : Below w.heap.size w w') : Reads w' sz x m news :=
  Reads.kept h (fun a _ hc => (hb.cell (World.block_lt_of_cell? w a hc)).trans hc)
theorem below_at {w w' : World} {b : Nat} {o : Obj} (hb : Below w.heap.size w w') (h : w.heap[b]? = some o) : w'.heap[b]? = some o := (hb.block _ (Array.getElem?_eq_some_iff.1 h).1).trans h
theorem box2 {w : World} {p : Nat} {x y : Value} {t : TypeId} (h : w.heap[p]? = some (.cells #[x, y] t (0, 0))) : w.cell? ⟨p, 0, none⟩ = some x ∧ w.cell? ⟨p, 1, none⟩ = some y :=
  ⟨by rw [cell_of_row w p 0 _ _ _ h]; rfl, by rw [cell_of_row w p 1 _ _ _ h]; rfl⟩
theorem box3_set {w : World} {p : Nat} {x y z : Value} {t : TypeId} (h : w.heap[p]? = some (.cells #[x, y, z] t (0, 0))) (a b c : Value) :
    (((w.setCell ⟨p, 0, none⟩ a).setCell ⟨p, 1, none⟩ b).setCell ⟨p, 2, none⟩ c).heap[p]? = some (.cells #[a, b, c] t (0, 0)) := by
  have h1 := heap_setCell_same _ p 0 _ t a h
  have h2 := heap_setCell_same _ p 1 _ t b h1
  have h3 := heap_setCell_same _ p 2 _ t c h2
  simpa using h3
theorem below_set3 {B : Nat} {w w' : World} {p : Nat} (h : Below B w w') (hp : B ≤ p) (a b c : Value) : Below B w (((w'.setCell ⟨p, 0, none⟩ a).setCell ⟨p, 1, none⟩ b).setCell ⟨p, 2, none⟩ c) :=
  ((h.setCell (p := ⟨p, 0, none⟩) hp _).setCell (p := ⟨p, 1, none⟩) hp _).setCell (p := ⟨p, 2, none⟩) hp _
theorem box2_set {w : World} {p : Nat} {x y : Value} {t : TypeId} (h : w.heap[p]? = some (.cells #[x, y] t (0, 0))) (a b : Value) :
    ((w.setCell ⟨p, 0, none⟩ a).setCell ⟨p, 1, none⟩ b).heap[p]? = some (.cells #[a, b] t (0, 0)) := by
  have h1 := heap_setCell_same _ p 0 _ t a h
  have h2 := heap_setCell_same _ p 1 _ t b h1
  simpa using h2
theorem below_set2 {B : Nat} {w w' : World} {p : Nat} (h : Below B w w') (hp : B ≤ p) (a b : Value) : Below B w ((w'.setCell ⟨p, 0, none⟩ a).setCell ⟨p, 1, none⟩ b) :=
  (h.setCell (p := ⟨p, 0, none⟩) hp _).setCell (p := ⟨p, 1, none⟩) hp _
theorem step_on {α : Type} (L : List α) (i : Nat) (h : i < L.length) : ∃ e, L[i]? = some e ∧ L.drop i = e :: L.drop (i + 1) ∧ L.take (i + 1) = L.take i ++ [e] :=
  ⟨L[i], List.getElem?_eq_getElem h, List.drop_eq_getElem_cons h, by rw [List.take_succ_eq_append_getElem h]⟩

def Pl.same (p q : Pl) : Bool := decide (p.conn = q.conn) && (decide (p.life = q.life) && decide (p.id = q.id))
theorem Pl.same_iff {p q : Pl} : p.same q = true ↔ p = q := by
  obtain ⟨a, b, c⟩ := p
  obtain ⟨d, e, f⟩ := q
  simp [Pl.same]
theorem Pl.not_same {p q : Pl} (h : p.same q = false) : (p.conn == q.conn) = false ∨ ((p.conn == q.conn) = true ∧ (p.life == q.life) = false) ∨ ((p.conn == q.conn) = true ∧ (p.life == q.life) = true ∧ (p.id == q.id) = false) := by
  unfold Pl.same at h
  by_cases h1 : p.conn = q.conn
  · by_cases h2 : p.life = q.life
    · refine .inr (.inr ⟨by simpa using h1, by simpa using h2, ?_⟩)
      simpa [h1, h2] using h
    · exact .inr (.inl ⟨by simpa using h1, by simpa using h2⟩)
  · exact .inl (by simpa using h1)
def ofR : List HE → Pl → Int × Bool
  | [], _ => (0, false)
  | e :: r, p => if e.p.same p then (e.h, true) else ofR r p
def findR : List HE → Int → Pl × Bool
  | [], _ => (Pl.zero, false)
  | e :: r, x => if e.h = x then (e.p, true) else findR r x
theorem findR_cons (e : HE) (r : List HE) (x : Int) : findR (e :: r) x = if e.h = x then (e.p, true) else findR r x := rfl
theorem ofR_cons (e : HE) (r : List HE) (p : Pl) : ofR (e :: r) p = if e.p.same p then (e.h, true) else ofR r p := rfl
theorem ofR_no {L : List HE} {p : Pl} (h : ∀ e ∈ L, e.p ≠ p) : ofR L p = (0, false) := by
  induction L with
  | nil => rfl
  | cons e r ih =>
    unfold ofR
    rw [if_neg (fun hs => h e (List.mem_cons_self ..) (Pl.same_iff.1 hs))]
    exact ih (fun x hx => h x (List.mem_cons_of_mem _ hx))
theorem ofR_yes {a b : List HE} {e : HE} (h : ∀ x ∈ a, x.p ≠ e.p) : ofR (a ++ e :: b) e.p = (e.h, true) := by
  induction a with
  | nil =>
    show ofR (e :: b) e.p = _
    unfold ofR
    rw [if_pos (Pl.same_iff.2 rfl)]
  | cons x r ih =>
    show ofR (x :: (r ++ e :: b)) e.p = _
    unfold ofR
    rw [if_neg (fun hs => h x (List.mem_cons_self ..) (Pl.same_iff.1 hs))]
    exact ih (fun y hy => h y (List.mem_cons_of_mem _ hy))
theorem findR_no {L : List HE} {x : Int} (h : ∀ e ∈ L, e.h ≠ x) : findR L x = (Pl.zero, false) := by
  induction L with
  | nil => rfl
  | cons e r ih =>
    unfold findR
    rw [if_neg (h e (List.mem_cons_self ..))]
    exact ih (fun x hx => h x (List.mem_cons_of_mem _ hx))
theorem findR_yes {a b : List HE} {e : HE} (h : ∀ x ∈ a, x.h ≠ e.h) : findR (a ++ e :: b) e.h = (e.p, true) := by
  induction a with
  | nil =>
    show findR (e :: b) e.h = _
    unfold findR
    rw [if_pos rfl]
  | cons x r ih =>
    show findR (x :: (r ++ e :: b)) e.h = _
    unfold findR
    rw [if_neg (h x (List.mem_cons_self ..))]
    exact ih (fun y hy => h y (List.mem_cons_of_mem _ hy))

set_option maxRecDepth 10000 in
set_option maxHeartbeats 2000000 in
theorem find_r (w : World) (g : Nat) (A : Option Addr) (n c : Nat) (L : List HE) (hr : Reads w 4 (.slice A n c) n (prs L)) (hn : n ≤ 1048576) (x : Int) :
    Calls Tryd.prog 25 #[cvv g A n c, .int .i64 x] w fun r w' => r = .returned (.tuple #[(findR L x).1.v, .bool (findR L x).2]) ∧ Below w.heap.size w w' := by
  have hnl := prs_len hr
  have hal : Below w.heap.size w ((w.alloc (.cells #[.int .i64 g, .slice A n c] 43)).alloc (.cells #[.int .i64 0, .int .i64 0, .int .u32 0] 28)) := ((Below.refl _ _).alloc (Nat.le_refl _) _).alloc (by simp) _
  have hb0 := below_at ((Below.refl _ _).alloc (Nat.le_refl _) (.cells #[.int .i64 0, .int .i64 0, .int .u32 0] 28)) (heap_alloc_new w (.cells #[.int .i64 g, .slice A n c] 43))
  have hb1 := heap_alloc_new (w.alloc (.cells #[.int .i64 g, .slice A n c] 43)) (.cells #[.int .i64 0, .int .i64 0, .int .u32 0] 28)
  rw [World.size_alloc] at hb1
  have HR := hide (reads_past hr hal)
  have HL := hide hnl
  clear hr hnl
  go_enter Tryd.func25, Tryd.ntmps25
  go_upto_region 1 with fail
  obtain ⟨w1, hw1⟩ : ∃ w1, (w.alloc (.cells #[.int .i64 g, .slice A n c] 43)).alloc (.cells #[.int .i64 0, .int .i64 0, .int .u32 0] 28) = w1 := ⟨_, rfl⟩
  obtain ⟨q, hq⟩ : ∃ q, w.heap.size = q := ⟨_, rfl⟩
  rw [hw1] at hal HR hb0 hb1
  rw [hq] at hb0 hb1
  have HAl := hide hal
  have HQ := hide hq
  rw [hw1, hq]
  obtain ⟨c0, c1⟩ := box2 hb0
  obtain ⟨z0, z1, z2, zf⟩ := box3 hb1
  have HB1 := hide hb1
  clear hw1 hq hal hb0 hb1 c0
  go_wp2_with fail
  go_loop [6] (fun t => ∃ i : Nat, i ≤ n ∧ t = .int .i64 i ∧ Hid (findR (L.drop i) x = findR L x)) (fun t => n - (intOf t).toNat)
  case atStart => exact ⟨0, Nat.zero_le _, rfl, hide rfl⟩
  case round =>
    obtain ⟨i, hi, rfl, hf⟩ := hrel
    by_cases hlt : i < n
    · obtain ⟨e, he, hd, _⟩ := step_on L i (by have := HL.out; omega)
      obtain ⟨ad, hA, s0, s1, s2, s3⟩ := prs_cell HR.out he
      subst hA
      have hfd := hf.out
      rw [hd, findR_cons] at hfd
      by_cases hex : e.h = x
      · rw [if_pos hex] at hfd
        have e1 : (e.h == x) = true := by simpa using hex
        have HF := hide hfd
        clear hf hd he hfd hex
        go_wp2
        obtain ⟨y0, y1, y2, _⟩ := box3 (box3_set HB1.out (.int .i64 e.p.conn) (.int .i64 e.p.life) (.int .u32 e.p.id))
        refine bodyPost_ret (v := .tuple #[.agg #[.int .i64 e.p.conn, .int .i64 e.p.life, .int .u32 e.p.id], .bool true]) (by simp [results, Tryd.results25, go_sem, y0, y1, y2]) rfl ⟨?_, below_set3 HAl.out (by have := HQ.out; omega) _ _ _⟩
        rw [← HF.out]
        rfl
      · rw [if_neg hex] at hfd
        have e1 : (e.h == x) = false := by simpa using hex
        have HF := hide hfd
        clear hf hd he hfd hex
        go_wp2
        go_round
        case rel => exact ⟨i + 1, by omega, by go_num, HF⟩
        case measure => simp [intOf]; omega
    · obtain rfl : i = n := by omega
      have hfd := hf.out
      rw [List.drop_of_length_le (by have := HL.out; omega)] at hfd
      have HF := hide hfd
      clear hf hfd
      go_wp2
      obtain ⟨y0, y1, y2, _⟩ := box3 (box3_set HB1.out (.int .i64 0) (.int .i64 0) (.int .u32 0))
      refine bodyPost_ret (v := .tuple #[.agg #[.int .i64 0, .int .i64 0, .int .u32 0], .bool false]) (by simp [results, Tryd.results25, go_sem, y0, y1, y2]) rfl ⟨?_, below_set3 HAl.out (by have := HQ.out; omega) _ _ _⟩
      rw [← HF.out]
      rfl
set_option maxRecDepth 10000 in
set_option maxHeartbeats 2000000 in
theorem of_r (w : World) (g : Nat) (A : Option Addr) (n c : Nat) (L : List HE) (hr : Reads w 4 (.slice A n c) n (prs L)) (hn : n ≤ 1048576) (p : Pl) :
    Calls Tryd.prog 26 #[cvv g A n c, p.v] w fun r w' => r = .returned (.tuple #[.int .i64 (ofR L p).1, .bool (ofR L p).2]) ∧ Below w.heap.size w w' := by
  have hnl := prs_len hr
  have hal : Below w.heap.size w ((w.alloc (.cells #[.int .i64 g, .slice A n c] 43)).alloc (.cells #[.int .i64 p.conn, .int .i64 p.life, .int .u32 p.id] 28)) := ((Below.refl _ _).alloc (Nat.le_refl _) _).alloc (by simp) _
  have hb0 := below_at ((Below.refl _ _).alloc (Nat.le_refl _) (.cells #[.int .i64 p.conn, .int .i64 p.life, .int .u32 p.id] 28)) (heap_alloc_new w (.cells #[.int .i64 g, .slice A n c] 43))
  have hb1 := heap_alloc_new (w.alloc (.cells #[.int .i64 g, .slice A n c] 43)) (.cells #[.int .i64 p.conn, .int .i64 p.life, .int .u32 p.id] 28)
  rw [World.size_alloc] at hb1
  have HR := hide (reads_past hr hal)
  have HL := hide hnl
  clear hr hnl
  unfold Pl.v
  go_enter Tryd.func26, Tryd.ntmps26
  go_upto_region 1 with fail
  obtain ⟨w1, hw1⟩ : ∃ w1, (w.alloc (.cells #[.int .i64 g, .slice A n c] 43)).alloc (.cells #[.int .i64 p.conn, .int .i64 p.life, .int .u32 p.id] 28) = w1 := ⟨_, rfl⟩
  obtain ⟨q, hq⟩ : ∃ q, w.heap.size = q := ⟨_, rfl⟩
  rw [hw1] at hal HR hb0 hb1
  rw [hq] at hb0 hb1
  have HAl := hide hal
  have HB0 := hide hb0
  have HB1 := hide hb1
  rw [hw1, hq]
  clear hw1 hq hal hb0 hb1
  go_wp2_with fail
  go_loopw [6] (fun t wr => ∃ i : Nat, i ≤ n ∧ t = .int .i64 i ∧ Hid (ofR (L.drop i) p = ofR L p) ∧ Hid (Below w1.heap.size w1 wr)) (fun t _ => n - (intOf t).toNat)
  case atStart => exact ⟨0, Nat.zero_le _, rfl, hide rfl, hide (Below.refl _ _)⟩
  case round =>
    obtain ⟨i, hi, rfl, hf, HB⟩ := hrel
    obtain ⟨c0, c1⟩ := box2 (below_at HB.out HB0.out)
    obtain ⟨z0, z1, z2, _⟩ := box3 (below_at HB.out HB1.out)
    clear c0
    by_cases hlt : i < n
    · obtain ⟨e, he, hd, _⟩ := step_on L i (by have := HL.out; omega)
      obtain ⟨ad, hA, s0, s1, s2, s3⟩ := prs_cell (reads_past HR.out HB.out) he
      subst hA
      have hfd := hf.out
      rw [hd, ofR_cons] at hfd
      have hal2 : Below wr.heap.size wr (wr.alloc (.cells #[.int .i64 e.p.conn, .int .i64 e.p.life, .int .u32 e.p.id] 28)) := (Below.refl _ _).alloc (Nat.le_refl _) _
      have HB2 := hide (HB.out.trans (hal2.mono HB.out.size))
      have hblk : (ad.add (i * 4)).block < wr.heap.size := World.block_lt_of_cell? wr _ s0
      have hq0 : q < wr.heap.size := Nat.lt_of_lt_of_le (Array.getElem?_eq_some_iff.1 HB0.out).1 HB.out.size
      have hq1 : q + 1 < wr.heap.size := Nat.lt_of_lt_of_le (Array.getElem?_eq_some_iff.1 HB1.out).1 HB.out.size
      by_cases hex : e.p.same p = true
      · rw [if_pos hex] at hfd
        obtain ⟨e1, e2, e3⟩ : (e.p.conn == p.conn) = true ∧ (e.p.life == p.life) = true ∧ (e.p.id == p.id) = true := by
          have := Pl.same_iff.1 hex
          rw [this]
          simp
        have HF := hide hfd
        clear hf hd he hfd hex hal2
        go_wp2
        go_ret2
        refine ⟨?_, HAl.out.trans (HB2.out.mono HAl.out.size)⟩
        rw [← HF.out]
        rfl
      · have hxf : e.p.same p = false := by simpa using hex
        rw [if_neg hex] at hfd
        have HF := hide hfd
        rcases Pl.not_same hxf with e1 | ⟨e1, e2⟩ | ⟨e1, e2, e3⟩
        all_goals
          clear hf hd he hfd hex hxf hal2
          go_wp2
          go_roundw
          case rel => exact ⟨i + 1, by omega, by go_num, HF, HB2⟩
          case measure => simp [intOf]; omega
    · obtain rfl : i = n := by omega
      have hfd := hf.out
      rw [List.drop_of_length_le (by have := HL.out; omega)] at hfd
      have HF := hide hfd
      clear hf hfd
      go_wp2
      go_ret2
      refine ⟨?_, HAl.out.trans (HB.out.mono HAl.out.size)⟩
      rw [← HF.out]
      rfl
end Go.Proofs.YtjkahckglhpjeaaDoor
