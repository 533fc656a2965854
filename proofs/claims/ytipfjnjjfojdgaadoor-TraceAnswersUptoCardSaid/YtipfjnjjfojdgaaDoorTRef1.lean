import Derived.Test.YtipfjnjjfojdgaaDoorTStep
import Derived.Test.YtipfjnjjfojdgaaDoorFlat
import Derived.Deep.QuietTactic
/- The document's history: rows; Of. -/
namespace Go.Proofs.YtipfjnjjfojdgaaDoor
open Go Go.RowKit Go.Cu

/-- a row of the document's list, as it lies -/
structure DR where
  k : Int
  A : Option Addr
  c : Nat
  bs : List Int
  rd : Nat
  cl : Bool
  en : Bool
def DR.rw (e : DR) : Rw := ⟨e.k, e.bs, e.rd, e.cl, e.en⟩
def drC (e : DR) : List Value := [.int .i64 e.k, .slice e.A e.bs.length e.c, .int .i64 e.rd, .bool e.cl, .bool e.en]
theorem drC_length (e : DR) : (drC e).length = 5 := rfl
def drs (L : List DR) : List Value := L.flatMap drC
theorem drs_length (L : List DR) : (drs L).length = L.length * 5 := flat_length drC_length L
theorem drs_app (a b : List DR) : drs a ++ drs b = drs (a ++ b) := by simp [drs]
theorem drs_one (L : List DR) : ∀ u ∈ drs L, u.oneCell' = true := by
  intro u hu
  obtain ⟨e, _, hu⟩ := List.mem_flatMap.1 hu
  simp only [drC, List.mem_cons, List.not_mem_nil, or_false] at hu
  rcases hu with rfl | rfl | rfl | rfl | rfl <;> rfl
abbrev docV (A : Option Addr) (n c : Nat) : Value := .agg #[.slice A n c]
abbrev drV (e : DR) : Value := .agg #[.int .i64 e.k, .slice e.A e.bs.length e.c, .int .i64 e.rd, .bool e.cl, .bool e.en]
abbrev drA (e : DR) : Array Value := #[.int .i64 e.k, .slice e.A e.bs.length e.c, .int .i64 e.rd, .bool e.cl, .bool e.en]
def dr0 (k : Int) : DR := ⟨k, none, 0, [], 0, false, false⟩
theorem size_dr : (Tryd.prog.info? 54).map (·.size) = some 5 := by kernel_rfl
theorem agg_dr (w : World) : (isAgg 54).run Tryd.prog w = .ok true w := by kernel_rfl
theorem info_dr : (Tryd.prog.info? 54).map (fun i => (i.zero, i.size, i.bytes)) = some (some (.agg #[.int .i64 0, .slice none 0 0, .int .i64 0, .bool false, .bool false]), 5, 48) := by kernel_rfl
theorem drs_len {w : World} {A : Option Addr} {n c : Nat} {L : List DR} (hr : Reads w 5 (.slice A n c) n (drs L)) : L.length = n := by
  have := hr.1
  rw [drs_length] at this
  omega
theorem drs_cell {w : World} {A : Option Addr} {n c : Nat} {L : List DR} (hr : Reads w 5 (.slice A n c) n (drs L)) {i : Nat} {x : DR} (hx : L[i]? = some x) :
    ∃ ad, A = some ad ∧ w.cell? (ad.add (i * 5)) = some (.int .i64 x.k) ∧ w.cell? ⟨(ad.add (i * 5)).block, (ad.add (i * 5)).off + 1, none⟩ = some (.slice x.A x.bs.length x.c) ∧
      w.cell? ⟨(ad.add (i * 5)).block, (ad.add (i * 5)).off + 2, none⟩ = some (.int .i64 x.rd) ∧ w.cell? ⟨(ad.add (i * 5)).block, (ad.add (i * 5)).off + 3, none⟩ = some (.bool x.cl) ∧ w.cell? ⟨(ad.add (i * 5)).block, (ad.add (i * 5)).off + 4, none⟩ = some (.bool x.en) := by
  have hi : i < L.length := (List.getElem?_eq_some_iff.1 hx).1
  have hg := flat_get drC_length hx
  obtain ⟨h1, A', c', he, _, h3⟩ := hr
  rw [drs_length] at h1
  injection he with he _ _
  rcases h3 with h3 | ⟨ad, hA, h4⟩
  · omega
  · have e : ∀ k, k ≠ 0 → ad.add (i * 5 + k) = ⟨(ad.add (i * 5)).block, (ad.add (i * 5)).off + k, none⟩ := fun k hk => by
      unfold Addr.add
      by_cases h : i * 5 = 0 <;> simp [h, hk, Nat.add_assoc]
    refine ⟨ad, by rw [he, hA], h4 _ _ (hg 0 _ rfl), ?_, ?_, ?_, ?_⟩
    · rw [← e 1 (by decide)]; exact h4 _ _ (hg 1 _ rfl)
    · rw [← e 2 (by decide)]; exact h4 _ _ (hg 2 _ rfl)
    · rw [← e 3 (by decide)]; exact h4 _ _ (hg 3 _ rfl)
    · rw [← e 4 (by decide)]; exact h4 _ _ (hg 4 _ rfl)
theorem drs_us {L : List DR} {i : Nat} {x : DR} (hx : L[i]? = some x) : ∀ (j : Nat) u, [Value.int .i64 x.k, .slice x.A x.bs.length x.c, .int .i64 x.rd, .bool x.cl, .bool x.en][j]? = some u → (drs L)[i * 5 + j]? = some u := flat_get drC_length hx
theorem box5 {w : World} {p : Nat} {a b c d e : Value} {t : TypeId} (h : w.heap[p]? = some (.cells #[a, b, c, d, e] t (0, 0))) :
    (w.cell? ⟨p, 0, none⟩ = some a ∧ w.cell? ⟨p, 1, none⟩ = some b ∧ w.cell? ⟨p, 2, none⟩ = some c ∧ w.cell? ⟨p, 3, none⟩ = some d ∧ w.cell? ⟨p, 4, none⟩ = some e) ∧ (w.frozen? ⟨p, 0, none⟩ = false ∧ w.frozen? ⟨p, 1, none⟩ = false ∧ w.frozen? ⟨p, 2, none⟩ = false ∧ w.frozen? ⟨p, 3, none⟩ = false ∧ w.frozen? ⟨p, 4, none⟩ = false) :=
  ⟨⟨by rw [cell_of_row w p 0 _ _ _ h]; rfl, by rw [cell_of_row w p 1 _ _ _ h]; rfl, by rw [cell_of_row w p 2 _ _ _ h]; rfl, by rw [cell_of_row w p 3 _ _ _ h]; rfl, by rw [cell_of_row w p 4 _ _ _ h]; rfl⟩, frozen_of_row w p 0 _ _ h, frozen_of_row w p 1 _ _ h, frozen_of_row w p 2 _ _ h, frozen_of_row w p 3 _ _ h, frozen_of_row w p 4 _ _ h⟩
theorem box1 {w : World} {p : Nat} {a : Value} {t : TypeId} (h : w.heap[p]? = some (.cells #[a] t (0, 0))) : w.cell? ⟨p, 0, none⟩ = some a ∧ w.frozen? ⟨p, 0, none⟩ = false :=
  ⟨by rw [cell_of_row w p 0 _ _ _ h]; rfl, frozen_of_row w p 0 _ _ h⟩
def set5 (w : World) (p : Nat) (a b c d e : Value) : World := ((((w.setCell ⟨p, 0, none⟩ a).setCell ⟨p, 1, none⟩ b).setCell ⟨p, 2, none⟩ c).setCell ⟨p, 3, none⟩ d).setCell ⟨p, 4, none⟩ e
theorem box5_set {w : World} {p : Nat} {x y z u v : Value} {t : TypeId} (h : w.heap[p]? = some (.cells #[x, y, z, u, v] t (0, 0))) (a b c d e : Value) :
    (set5 w p a b c d e).heap[p]? = some (.cells #[a, b, c, d, e] t (0, 0)) := by
  have h1 := heap_setCell_same _ p 0 _ t a h
  have h2 := heap_setCell_same _ p 1 _ t b h1
  have h3 := heap_setCell_same _ p 2 _ t c h2
  have h4 := heap_setCell_same _ p 3 _ t d h3
  have h5 := heap_setCell_same _ p 4 _ t e h4
  simpa [set5] using h5
theorem below_set5 {B : Nat} {w w' : World} {p : Nat} (h : Below B w w') (hp : B ≤ p) (a b c d e : Value) : Below B w (set5 w' p a b c d e) :=
  ((((h.setCell (p := ⟨p, 0, none⟩) hp _).setCell (p := ⟨p, 1, none⟩) hp _).setCell (p := ⟨p, 2, none⟩) hp _).setCell (p := ⟨p, 3, none⟩) hp _).setCell (p := ⟨p, 4, none⟩) hp _
theorem below_at {w w' : World} {b : Nat} {o : Obj} (hb : Below w.heap.size w w') (h : w.heap[b]? = some o) : w'.heap[b]? = some o := (hb.block _ (Array.getElem?_eq_some_iff.1 h).1).trans h
theorem step_on {α : Type} (L : List α) (i : Nat) (h : i < L.length) : ∃ e, L[i]? = some e ∧ L.take (i + 1) = L.take i ++ [e] :=
  ⟨L[i], List.getElem?_eq_getElem h, by rw [List.take_succ_eq_append_getElem h]⟩
theorem get_first {E : List DR} {k : Int} {i : Nat} {e : DR} (he : E[i]? = some e) (hk : e.k = k) (hno : ∀ x ∈ E.take i, x.k ≠ k) : get DR.k E k = some e := by
  induction E generalizing i with
  | nil => simp at he
  | cons x r ih =>
    rw [get_cons]
    cases i with
    | zero =>
      simp at he
      subst he
      rw [if_pos hk]
    | succ i =>
      rw [if_neg (hno x (by simp))]
      exact ih (by simpa using he) (fun y hy => hno y (by simp [hy]))
theorem get_no {E : List DR} {k : Int} (hno : ∀ x ∈ E, x.k ≠ k) : get DR.k E k = none := by
  cases h : get DR.k E k with
  | none => rfl
  | some x => exact (hno x (get_mem DR.k h).1 (get_mem DR.k h).2).elim
/-- the boxes: the history as it came, the result's row -/
theorem of_boxes (w : World) (A : Option Addr) (n c : Nat) : ∃ w1 p, (w.alloc (.cells #[.slice A n c] 44)).alloc (.cells #[.int .i64 0, .slice none 0 0, .int .i64 0, .bool false, .bool false] 54) = w1 ∧ w.heap.size = p ∧ Below w.heap.size w w1 ∧
    w1.heap[p]? = some (.cells #[.slice A n c] 44 (0, 0)) ∧ w1.heap[p + 1]? = some (.cells #[.int .i64 0, .slice none 0 0, .int .i64 0, .bool false, .bool false] 54 (0, 0)) := by
  refine ⟨_, _, rfl, rfl, ((Below.refl _ _).alloc (Nat.le_refl _) _).alloc (by simp) _, ?_, ?_⟩
  · rw [Below.heap_alloc _ _ _ (by simp)]
    exact heap_alloc_new w _
  · exact (by rw [World.size_alloc] : w.heap.size + 1 = (w.alloc (.cells #[.slice A n c] 44)).heap.size) ▸ heap_alloc_new _ _
set_option maxRecDepth 10000 in
set_option maxHeartbeats 2000000 in
theorem of_r (w : World) (A : Option Addr) (n c : Nat) (E : List DR) (hr : Reads w 5 (.slice A n c) n (drs E)) (hn : n ≤ 2097152) (k : Int) :
    Calls Tryd.prog 33 #[docV A n c, .int .i64 k] w fun r w' => r = .returned (.tuple #[drV ((get DR.k E k).getD (dr0 k)), .bool (get DR.k E k).isSome]) ∧ Below w.heap.size w w' := by
  have hnl := drs_len hr
  obtain ⟨w1, p, hw1, hp, hb, b0, b1⟩ := of_boxes w A n c
  have HR := hide (Reads.past hr hb)
  have HL := hide hnl
  have HB := hide hb
  have HB1 := hide b1
  obtain ⟨c0, _⟩ := box1 b0
  have HQ : Hid (w.heap.size ≤ p + 1) := hide (by omega)
  clear hr hnl hb b0 b1
  go_enter Tryd.func33, Tryd.ntmps33
  go_upto_region 1 with fail
  try rw [hw1]
  try rw [hp]
  clear hw1 hp
  go_wp2_with fail
  go_loopw [6] (fun t wr => ∃ i : Nat, i ≤ n ∧ t = .int .i64 i ∧ Hid (∀ x ∈ E.take i, x.k ≠ k) ∧ w1 = wr) (fun t _ => n - (intOf t).toNat)
  case atStart => exact ⟨0, Nat.zero_le _, rfl, hide (fun x hx => by simp at hx), rfl⟩
  case round =>
    obtain ⟨i, hi, rfl, HNo, rfl⟩ := hrel
    by_cases hlt : i < n
    · obtain ⟨e, he, ht⟩ := step_on E i (by have := HL.out; omega)
      obtain ⟨ad, hA, s0, s1, s2, s3, s4⟩ := drs_cell HR.out he
      have HU := hide (drs_us he)
      have HE := hide he
      have HT := hide ht
      subst hA
      by_cases hek : e.k = k
      · have e1 : (e.k == k) = true := beq_iff_eq.2 hek
        have HX := hide hek
        have hset := box5_set HB1.out (.int .i64 e.k) (.slice e.A e.bs.length e.c) (.int .i64 e.rd) (.bool e.cl) (.bool e.en)
        have hbl := below_set5 HB.out HQ.out (.int .i64 e.k) (.slice e.A e.bs.length e.c) (.int .i64 e.rd) (.bool e.cl) (.bool e.en)
        obtain ⟨⟨k0, k1, k2, k3, k4⟩, f0, f1, f2, f3, f4⟩ := box5 HB1.out
        have HSet := hide hset
        have HBl := hide hbl
        clear he hek ht s1 s2 s3 s4 hset hbl
        go_wp2_with (first
          | ((with_reducible refine at_index rfl ?_); refine wpList_atS rfl rfl _ _ 42 54 _ rfl rfl rfl (by simp) Tryd.underlying42 (by decide) size_dr agg_dr rfl HR.out rfl (by omega) (by omega) (us := [.int .i64 e.k, .slice e.A e.bs.length e.c, .int .i64 e.rd, .bool e.cl, .bool e.en]) rfl HU.out ?_; intro zz)
          | fail)
        obtain ⟨⟨m0, m1, m2, m3, m4⟩, _⟩ := box5 HSet.out
        unfold set5 at m0 m1 m2 m3 m4
        refine bodyPost_ret (by simp [results, Tryd.results33, go_sem, m0, m1, m2, m3, m4]; rfl) rfl ?_
        refine ⟨?_, HBl.out⟩
        rw [get_first HE.out HX.out HNo.out]
        rfl
      · have e1 : (e.k == k) = false := beq_eq_false_iff_ne.2 hek
        have HX := hide hek
        clear he hek ht s1 s2 s3 s4
        go_wp2
        go_roundw
        case rel => exact ⟨i + 1, by omega, by go_num, hide (fun x hx => by
          rw [HT.out] at hx
          rcases List.mem_append.1 hx with hx | hx
          · exact HNo.out x hx
          · rw [List.mem_singleton] at hx; rw [hx]; exact HX.out), trivial⟩
        case measure => simp [intOf]; omega
    · obtain rfl : i = n := by omega
      have hset := box5_set HB1.out (.int .i64 k) (.slice none 0 0) (.int .i64 0) (.bool false) (.bool false)
      have hbl := below_set5 HB.out HQ.out (.int .i64 k) (.slice none 0 0) (.int .i64 0) (.bool false) (.bool false)
      obtain ⟨⟨k0, k1, k2, k3, k4⟩, f0, f1, f2, f3, f4⟩ := box5 HB1.out
      have HSet := hide hset
      have HBl := hide hbl
      clear hset hbl
      go_wp2
      obtain ⟨⟨m0, m1, m2, m3, m4⟩, _⟩ := box5 HSet.out
      unfold set5 at m0 m1 m2 m3 m4
      refine bodyPost_ret (by simp [results, Tryd.results33, go_sem, m0, m1, m2, m3, m4]; rfl) rfl ?_
      refine ⟨?_, HBl.out⟩
      rw [get_no (fun x hx => HNo.out x (by rw [List.take_of_length_le (by have := HL.out; omega)]; exact hx))]
      rfl
end Go.Proofs.YtipfjnjjfojdgaaDoor
