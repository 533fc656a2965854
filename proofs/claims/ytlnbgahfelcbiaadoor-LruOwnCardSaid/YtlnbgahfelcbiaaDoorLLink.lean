import Derived.Test.YtlnbgahfelcbiaaDoorLPure
/- An entry taken out of the order, and one laid ahead of all: what the stores leave. -/
namespace Go.Proofs.YtlnbgahfelcbiaaDoor
open Go Go.RowKit Go.Cu

/-- the blocks are their own -/
structure Apart (c : Nat) (L : List LE) : Prop where
  two : L.Pairwise (fun x y => x.b ≠ y.b)
  far : ∀ e ∈ L, e.b ≠ c
theorem Apart.mid {c : Nat} {a b : List LE} {e : LE} (h : Apart c (a ++ e :: b)) :
    (∀ x ∈ a, x.b ≠ e.b) ∧ (∀ x ∈ b, x.b ≠ e.b) ∧ (∀ x ∈ a, ∀ y ∈ b, x.b ≠ y.b) ∧ Apart c (a ++ b) ∧ e.b ≠ c := by
  obtain ⟨ha, hb, hab⟩ := List.pairwise_append.1 h.two
  obtain ⟨he, hb2⟩ := List.pairwise_cons.1 hb
  exact ⟨fun x hx => hab x hx e List.mem_cons_self, fun x hx e => he x hx e.symm, fun x hx y hy => hab x hx y (List.mem_cons_of_mem _ hy),
    ⟨List.pairwise_append.2 ⟨ha, hb2, fun x hx y hy => hab x hx y (List.mem_cons_of_mem _ hy)⟩, fun x hx => h.far x (by rcases List.mem_append.1 hx with hx | hx; exact List.mem_append_left _ hx; exact List.mem_append_right _ (List.mem_cons_of_mem _ hx))⟩, h.far e (by simp)⟩
theorem Apart.tail {c : Nat} {r : List LE} {y : LE} (h : Apart c (y :: r)) : ∀ x ∈ r, x.b ≠ y.b := fun x hx e => (List.pairwise_cons.1 h.two).1 x hx e.symm
theorem Apart.last {c : Nat} {a : List LE} {x : LE} (h : Apart c (a ++ [x])) : ∀ z ∈ a, z.b ≠ x.b := fun z hz => (List.pairwise_append.1 h.two).2.2 z hz x (by simp)
theorem Apart.left {c : Nat} {a b : List LE} (h : Apart c (a ++ b)) : Apart c a := ⟨(List.pairwise_append.1 h.two).1, fun e he => h.far e (List.mem_append_left _ he)⟩
theorem Apart.right {c : Nat} {a b : List LE} (h : Apart c (a ++ b)) : Apart c b := ⟨(List.pairwise_append.1 h.two).2.1, fun e he => h.far e (List.mem_append_right _ he)⟩

/-- where the one ahead (or the cache) points on -/
def nx (c : Nat) (a : List LE) : Addr := match lb a none with | some x => ⟨x, 5, none⟩ | none => ⟨c, 3, none⟩
def pv (c : Nat) (b : List LE) : Addr := match hb b none with | some y => ⟨y, 4, none⟩ | none => ⟨c, 4, none⟩
/-- the order: the cache's cells and the entries -/
structure Ord (tC tE : TypeId) (w : World) (c m : Nat) (room wt : Int) (L : List LE) : Prop where
  cells : w.heap[c]? = some (.cells (cCells room wt m (hb L none) (lb L none)) tC (0, 0))
  seg : Seg tE w none L none
  apart : Apart c L
/-- the memory of the order -/
def InOrd (c : Nat) (L : List LE) (k : Nat) : Prop := k = c ∨ ∃ x ∈ L, x.b = k
section
variable {tC tE : TypeId} {w w' : World} {c m : Nat} {room wt : Int}
theorem Ord.mod {L : List LE} {G : Nat → Prop} (h : Ord tC tE w c m room wt L) (hm : Mod G w w') (hc : ¬ G c) (hn : ∀ e ∈ L, ¬ G e.b) : Ord tC tE w' c m room wt L := ⟨hm.heap h.cells hc, h.seg.mod hm hn, h.apart⟩
theorem set_c {f l : Option Nat} (h : w.heap[c]? = some (.cells (cCells room wt m f l) tC (0, 0))) :
    (∀ f', (w.setCell ⟨c, 3, none⟩ (pt f')).heap[c]? = some (.cells (cCells room wt m f' l) tC (0, 0))) ∧ (∀ l', (w.setCell ⟨c, 4, none⟩ (pt l')).heap[c]? = some (.cells (cCells room wt m f l') tC (0, 0))) ∧
      (∀ wt', (w.setCell ⟨c, 1, none⟩ (.int .i64 wt')).heap[c]? = some (.cells (cCells room wt' m f l) tC (0, 0))) :=
  ⟨fun f' => heap_setCell_same _ c 3 _ tC (pt f') h, fun l' => heap_setCell_same _ c 4 _ tC (pt l') h, fun wt' => heap_setCell_same _ c 1 _ tC (.int .i64 wt') h⟩
theorem lb_some {a : List LE} (h : a ≠ []) (d d' : Option Nat) : lb a d = lb a d' := by cases a with | nil => exact absurd rfl h | cons e r => rfl
theorem unlink_world {a b : List LE} {e : LE} (h : Ord tC tE w c m room wt (a ++ e :: b)) {w1 w2 w3 w4 : World} (h1 : w1 = w.setCell (nx c a) (pt (hb b none))) (h2 : w2 = w1.setCell (pv c b) (pt (lb a none)))
    (h3 : w3 = w2.setCell ⟨e.b, 4, none⟩ (pt none)) (h4 : w4 = w3.setCell ⟨e.b, 5, none⟩ (pt none)) :
    Ord tC tE w4 c m room wt (a ++ b) ∧ w4.heap[e.b]? = some (.cells (eCells e none none) tE (0, 0)) ∧ Mod (InOrd c (a ++ e :: b)) w w4 := by
  obtain ⟨d1, d2, d3, d4, d5⟩ := h.apart.mid
  obtain ⟨s1, he, s2⟩ := seg_app.1 h.seg
  have hda : Apart c a := d4.left
  have hdb : Apart c b := d4.right
  -- behind the first store
  have A1 : Seg tE w1 none a (hb b none) ∧ w1.heap[c]? = some (.cells (cCells room wt m (hb (a ++ b) none) (lb (a ++ e :: b) none)) tC (0, 0)) ∧ (∀ k, k ≠ c → (∀ z ∈ a, z.b ≠ k) → w1.heap[k]? = w.heap[k]?) ∧ Mod (InOrd c (a ++ e :: b)) w w1 := by
    rcases List.eq_nil_or_concat a with rfl | ⟨a', x, rfl⟩
    · subst h1
      refine ⟨trivial, ?_, fun k hk _ => Below.heap_setCell _ _ _ _ hk, (Mod.refl _ w).setCell (p := ⟨c, 3, none⟩) (fun _ => .inl rfl) _⟩
      exact (set_c h.cells).1 _
    · rw [List.concat_eq_append] at *
      have e1 : nx c (a' ++ [x]) = ⟨x.b, 5, none⟩ := by unfold nx; rw [lb_last]
      rw [e1] at h1
      subst h1
      have hxc : x.b ≠ c := hda.far x (by simp)
      refine ⟨s1.next hda.last _, ?_, fun k _ hk => Below.heap_setCell _ _ _ _ (fun e => hk x (by simp) e.symm), (Mod.refl _ w).setCell (p := ⟨x.b, 5, none⟩) (fun _ => .inr ⟨x, by simp, rfl⟩) _⟩
      rw [Below.heap_setCell _ _ _ _ (fun e => hxc e.symm)]
      have := h.cells
      rw [this]
      congr 3
      cases a' <;> rfl
  obtain ⟨A1, C1, K1, M1⟩ := A1
  have E1 : w1.heap[e.b]? = some (.cells (eCells e (lb a none) (hb b none)) tE (0, 0)) := (K1 _ d5 d1).trans he
  have S2 : Seg tE w1 (some e.b) b none := s2.kept (fun y hy => K1 _ (hdb.far y hy) (fun z hz => d3 z hz y hy))
  -- behind the second
  have A2 : Seg tE w2 (lb a none) b none ∧ w2.heap[c]? = some (.cells (cCells room wt m (hb (a ++ b) none) (lb (a ++ b) none)) tC (0, 0)) ∧ (∀ k, k ≠ c → (∀ z ∈ b, z.b ≠ k) → w2.heap[k]? = w1.heap[k]?) ∧ Mod (InOrd c (a ++ e :: b)) w w2 := by
    cases b with
    | nil =>
      subst h2
      refine ⟨trivial, ?_, fun k hk _ => Below.heap_setCell _ _ _ _ hk, M1.setCell (p := ⟨c, 4, none⟩) (fun _ => .inl rfl) _⟩
      have := (set_c C1).2.1 (lb a none)
      rw [List.append_nil] at this ⊢
      exact this
    | cons y r =>
      have e1 : pv c (y :: r) = ⟨y.b, 4, none⟩ := rfl
      rw [e1] at h2
      subst h2
      have hyc : y.b ≠ c := hdb.far y (by simp)
      refine ⟨S2.prev hdb.tail _, ?_, fun k _ hk => Below.heap_setCell _ _ _ _ (fun e => hk y (by simp) e.symm), M1.setCell (p := ⟨y.b, 4, none⟩) (fun _ => .inr ⟨y, by simp, rfl⟩) _⟩
      rw [Below.heap_setCell _ _ _ _ (fun e => hyc e.symm), C1, lb_app, lb_app]
      rfl
  obtain ⟨A2, C2, K2, M2⟩ := A2
  have S1 : Seg tE w2 none a (hb b none) := A1.kept (fun x hx => K2 _ (hda.far x hx) (fun z hz e => d3 x hx z hz e.symm))
  have E2 : w2.heap[e.b]? = some (.cells (eCells e (lb a none) (hb b none)) tE (0, 0)) := (K2 _ d5 d2).trans E1
  have hS : Seg tE w2 none (a ++ b) none := seg_app.2 ⟨S1, A2⟩
  have hne : ∀ x ∈ a ++ b, x.b ≠ e.b := fun x hx => (List.mem_append.1 hx).elim (d1 x) (d2 x)
  subst h3
  subst h4
  have E3 := heap_setCell_same w2 e.b 4 _ tE (pt none) E2
  have E4 := heap_setCell_same _ e.b 5 _ tE (pt none) E3
  refine ⟨⟨?_, (hS.far _ hne).far _ hne, d4⟩, E4, (M2.setCell (p := ⟨e.b, 4, none⟩) (fun _ => .inr ⟨e, by simp, rfl⟩) _).setCell (p := ⟨e.b, 5, none⟩) (fun _ => .inr ⟨e, by simp, rfl⟩) _⟩
  rw [Below.heap_setCell _ _ _ _ (fun e => d5 e.symm), Below.heap_setCell _ _ _ _ (fun e => d5 e.symm)]
  exact C2
/-- an entry laid ahead of all -/
theorem lead_world {L : List LE} {e : LE} (h : Ord tC tE w c m room wt L) (he : w.heap[e.b]? = some (.cells (eCells e none none) tE (0, 0))) (hn : ∀ x ∈ L, x.b ≠ e.b) (hc : e.b ≠ c) {w1 w2 w3 : World} (h1 : w1 = w.setCell ⟨e.b, 5, none⟩ (pt (hb L none))) (h2 : w2 = w1.setCell (pv c L) (pt (some e.b)))
    (h3 : w3 = w2.setCell ⟨c, 3, none⟩ (pt (some e.b))) : Ord tC tE w3 c m room wt (e :: L) ∧ Mod (InOrd c (e :: L)) w w3 := by
  have E1 : w1.heap[e.b]? = some (.cells (eCells e none (hb L none)) tE (0, 0)) := by rw [h1]; exact heap_setCell_same w e.b 5 _ tE (pt (hb L none)) he
  have C1 : w1.heap[c]? = some (.cells (cCells room wt m (hb L none) (lb L none)) tC (0, 0)) := by rw [h1, Below.heap_setCell _ _ _ _ (fun e => hc e.symm)]; exact h.cells
  have S1 : Seg tE w1 none L none := by rw [h1]; exact h.seg.far _ hn
  have M1 : Mod (InOrd c (e :: L)) w w1 := by rw [h1]; exact (Mod.refl _ w).setCell (p := ⟨e.b, 5, none⟩) (fun _ => .inr ⟨e, by simp, rfl⟩) _
  have A2 : Seg tE w2 (some e.b) L none ∧ w2.heap[c]? = some (.cells (cCells room wt m (hb L none) (lb (e :: L) none)) tC (0, 0)) ∧ w2.heap[e.b]? = some (.cells (eCells e none (hb L none)) tE (0, 0)) ∧ Mod (InOrd c (e :: L)) w w2 := by
    cases L with
    | nil =>
      subst h2
      exact ⟨trivial, (set_c C1).2.1 _, by show (w1.setCell ⟨c, 4, none⟩ _).heap[e.b]? = _; rw [Below.heap_setCell _ _ _ _ hc]; exact E1, M1.setCell (p := ⟨c, 4, none⟩) (fun _ => .inl rfl) _⟩
    | cons y r =>
      have e1 : pv c (y :: r) = ⟨y.b, 4, none⟩ := rfl
      rw [e1] at h2
      subst h2
      have hyc : y.b ≠ c := h.apart.far y (by simp)
      have hye : y.b ≠ e.b := hn y (by simp)
      refine ⟨S1.prev h.apart.tail _, ?_, ?_, M1.setCell (p := ⟨y.b, 4, none⟩) (fun _ => .inr ⟨y, by simp, rfl⟩) _⟩
      · rw [Below.heap_setCell _ _ _ _ (fun e => hyc e.symm), C1]; rfl
      · rw [Below.heap_setCell _ _ _ _ (fun e => hye e.symm), E1]
  obtain ⟨A2, C2, E2, M2⟩ := A2
  subst h3
  refine ⟨⟨(set_c C2).1 _, ⟨?_, A2.far _ h.apart.far⟩, ⟨List.pairwise_cons.2 ⟨fun x hx e => hn x hx e.symm, h.apart.two⟩, fun x hx => ?_⟩⟩, M2.setCell (p := ⟨c, 3, none⟩) (fun _ => .inl rfl) _⟩
  · rw [Below.heap_setCell _ _ _ _ hc]; exact E2
  · rcases List.mem_cons.1 hx with rfl | hx
    · exact hc
    · exact h.apart.far x hx
end
end Go.Proofs.YtlnbgahfelcbiaaDoor
