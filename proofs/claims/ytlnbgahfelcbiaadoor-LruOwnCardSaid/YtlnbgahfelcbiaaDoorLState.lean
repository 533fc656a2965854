import Derived.Test.YtlnbgahfelcbiaaDoorLLink
/- The cache: its order and its map; what its steps leave. -/
namespace Go.Proofs.YtlnbgahfelcbiaaDoor
open Go Go.RowKit Go.Cu

/-- the cache's memory -/
def InC (c m : Nat) (L : List LE) (k : Nat) : Prop := k = m ∨ InOrd c L k
/-- Block c is a cache of that room, with the entries L, m its map. -/
structure LC (tC tE kt : TypeId) (P : Program) (w : World) (c m : Nat) (room : Int) (L : List LE) : Prop where
  ord : Ord tC tE w c m room (wsum L) L
  map : Mp w P kt m (lk L) L.length
  keys : L.Pairwise (fun x y => x.k ≠ y.k)
  wf : ∀ e ∈ L, (Lit.int .i64 e.k).wf = true
  wts : ∀ e ∈ L, 0 ≤ e.wt
  fits : wsum L ≤ room
  top : room ≤ 9223372036854775807
section
variable {tC tE kt : TypeId} {P : Program} {w w' : World} {c m : Nat} {room : Int} {L : List LE}
theorem LC.m_ne (h : LC tC tE kt P w c m room L) : ¬ InOrd c L m := by
  rintro (rfl | ⟨x, hx, rfl⟩)
  · exact map_ne h.ord.cells h.map rfl
  · obtain ⟨a, b, rfl⟩ := List.append_of_mem hx
    exact map_ne h.ord.seg.mid h.map rfl
theorem LC.lt (h : LC tC tE kt P w c m room L) : ∀ k, InC c m L k → k < w.heap.size := by
  rintro k (rfl | rfl | ⟨x, hx, rfl⟩)
  · exact h.map.lt
  · exact (Array.getElem?_eq_some_iff.1 h.ord.cells).1
  · exact h.ord.seg.lt x hx
theorem LC.kept {G : Nat → Prop} (h : LC tC tE kt P w c m room L) (hm : Mod G w w') (hn : ∀ k, InC c m L k → ¬ G k) : LC tC tE kt P w' c m room L :=
  ⟨h.ord.mod hm (hn c (.inr (.inl rfl))) (fun e he => hn e.b (.inr (.inr ⟨e, he, rfl⟩))), h.map.block (hm.block m h.map.lt (hn m (.inl rfl))), h.keys, h.wf, h.wts, h.fits, h.top⟩
theorem LC.past (h : LC tC tE kt P w c m room L) (hb : Below w.heap.size w w') : LC tC tE kt P w' c m room L := h.kept (Mod.ofBelow hb (fun _ => False)) (fun _ _ h => h)
theorem LC.room0 (h : LC tC tE kt P w c m room L) : 0 ≤ room := by
  have := wsum_nonneg h.wts
  have := h.fits
  omega
/-- no block of the cache is a row of other things -/
theorem LC.not_row (h : LC tC tE kt P w c m room L) {e : TypeId} (h1 : tC ≠ e) (h2 : tE ≠ e) : ∀ k, InC c m L k → ¬ OfE w e k := by
  rintro k (rfl | rfl | ⟨x, hx, rfl⟩)
  · exact not_ofE_mp h.map
  · exact not_ofE h.ord.cells h1
  · obtain ⟨a, b, rfl⟩ := List.append_of_mem hx
    exact not_ofE h.ord.seg.mid h2
/-- a row of other things lives on behind a step on the cache -/
theorem LC.row (h : LC tC tE kt P w c m room L) {e : TypeId} (h1 : tC ≠ e) (h2 : tE ≠ e) (hm : Mod (InC c m L) w w') {G : Nat → Prop} {sz n : Nat} {v : Value} {xs : List Value} (hr : Row w G e sz v n xs) : Row w' G e sz v n xs :=
  (hr.narrow.kept (G := InC c m L) hm (fun k hk _ hc => h.not_row h1 h2 k hc hk.2)).mono (fun _ hk _ => hk.1)
/-- a row's step leaves the cache -/
theorem LC.far {e : TypeId} {G : Nat → Prop} (h : LC tC tE kt P w c m room L) (h1 : tC ≠ e) (h2 : tE ≠ e) (hm : Mod (fun k => G k ∧ OfE w e k) w w') : LC tC tE kt P w' c m room L :=
  h.kept hm (fun k hk hg => h.not_row h1 h2 k hk hg.2)
theorem LC.wsum_le (h : LC tC tE kt P w c m room L) : 0 ≤ wsum L ∧ wsum L ≤ 9223372036854775807 := ⟨wsum_nonneg h.wts, Int.le_trans h.fits h.top⟩
theorem sub_keys {a b : List LE} {e : LE} (h : (a ++ e :: b).Pairwise (fun x y : LE => x.k ≠ y.k)) : (a ++ b).Pairwise (fun x y : LE => x.k ≠ y.k) ∧ ∀ x ∈ a ++ b, x.k ≠ e.k := by
  obtain ⟨ha, hb, hab⟩ := List.pairwise_append.1 h
  obtain ⟨he, hb2⟩ := List.pairwise_cons.1 hb
  refine ⟨List.pairwise_append.2 ⟨ha, hb2, fun x hx y hy => hab x hx y (List.mem_cons_of_mem _ hy)⟩, fun x hx => ?_⟩
  rcases List.mem_append.1 hx with hx | hx
  · exact hab x hx e List.mem_cons_self
  · exact fun h => he x hx h.symm
theorem mem_mid {a b : List LE} {e x : LE} (h : x ∈ a ++ b) : x ∈ a ++ e :: b := by
  rcases List.mem_append.1 h with h | h
  · exact List.mem_append_left _ h
  · exact List.mem_append_right _ (List.mem_cons_of_mem _ h)
theorem wsum_mid (a b : List LE) (e : LE) : wsum (a ++ e :: b) = wsum (a ++ b) + e.wt := by
  rw [wsum_app, wsum_app]
  simp only [wsum]
  omega
/-- an entry gone: out of the order, its weight taken off, its key out of the map -/
theorem LC.removed {a b : List LE} {e : LE} {w4 w5 w6 : World} (h : LC tC tE kt P w c m room (a ++ e :: b)) (ho : Ord tC tE w4 c m room (wsum (a ++ e :: b)) (a ++ b)) (hm4 : Mod (InOrd c (a ++ e :: b)) w w4)
    (h5 : w5 = w4.setCell ⟨c, 1, none⟩ (.int .i64 (wsum (a ++ b)))) {n : Nat} (hn : n = (a ++ b).length) (hm : Mp w6 P kt m (upd (lk (a ++ e :: b)) (.int .i64 e.k) none) n) (hg : w5.grownBy w6 (some m)) :
    LC tC tE kt P w6 c m room (a ++ b) ∧ Mod (InC c m (a ++ e :: b)) w w6 := by
  have hmc := h.m_ne
  obtain ⟨hk1, hk2⟩ := sub_keys h.keys
  have C5 := (set_c ho.cells).2.2 (wsum (a ++ b))
  rw [← h5] at C5
  have hmod5 : Mod (InC c m (a ++ e :: b)) w w5 := by rw [h5]; exact (hm4.mono (fun k _ hk => .inr hk)).setCell (p := ⟨c, 1, none⟩) (fun _ => .inr (.inl rfl)) _
  have hmod6 := hmod5.grown hg (fun _ => .inl rfl)
  have S5 : Seg tE w5 none (a ++ b) none := by rw [h5]; exact ho.seg.far _ ho.apart.far
  have hne : ∀ k, InOrd c (a ++ b) k → some k ≠ some m := by
    intro k hk he
    injection he with he
    subst he
    exact hmc (hk.imp id (fun ⟨x, hx, e⟩ => ⟨x, mem_mid hx, e⟩))
  refine ⟨⟨⟨grown_heap hg C5 (hne c (.inl rfl)), S5.kept (fun x hx => hg.block _ (S5.lt x hx) (hne _ (.inr ⟨x, hx, rfl⟩))), ho.apart⟩, ?_, hk1, fun x hx => h.wf x (mem_mid hx), fun x hx => h.wts x (mem_mid hx), ?_, h.top⟩, hmod6⟩
  · subst hn
    exact hm.ext (lk_remove hk2)
  · have h1 := h.fits
    have h2 := h.wts e (by simp)
    rw [wsum_mid] at h1
    omega
/-- the one asked for goes ahead of all -/
theorem LC.led {a b : List LE} {e : LE} {w4 w7 : World} (h : LC tC tE kt P w c m room (a ++ e :: b)) (hm4 : Mod (InOrd c (a ++ e :: b)) w w4)
    (ho : Ord tC tE w7 c m room (wsum (a ++ e :: b)) (e :: (a ++ b))) (hm7 : Mod (InOrd c (e :: (a ++ b))) w4 w7) :
    LC tC tE kt P w7 c m room (e :: (a ++ b)) ∧ Mod (InC c m (a ++ e :: b)) w w7 := by
  have hmc := h.m_ne
  obtain ⟨hk1, hk2⟩ := sub_keys h.keys
  have hin : ∀ k, InOrd c (e :: (a ++ b)) k → InOrd c (a ++ e :: b) k := fun k hk => hk.imp id (fun ⟨x, hx, he⟩ => ⟨x, (by rcases List.mem_cons.1 hx with rfl | hx; simp; exact mem_mid hx), he⟩)
  have hmod : Mod (InOrd c (a ++ e :: b)) w w7 := hm4.trans hm7 (fun k _ hk => hin k hk)
  have hw : wsum (e :: (a ++ b)) = wsum (a ++ e :: b) := by rw [wsum_mid]; simp only [wsum]; omega
  have hle : (e :: (a ++ b)).length = (a ++ e :: b).length := by simp; omega
  refine ⟨⟨by rw [hw]; exact ho, by rw [hle]; exact (h.map.block (hmod.block m h.map.lt hmc)).ext (lk_front (fun x hx => hk2 x (List.mem_append_left _ hx))), List.pairwise_cons.2 ⟨fun x hx he => hk2 x hx he.symm, hk1⟩, fun x hx => ?_, fun x hx => ?_, by rw [hw]; exact h.fits, h.top⟩, hmod.mono (fun k _ hk => .inr hk)⟩
  · rcases List.mem_cons.1 hx with rfl | hx
    · exact h.wf x (by simp)
    · exact h.wf x (mem_mid hx)
  · rcases List.mem_cons.1 hx with rfl | hx
    · exact h.wts x (by simp)
    · exact h.wts x (mem_mid hx)
/-- a new one: laid, its key in the map, its weight added, ahead of all -/
theorem LC.added {S : List LE} {e : LE} {w1 w2 w3 w7 : World} (h : LC tC tE kt P w c m room S) (heb : e.b = w.heap.size) (h1 : w1 = w.alloc (.cells (eCells e none none) tE)) (hnew : ∀ x ∈ S, x.k ≠ e.k) (hwf : (Lit.int .i64 e.k).wf = true) (hwt : 0 ≤ e.wt) (hfit : wsum S + e.wt ≤ room)
    {n : Nat} (hn : n = S.length + 1) (hm : Mp w2 P kt m (upd (lk S) (.int .i64 e.k) (some (pt (some e.b)))) n) (hg : w1.grownBy w2 (some m)) (h3 : w3 = w2.setCell ⟨c, 1, none⟩ (.int .i64 (wsum (e :: S)))) :
    Ord tC tE w3 c m room (wsum (e :: S)) S ∧ w3.heap[e.b]? = some (.cells (eCells e none none) tE (0, 0)) ∧ (∀ x ∈ S, x.b ≠ e.b) ∧ e.b ≠ c ∧ Mod (InC c m S) w w3 ∧
      (Ord tC tE w7 c m room (wsum (e :: S)) (e :: S) → Mod (InOrd c (e :: S)) w3 w7 → LC tC tE kt P w7 c m room (e :: S) ∧ Mod (InC c m S) w w7) := by
  have hmc := h.m_ne
  have hlt := h.lt
  have hcl := hlt c (.inr (.inl rfl))
  have hml := hlt m (.inl rfl)
  have hbl : ∀ x ∈ S, x.b < w.heap.size := fun x hx => hlt x.b (.inr (.inr ⟨x, hx, rfl⟩))
  have hal : Below w.heap.size w w1 := by rw [h1]; exact (Below.refl _ w).alloc (Nat.le_refl _) _
  have hL1 := h.past hal
  have E1 : w1.heap[e.b]? = some (.cells (eCells e none none) tE (0, 0)) := by rw [h1, heb]; exact heap_alloc_new w _
  have hne : ∀ k, InOrd c S k → some k ≠ some m := by
    intro k hk he
    injection he with he
    subst he
    exact hmc hk
  have hem : some e.b ≠ some m := by intro he; injection he with he; omega
  have C2 := grown_heap hg hL1.ord.cells (hne c (.inl rfl))
  have S2 : Seg tE w2 none S none := hL1.ord.seg.kept (fun x hx => hg.block _ (hL1.ord.seg.lt x hx) (hne _ (.inr ⟨x, hx, rfl⟩)))
  have E2 := grown_heap hg E1 hem
  have hec : e.b ≠ c := by omega
  have hw : wsum (e :: S) = wsum S + e.wt := by simp only [wsum]; omega
  have C3 : w3.heap[c]? = some (.cells (cCells room (wsum (e :: S)) m (hb S none) (lb S none)) tC (0, 0)) := by rw [h3]; exact (set_c C2).2.2 _
  have hmod2 : Mod (InC c m S) w w2 := (Mod.ofBelow hal _).grown hg (fun _ => .inl rfl)
  have hmod3 : Mod (InC c m S) w w3 := by rw [h3]; exact hmod2.setCell (p := ⟨c, 1, none⟩) (fun _ => .inr (.inl rfl)) _
  have hM3 : Mp w3 P kt m (upd (lk S) (.int .i64 e.k) (some (pt (some e.b)))) n := by rw [h3]; exact hm.block (Below.heap_setCell _ _ _ _ (fun he => hmc (.inl he)))
  have hea : ∀ x ∈ S, x.b ≠ e.b := fun x hx => by have := hbl x hx; omega
  refine ⟨⟨C3, by rw [h3]; exact S2.far _ h.ord.apart.far, h.ord.apart⟩, by rw [h3, Below.heap_setCell _ _ _ _ hec]; exact E2, hea, hec, hmod3, fun ho hm7 => ?_⟩
  have hmod7 : Mod (InC c m S) w w7 := hmod3.trans hm7 (fun k hk hi => by
    rcases hi with rfl | ⟨x, hx, rfl⟩
    · exact .inr (.inl rfl)
    · rcases List.mem_cons.1 hx with rfl | hx
      · omega
      · exact .inr (.inr ⟨x, hx, rfl⟩))
  have hm3 : ¬ InOrd c (e :: S) m := by
    rintro (rfl | ⟨x, hx, rfl⟩)
    · exact hmc (.inl rfl)
    · rcases List.mem_cons.1 hx with rfl | hx
      · omega
      · exact hmc (.inr ⟨x, hx, rfl⟩)
  refine ⟨⟨ho, ?_, List.pairwise_cons.2 ⟨fun x hx he => hnew x hx he.symm, h.keys⟩, fun x hx => ?_, fun x hx => ?_, by omega, h.top⟩, hmod7⟩
  · subst hn
    exact (hM3.block (hm7.block m hM3.lt hm3)).ext (fun l => lk_add l)
  · rcases List.mem_cons.1 hx with rfl | hx
    · exact hwf
    · exact h.wf x hx
  · rcases List.mem_cons.1 hx with rfl | hx
    · exact hwt
    · exact h.wts x hx
end
end Go.Proofs.YtlnbgahfelcbiaaDoor
