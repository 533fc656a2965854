import Derived.Test.YtipbaffhlekpfaaDoorFifQ3
/- A walk gives what the document's queue holds. -/
namespace Go.Proofs.YtipbaffhlekpfaaDoor
open Go Go.RowKit Go.Shelf Go.Cu Go.Proofs.YtipbaffhlekpfaaDoor.errs
attribute [local go_sem] Oper.semAt_some
theorem below_a3 (w : World) (o1 o2 o3 : Obj) : Below w.heap.size w (((w.alloc o1).alloc o2).alloc o3) := (below_a2 w o1 o2).alloc (by simp; omega) o3
theorem heap_a1 (w : World) (cs : Array Value) (t : TypeId) : (w.alloc (.cells cs t)).heap[w.heap.size]? = some (.cells cs t (0, 0)) := heap_alloc_new w _
theorem heap_a2 (w : World) (o : Obj) (cs : Array Value) (t : TypeId) : ((w.alloc o).alloc (.cells cs t)).heap[w.heap.size + 1]? = some (.cells cs t (0, 0)) := by
  have := heap_alloc_new (w.alloc o) (.cells cs t)
  rwa [World.size_alloc] at this
theorem heap_a3 (w : World) (o o' : Obj) (cs : Array Value) (t : TypeId) : (((w.alloc o).alloc o').alloc (.cells cs t)).heap[w.heap.size + 1 + 1]? = some (.cells cs t (0, 0)) := by
  have := heap_alloc_new ((w.alloc o).alloc o') (.cells cs t)
  rwa [World.size_alloc, World.size_alloc] at this

set_option maxRecDepth 10000 in
theorem all_own (w : World) (F : Nat → Prop) (b : Nat) (things most : Int) (L : List (Int × Int)) (h : Fifo w F b things most L) (hs : L.length ≤ 4398046511104) :
    Calls Tryd.prog 20 #[.pointer (some ⟨b, 0, none⟩)] w fun e w' => ∃ p A c, e = .returned (.func (.func 40) #[] #[.pointer (some ⟨p, 0, none⟩)]) ∧ w'.cell? ⟨p, 0, none⟩ = some (.slice A L.length c) ∧ Row w' (fun k => w.heap.size < k) 86 2 (.slice A L.length c) L.length (pairs L) ∧ w.heap.size ≤ p ∧ Below w.heap.size w w' := by
  obtain ⟨h1, h2, h3, h4, h5, h6, A, c, hb, hr⟩ := h
  have hlt := h2 b h1
  have hal : Below w.heap.size w (w.alloc (.cells #[.slice none 0 0] 80)) := (Below.refl _ _).alloc (Nat.le_refl _) _
  have c2 : (w.alloc (.cells #[.slice none 0 0] 80)).cell? ⟨b, 2, none⟩ = some (.slice A L.length c) := by rw [cell_of_row _ b 2 _ _ _ (by rw [Below.heap_alloc _ _ _ hlt]; exact hb)]; rfl
  have HR : Hid (Reads (w.alloc (.cells #[.slice none 0 0] 80)) 2 (.slice A L.length c) L.length (pairs L)) := Reads.kept hr.reads (fun a _ hc => (hal.cell (World.block_lt_of_cell? w a hc)).trans hc)
  clear hb hr h4 h2
  go_enter Tryd.func20, Tryd.ntmps20
  go_wp2_with fail
  refine (clone_any _ A L.length c L HR.out hs).mono ?_
  rintro e w2 ⟨A2, ccc, rfl, hr2, hb2⟩
  have hp : w2.heap[w.heap.size]? = some (.cells #[.slice none 0 0] 80 (0, 0)) := by rw [hb2.block _ (by simp)]; exact heap_alloc_new w _
  have d0 : w2.cell? ⟨w.heap.size, 0, none⟩ = some (.slice none 0 0) := by rw [cell_of_row w2 _ 0 _ _ _ hp]; rfl
  have f0 := frozen_of_row w2 w.heap.size 0 _ _ hp
  go_wp2_with fail
  go_ret
  have b5 := heap_setCell_same _ w.heap.size 0 _ 80 (.slice A2 L.length ccc) hp
  have hs0 : w.heap.size < w2.heap.size := (Array.getElem?_eq_some_iff.1 hp).1
  have hbel : Below w.heap.size w w2 := hal.trans (hb2.mono (by simp))
  refine ⟨w.heap.size, A2, ccc, rfl, by rw [cell_of_row _ _ 0 _ _ _ b5]; rfl, (hr2.farE (p := ⟨w.heap.size, 0, none⟩) hp (by decide) _).mono (fun k hk _ => by simp at hk; omega), Nat.le_refl _, ?_⟩
  exact ((Mod.ofBelow hbel (fun k => w.heap.size ≤ k)).setCell (p := ⟨w.heap.size, 0, none⟩) (fun _ => Nat.le_refl _) _).below (Nat.le_refl _) (fun i h => h)

set_option maxRecDepth 10000 in
set_option maxHeartbeats 2000000 in
theorem walked_any (w : World) (F : Nat → Prop) (b : Nat) (things most : Int) (L : List (Int × Int)) (h : Fifo w F b things most L) (t1 m1 : Int) (A : Option Addr) (n c : Nat) (hr : Reads w 2 (.slice A n c) n (pairs L)) (hs : L.length ≤ 4398046511104) :
    Calls Tryd.prog 18 #[.pointer (some ⟨b, 0, none⟩), qv t1 m1 A n c] w fun e w' => e = .returned (.bool true) ∧ Below w.heap.size w w' := by
  have HH := hide h
  have HR := hide hr
  clear h hr
  refine (callsIn_wide (n := 5)).1 (callsIn_of_wp_marks Tryd.func18 rfl trivial (wpIn_wide.2 ?_) rfl)
  simp only [Tryd.ntmps18, List.size_toArray, List.length_cons, List.length_nil, Nat.reduceAdd, Nat.reduceSub, Array.replicate_succ, Array.replicate_zero, List.push_toArray, List.append_toArray, List.nil_append, List.cons_append]
  go_upto_region 2 with fail
  have b0 : (((w.alloc (.cells #[.int .i64 t1, .int .i64 m1, .slice A n c] 41)).alloc (.cells #[.bool false] 4)).alloc (.cells #[.int .i64 0] 3)).heap[w.heap.size]? = some (.cells #[.int .i64 t1, .int .i64 m1, .slice A n c] 41 (0, 0)) := by rw [Below.heap_alloc _ _ _ (by simp; omega), Below.heap_alloc _ _ _ (by simp)]; exact heap_a1 _ _ _
  have b1 : (((w.alloc (.cells #[.int .i64 t1, .int .i64 m1, .slice A n c] 41)).alloc (.cells #[.bool false] 4)).alloc (.cells #[.int .i64 0] 3)).heap[w.heap.size + 1]? = some (.cells #[.bool false] 4 (0, 0)) := by rw [Below.heap_alloc _ _ _ (by simp)]; exact heap_a2 _ _ _ _
  have b2 := heap_a3 w (.cells #[.int .i64 t1, .int .i64 m1, .slice A n c] 41) (.cells #[.bool false] 4) #[.int .i64 0] 3
  have hal := below_a3 w (.cells #[.int .i64 t1, .int .i64 m1, .slice A n c] 41) (.cells #[.bool false] 4) (.cells #[.int .i64 0] 3)
  obtain ⟨w1, hw1⟩ : ∃ w1, ((w.alloc (.cells #[.int .i64 t1, .int .i64 m1, .slice A n c] 41)).alloc (.cells #[.bool false] 4)).alloc (.cells #[.int .i64 0] 3) = w1 := ⟨_, rfl⟩
  obtain ⟨p, hp⟩ : ∃ p, w.heap.size = p := ⟨_, rfl⟩
  rw [hw1, hp] at b0 b1 b2
  rw [hw1] at hal
  rw [hw1, hp]
  have HQ := hide (HH.out.below hal)
  have HAl := hide hal
  have HB0 := hide b0
  have HB1 := hide b1
  have HB2 := hide b2
  clear b0 b1 b2 hal hw1
  go_wp2_with fail
  refine (all_own w1 F b things most L HQ.out hs).mono ?_
  rintro e w2 ⟨pa, A2, c2, rfl, hpa, hra, hpl, hb2⟩
  have HPa := hide hpa
  have HRa := hide hra
  have HB12 := hide hb2
  have hnn := walk_not_nil w2 (.pointer (some ⟨pa, 0, none⟩))
  have e0 := (hb2.block _ (Array.getElem?_eq_some_iff.1 HB0.out).1).trans HB0.out
  have e1 := (hb2.block _ (Array.getElem?_eq_some_iff.1 HB1.out).1).trans HB1.out
  have e2 := (hb2.block _ (Array.getElem?_eq_some_iff.1 HB2.out).1).trans HB2.out
  have HE0 := hide e0
  have HE1 := hide e1
  have HE2 := hide e2
  have HBw := hide (HAl.out.trans (hb2.mono HAl.out.size))
  have hs12 := hb2.size
  have hp1 := (Array.getElem?_eq_some_iff.1 HB2.out).1
  have HN : Hid (L.length = n) := hide (by have := HR.out.1; rw [pairs_length] at this; omega)
  have hn9 : n ≤ 9223372036854775807 := maxLen_lt HR.out.size
  clear hpa hra hb2 hpl e0 e1 e2
  go_wp2_with fail
  refine wpIn_wide (n := 5).1 ?_
  refine wpIn_rangeFunc_ownH (F := Fence.wide) rfl (by decide) (gf := 40) (lb := #[.pointer (some ⟨pa, 0, none⟩)]) rfl trivial (enters_of Tryd.func40 (by kernel_rfl) rfl)
    (all1_stops w2 4 pa (by decide) A2 c2 L (fun k => w1.heap.size < k ∧ k < w2.heap.size) (fun ad e hpos => by
      subst e
      obtain ⟨b', o', c', he, _, _, hF, hlt, _⟩ := HRa.out.open hpos
      injection he with he
      injection he with he
      subst he
      exact ⟨hF, hlt⟩) (fun _ h => h.2) HPa.out HRa.out.reads)
    Keep.trans (Keep.putObj (fun _ h => h.2)) (Below.refl _ _) (fun _ => rfl)
    (fun pre W => (W.heap[p]? = some (.cells #[.int .i64 t1, .int .i64 m1, .slice A n c] 41 (0, 0)) ∧ W.heap[p + 1]? = some (.cells #[.bool false] 4 (0, 0)) ∧ W.heap[p + 1 + 1]? = some (.cells #[.int .i64 (pre.length : Int)] 3 (0, 0)) ∧ pre <+: L) ∧ Below w.heap.size w W)
    (fun _ pre _ => ¬ pre <+: L)
    (OwnFrom.and (fun s A B row hs hg hr => ⟨heap_kept hs.1 rfl hg hr, heap_kept hs.2.1 rfl hg hr, heap_kept hs.2.2.1 rfl hg hr, hs.2.2.2⟩) (ownFrom_below (Nat.le_refl _) HBw.out.size))
    (fun _ _ _ _ _ h _ _ => h) ⟨⟨HE0.out, HE1.out, HE2.out, List.nil_prefix⟩, HBw.out⟩
    (fun x a' _ => a' = { tmps := #[.pointer (some ⟨b, 0, none⟩), qv t1 m1 A n c, undef, .pointer (some ⟨p, 0, none⟩), .pointer (some ⟨p + 1, 0, none⟩), .pointer (some ⟨p + 1 + 1, 0, none⟩), .func (.func 40) #[] #[.pointer (some ⟨pa, 0, none⟩)], .int .i64 x.1, .int .i64 x.2, .pointer (some ⟨b, 0, none⟩), .func (.func 40) #[] #[.pointer (some ⟨pa, 0, none⟩)], .func (.func 40) #[] #[.pointer (some ⟨pa, 0, none⟩)], .bool false, .func (.func 40) #[] #[.pointer (some ⟨pa, 0, none⟩)], .int .i64 x.1, .int .i64 x.2, undef, undef, undef, undef, undef, undef, undef, undef, undef, undef, undef, undef, undef, undef, undef, undef, undef, undef, undef, undef, undef, undef, undef, undef, undef, undef, undef, undef, undef, undef, undef, undef], defers := [] })
    (fun _ _ _ _ _ _ h _ _ => h) ?assign ?body ?done ?stop
  case assign =>
    intro l pre x W K hI hK
    gi_wp2
    exact hK _ _ (KeepsFrom.refl _ _) (Keep.refl _ _) hI rfl
  case stop =>
    rintro D cc pre W hD hpre hx hKd
    exact (hx hpre).elim
  case body =>
    rintro l pre x a' W hl hrec ⟨⟨i0, i1, i2, hpre⟩, hbW⟩ rfl hlen
    dsimp only
    obtain ⟨y, hy⟩ : ∃ y, L[pre.length]? = some y := ⟨_, List.getElem?_eq_getElem hlen⟩
    have hrW : Reads W 2 (.slice A n c) n (pairs L) := Reads.kept HR.out (fun a _ hc => (hbW.cell (World.block_lt_of_cell? w a hc)).trans hc)
    obtain ⟨ad, hA, q0, q1⟩ := pairs_cell hrW hy
    subst hA
    obtain ⟨j0, j1, j2, _, _, _⟩ := box3 i0
    have k1 : W.cell? ⟨p + 1, 0, none⟩ = some (.bool false) := by rw [cell_of_row W _ 0 _ _ _ i1]; rfl
    have k2 : W.cell? ⟨p + 1 + 1, 0, none⟩ = some (.int .i64 pre.length) := by rw [cell_of_row W _ 0 _ _ _ i2]; rfl
    have f1 := frozen_of_row W (p + 1) 0 _ _ i1
    have f2 := frozen_of_row W (p + 1 + 1) 0 _ _ i2
    have HI0 := hide i0
    have HI1 := hide i1
    have HI2 := hide i2
    have HbW := hide hbW
    have HY := hide hy
    have HPre := hide hpre
    have hnl : pre.length < n := by have := HN.out; omega
    clear i0 i1 i2 hbW hy hpre hrW hrec
    by_cases hxy : x = y
    · subst hxy
      gi_wp2
      have hw := heap_setCell_same _ (p + 1 + 1) 0 _ 3 (.int .i64 (pre.length + 1)) HI2.out
      refine ⟨(KeepsOthers.setCell _ _ _).from _, Keep.setCell _ _ _ _ (fun h => by have := h.1; have : w1.heap.size < p + 1 + 1 := this; omega), ⟨?_, ?_, ?_, ?_⟩, HbW.out.setCell (p := ⟨p + 1 + 1, 0, none⟩) (show w.heap.size ≤ p + 1 + 1 by omega) _⟩
      · rw [Below.heap_setCell _ _ _ _ (show p ≠ p + 1 + 1 by omega)]; exact HI0.out
      · rw [Below.heap_setCell _ _ _ _ (show p + 1 ≠ p + 1 + 1 by omega)]; exact HI1.out
      · rw [List.length_append]
        simpa using hw
      · obtain ⟨r, hr⟩ := HPre.out
        have hY := HY.out
        rw [← hr, List.getElem?_append_right (Nat.le_refl _), Nat.sub_self] at hY
        cases r with
        | nil => simp at hY
        | cons z r =>
          simp at hY
          subst hY
          exact ⟨r, by rw [← hr]; simp⟩
    · have hcs : ((x.1 != y.1) = true) ∨ ((x.1 != y.1) = false ∧ (x.2 != y.2) = true) := by
        by_cases h1 : x.1 = y.1
        · by_cases h2 : x.2 = y.2
          · exact (hxy (Prod.ext h1 h2)).elim
          · exact .inr ⟨by simpa using h1, by simpa using h2⟩
        · exact .inl (by simpa using h1)
      have hnp : ¬ pre ++ [x] <+: L := by
        rintro ⟨r, hr⟩
        have : L[pre.length]? = some x := by rw [← hr]; simp
        rw [HY.out] at this
        injection this with this
        exact hxy this.symm
      have HNP := hide hnp
      clear hnp hxy
      rcases hcs with g1 | ⟨g1, g2⟩
      all_goals
        gi_wp2
        exact ⟨(KeepsOthers.setCell _ _ _).from _, HNP.out⟩
  case done =>
    rintro D ys W hD rfl ⟨⟨i0, i1, i2, _⟩, hbW⟩ hK
    obtain ⟨j0, j1, j2, _, _, _⟩ := box3 i0
    have k1 : W.cell? ⟨p + 1, 0, none⟩ = some (.bool false) := by rw [cell_of_row W _ 0 _ _ _ i1]; rfl
    have k2 : W.cell? ⟨p + 1 + 1, 0, none⟩ = some (.int .i64 ys.length) := by rw [cell_of_row W _ 0 _ _ _ i2]; rfl
    have f1 := frozen_of_row W (p + 1) 0 _ _ i1
    have HI1 := hide i1
    have HbW := hide hbW
    have HK := hide hK
    have hN := HN.out
    have hnn : ((ys.length : Int) == (n : Int)) = true := by rw [hN]; simp
    clear i0 i1 i2 hbW hK hN
    go_wp2
    have b4 := heap_setCell_same _ (p + 1) 0 _ 4 (.bool true) HI1.out
    have hK4 : (W.setCell ⟨p + 1, 0, none⟩ (.bool true)).heap[D]? = some (.deferred (some [])) := (KeepsOthers.setCell _ _ _).same D _ HK.out rfl
    have hne : p + 1 ≠ D := by
      intro e
      rw [← e, b4] at hK4
      cases hK4
    have b5 : ((W.setCell ⟨p + 1, 0, none⟩ (.bool true)).putObj D (.deferred none)).heap[p + 1]? = some (.cells #[.bool true] 4 (0, 0)) := by
      rw [World.putObj_heap_other hne]
      simpa using b4
    have k0 : ((W.setCell ⟨p + 1, 0, none⟩ (.bool true)).putObj D (.deferred none)).cell? ⟨p + 1, 0, none⟩ = some (.bool true) := by rw [cell_of_row _ _ 0 _ _ _ b5]; rfl
    refine ⟨by simp, .inl ⟨_, _, rfl, run_takeDeferred hK4, ?_⟩⟩
    refine ⟨.bool true, ?_, rfl, ?_⟩
    · simp [results, Tryd.results18, go_sem, k0]
    · exact (HbW.out.setCell (p := ⟨p + 1, 0, none⟩) (show w.heap.size ≤ p + 1 by omega) _).trans (belowK_b (w := w2) HBw.out.size _ D _ _ hD hK4 rfl rfl)
end Go.Proofs.YtipbaffhlekpfaaDoor
