import Derived.Test.YtcalamofccdldaaDoorRWStep
import Derived.Test.YtcalamofccdldaaDoorErrs
import Derived.Deep.CutBlock
import Derived.Deep.RegionHeld3
/- step: one call on both in one place of four. -/
namespace Go.Proofs.YtcalamofccdldaaDoor
open Go Go.RowKit Go.Cu Go.Proofs.YtcalamofccdldaaDoor.RI

/-- which place -/
theorem place_of (z : Int) : ∃ i : Nat, i < 4 ∧ (wrap64 (z.tmod 4 + 4)).tmod 4 = (i : Int) := by
  have h1 := Int.tmod_lt_of_pos z (show (0 : Int) < 4 by decide)
  have h2 := Int.lt_tmod_of_pos z (show (0 : Int) < 4 by decide)
  have e : wrap64 (z.tmod 4 + 4) = z.tmod 4 + 4 := by
    have := IntKind.wrap_i64 (z.tmod 4 + 4)
    unfold wrap64
    first | omega | (rw [← this]; rw [IntKind.wrap_i64]; omega)
  rw [e, Int.tmod_eq_emod_of_nonneg (by omega)]
  exact ⟨((z.tmod 4 + 4) % 4).toNat, by omega, by omega⟩
theorem row_le {w : World} {F : Nat → Prop} {e : TypeId} {sz n c : Nat} {A : Option Addr} {xs : List Value} (h : Row w F e sz (.slice A n c) n xs) : n ≤ c := by
  obtain ⟨A', c', he, h2, _⟩ := h.shape
  injection he with _ _ h3
  omega
theorem ref.new_bad (w : World) (n : Int) (hn : n < 0 ∨ 2147483647 < n) :
    Calls Tryd.prog 52 #[.int .i64 n] w fun e w' => e = .returned (.tuple #[.agg #[.int .i64 0, .slice none 0 0], .int .i64 2]) ∧ Below w.heap.size w w' := by
  rcases hn with h1 | h1
  · go_enter Tryd.func52, Tryd.ntmps52
    go_wp2
    go_returns
    exact ⟨rfl, by repeat (first | exact Below.refl _ _ | refine Below.drew ?_ | refine Below.alloc ?_ (Nat.le_refl _) _ | refine Below.setCell ?_ _ _)⟩
  · have h2 : ¬ n < 0 := by omega
    go_enter Tryd.func52, Tryd.ntmps52
    go_wp2
    go_returns
    exact ⟨rfl, by repeat (first | exact Below.refl _ _ | refine Below.drew ?_ | refine Below.alloc ?_ (Nat.le_refl _) _ | refine Below.setCell ?_ _ _)⟩
theorem far2 {w : World} {q b i j : Nat} {x y u v : Value} (h0 : w.cell? ⟨q, 0, none⟩ = some x) (h1 : w.cell? ⟨q, 1, none⟩ = some y) (hne : q ≠ b) :
    ((w.setCell ⟨b, i, none⟩ u).setCell ⟨b, j, none⟩ v).drew.cell? ⟨q, 0, none⟩ = some x ∧ ((w.setCell ⟨b, i, none⟩ u).setCell ⟨b, j, none⟩ v).drew.cell? ⟨q, 1, none⟩ = some y := by
  have hb : ((w.setCell ⟨b, i, none⟩ u).setCell ⟨b, j, none⟩ v).heap[q]? = w.heap[q]? := by
    rw [Below.heap_setCell _ _ _ _ hne, Below.heap_setCell _ _ _ _ hne]
  have hc : ∀ k, ((w.setCell ⟨b, i, none⟩ u).setCell ⟨b, j, none⟩ v).drew.cell? ⟨q, k, none⟩ = w.cell? ⟨q, k, none⟩ := fun k => World.cell?_of_block (w := w) hb
  rw [hc, hc]
  exact ⟨h0, h1⟩
theorem far3c {w : World} {q r b i j k : Nat} {x y z u v : Value} (h0 : w.cell? ⟨q, 0, none⟩ = some x) (h1 : w.cell? ⟨q, 1, none⟩ = some y) (h2 : w.cell? ⟨r, k, none⟩ = some z) (hne : q ≠ b) (hne2 : r ≠ b) :
    ((w.setCell ⟨b, i, none⟩ u).setCell ⟨b, j, none⟩ v).cell? ⟨q, 0, none⟩ = some x ∧ ((w.setCell ⟨b, i, none⟩ u).setCell ⟨b, j, none⟩ v).cell? ⟨q, 1, none⟩ = some y ∧ ((w.setCell ⟨b, i, none⟩ u).setCell ⟨b, j, none⟩ v).cell? ⟨r, k, none⟩ = some z := by
  have hc : ∀ q k, q ≠ b → ((w.setCell ⟨b, i, none⟩ u).setCell ⟨b, j, none⟩ v).cell? ⟨q, k, none⟩ = w.cell? ⟨q, k, none⟩ := fun q k hne => World.cell?_of_block (w := w) (by rw [Below.heap_setCell _ _ _ _ hne, Below.heap_setCell _ _ _ _ hne])
  rw [hc _ _ hne, hc _ _ hne, hc _ _ hne2]
  exact ⟨h0, h1, h2⟩
theorem far4 {w : World} {q b i j k : Nat} {x y t u v : Value} (h0 : w.cell? ⟨q, 0, none⟩ = some x) (h1 : w.cell? ⟨q, 1, none⟩ = some y) (hne : q ≠ b) :
    ((w.setCell ⟨b, i, none⟩ t).drew.cell? ⟨q, 0, none⟩ = some x ∧ (w.setCell ⟨b, i, none⟩ t).drew.cell? ⟨q, 1, none⟩ = some y) ∧
      (((w.setCell ⟨b, i, none⟩ t).setCell ⟨b, j, none⟩ u).setCell ⟨b, k, none⟩ v).drew.cell? ⟨q, 0, none⟩ = some x ∧ (((w.setCell ⟨b, i, none⟩ t).setCell ⟨b, j, none⟩ u).setCell ⟨b, k, none⟩ v).drew.cell? ⟨q, 1, none⟩ = some y := by
  have hc : ∀ l, (w.setCell ⟨b, i, none⟩ t).drew.cell? ⟨q, l, none⟩ = w.cell? ⟨q, l, none⟩ := fun l => World.cell?_of_block (w := w) (by
    show (w.setCell ⟨b, i, none⟩ t).heap[q]? = _
    rw [Below.heap_setCell _ _ _ _ hne])
  have hd : ∀ l, (((w.setCell ⟨b, i, none⟩ t).setCell ⟨b, j, none⟩ u).setCell ⟨b, k, none⟩ v).drew.cell? ⟨q, l, none⟩ = w.cell? ⟨q, l, none⟩ := fun l => World.cell?_of_block (w := w) (by
    show (((w.setCell ⟨b, i, none⟩ t).setCell ⟨b, j, none⟩ u).setCell ⟨b, k, none⟩ v).heap[q]? = _
    rw [Below.heap_setCell _ _ _ _ hne, Below.heap_setCell _ _ _ _ hne, Below.heap_setCell _ _ _ _ hne])
  rw [hc, hc, hd, hd]
  exact ⟨⟨h0, h1⟩, h0, h1⟩
theorem after_store {w0 w3 : World} {b : Nat} {P : Nat → Place} {i : Nat} {x : Place} (hQ : RW w0 w3 b P) (hi : i < 4) (hx : P i = x) (cap : Nat) (L : List Int) (A : Option Addr) (c : Nat) (F G : Nat → Prop) :
    Mod (fun k => k = b) w3 ((w3.setCell ⟨b, 4 + i * 2, none⟩ (.int .i64 cap)).setCell ⟨b, 4 + i * 2 + 1, none⟩ (.slice A L.length c)).drew ∧
      ((w3.setCell ⟨b, 4 + i * 2, none⟩ (.int .i64 cap)).setCell ⟨b, 4 + i * 2 + 1, none⟩ (.slice A L.length c)).drew.heap[b]? = some (.cells (rwCells (upd P i ⟨x.p, F, cap, L, A, c, G⟩)) 64 (0, 0)) :=
  ⟨((((Mod.refl (fun k => k = b) w3).setCell (p := ⟨b, 4 + i * 2, none⟩) (fun _ => rfl) _).setCell (p := ⟨b, 4 + i * 2 + 1, none⟩) (fun _ => rfl) _)).drew, store_m hQ.cells i hi ⟨x.p, F, cap, L, A, c, G⟩ (by rw [hx])⟩
theorem after_store2 {w0 w3 : World} {b : Nat} {P : Nat → Place} {i : Nat} {x : Place} (hQ : RW w0 w3 b P) (hi : i < 4) (hx : P i = x) (cap : Nat) (L : List Int) (A : Option Addr) (c : Nat) (F G : Nat → Prop) :
    Mod (fun k => k = b) w3 ((w3.setCell ⟨b, 4 + i * 2, none⟩ (.int .i64 cap)).setCell ⟨b, 4 + i * 2 + 1, none⟩ (.slice A L.length c)) ∧
      ((w3.setCell ⟨b, 4 + i * 2, none⟩ (.int .i64 cap)).setCell ⟨b, 4 + i * 2 + 1, none⟩ (.slice A L.length c)).heap[b]? = some (.cells (rwCells (upd P i ⟨x.p, F, cap, L, A, c, G⟩)) 64 (0, 0)) :=
  ⟨(((Mod.refl (fun k => k = b) w3).setCell (p := ⟨b, 4 + i * 2, none⟩) (fun _ => rfl) _).setCell (p := ⟨b, 4 + i * 2 + 1, none⟩) (fun _ => rfl) _), store_m hQ.cells i hi ⟨x.p, F, cap, L, A, c, G⟩ (by rw [hx])⟩
theorem rw_end {w0 w1 w3 w4 w6 : World} {b : Nat} {P : Nat → Place} {i : Nat} {x : Place} (h : RW w0 w1 b P) (hi : i < 4) (hx : P i = x) (h13 : Below w1.heap.size w1 w3) (h34 : Mod (fun k => k = b) w3 w4) {F F0 G : Nat → Prop} {cap : Nat} {L : List Int} {A : Option Addr} {c : Nat}
    (hc : w4.heap[b]? = some (.cells (rwCells (upd P i ⟨x.p, F0, cap, L, A, c, G⟩)) 64 (0, 0))) (h46 : Mod x.F w4 w6) (hring : RN w6 F x.p cap L) (hrow : Row w4 G 3 1 (.slice A L.length c) L.length (ints L)) (hG : ∀ k, G k → w1.heap.size ≤ k ∧ k < w3.heap.size) (hF : ∀ k, F k → x.F k ∨ w4.heap.size ≤ k) :
    RW w0 w6 b (upd P i ⟨x.p, F, cap, L, A, c, G⟩) ∧ Mod (fun k => k = b ∨ x.F k) w1 w6 := by
  have hA := h.at_ i hi
  have hnf := h.nf i hi
  rw [hx] at hA hnf
  have hlt := hA.ring.lt
  have hs13 := h13.size
  have hs34 := h34.size
  have hs46 := h46.size
  refine ⟨h.step i hi _ (((Mod.ofBelow h13 _).trans h34 (fun k _ hk => .inl hk)).trans h46 (fun k _ hk => .inr (by rw [hx]; exact hk))) ⟨hring, hrow.kept h46 (fun k hk _ hf => by have := hlt k hf; have := (hG k hk).1; omega), fun k hk => by have := (hG k hk).2; omega⟩ (fun k hk => (hF k hk).imp (fun hk => by rw [hx]; exact hk) (fun hl => by omega)) (fun k hk => .inr (hG k hk).1)
    (fun k hk hg => by rcases hF k hk with hf | hl; · have := hlt k hf; have := (hG k hg).1; omega
                       · have := (hG k hg).2; omega)
    (by have h := h46.heap hc hnf; rw [rw_upd P i hi] at h ⊢; exact h), ((Mod.ofBelow h13 _).trans h34 (fun k _ hk => .inl hk)).trans h46 (fun k _ hk => .inr hk)⟩
theorem rw_post {w0 w w1 w6 : World} {b : Nat} {P P' : Nat → Place} {i : Nat} {x : Place} (hb : Below w.heap.size w w1) (hi : i < 4) (hx : P i = x) (h : RW w0 w6 b P' ∧ Mod (fun k => k = b ∨ x.F k) w1 w6) : RWPost w0 b P w (.returned (.bool true)) w6 :=
  ⟨rfl, ⟨P', h.1⟩, (Mod.ofBelow hb _).trans h.2 (fun k _ hk => hk.imp id (fun hk => ⟨i, hi, by rw [hx]; exact hk⟩))⟩
theorem rdOut_row {w : World} {F G : Nat → Prop} {A : Option Addr} {n c : Nat} {xs : List Int} (h : Row w G 3 1 (.slice A n c) n (ints xs)) (hF : ∀ k, F k → ¬ G k) : RdOut w F (.slice A n c) n (ints xs) := by
  refine ⟨h.reads, fun ad c' e => ?_⟩
  by_cases hn : n = 0
  · exact .inl hn
  · obtain ⟨b, o, c2, e2, _, _, hg, hlt, _⟩ := h.open (by omega)
    rw [e] at e2
    injection e2 with e2 _ _
    injection e2 with e2
    subst e2
    exact .inr ⟨fun hf => hF _ hf hg, hlt⟩

set_option maxRecDepth 10000 in
set_option maxHeartbeats 2000000 in
theorem rwstep_5 (w0 w : World) (b : Nat) (P : Nat → Place) (h : RW w0 w b P) (at_ nn : Int) (OA : Option Addr) (on oc : Nat) (xs : List Int) (ho : Reads w0 1 (.slice OA on oc) on (ints xs)) (hnc : on ≤ oc) :
    Calls Tryd.prog 32 #[.pointer (some ⟨b, 0, none⟩), .agg #[.int .i64 5, .int .i64 at_, .int .i64 nn, .slice OA on oc]] w (RWPost w0 b P w) := by
  obtain ⟨i, hi, hie⟩ := place_of at_
  have HOp := hide ho
  have HNc := hide hnc
  clear ho hnc
  go_enter Tryd.func32, Tryd.ntmps32
  go_upto_region 2 with fail
  clear hie
  have hal : Below w.heap.size w (w.alloc (.cells #[.int .i64 5, .int .i64 at_, .int .i64 nn, .slice OA on oc] 43)) := (Below.refl _ _).alloc (Nat.le_refl _) _
  have b0 : (w.alloc (.cells #[.int .i64 5, .int .i64 at_, .int .i64 nn, .slice OA on oc] 43)).heap[w.heap.size]? = some (.cells #[.int .i64 5, .int .i64 at_, .int .i64 nn, .slice OA on oc] 43 (0, 0)) := heap_alloc_new w _
  have hsz : (w.alloc (.cells #[.int .i64 5, .int .i64 at_, .int .i64 nn, .slice OA on oc] 43)).heap.size = w.heap.size + 1 := by simp
  obtain ⟨wa, hwa⟩ : ∃ wa, w.alloc (.cells #[.int .i64 5, .int .i64 at_, .int .i64 nn, .slice OA on oc] 43) = wa := ⟨_, rfl⟩
  obtain ⟨p, hp⟩ : ∃ p, w.heap.size = p := ⟨_, rfl⟩
  rw [hwa] at hal b0 hsz
  rw [hwa]
  rw [hp] at b0 hsz
  rw [hp]
  have HQa := hide (h.past hal)
  have HBwa := hide hal
  have HB0 := hide b0
  have hbs : b < p := hp ▸ h.size
  obtain ⟨c0, c1, c2, _, _, _⟩ := HQa.out.facts i hi
  have hA := HQa.out.at_ i hi
  obtain ⟨x, hx⟩ : ∃ x, P i = x := ⟨_, rfl⟩
  obtain ⟨a, ha⟩ := hA.ring.ptr
  rw [hx] at hA ha c0 c1 c2
  have hfit := hA.ring.fits
  rw [ha] at c0
  have HX := hide hx
  have HPt := hide ha
  have HH := hide h
  clear hA hx ha h hal b0 hwa
  have hi4 : (i : Int) < (4 : Int) := by omega
  have hi0 : (0 : Int) ≤ (i : Int) := by omega
  have hSd : wa.drew.cell? ⟨b, i, none⟩ = some (.pointer a) ∧ wa.drew.cell? ⟨b, 4 + i * 2, none⟩ = some (.int .i64 x.cap) ∧ wa.drew.cell? ⟨b, 4 + i * 2 + 1, none⟩ = some (.slice x.A x.L.length x.c) := ⟨c0, c1, c2⟩
  have hSa : (wa.alloc (.cells #[.int .i64 0, .slice none 0 0] 58)).drew.cell? ⟨b, i, none⟩ = some (.pointer a) ∧ (wa.alloc (.cells #[.int .i64 0, .slice none 0 0] 58)).drew.cell? ⟨b, 4 + i * 2, none⟩ = some (.int .i64 x.cap) ∧ (wa.alloc (.cells #[.int .i64 0, .slice none 0 0] 58)).drew.cell? ⟨b, 4 + i * 2 + 1, none⟩ = some (.slice x.A x.L.length x.c) := ⟨ref.cellN c0, ref.cellN c1, ref.cellN c2⟩
  have hSc : (wa.alloc (.cells #[.int .i64 x.cap, .slice x.A x.L.length x.c] 58)).drew.cell? ⟨b, i, none⟩ = some (.pointer a) ∧ (wa.alloc (.cells #[.int .i64 x.cap, .slice x.A x.L.length x.c] 58)).drew.cell? ⟨b, 4 + i * 2, none⟩ = some (.int .i64 x.cap) ∧ (wa.alloc (.cells #[.int .i64 x.cap, .slice x.A x.L.length x.c] 58)).drew.cell? ⟨b, 4 + i * 2 + 1, none⟩ = some (.slice x.A x.L.length x.c) := ⟨ref.cellN c0, ref.cellN c1, ref.cellN c2⟩
  go_region_held3 (fun w' => w'.cell? ⟨b, i, none⟩ = some (.pointer a) ∧ w'.cell? ⟨b, 4 + i * 2, none⟩ = some (.int .i64 x.cap) ∧ w'.cell? ⟨b, 4 + i * 2 + 1, none⟩ = some (.slice x.A x.L.length x.c)) (first | assumption) (first | fail)
  go_upto_region 3 with fail
  have hal : Below wa.heap.size wa (wa.alloc (.cells #[.int .i64 x.cap, .slice x.A x.L.length x.c] 58)).drew := ((Below.refl _ _).alloc (Nat.le_refl _) _).drew
  have b1 : (wa.alloc (.cells #[.int .i64 x.cap, .slice x.A x.L.length x.c] 58)).drew.heap[wa.heap.size]? = some (.cells #[.int .i64 x.cap, .slice x.A x.L.length x.c] 58 (0, 0)) := heap_alloc_new wa _
  have hsz1 : (wa.alloc (.cells #[.int .i64 x.cap, .slice x.A x.L.length x.c] 58)).drew.heap.size = wa.heap.size + 1 := by simp
  obtain ⟨w1, hw1⟩ : ∃ w1, (wa.alloc (.cells #[.int .i64 x.cap, .slice x.A x.L.length x.c] 58)).drew = w1 := ⟨_, rfl⟩
  rw [hw1] at hal b1 hsz1
  rw [hsz] at b1 hsz1
  rw [hw1]
  clear hSd hSa hSc c0 c1 c2 hw1
  have HQ1 := hide (HQa.out.past hal)
  have HBw1 := hide (HBwa.out.trans (hal.mono HBwa.out.size))
  have HBw := HBw1
  have b0 := (hal.block _ (Array.getElem?_eq_some_iff.1 HB0.out).1).trans HB0.out
  have HO := hide b0
  have HM := hide b1
  have hA := HQ1.out.at_ i hi
  rw [HX.out] at hA
  have HRow := hide hA.row
  have hring := hA.ring
  rw [HPt.out] at hring
  have HRing := hide hring
  have HA := hide hA
  obtain ⟨m0, m1, _, _⟩ := ref.box2 b1
  have o0 : w1.cell? ⟨p, 0, none⟩ = some (.int .i64 5) := by rw [cell_of_row w1 _ 0 _ _ _ b0]; rfl
  have o2 : w1.cell? ⟨p, 2, none⟩ = some (.int .i64 nn) := by rw [cell_of_row w1 _ 2 _ _ _ b0]; rfl
  have o3 : w1.cell? ⟨p, 3, none⟩ = some (.slice OA on oc) := by rw [cell_of_row w1 _ 3 _ _ _ b0]; rfl
  clear hal b0 b1 hA hring HQa HB0
  have HO1 := HO
  have HM1 := HM
  have HR1 := HRing
  have HW1 := HRow
  have hbd : Below w1.heap.size w1 w1.drew := (Below.refl _ w1).drew
  have HBd := hide hbd
  have HQd := hide (HQ1.out.past hbd)
  have HBwd := hide (HBw1.out.trans (hbd.mono HBw1.out.size))
  have HRd := hide (HR1.out.below hbd)
  have HWd := hide (HW1.out.kept (Mod.ofBelow hbd (fun _ => False)) (fun _ _ _ h => h))
  have HOd : Hid (w1.drew.heap[p]? = some (.cells #[.int .i64 5, .int .i64 at_, .int .i64 nn, .slice OA on oc] 43 (0, 0))) := hide HO1.out
  have HMd : Hid (w1.drew.heap[p + 1]? = some (.cells #[.int .i64 x.cap, .slice x.A x.L.length x.c] 58 (0, 0))) := hide HM1.out
  obtain ⟨kn, hkn⟩ : ∃ kn, min nn.toNat x.L.length = kn := ⟨_, rfl⟩
  have HK := hide hkn
  clear hkn
  go_upto_region 29 with fail
  have hSd : w1.drew.cell? ⟨p + 1, 0, none⟩ = some (.int .i64 x.cap) ∧ w1.drew.cell? ⟨p + 1, 1, none⟩ = some (.slice x.A x.L.length x.c) ∧ w1.drew.cell? ⟨p, 2, none⟩ = some (.int .i64 nn) := ⟨m0, m1, o2⟩
  go_region_held3 (fun w' => w'.cell? ⟨p + 1, 0, none⟩ = some (.int .i64 x.cap) ∧ w'.cell? ⟨p + 1, 1, none⟩ = some (.slice x.A x.L.length x.c) ∧ w'.cell? ⟨p, 2, none⟩ = some (.int .i64 nn)) (first | assumption | with_reducible exact ⟨m0, m1, o2⟩) (first
    | (go_at_call 19; refine (peek_n HRd.out nn kn HK.out).mono ?_
       rintro e w2 ⟨A2, c2, rfl, hr2, hb2⟩
       have HP2 := hide hr2.reads
       have e0 := (hb2.block _ (Array.getElem?_eq_some_iff.1 HOd.out).1).trans HOd.out
       have e1 := (hb2.block _ (Array.getElem?_eq_some_iff.1 HMd.out).1).trans HMd.out
       have HQ2 := hide (HQd.out.past hb2)
       have HBw2 := hide (HBwd.out.trans (hb2.mono HBwd.out.size))
       have HR2 := hide (HRd.out.below hb2)
       have HW2 := hide (HWd.out.kept (Mod.ofBelow hb2 (fun _ => False)) (fun _ _ _ h => h))
       have HO2 := hide e0
       have HM2 := hide e1
       clear o0 o2 o3 m0 m1
       obtain ⟨m0, m1, _, _⟩ := ref.box2 e1
       have o0 : w2.cell? ⟨p, 0, none⟩ = some (.int .i64 5) := by rw [cell_of_row w2 _ 0 _ _ _ e0]; rfl
       have o2 : w2.cell? ⟨p, 2, none⟩ = some (.int .i64 nn) := by rw [cell_of_row w2 _ 2 _ _ _ e0]; rfl
       have o3 : w2.cell? ⟨p, 3, none⟩ = some (.slice OA on oc) := by rw [cell_of_row w2 _ 3 _ _ _ e0]; rfl
       clear e0 e1
       clear hb2 hr2)
    | (go_at_call 35; refine (ref.peek_any w2 x.cap x.L.length x.A x.c x.L HW2.out.reads (row_le HW2.out) nn kn HK.out (by omega)).mono ?_
       rintro e w3 ⟨A3, c3, rfl, hr3, hb3⟩
       have HP3 := hide (Reads.below HP2.out hb3)
       have HD3 := hide hr3.reads
       have e0 := (hb3.block _ (Array.getElem?_eq_some_iff.1 HO2.out).1).trans HO2.out
       have e1 := (hb3.block _ (Array.getElem?_eq_some_iff.1 HM2.out).1).trans HM2.out
       have HQ3 := hide (HQ2.out.past hb3)
       have HBw3 := hide (HBw2.out.trans (hb3.mono HBw2.out.size))
       have HR3 := hide (HR2.out.below hb3)
       have HW3 := hide (HW2.out.kept (Mod.ofBelow hb3 (fun _ => False)) (fun _ _ _ h => h))
       have HO3 := hide e0
       have HM3 := hide e1
       clear o0 o2 o3 m0 m1
       obtain ⟨m0, m1, _, _⟩ := ref.box2 e1
       have o0 : w3.cell? ⟨p, 0, none⟩ = some (.int .i64 5) := by rw [cell_of_row w3 _ 0 _ _ _ e0]; rfl
       have o2 : w3.cell? ⟨p, 2, none⟩ = some (.int .i64 nn) := by rw [cell_of_row w3 _ 2 _ _ _ e0]; rfl
       have o3 : w3.cell? ⟨p, 3, none⟩ = some (.slice OA on oc) := by rw [cell_of_row w3 _ 3 _ _ _ e0]; rfl
       clear e0 e1
       clear hb3 hr3)
    | (go_at_call 24; refine (same_any _ _ _ kn (x.L.take kn) HP3.out HD3.out).mono ?_
       rintro e w4 ⟨rfl, hd4⟩
       have e0 := (hd4.below.block _ (Array.getElem?_eq_some_iff.1 HO3.out).1).trans HO3.out
       have e1 := (hd4.below.block _ (Array.getElem?_eq_some_iff.1 HM3.out).1).trans HM3.out
       have HQ4 := hide (HQ3.out.past hd4.below)
       have HBw4 := hide (HBw3.out.trans (hd4.below.mono HBw3.out.size))
       have HR4 := hide (HR3.out.below hd4.below)
       have HW4 := hide (HW3.out.kept (Mod.ofBelow hd4.below (fun _ => False)) (fun _ _ _ h => h))
       have HO4 := hide e0
       have HM4 := hide e1
       clear o0 o2 o3 m0 m1
       obtain ⟨m0, m1, _, _⟩ := ref.box2 e1
       have o0 : w4.cell? ⟨p, 0, none⟩ = some (.int .i64 5) := by rw [cell_of_row w4 _ 0 _ _ _ e0]; rfl
       have o2 : w4.cell? ⟨p, 2, none⟩ = some (.int .i64 nn) := by rw [cell_of_row w4 _ 2 _ _ _ e0]; rfl
       have o3 : w4.cell? ⟨p, 3, none⟩ = some (.slice OA on oc) := by rw [cell_of_row w4 _ 3 _ _ _ e0]; rfl
       clear e0 e1
       clear hd4))
  go_wp2
  go_ret
  exact ⟨rfl, ⟨P, HQ4.out⟩, Mod.ofBelow HBw4.out _⟩

set_option maxRecDepth 10000 in
set_option maxHeartbeats 2000000 in
theorem rwstep_6 (w0 w : World) (b : Nat) (P : Nat → Place) (h : RW w0 w b P) (at_ nn : Int) (OA : Option Addr) (on oc : Nat) (xs : List Int) (ho : Reads w0 1 (.slice OA on oc) on (ints xs)) (hnc : on ≤ oc) :
    Calls Tryd.prog 32 #[.pointer (some ⟨b, 0, none⟩), .agg #[.int .i64 6, .int .i64 at_, .int .i64 nn, .slice OA on oc]] w (RWPost w0 b P w) := by
  obtain ⟨i, hi, hie⟩ := place_of at_
  have HOp := hide ho
  have HNc := hide hnc
  clear ho hnc
  go_enter Tryd.func32, Tryd.ntmps32
  go_upto_region 2 with fail
  clear hie
  have hal : Below w.heap.size w (w.alloc (.cells #[.int .i64 6, .int .i64 at_, .int .i64 nn, .slice OA on oc] 43)) := (Below.refl _ _).alloc (Nat.le_refl _) _
  have b0 : (w.alloc (.cells #[.int .i64 6, .int .i64 at_, .int .i64 nn, .slice OA on oc] 43)).heap[w.heap.size]? = some (.cells #[.int .i64 6, .int .i64 at_, .int .i64 nn, .slice OA on oc] 43 (0, 0)) := heap_alloc_new w _
  have hsz : (w.alloc (.cells #[.int .i64 6, .int .i64 at_, .int .i64 nn, .slice OA on oc] 43)).heap.size = w.heap.size + 1 := by simp
  obtain ⟨wa, hwa⟩ : ∃ wa, w.alloc (.cells #[.int .i64 6, .int .i64 at_, .int .i64 nn, .slice OA on oc] 43) = wa := ⟨_, rfl⟩
  obtain ⟨p, hp⟩ : ∃ p, w.heap.size = p := ⟨_, rfl⟩
  rw [hwa] at hal b0 hsz
  rw [hwa]
  rw [hp] at b0 hsz
  rw [hp]
  have HQa := hide (h.past hal)
  have HBwa := hide hal
  have HB0 := hide b0
  have hbs : b < p := hp ▸ h.size
  obtain ⟨c0, c1, c2, _, _, _⟩ := HQa.out.facts i hi
  have hA := HQa.out.at_ i hi
  obtain ⟨x, hx⟩ : ∃ x, P i = x := ⟨_, rfl⟩
  obtain ⟨a, ha⟩ := hA.ring.ptr
  rw [hx] at hA ha c0 c1 c2
  have hfit := hA.ring.fits
  rw [ha] at c0
  have HX := hide hx
  have HPt := hide ha
  have HH := hide h
  clear hA hx ha h hal b0 hwa
  have hi4 : (i : Int) < (4 : Int) := by omega
  have hi0 : (0 : Int) ≤ (i : Int) := by omega
  have hSd : wa.drew.cell? ⟨b, i, none⟩ = some (.pointer a) ∧ wa.drew.cell? ⟨b, 4 + i * 2, none⟩ = some (.int .i64 x.cap) ∧ wa.drew.cell? ⟨b, 4 + i * 2 + 1, none⟩ = some (.slice x.A x.L.length x.c) := ⟨c0, c1, c2⟩
  have hSa : (wa.alloc (.cells #[.int .i64 0, .slice none 0 0] 58)).drew.cell? ⟨b, i, none⟩ = some (.pointer a) ∧ (wa.alloc (.cells #[.int .i64 0, .slice none 0 0] 58)).drew.cell? ⟨b, 4 + i * 2, none⟩ = some (.int .i64 x.cap) ∧ (wa.alloc (.cells #[.int .i64 0, .slice none 0 0] 58)).drew.cell? ⟨b, 4 + i * 2 + 1, none⟩ = some (.slice x.A x.L.length x.c) := ⟨ref.cellN c0, ref.cellN c1, ref.cellN c2⟩
  have hSc : (wa.alloc (.cells #[.int .i64 x.cap, .slice x.A x.L.length x.c] 58)).drew.cell? ⟨b, i, none⟩ = some (.pointer a) ∧ (wa.alloc (.cells #[.int .i64 x.cap, .slice x.A x.L.length x.c] 58)).drew.cell? ⟨b, 4 + i * 2, none⟩ = some (.int .i64 x.cap) ∧ (wa.alloc (.cells #[.int .i64 x.cap, .slice x.A x.L.length x.c] 58)).drew.cell? ⟨b, 4 + i * 2 + 1, none⟩ = some (.slice x.A x.L.length x.c) := ⟨ref.cellN c0, ref.cellN c1, ref.cellN c2⟩
  go_region_held3 (fun w' => w'.cell? ⟨b, i, none⟩ = some (.pointer a) ∧ w'.cell? ⟨b, 4 + i * 2, none⟩ = some (.int .i64 x.cap) ∧ w'.cell? ⟨b, 4 + i * 2 + 1, none⟩ = some (.slice x.A x.L.length x.c)) (first | assumption) (first | fail)
  go_upto_region 3 with fail
  have hal : Below wa.heap.size wa (wa.alloc (.cells #[.int .i64 x.cap, .slice x.A x.L.length x.c] 58)).drew := ((Below.refl _ _).alloc (Nat.le_refl _) _).drew
  have b1 : (wa.alloc (.cells #[.int .i64 x.cap, .slice x.A x.L.length x.c] 58)).drew.heap[wa.heap.size]? = some (.cells #[.int .i64 x.cap, .slice x.A x.L.length x.c] 58 (0, 0)) := heap_alloc_new wa _
  have hsz1 : (wa.alloc (.cells #[.int .i64 x.cap, .slice x.A x.L.length x.c] 58)).drew.heap.size = wa.heap.size + 1 := by simp
  obtain ⟨w1, hw1⟩ : ∃ w1, (wa.alloc (.cells #[.int .i64 x.cap, .slice x.A x.L.length x.c] 58)).drew = w1 := ⟨_, rfl⟩
  rw [hw1] at hal b1 hsz1
  rw [hsz] at b1 hsz1
  rw [hw1]
  clear hSd hSa hSc c0 c1 c2 hw1
  have HQ1 := hide (HQa.out.past hal)
  have HBw1 := hide (HBwa.out.trans (hal.mono HBwa.out.size))
  have HBw := HBw1
  have b0 := (hal.block _ (Array.getElem?_eq_some_iff.1 HB0.out).1).trans HB0.out
  have HO := hide b0
  have HM := hide b1
  have hA := HQ1.out.at_ i hi
  rw [HX.out] at hA
  have HRow := hide hA.row
  have hring := hA.ring
  rw [HPt.out] at hring
  have HRing := hide hring
  have HA := hide hA
  obtain ⟨m0, m1, _, _⟩ := ref.box2 b1
  have o0 : w1.cell? ⟨p, 0, none⟩ = some (.int .i64 6) := by rw [cell_of_row w1 _ 0 _ _ _ b0]; rfl
  have o2 : w1.cell? ⟨p, 2, none⟩ = some (.int .i64 nn) := by rw [cell_of_row w1 _ 2 _ _ _ b0]; rfl
  have o3 : w1.cell? ⟨p, 3, none⟩ = some (.slice OA on oc) := by rw [cell_of_row w1 _ 3 _ _ _ b0]; rfl
  clear hal b0 b1 hA hring HQa HB0
  have HO1 := HO
  have HM1 := HM
  have HR1 := HRing
  have HW1 := HRow
  rcases (show (∃ k : Nat, nn = k ∧ k < x.L.length) ∨ (nn < 0 ∨ (x.L.length : Int) ≤ nn) from (Decidable.em (0 ≤ nn ∧ nn < (x.L.length : Int))).elim (fun h => .inl ⟨nn.toNat, by omega, by omega⟩) (fun h => .inr (by omega))) with ⟨k, hk, hkl⟩ | hout
  · obtain ⟨y, hy⟩ : ∃ y, x.L[k]? = some y := ⟨_, List.getElem?_eq_getElem hkl⟩
    have HIn := hide (show AtIs x.L nn y true from Or.inl ⟨k, hk, hy, rfl⟩)
    have HY := hide hy
    have HHk := hide hk
    clear hk hy hkl
    go_wp2_with fail
    refine (at_n HR1.out nn y true HIn.out).mono ?_
    rintro e w2 ⟨rfl, hb2⟩
    have e0 := (hb2.block _ (Array.getElem?_eq_some_iff.1 HO1.out).1).trans HO1.out
    have e1 := (hb2.block _ (Array.getElem?_eq_some_iff.1 HM1.out).1).trans HM1.out
    have HQ2 := hide (HQ1.out.past hb2)
    have HBw2 := hide (HBw1.out.trans (hb2.mono HBw1.out.size))
    have HR2 := hide (HR1.out.below hb2)
    have HW2 := hide (HW1.out.kept (Mod.ofBelow hb2 (fun _ => False)) (fun _ _ _ h => h))
    have HO2 := hide e0
    have HM2 := hide e1
    clear o0 o2 o3 m0 m1
    obtain ⟨m0, m1, _, _⟩ := ref.box2 e1
    have o0 : w2.cell? ⟨p, 0, none⟩ = some (.int .i64 6) := by rw [cell_of_row w2 _ 0 _ _ _ e0]; rfl
    have o2 : w2.cell? ⟨p, 2, none⟩ = some (.int .i64 nn) := by rw [cell_of_row w2 _ 2 _ _ _ e0]; rfl
    have o3 : w2.cell? ⟨p, 3, none⟩ = some (.slice OA on oc) := by rw [cell_of_row w2 _ 3 _ _ _ e0]; rfl
    clear e0 e1
    clear hb2
    go_wp2_with fail
    rw [HHk.out]
    refine (ref.at_in w2 x.cap x.L.length x.A x.c x.L HW2.out.reads k y HY.out).mono ?_
    rintro e w3 ⟨rfl, hb3⟩
    have HQ3 := hide (HQ2.out.past hb3)
    have HBw3 := hide (HBw2.out.trans (hb3.mono HBw2.out.size))
    clear hb3
    rw [← HHk.out]
    go_wp2
    go_ret
    exact ⟨rfl, ⟨P, HQ3.out⟩, Mod.ofBelow HBw3.out _⟩
  · have HIn := hide (show AtIs x.L nn 0 false from Or.inr ⟨hout, rfl, rfl⟩)
    have HOut := hide hout
    clear hout
    go_wp2_with fail
    refine (at_n HR1.out nn 0 false HIn.out).mono ?_
    rintro e w2 ⟨rfl, hb2⟩
    have e0 := (hb2.block _ (Array.getElem?_eq_some_iff.1 HO1.out).1).trans HO1.out
    have e1 := (hb2.block _ (Array.getElem?_eq_some_iff.1 HM1.out).1).trans HM1.out
    have HQ2 := hide (HQ1.out.past hb2)
    have HBw2 := hide (HBw1.out.trans (hb2.mono HBw1.out.size))
    have HR2 := hide (HR1.out.below hb2)
    have HW2 := hide (HW1.out.kept (Mod.ofBelow hb2 (fun _ => False)) (fun _ _ _ h => h))
    have HO2 := hide e0
    have HM2 := hide e1
    clear o0 o2 o3 m0 m1
    obtain ⟨m0, m1, _, _⟩ := ref.box2 e1
    have o0 : w2.cell? ⟨p, 0, none⟩ = some (.int .i64 6) := by rw [cell_of_row w2 _ 0 _ _ _ e0]; rfl
    have o2 : w2.cell? ⟨p, 2, none⟩ = some (.int .i64 nn) := by rw [cell_of_row w2 _ 2 _ _ _ e0]; rfl
    have o3 : w2.cell? ⟨p, 3, none⟩ = some (.slice OA on oc) := by rw [cell_of_row w2 _ 3 _ _ _ e0]; rfl
    clear e0 e1
    clear hb2
    go_wp2_with fail
    refine (ref.at_out w2 x.cap x.L.length x.A x.c nn HOut.out).mono ?_
    rintro e w3 ⟨rfl, hb3⟩
    have HQ3 := hide (HQ2.out.past hb3)
    have HBw3 := hide (HBw2.out.trans (hb3.mono HBw2.out.size))
    clear hb3
    go_wp2
    go_ret
    exact ⟨rfl, ⟨P, HQ3.out⟩, Mod.ofBelow HBw3.out _⟩

set_option maxRecDepth 10000 in
set_option maxHeartbeats 2000000 in
theorem rwstep_else (w0 w : World) (b : Nat) (P : Nat → Place) (h : RW w0 w b P) (at_ nn : Int) (OA : Option Addr) (on oc : Nat) (xs : List Int) (ho : Reads w0 1 (.slice OA on oc) on (ints xs)) (hnc : on ≤ oc) (kd : Int) (h0 : (kd == 0) = false) (h1 : (kd == 1) = false) (h2 : (kd == 2) = false) (h3 : (kd == 3) = false) (h4 : (kd == 4) = false) (h5 : (kd == 5) = false) (h6 : (kd == 6) = false) :
    Calls Tryd.prog 32 #[.pointer (some ⟨b, 0, none⟩), .agg #[.int .i64 kd, .int .i64 at_, .int .i64 nn, .slice OA on oc]] w (RWPost w0 b P w) := by
  obtain ⟨i, hi, hie⟩ := place_of at_
  have HOp := hide ho
  have HNc := hide hnc
  clear ho hnc
  go_enter Tryd.func32, Tryd.ntmps32
  go_upto_region 2 with fail
  clear hie
  have hal : Below w.heap.size w (w.alloc (.cells #[.int .i64 kd, .int .i64 at_, .int .i64 nn, .slice OA on oc] 43)) := (Below.refl _ _).alloc (Nat.le_refl _) _
  have b0 : (w.alloc (.cells #[.int .i64 kd, .int .i64 at_, .int .i64 nn, .slice OA on oc] 43)).heap[w.heap.size]? = some (.cells #[.int .i64 kd, .int .i64 at_, .int .i64 nn, .slice OA on oc] 43 (0, 0)) := heap_alloc_new w _
  have hsz : (w.alloc (.cells #[.int .i64 kd, .int .i64 at_, .int .i64 nn, .slice OA on oc] 43)).heap.size = w.heap.size + 1 := by simp
  obtain ⟨wa, hwa⟩ : ∃ wa, w.alloc (.cells #[.int .i64 kd, .int .i64 at_, .int .i64 nn, .slice OA on oc] 43) = wa := ⟨_, rfl⟩
  obtain ⟨p, hp⟩ : ∃ p, w.heap.size = p := ⟨_, rfl⟩
  rw [hwa] at hal b0 hsz
  rw [hwa]
  rw [hp] at b0 hsz
  rw [hp]
  have HQa := hide (h.past hal)
  have HBwa := hide hal
  have HB0 := hide b0
  have hbs : b < p := hp ▸ h.size
  obtain ⟨c0, c1, c2, _, _, _⟩ := HQa.out.facts i hi
  have hA := HQa.out.at_ i hi
  obtain ⟨x, hx⟩ : ∃ x, P i = x := ⟨_, rfl⟩
  obtain ⟨a, ha⟩ := hA.ring.ptr
  rw [hx] at hA ha c0 c1 c2
  have hfit := hA.ring.fits
  rw [ha] at c0
  have HX := hide hx
  have HPt := hide ha
  have HH := hide h
  clear hA hx ha h hal b0 hwa
  have hi4 : (i : Int) < (4 : Int) := by omega
  have hi0 : (0 : Int) ≤ (i : Int) := by omega
  have hSd : wa.drew.cell? ⟨b, i, none⟩ = some (.pointer a) ∧ wa.drew.cell? ⟨b, 4 + i * 2, none⟩ = some (.int .i64 x.cap) ∧ wa.drew.cell? ⟨b, 4 + i * 2 + 1, none⟩ = some (.slice x.A x.L.length x.c) := ⟨c0, c1, c2⟩
  have hSa : (wa.alloc (.cells #[.int .i64 0, .slice none 0 0] 58)).drew.cell? ⟨b, i, none⟩ = some (.pointer a) ∧ (wa.alloc (.cells #[.int .i64 0, .slice none 0 0] 58)).drew.cell? ⟨b, 4 + i * 2, none⟩ = some (.int .i64 x.cap) ∧ (wa.alloc (.cells #[.int .i64 0, .slice none 0 0] 58)).drew.cell? ⟨b, 4 + i * 2 + 1, none⟩ = some (.slice x.A x.L.length x.c) := ⟨ref.cellN c0, ref.cellN c1, ref.cellN c2⟩
  have hSc : (wa.alloc (.cells #[.int .i64 x.cap, .slice x.A x.L.length x.c] 58)).drew.cell? ⟨b, i, none⟩ = some (.pointer a) ∧ (wa.alloc (.cells #[.int .i64 x.cap, .slice x.A x.L.length x.c] 58)).drew.cell? ⟨b, 4 + i * 2, none⟩ = some (.int .i64 x.cap) ∧ (wa.alloc (.cells #[.int .i64 x.cap, .slice x.A x.L.length x.c] 58)).drew.cell? ⟨b, 4 + i * 2 + 1, none⟩ = some (.slice x.A x.L.length x.c) := ⟨ref.cellN c0, ref.cellN c1, ref.cellN c2⟩
  go_region_held3 (fun w' => w'.cell? ⟨b, i, none⟩ = some (.pointer a) ∧ w'.cell? ⟨b, 4 + i * 2, none⟩ = some (.int .i64 x.cap) ∧ w'.cell? ⟨b, 4 + i * 2 + 1, none⟩ = some (.slice x.A x.L.length x.c)) (first | assumption) (first | fail)
  go_upto_region 3 with fail
  have hal : Below wa.heap.size wa (wa.alloc (.cells #[.int .i64 x.cap, .slice x.A x.L.length x.c] 58)).drew := ((Below.refl _ _).alloc (Nat.le_refl _) _).drew
  have b1 : (wa.alloc (.cells #[.int .i64 x.cap, .slice x.A x.L.length x.c] 58)).drew.heap[wa.heap.size]? = some (.cells #[.int .i64 x.cap, .slice x.A x.L.length x.c] 58 (0, 0)) := heap_alloc_new wa _
  have hsz1 : (wa.alloc (.cells #[.int .i64 x.cap, .slice x.A x.L.length x.c] 58)).drew.heap.size = wa.heap.size + 1 := by simp
  obtain ⟨w1, hw1⟩ : ∃ w1, (wa.alloc (.cells #[.int .i64 x.cap, .slice x.A x.L.length x.c] 58)).drew = w1 := ⟨_, rfl⟩
  rw [hw1] at hal b1 hsz1
  rw [hsz] at b1 hsz1
  rw [hw1]
  clear hSd hSa hSc c0 c1 c2 hw1
  have HQ1 := hide (HQa.out.past hal)
  have HBw1 := hide (HBwa.out.trans (hal.mono HBwa.out.size))
  have HBw := HBw1
  have b0 := (hal.block _ (Array.getElem?_eq_some_iff.1 HB0.out).1).trans HB0.out
  have HO := hide b0
  have HM := hide b1
  have hA := HQ1.out.at_ i hi
  rw [HX.out] at hA
  have HRow := hide hA.row
  have hring := hA.ring
  rw [HPt.out] at hring
  have HRing := hide hring
  have HA := hide hA
  obtain ⟨m0, m1, _, _⟩ := ref.box2 b1
  have o0 : w1.cell? ⟨p, 0, none⟩ = some (.int .i64 kd) := by rw [cell_of_row w1 _ 0 _ _ _ b0]; rfl
  have o2 : w1.cell? ⟨p, 2, none⟩ = some (.int .i64 nn) := by rw [cell_of_row w1 _ 2 _ _ _ b0]; rfl
  have o3 : w1.cell? ⟨p, 3, none⟩ = some (.slice OA on oc) := by rw [cell_of_row w1 _ 3 _ _ _ b0]; rfl
  clear hal b0 b1 hA hring HQa HB0
  have HO1 := HO
  have HM1 := HM
  have HR1 := HRing
  have HW1 := HRow
  have hbd : Below w1.heap.size w1 w1.drew := (Below.refl _ w1).drew
  have HBd := hide hbd
  have HQd := hide (HQ1.out.past hbd)
  have HBwd := hide (HBw1.out.trans (hbd.mono HBw1.out.size))
  have HRd := hide (HR1.out.below hbd)
  have HWd := hide (HW1.out.kept (Mod.ofBelow hbd (fun _ => False)) (fun _ _ _ h => h))
  have HOd : Hid (w1.drew.heap[p]? = some (.cells #[.int .i64 kd, .int .i64 at_, .int .i64 nn, .slice OA on oc] 43 (0, 0))) := hide HO1.out
  have HMd : Hid (w1.drew.heap[p + 1]? = some (.cells #[.int .i64 x.cap, .slice x.A x.L.length x.c] 58 (0, 0))) := hide HM1.out
  obtain ⟨fr, hfr⟩ : ∃ fr, x.cap - x.L.length = fr := ⟨_, rfl⟩
  have HFr := hide hfr
  clear hfr
  go_upto_region 34 with fail
  have hSd : w1.drew.cell? ⟨p + 1, 0, none⟩ = some (.int .i64 x.cap) ∧ w1.drew.cell? ⟨p + 1, 1, none⟩ = some (.slice x.A x.L.length x.c) := ⟨m0, m1⟩
  go_region_held3 (fun w' => w'.cell? ⟨p + 1, 0, none⟩ = some (.int .i64 x.cap) ∧ w'.cell? ⟨p + 1, 1, none⟩ = some (.slice x.A x.L.length x.c)) (first | assumption | with_reducible exact ⟨m0, m1⟩) (first
    | (go_at_call 22; refine (cap_n HRd.out).mono ?_; rintro e wz ⟨rfl, rfl⟩)
    | (go_at_call 28; refine (len_n HRd.out).mono ?_; rintro e wz ⟨rfl, rfl⟩)
    | (go_at_call 21; refine (free_n HRd.out fr HFr.out).mono ?_; rintro e wz ⟨rfl, rfl⟩)
    | (go_at_call 54; refine (ref.free_any _ x.cap x.L.length x.A x.c hfit.1 hfit.2 fr HFr.out).mono ?_
       rintro e w2 ⟨rfl, hb2⟩
       have e0 := (hb2.block _ (Array.getElem?_eq_some_iff.1 HOd.out).1).trans HOd.out
       have e1 := (hb2.block _ (Array.getElem?_eq_some_iff.1 HMd.out).1).trans HMd.out
       have HQ2 := hide (HQd.out.past hb2)
       have HBw2 := hide (HBwd.out.trans (hb2.mono HBwd.out.size))
       have HR2 := hide (HRd.out.below hb2)
       have HW2 := hide (HWd.out.kept (Mod.ofBelow hb2 (fun _ => False)) (fun _ _ _ h => h))
       have HO2 := hide e0
       have HM2 := hide e1
       clear o0 o2 o3 m0 m1
       obtain ⟨m0, m1, _, _⟩ := ref.box2 e1
       have o0 : w2.cell? ⟨p, 0, none⟩ = some (.int .i64 kd) := by rw [cell_of_row w2 _ 0 _ _ _ e0]; rfl
       have o2 : w2.cell? ⟨p, 2, none⟩ = some (.int .i64 nn) := by rw [cell_of_row w2 _ 2 _ _ _ e0]; rfl
       have o3 : w2.cell? ⟨p, 3, none⟩ = some (.slice OA on oc) := by rw [cell_of_row w2 _ 3 _ _ _ e0]; rfl
       clear e0 e1
       clear hb2))
  go_wp2
  go_ret
  exact ⟨rfl, ⟨P, HQ2.out⟩, Mod.ofBelow HBw2.out _⟩

set_option maxRecDepth 10000 in
set_option maxHeartbeats 2000000 in
theorem rwstep_3 (w0 w : World) (b : Nat) (P : Nat → Place) (h : RW w0 w b P) (at_ nn : Int) (OA : Option Addr) (on oc : Nat) (xs : List Int) (ho : Reads w0 1 (.slice OA on oc) on (ints xs)) (hnc : on ≤ oc) :
    Calls Tryd.prog 32 #[.pointer (some ⟨b, 0, none⟩), .agg #[.int .i64 3, .int .i64 at_, .int .i64 nn, .slice OA on oc]] w (RWPost w0 b P w) := by
  obtain ⟨i, hi, hie⟩ := place_of at_
  have HOp := hide ho
  have HNc := hide hnc
  clear ho hnc
  go_enter Tryd.func32, Tryd.ntmps32
  go_upto_region 2 with fail
  clear hie
  have hal : Below w.heap.size w (w.alloc (.cells #[.int .i64 3, .int .i64 at_, .int .i64 nn, .slice OA on oc] 43)) := (Below.refl _ _).alloc (Nat.le_refl _) _
  have b0 : (w.alloc (.cells #[.int .i64 3, .int .i64 at_, .int .i64 nn, .slice OA on oc] 43)).heap[w.heap.size]? = some (.cells #[.int .i64 3, .int .i64 at_, .int .i64 nn, .slice OA on oc] 43 (0, 0)) := heap_alloc_new w _
  have hsz : (w.alloc (.cells #[.int .i64 3, .int .i64 at_, .int .i64 nn, .slice OA on oc] 43)).heap.size = w.heap.size + 1 := by simp
  obtain ⟨wa, hwa⟩ : ∃ wa, w.alloc (.cells #[.int .i64 3, .int .i64 at_, .int .i64 nn, .slice OA on oc] 43) = wa := ⟨_, rfl⟩
  obtain ⟨p, hp⟩ : ∃ p, w.heap.size = p := ⟨_, rfl⟩
  rw [hwa] at hal b0 hsz
  rw [hwa]
  rw [hp] at b0 hsz
  rw [hp]
  have HQa := hide (h.past hal)
  have HBwa := hide hal
  have HB0 := hide b0
  have hbs : b < p := hp ▸ h.size
  obtain ⟨c0, c1, c2, _, _, _⟩ := HQa.out.facts i hi
  have hA := HQa.out.at_ i hi
  obtain ⟨x, hx⟩ : ∃ x, P i = x := ⟨_, rfl⟩
  obtain ⟨a, ha⟩ := hA.ring.ptr
  rw [hx] at hA ha c0 c1 c2
  have hfit := hA.ring.fits
  rw [ha] at c0
  have HX := hide hx
  have HPt := hide ha
  have HH := hide h
  clear hA hx ha h hal b0 hwa
  have hi4 : (i : Int) < (4 : Int) := by omega
  have hi0 : (0 : Int) ≤ (i : Int) := by omega
  have hSd : wa.drew.cell? ⟨b, i, none⟩ = some (.pointer a) ∧ wa.drew.cell? ⟨b, 4 + i * 2, none⟩ = some (.int .i64 x.cap) ∧ wa.drew.cell? ⟨b, 4 + i * 2 + 1, none⟩ = some (.slice x.A x.L.length x.c) := ⟨c0, c1, c2⟩
  have hSa : (wa.alloc (.cells #[.int .i64 0, .slice none 0 0] 58)).drew.cell? ⟨b, i, none⟩ = some (.pointer a) ∧ (wa.alloc (.cells #[.int .i64 0, .slice none 0 0] 58)).drew.cell? ⟨b, 4 + i * 2, none⟩ = some (.int .i64 x.cap) ∧ (wa.alloc (.cells #[.int .i64 0, .slice none 0 0] 58)).drew.cell? ⟨b, 4 + i * 2 + 1, none⟩ = some (.slice x.A x.L.length x.c) := ⟨ref.cellN c0, ref.cellN c1, ref.cellN c2⟩
  have hSc : (wa.alloc (.cells #[.int .i64 x.cap, .slice x.A x.L.length x.c] 58)).drew.cell? ⟨b, i, none⟩ = some (.pointer a) ∧ (wa.alloc (.cells #[.int .i64 x.cap, .slice x.A x.L.length x.c] 58)).drew.cell? ⟨b, 4 + i * 2, none⟩ = some (.int .i64 x.cap) ∧ (wa.alloc (.cells #[.int .i64 x.cap, .slice x.A x.L.length x.c] 58)).drew.cell? ⟨b, 4 + i * 2 + 1, none⟩ = some (.slice x.A x.L.length x.c) := ⟨ref.cellN c0, ref.cellN c1, ref.cellN c2⟩
  go_region_held3 (fun w' => w'.cell? ⟨b, i, none⟩ = some (.pointer a) ∧ w'.cell? ⟨b, 4 + i * 2, none⟩ = some (.int .i64 x.cap) ∧ w'.cell? ⟨b, 4 + i * 2 + 1, none⟩ = some (.slice x.A x.L.length x.c)) (first | assumption) (first | fail)
  go_upto_region 3 with fail
  have hal : Below wa.heap.size wa (wa.alloc (.cells #[.int .i64 x.cap, .slice x.A x.L.length x.c] 58)).drew := ((Below.refl _ _).alloc (Nat.le_refl _) _).drew
  have b1 : (wa.alloc (.cells #[.int .i64 x.cap, .slice x.A x.L.length x.c] 58)).drew.heap[wa.heap.size]? = some (.cells #[.int .i64 x.cap, .slice x.A x.L.length x.c] 58 (0, 0)) := heap_alloc_new wa _
  have hsz1 : (wa.alloc (.cells #[.int .i64 x.cap, .slice x.A x.L.length x.c] 58)).drew.heap.size = wa.heap.size + 1 := by simp
  obtain ⟨w1, hw1⟩ : ∃ w1, (wa.alloc (.cells #[.int .i64 x.cap, .slice x.A x.L.length x.c] 58)).drew = w1 := ⟨_, rfl⟩
  rw [hw1] at hal b1 hsz1
  rw [hsz] at b1 hsz1
  rw [hw1]
  clear hSd hSa hSc c0 c1 c2 hw1
  have HQ1 := hide (HQa.out.past hal)
  have HBw1 := hide (HBwa.out.trans (hal.mono HBwa.out.size))
  have HBw := HBw1
  have b0 := (hal.block _ (Array.getElem?_eq_some_iff.1 HB0.out).1).trans HB0.out
  have HO := hide b0
  have HM := hide b1
  have hA := HQ1.out.at_ i hi
  rw [HX.out] at hA
  have HRow := hide hA.row
  have hring := hA.ring
  rw [HPt.out] at hring
  have HRing := hide hring
  have HA := hide hA
  obtain ⟨m0, m1, _, _⟩ := ref.box2 b1
  have o0 : w1.cell? ⟨p, 0, none⟩ = some (.int .i64 3) := by rw [cell_of_row w1 _ 0 _ _ _ b0]; rfl
  have o2 : w1.cell? ⟨p, 2, none⟩ = some (.int .i64 nn) := by rw [cell_of_row w1 _ 2 _ _ _ b0]; rfl
  have o3 : w1.cell? ⟨p, 3, none⟩ = some (.slice OA on oc) := by rw [cell_of_row w1 _ 3 _ _ _ b0]; rfl
  clear hal b0 b1 hA hring HQa HB0
  have HO1 := HO
  have HM1 := HM
  have HR1 := HRing
  have HW1 := HRow
  obtain ⟨kn, hkn⟩ : ∃ kn, min nn.toNat x.L.length = kn := ⟨_, rfl⟩
  obtain ⟨L', hL'⟩ : ∃ L', x.L.drop kn = L' := ⟨_, rfl⟩
  have hlen : x.L.length - kn = L'.length := by rw [← hL', List.length_drop]
  have hD := ref.drop_any w1 x.cap x.L.length x.A x.c x.L HW1.out.reads (row_le HW1.out) nn kn hkn (by omega)
  rw [hlen, hL'] at hD
  have HL := hide hL'
  have HK := hide hkn
  clear hkn hL' hlen
  go_wp2_with fail
  refine hD.mono ?_
  rintro e w2 ⟨A2, c2, rfl, hr2, hb2⟩
  have HN2 := hide (row_made hr2)
  have e0 := (hb2.block _ (Array.getElem?_eq_some_iff.1 HO1.out).1).trans HO1.out
  have e1 := (hb2.block _ (Array.getElem?_eq_some_iff.1 HM1.out).1).trans HM1.out
  have HQ2 := hide (HQ1.out.past hb2)
  have HBw2 := hide (HBw1.out.trans (hb2.mono HBw1.out.size))
  have HR2 := hide (HR1.out.below hb2)
  have HW2 := hide (HW1.out.kept (Mod.ofBelow hb2 (fun _ => False)) (fun _ _ _ h => h))
  have HO2 := hide e0
  have HM2 := hide e1
  clear o0 o2 o3 m0 m1
  obtain ⟨m0, m1, _, _⟩ := ref.box2 e1
  have o0 : w2.cell? ⟨p, 0, none⟩ = some (.int .i64 3) := by rw [cell_of_row w2 _ 0 _ _ _ e0]; rfl
  have o2 : w2.cell? ⟨p, 2, none⟩ = some (.int .i64 nn) := by rw [cell_of_row w2 _ 2 _ _ _ e0]; rfl
  have o3 : w2.cell? ⟨p, 3, none⟩ = some (.slice OA on oc) := by rw [cell_of_row w2 _ 3 _ _ _ e0]; rfl
  clear e0 e1
  have HS12 := hide hb2.size
  have HB12 := hide hb2
  clear hb2 hr2 hD
  go_upto_region 22 with fail
  have hal : Below w2.heap.size w2 (w2.alloc (.cells #[.int .i64 x.cap, .slice A2 L'.length c2] 58)) := (Below.refl _ _).alloc (Nat.le_refl _) _
  have b3 : (w2.alloc (.cells #[.int .i64 x.cap, .slice A2 L'.length c2] 58)).heap[w2.heap.size]? = some (.cells #[.int .i64 x.cap, .slice A2 L'.length c2] 58 (0, 0)) := heap_alloc_new w2 _
  obtain ⟨w3, hw3⟩ : ∃ w3, w2.alloc (.cells #[.int .i64 x.cap, .slice A2 L'.length c2] 58) = w3 := ⟨_, rfl⟩
  obtain ⟨q, hq⟩ : ∃ q, w2.heap.size = q := ⟨_, rfl⟩
  rw [hw3] at hal b3
  rw [hq] at b3
  rw [hw3, hq]
  have e0 := (hal.block _ (Array.getElem?_eq_some_iff.1 HO2.out).1).trans HO2.out
  have e1 := (hal.block _ (Array.getElem?_eq_some_iff.1 HM2.out).1).trans HM2.out
  have HQ3 := hide (HQ2.out.past hal)
  have HBw3 := hide (HBw2.out.trans (hal.mono HBw2.out.size))
  have HR3 := hide (HR2.out.below hal)
  have HW3 := hide (HW2.out.kept (Mod.ofBelow hal (fun _ => False)) (fun _ _ _ h => h))
  have HO3 := hide e0
  have HM3 := hide e1
  clear o0 o2 o3 m0 m1
  obtain ⟨m0, m1, _, _⟩ := ref.box2 e1
  have o0 : w3.cell? ⟨p, 0, none⟩ = some (.int .i64 3) := by rw [cell_of_row w3 _ 0 _ _ _ e0]; rfl
  have o2 : w3.cell? ⟨p, 2, none⟩ = some (.int .i64 nn) := by rw [cell_of_row w3 _ 2 _ _ _ e0]; rfl
  have o3 : w3.cell? ⟨p, 3, none⟩ = some (.slice OA on oc) := by rw [cell_of_row w3 _ 3 _ _ _ e0]; rfl
  clear e0 e1
  have HN3 := hide (HN2.out.kept (Mod.ofBelow hal (fun _ => False)) (fun _ _ _ h => h))
  have HS23 := hide hal.size
  have HB13 := hide (HB12.out.trans (hal.mono HB12.out.size))
  have hsz3 : w3.heap.size = q + 1 := by rw [← hw3, ← hq]; simp
  obtain ⟨q0, q1, _, _⟩ := ref.box2 b3
  obtain ⟨_, g1, g2, _, f1, f2⟩ := HQ3.out.facts i hi
  clear hal b3 hw3
  have hS13 := hsz1
  have hbq : q ≠ b := by have := HS12.out; omega
  have hSd : w3.drew.cell? ⟨q, 0, none⟩ = some (.int .i64 x.cap) ∧ w3.drew.cell? ⟨q, 1, none⟩ = some (.slice A2 L'.length c2) := ⟨q0, q1⟩
  have hSs := far2 (i := 4 + i * 2) (j := 4 + i * 2 + 1) (u := .int .i64 x.cap) (v := .slice A2 L'.length c2) q0 q1 hbq
  go_region_held3 (fun w' => w'.cell? ⟨q, 0, none⟩ = some (.int .i64 x.cap) ∧ w'.cell? ⟨q, 1, none⟩ = some (.slice A2 L'.length c2)) (first | assumption | with_reducible exact ⟨q0, q1⟩) (first | fail)
  go_upto_region 23 with fail
  obtain ⟨h34, hc4⟩ := after_store HQ3.out hi HX.out x.cap L' A2 c2 x.F (fun k => w1.heap.size ≤ k ∧ k < w2.heap.size)
  obtain ⟨w4, hw4⟩ : ∃ w4, ((w3.setCell ⟨b, 4 + i * 2, none⟩ (.int .i64 x.cap)).setCell ⟨b, 4 + i * 2 + 1, none⟩ (.slice A2 L'.length c2)).drew = w4 := ⟨_, rfl⟩
  rw [hw4] at h34 hc4
  rw [hw4]
  clear hSd hSs g1 g2 f1 f2 q0 q1 hw4
  have hnf := HQ3.out.nf i hi
  rw [HX.out] at hnf
  have e0 := h34.heap HO3.out (fun e => by omega)
  have e1 := h34.heap HM3.out (fun e => by omega)
  have HR4 := hide (HR3.out.kept h34 (fun k hk e => hnf (e ▸ hk)))
  have HN4 := hide (HN3.out.kept h34 (fun k hk _ e => by have := hk.1; omega))
  have HH34 := hide h34
  have HC4 := hide hc4
  clear h34 hc4 hnf o0 o2 o3 m0 m1
  obtain ⟨m0, m1, _, _⟩ := ref.box2 e1
  have o0 : w4.cell? ⟨p, 0, none⟩ = some (.int .i64 3) := by rw [cell_of_row w4 _ 0 _ _ _ e0]; rfl
  have o2 : w4.cell? ⟨p, 2, none⟩ = some (.int .i64 nn) := by rw [cell_of_row w4 _ 2 _ _ _ e0]; rfl
  have o3 : w4.cell? ⟨p, 3, none⟩ = some (.slice OA on oc) := by rw [cell_of_row w4 _ 3 _ _ _ e0]; rfl
  clear e0 e1
  go_wp2_with fail
  refine (drop_n HR4.out nn kn HK.out).mono ?_
  rintro e w5 ⟨rfl, hr5, hm5⟩
  rw [HL.out] at hr5
  have HR5 := hide hr5
  have HM5 := hide hm5
  clear hr5 hm5
  go_wp2
  go_ret
  exact rw_post HBw.out hi HX.out (rw_end HQ1.out hi HX.out HB13.out HH34.out HC4.out HM5.out (HPt.out ▸ HR5.out) HN4.out (fun k hk => ⟨hk.1, by have := hk.2; omega⟩) (fun k hk => .inl hk))

set_option maxRecDepth 10000 in
set_option maxHeartbeats 2000000 in
theorem rwstep_4 (w0 w : World) (b : Nat) (P : Nat → Place) (h : RW w0 w b P) (at_ nn : Int) (OA : Option Addr) (on oc : Nat) (xs : List Int) (ho : Reads w0 1 (.slice OA on oc) on (ints xs)) (hnc : on ≤ oc) :
    Calls Tryd.prog 32 #[.pointer (some ⟨b, 0, none⟩), .agg #[.int .i64 4, .int .i64 at_, .int .i64 nn, .slice OA on oc]] w (RWPost w0 b P w) := by
  obtain ⟨i, hi, hie⟩ := place_of at_
  have HOp := hide ho
  have HNc := hide hnc
  clear ho hnc
  go_enter Tryd.func32, Tryd.ntmps32
  go_upto_region 2 with fail
  clear hie
  have hal : Below w.heap.size w (w.alloc (.cells #[.int .i64 4, .int .i64 at_, .int .i64 nn, .slice OA on oc] 43)) := (Below.refl _ _).alloc (Nat.le_refl _) _
  have b0 : (w.alloc (.cells #[.int .i64 4, .int .i64 at_, .int .i64 nn, .slice OA on oc] 43)).heap[w.heap.size]? = some (.cells #[.int .i64 4, .int .i64 at_, .int .i64 nn, .slice OA on oc] 43 (0, 0)) := heap_alloc_new w _
  have hsz : (w.alloc (.cells #[.int .i64 4, .int .i64 at_, .int .i64 nn, .slice OA on oc] 43)).heap.size = w.heap.size + 1 := by simp
  obtain ⟨wa, hwa⟩ : ∃ wa, w.alloc (.cells #[.int .i64 4, .int .i64 at_, .int .i64 nn, .slice OA on oc] 43) = wa := ⟨_, rfl⟩
  obtain ⟨p, hp⟩ : ∃ p, w.heap.size = p := ⟨_, rfl⟩
  rw [hwa] at hal b0 hsz
  rw [hwa]
  rw [hp] at b0 hsz
  rw [hp]
  have HQa := hide (h.past hal)
  have HBwa := hide hal
  have HB0 := hide b0
  have hbs : b < p := hp ▸ h.size
  obtain ⟨c0, c1, c2, _, _, _⟩ := HQa.out.facts i hi
  have hA := HQa.out.at_ i hi
  obtain ⟨x, hx⟩ : ∃ x, P i = x := ⟨_, rfl⟩
  obtain ⟨a, ha⟩ := hA.ring.ptr
  rw [hx] at hA ha c0 c1 c2
  have hfit := hA.ring.fits
  rw [ha] at c0
  have HX := hide hx
  have HPt := hide ha
  have HH := hide h
  clear hA hx ha h hal b0 hwa
  have hi4 : (i : Int) < (4 : Int) := by omega
  have hi0 : (0 : Int) ≤ (i : Int) := by omega
  have hSd : wa.drew.cell? ⟨b, i, none⟩ = some (.pointer a) ∧ wa.drew.cell? ⟨b, 4 + i * 2, none⟩ = some (.int .i64 x.cap) ∧ wa.drew.cell? ⟨b, 4 + i * 2 + 1, none⟩ = some (.slice x.A x.L.length x.c) := ⟨c0, c1, c2⟩
  have hSa : (wa.alloc (.cells #[.int .i64 0, .slice none 0 0] 58)).drew.cell? ⟨b, i, none⟩ = some (.pointer a) ∧ (wa.alloc (.cells #[.int .i64 0, .slice none 0 0] 58)).drew.cell? ⟨b, 4 + i * 2, none⟩ = some (.int .i64 x.cap) ∧ (wa.alloc (.cells #[.int .i64 0, .slice none 0 0] 58)).drew.cell? ⟨b, 4 + i * 2 + 1, none⟩ = some (.slice x.A x.L.length x.c) := ⟨ref.cellN c0, ref.cellN c1, ref.cellN c2⟩
  have hSc : (wa.alloc (.cells #[.int .i64 x.cap, .slice x.A x.L.length x.c] 58)).drew.cell? ⟨b, i, none⟩ = some (.pointer a) ∧ (wa.alloc (.cells #[.int .i64 x.cap, .slice x.A x.L.length x.c] 58)).drew.cell? ⟨b, 4 + i * 2, none⟩ = some (.int .i64 x.cap) ∧ (wa.alloc (.cells #[.int .i64 x.cap, .slice x.A x.L.length x.c] 58)).drew.cell? ⟨b, 4 + i * 2 + 1, none⟩ = some (.slice x.A x.L.length x.c) := ⟨ref.cellN c0, ref.cellN c1, ref.cellN c2⟩
  go_region_held3 (fun w' => w'.cell? ⟨b, i, none⟩ = some (.pointer a) ∧ w'.cell? ⟨b, 4 + i * 2, none⟩ = some (.int .i64 x.cap) ∧ w'.cell? ⟨b, 4 + i * 2 + 1, none⟩ = some (.slice x.A x.L.length x.c)) (first | assumption) (first | fail)
  go_upto_region 3 with fail
  have hal : Below wa.heap.size wa (wa.alloc (.cells #[.int .i64 x.cap, .slice x.A x.L.length x.c] 58)).drew := ((Below.refl _ _).alloc (Nat.le_refl _) _).drew
  have b1 : (wa.alloc (.cells #[.int .i64 x.cap, .slice x.A x.L.length x.c] 58)).drew.heap[wa.heap.size]? = some (.cells #[.int .i64 x.cap, .slice x.A x.L.length x.c] 58 (0, 0)) := heap_alloc_new wa _
  have hsz1 : (wa.alloc (.cells #[.int .i64 x.cap, .slice x.A x.L.length x.c] 58)).drew.heap.size = wa.heap.size + 1 := by simp
  obtain ⟨w1, hw1⟩ : ∃ w1, (wa.alloc (.cells #[.int .i64 x.cap, .slice x.A x.L.length x.c] 58)).drew = w1 := ⟨_, rfl⟩
  rw [hw1] at hal b1 hsz1
  rw [hsz] at b1 hsz1
  rw [hw1]
  clear hSd hSa hSc c0 c1 c2 hw1
  have HQ1 := hide (HQa.out.past hal)
  have HBw1 := hide (HBwa.out.trans (hal.mono HBwa.out.size))
  have HBw := HBw1
  have b0 := (hal.block _ (Array.getElem?_eq_some_iff.1 HB0.out).1).trans HB0.out
  have HO := hide b0
  have HM := hide b1
  have hA := HQ1.out.at_ i hi
  rw [HX.out] at hA
  have HRow := hide hA.row
  have hring := hA.ring
  rw [HPt.out] at hring
  have HRing := hide hring
  have HA := hide hA
  obtain ⟨m0, m1, _, _⟩ := ref.box2 b1
  have o0 : w1.cell? ⟨p, 0, none⟩ = some (.int .i64 4) := by rw [cell_of_row w1 _ 0 _ _ _ b0]; rfl
  have o2 : w1.cell? ⟨p, 2, none⟩ = some (.int .i64 nn) := by rw [cell_of_row w1 _ 2 _ _ _ b0]; rfl
  have o3 : w1.cell? ⟨p, 3, none⟩ = some (.slice OA on oc) := by rw [cell_of_row w1 _ 3 _ _ _ b0]; rfl
  clear hal b0 b1 hA hring HQa HB0
  have HO1 := HO
  have HM1 := HM
  have HR1 := HRing
  have HW1 := HRow
  obtain ⟨L', hL'⟩ : ∃ L', x.L.drop x.L.length = L' := ⟨_, rfl⟩
  have hlen : x.L.length - x.L.length = L'.length := by rw [← hL', List.length_drop]
  have hD := ref.drop_any w1 x.cap x.L.length x.A x.c x.L HW1.out.reads (row_le HW1.out) (x.L.length : Int) x.L.length (by omega) (by omega)
  rw [hlen, hL'] at hD
  rw [List.drop_length] at hL'
  have HL := hide hL'
  clear hL' hlen
  go_wp2_with fail
  refine hD.mono ?_
  rintro e w2 ⟨A2, c2, rfl, hr2, hb2⟩
  have HN2 := hide (row_made hr2)
  have e0 := (hb2.block _ (Array.getElem?_eq_some_iff.1 HO1.out).1).trans HO1.out
  have e1 := (hb2.block _ (Array.getElem?_eq_some_iff.1 HM1.out).1).trans HM1.out
  have HQ2 := hide (HQ1.out.past hb2)
  have HBw2 := hide (HBw1.out.trans (hb2.mono HBw1.out.size))
  have HR2 := hide (HR1.out.below hb2)
  have HW2 := hide (HW1.out.kept (Mod.ofBelow hb2 (fun _ => False)) (fun _ _ _ h => h))
  have HO2 := hide e0
  have HM2 := hide e1
  clear o0 o2 o3 m0 m1
  obtain ⟨m0, m1, _, _⟩ := ref.box2 e1
  have o0 : w2.cell? ⟨p, 0, none⟩ = some (.int .i64 4) := by rw [cell_of_row w2 _ 0 _ _ _ e0]; rfl
  have o2 : w2.cell? ⟨p, 2, none⟩ = some (.int .i64 nn) := by rw [cell_of_row w2 _ 2 _ _ _ e0]; rfl
  have o3 : w2.cell? ⟨p, 3, none⟩ = some (.slice OA on oc) := by rw [cell_of_row w2 _ 3 _ _ _ e0]; rfl
  clear e0 e1
  have HS12 := hide hb2.size
  have HB12 := hide hb2
  clear hb2 hr2 hD
  go_upto_region 26 with fail
  have hal : Below w2.heap.size w2 (w2.alloc (.cells #[.int .i64 x.cap, .slice A2 L'.length c2] 58)) := (Below.refl _ _).alloc (Nat.le_refl _) _
  have b3 : (w2.alloc (.cells #[.int .i64 x.cap, .slice A2 L'.length c2] 58)).heap[w2.heap.size]? = some (.cells #[.int .i64 x.cap, .slice A2 L'.length c2] 58 (0, 0)) := heap_alloc_new w2 _
  obtain ⟨w3, hw3⟩ : ∃ w3, w2.alloc (.cells #[.int .i64 x.cap, .slice A2 L'.length c2] 58) = w3 := ⟨_, rfl⟩
  obtain ⟨q, hq⟩ : ∃ q, w2.heap.size = q := ⟨_, rfl⟩
  rw [hw3] at hal b3
  rw [hq] at b3
  rw [hw3, hq]
  have e0 := (hal.block _ (Array.getElem?_eq_some_iff.1 HO2.out).1).trans HO2.out
  have e1 := (hal.block _ (Array.getElem?_eq_some_iff.1 HM2.out).1).trans HM2.out
  have HQ3 := hide (HQ2.out.past hal)
  have HBw3 := hide (HBw2.out.trans (hal.mono HBw2.out.size))
  have HR3 := hide (HR2.out.below hal)
  have HW3 := hide (HW2.out.kept (Mod.ofBelow hal (fun _ => False)) (fun _ _ _ h => h))
  have HO3 := hide e0
  have HM3 := hide e1
  clear o0 o2 o3 m0 m1
  obtain ⟨m0, m1, _, _⟩ := ref.box2 e1
  have o0 : w3.cell? ⟨p, 0, none⟩ = some (.int .i64 4) := by rw [cell_of_row w3 _ 0 _ _ _ e0]; rfl
  have o2 : w3.cell? ⟨p, 2, none⟩ = some (.int .i64 nn) := by rw [cell_of_row w3 _ 2 _ _ _ e0]; rfl
  have o3 : w3.cell? ⟨p, 3, none⟩ = some (.slice OA on oc) := by rw [cell_of_row w3 _ 3 _ _ _ e0]; rfl
  clear e0 e1
  have HN3 := hide (HN2.out.kept (Mod.ofBelow hal (fun _ => False)) (fun _ _ _ h => h))
  have HS23 := hide hal.size
  have HB13 := hide (HB12.out.trans (hal.mono HB12.out.size))
  have hsz3 : w3.heap.size = q + 1 := by rw [← hw3, ← hq]; simp
  obtain ⟨q0, q1, _, _⟩ := ref.box2 b3
  obtain ⟨_, g1, g2, _, f1, f2⟩ := HQ3.out.facts i hi
  clear hal b3 hw3
  have hS13 := hsz1
  have hbq : q ≠ b := by have := HS12.out; omega
  have hSd : w3.drew.cell? ⟨q, 0, none⟩ = some (.int .i64 x.cap) ∧ w3.drew.cell? ⟨q, 1, none⟩ = some (.slice A2 L'.length c2) := ⟨q0, q1⟩
  have hSs := far2 (i := 4 + i * 2) (j := 4 + i * 2 + 1) (u := .int .i64 x.cap) (v := .slice A2 L'.length c2) q0 q1 hbq
  go_region_held3 (fun w' => w'.cell? ⟨q, 0, none⟩ = some (.int .i64 x.cap) ∧ w'.cell? ⟨q, 1, none⟩ = some (.slice A2 L'.length c2)) (first | assumption | with_reducible exact ⟨q0, q1⟩) (first | fail)
  go_upto_region 27 with fail
  obtain ⟨h34, hc4⟩ := after_store HQ3.out hi HX.out x.cap L' A2 c2 x.F (fun k => w1.heap.size ≤ k ∧ k < w2.heap.size)
  obtain ⟨w4, hw4⟩ : ∃ w4, ((w3.setCell ⟨b, 4 + i * 2, none⟩ (.int .i64 x.cap)).setCell ⟨b, 4 + i * 2 + 1, none⟩ (.slice A2 L'.length c2)).drew = w4 := ⟨_, rfl⟩
  rw [hw4] at h34 hc4
  rw [hw4]
  clear hSd hSs g1 g2 f1 f2 q0 q1 hw4
  have hnf := HQ3.out.nf i hi
  rw [HX.out] at hnf
  have e0 := h34.heap HO3.out (fun e => by omega)
  have e1 := h34.heap HM3.out (fun e => by omega)
  have HR4 := hide (HR3.out.kept h34 (fun k hk e => hnf (e ▸ hk)))
  have HN4 := hide (HN3.out.kept h34 (fun k hk _ e => by have := hk.1; omega))
  have HH34 := hide h34
  have HC4 := hide hc4
  clear h34 hc4 hnf o0 o2 o3 m0 m1
  obtain ⟨m0, m1, _, _⟩ := ref.box2 e1
  have o0 : w4.cell? ⟨p, 0, none⟩ = some (.int .i64 4) := by rw [cell_of_row w4 _ 0 _ _ _ e0]; rfl
  have o2 : w4.cell? ⟨p, 2, none⟩ = some (.int .i64 nn) := by rw [cell_of_row w4 _ 2 _ _ _ e0]; rfl
  have o3 : w4.cell? ⟨p, 3, none⟩ = some (.slice OA on oc) := by rw [cell_of_row w4 _ 3 _ _ _ e0]; rfl
  clear e0 e1
  go_wp2_with fail
  refine (clear_n HR4.out).mono ?_
  rintro e w5 ⟨rfl, hr5, hm5⟩
  rw [HL.out] at hr5
  have HR5 := hide hr5
  have HM5 := hide hm5
  clear hr5 hm5
  go_wp2
  go_ret
  exact rw_post HBw.out hi HX.out (rw_end HQ1.out hi HX.out HB13.out HH34.out HC4.out HM5.out (HPt.out ▸ HR5.out) HN4.out (fun k hk => ⟨hk.1, by have := hk.2; omega⟩) (fun k hk => .inl hk))

set_option maxRecDepth 10000 in
set_option maxHeartbeats 2000000 in
theorem rwstep_1 (w0 w : World) (b : Nat) (P : Nat → Place) (h : RW w0 w b P) (at_ nn : Int) (OA : Option Addr) (on oc : Nat) (xs : List Int) (ho : Reads w0 1 (.slice OA on oc) on (ints xs)) (hnc : on ≤ oc) (hob : on ≤ 17592186044415) :
    Calls Tryd.prog 32 #[.pointer (some ⟨b, 0, none⟩), .agg #[.int .i64 1, .int .i64 at_, .int .i64 nn, .slice OA on oc]] w (RWPost w0 b P w) := by
  obtain ⟨i, hi, hie⟩ := place_of at_
  have HOp := hide ho
  have HNc := hide hnc
  clear ho hnc
  go_enter Tryd.func32, Tryd.ntmps32
  go_upto_region 2 with fail
  clear hie
  have hal : Below w.heap.size w (w.alloc (.cells #[.int .i64 1, .int .i64 at_, .int .i64 nn, .slice OA on oc] 43)) := (Below.refl _ _).alloc (Nat.le_refl _) _
  have b0 : (w.alloc (.cells #[.int .i64 1, .int .i64 at_, .int .i64 nn, .slice OA on oc] 43)).heap[w.heap.size]? = some (.cells #[.int .i64 1, .int .i64 at_, .int .i64 nn, .slice OA on oc] 43 (0, 0)) := heap_alloc_new w _
  have hsz : (w.alloc (.cells #[.int .i64 1, .int .i64 at_, .int .i64 nn, .slice OA on oc] 43)).heap.size = w.heap.size + 1 := by simp
  obtain ⟨wa, hwa⟩ : ∃ wa, w.alloc (.cells #[.int .i64 1, .int .i64 at_, .int .i64 nn, .slice OA on oc] 43) = wa := ⟨_, rfl⟩
  obtain ⟨p, hp⟩ : ∃ p, w.heap.size = p := ⟨_, rfl⟩
  rw [hwa] at hal b0 hsz
  rw [hwa]
  rw [hp] at b0 hsz
  rw [hp]
  have HQa := hide (h.past hal)
  have HBwa := hide hal
  have HB0 := hide b0
  have hbs : b < p := hp ▸ h.size
  obtain ⟨c0, c1, c2, _, _, _⟩ := HQa.out.facts i hi
  have hA := HQa.out.at_ i hi
  obtain ⟨x, hx⟩ : ∃ x, P i = x := ⟨_, rfl⟩
  obtain ⟨a, ha⟩ := hA.ring.ptr
  rw [hx] at hA ha c0 c1 c2
  have hfit := hA.ring.fits
  rw [ha] at c0
  have HX := hide hx
  have HPt := hide ha
  have HH := hide h
  clear hA hx ha h hal b0 hwa
  have hi4 : (i : Int) < (4 : Int) := by omega
  have hi0 : (0 : Int) ≤ (i : Int) := by omega
  have hSd : wa.drew.cell? ⟨b, i, none⟩ = some (.pointer a) ∧ wa.drew.cell? ⟨b, 4 + i * 2, none⟩ = some (.int .i64 x.cap) ∧ wa.drew.cell? ⟨b, 4 + i * 2 + 1, none⟩ = some (.slice x.A x.L.length x.c) := ⟨c0, c1, c2⟩
  have hSa : (wa.alloc (.cells #[.int .i64 0, .slice none 0 0] 58)).drew.cell? ⟨b, i, none⟩ = some (.pointer a) ∧ (wa.alloc (.cells #[.int .i64 0, .slice none 0 0] 58)).drew.cell? ⟨b, 4 + i * 2, none⟩ = some (.int .i64 x.cap) ∧ (wa.alloc (.cells #[.int .i64 0, .slice none 0 0] 58)).drew.cell? ⟨b, 4 + i * 2 + 1, none⟩ = some (.slice x.A x.L.length x.c) := ⟨ref.cellN c0, ref.cellN c1, ref.cellN c2⟩
  have hSc : (wa.alloc (.cells #[.int .i64 x.cap, .slice x.A x.L.length x.c] 58)).drew.cell? ⟨b, i, none⟩ = some (.pointer a) ∧ (wa.alloc (.cells #[.int .i64 x.cap, .slice x.A x.L.length x.c] 58)).drew.cell? ⟨b, 4 + i * 2, none⟩ = some (.int .i64 x.cap) ∧ (wa.alloc (.cells #[.int .i64 x.cap, .slice x.A x.L.length x.c] 58)).drew.cell? ⟨b, 4 + i * 2 + 1, none⟩ = some (.slice x.A x.L.length x.c) := ⟨ref.cellN c0, ref.cellN c1, ref.cellN c2⟩
  go_region_held3 (fun w' => w'.cell? ⟨b, i, none⟩ = some (.pointer a) ∧ w'.cell? ⟨b, 4 + i * 2, none⟩ = some (.int .i64 x.cap) ∧ w'.cell? ⟨b, 4 + i * 2 + 1, none⟩ = some (.slice x.A x.L.length x.c)) (first | assumption) (first | fail)
  go_upto_region 3 with fail
  have hal : Below wa.heap.size wa (wa.alloc (.cells #[.int .i64 x.cap, .slice x.A x.L.length x.c] 58)).drew := ((Below.refl _ _).alloc (Nat.le_refl _) _).drew
  have b1 : (wa.alloc (.cells #[.int .i64 x.cap, .slice x.A x.L.length x.c] 58)).drew.heap[wa.heap.size]? = some (.cells #[.int .i64 x.cap, .slice x.A x.L.length x.c] 58 (0, 0)) := heap_alloc_new wa _
  have hsz1 : (wa.alloc (.cells #[.int .i64 x.cap, .slice x.A x.L.length x.c] 58)).drew.heap.size = wa.heap.size + 1 := by simp
  obtain ⟨w1, hw1⟩ : ∃ w1, (wa.alloc (.cells #[.int .i64 x.cap, .slice x.A x.L.length x.c] 58)).drew = w1 := ⟨_, rfl⟩
  rw [hw1] at hal b1 hsz1
  rw [hsz] at b1 hsz1
  rw [hw1]
  clear hSd hSa hSc c0 c1 c2 hw1
  have HQ1 := hide (HQa.out.past hal)
  have HBw1 := hide (HBwa.out.trans (hal.mono HBwa.out.size))
  have HBw := HBw1
  have b0 := (hal.block _ (Array.getElem?_eq_some_iff.1 HB0.out).1).trans HB0.out
  have HO := hide b0
  have HM := hide b1
  have hA := HQ1.out.at_ i hi
  rw [HX.out] at hA
  have HRow := hide hA.row
  have hring := hA.ring
  rw [HPt.out] at hring
  have HRing := hide hring
  have HA := hide hA
  obtain ⟨m0, m1, _, _⟩ := ref.box2 b1
  have o0 : w1.cell? ⟨p, 0, none⟩ = some (.int .i64 1) := by rw [cell_of_row w1 _ 0 _ _ _ b0]; rfl
  have o2 : w1.cell? ⟨p, 2, none⟩ = some (.int .i64 nn) := by rw [cell_of_row w1 _ 2 _ _ _ b0]; rfl
  have o3 : w1.cell? ⟨p, 3, none⟩ = some (.slice OA on oc) := by rw [cell_of_row w1 _ 3 _ _ _ b0]; rfl
  clear hal b0 b1 hA hring HQa HB0
  have HO1 := HO
  have HM1 := HM
  have HR1 := HRing
  have HW1 := HRow
  have hO := Reads.below HOp.out HQ1.out.below
  obtain ⟨kn, hkn⟩ : ∃ kn, min on (x.cap - x.L.length) = kn := ⟨_, rfl⟩
  obtain ⟨L', hL'⟩ : ∃ L', x.L ++ xs.take kn = L' := ⟨_, rfl⟩
  have hxl := hO.1
  rw [ints_length, Nat.mul_one] at hxl
  have hlen : x.L.length + kn = L'.length := by rw [← hL', List.length_append, List.length_take]; omega
  have hD := ref.push_any w1 x.cap x.L.length x.A x.c x.L HW1.out.reads OA on oc xs hO HNc.out hfit.1 hfit.2 kn hkn
  rw [hlen, hL'] at hD
  have HL := hide hL'
  have HK := hide hkn
  clear hkn hL' hlen hO hxl
  go_wp2_with fail
  refine hD.mono ?_
  rintro e w2 ⟨A2, c2, rfl, hr2, hb2⟩
  have HN2 := hide (row_made hr2)
  have e0 := (hb2.block _ (Array.getElem?_eq_some_iff.1 HO1.out).1).trans HO1.out
  have e1 := (hb2.block _ (Array.getElem?_eq_some_iff.1 HM1.out).1).trans HM1.out
  have HQ2 := hide (HQ1.out.past hb2)
  have HBw2 := hide (HBw1.out.trans (hb2.mono HBw1.out.size))
  have HR2 := hide (HR1.out.below hb2)
  have HW2 := hide (HW1.out.kept (Mod.ofBelow hb2 (fun _ => False)) (fun _ _ _ h => h))
  have HO2 := hide e0
  have HM2 := hide e1
  clear o0 o2 o3 m0 m1
  obtain ⟨m0, m1, _, _⟩ := ref.box2 e1
  have o0 : w2.cell? ⟨p, 0, none⟩ = some (.int .i64 1) := by rw [cell_of_row w2 _ 0 _ _ _ e0]; rfl
  have o2 : w2.cell? ⟨p, 2, none⟩ = some (.int .i64 nn) := by rw [cell_of_row w2 _ 2 _ _ _ e0]; rfl
  have o3 : w2.cell? ⟨p, 3, none⟩ = some (.slice OA on oc) := by rw [cell_of_row w2 _ 3 _ _ _ e0]; rfl
  clear e0 e1
  have HS12 := hide hb2.size
  have HB12 := hide hb2
  clear hb2 hr2 hD
  go_upto_region 14 with fail
  have hal : Below w2.heap.size w2 (w2.alloc (.cells #[.int .i64 x.cap, .slice A2 L'.length c2] 58)) := (Below.refl _ _).alloc (Nat.le_refl _) _
  have b3 : (w2.alloc (.cells #[.int .i64 x.cap, .slice A2 L'.length c2] 58)).heap[w2.heap.size]? = some (.cells #[.int .i64 x.cap, .slice A2 L'.length c2] 58 (0, 0)) := heap_alloc_new w2 _
  obtain ⟨w3, hw3⟩ : ∃ w3, w2.alloc (.cells #[.int .i64 x.cap, .slice A2 L'.length c2] 58) = w3 := ⟨_, rfl⟩
  obtain ⟨q, hq⟩ : ∃ q, w2.heap.size = q := ⟨_, rfl⟩
  rw [hw3] at hal b3
  rw [hq] at b3
  rw [hw3, hq]
  have e0 := (hal.block _ (Array.getElem?_eq_some_iff.1 HO2.out).1).trans HO2.out
  have e1 := (hal.block _ (Array.getElem?_eq_some_iff.1 HM2.out).1).trans HM2.out
  have HQ3 := hide (HQ2.out.past hal)
  have HBw3 := hide (HBw2.out.trans (hal.mono HBw2.out.size))
  have HR3 := hide (HR2.out.below hal)
  have HW3 := hide (HW2.out.kept (Mod.ofBelow hal (fun _ => False)) (fun _ _ _ h => h))
  have HO3 := hide e0
  have HM3 := hide e1
  clear o0 o2 o3 m0 m1
  obtain ⟨m0, m1, _, _⟩ := ref.box2 e1
  have o0 : w3.cell? ⟨p, 0, none⟩ = some (.int .i64 1) := by rw [cell_of_row w3 _ 0 _ _ _ e0]; rfl
  have o2 : w3.cell? ⟨p, 2, none⟩ = some (.int .i64 nn) := by rw [cell_of_row w3 _ 2 _ _ _ e0]; rfl
  have o3 : w3.cell? ⟨p, 3, none⟩ = some (.slice OA on oc) := by rw [cell_of_row w3 _ 3 _ _ _ e0]; rfl
  clear e0 e1
  have HN3 := hide (HN2.out.kept (Mod.ofBelow hal (fun _ => False)) (fun _ _ _ h => h))
  have HS23 := hide hal.size
  have HB13 := hide (HB12.out.trans (hal.mono HB12.out.size))
  have hsz3 : w3.heap.size = q + 1 := by rw [← hw3, ← hq]; simp
  obtain ⟨q0, q1, _, _⟩ := ref.box2 b3
  obtain ⟨_, g1, g2, _, f1, f2⟩ := HQ3.out.facts i hi
  clear hal b3 hw3
  have hS13 := hsz1
  have hbq : q ≠ b := by have := HS12.out; omega
  have hSd : w3.drew.cell? ⟨q, 0, none⟩ = some (.int .i64 x.cap) ∧ w3.drew.cell? ⟨q, 1, none⟩ = some (.slice A2 L'.length c2) := ⟨q0, q1⟩
  have hSs := far2 (i := 4 + i * 2) (j := 4 + i * 2 + 1) (u := .int .i64 x.cap) (v := .slice A2 L'.length c2) q0 q1 hbq
  go_region_held3 (fun w' => w'.cell? ⟨q, 0, none⟩ = some (.int .i64 x.cap) ∧ w'.cell? ⟨q, 1, none⟩ = some (.slice A2 L'.length c2)) (first | assumption | with_reducible exact ⟨q0, q1⟩) (first | fail)
  go_upto_region 15 with fail
  obtain ⟨h34, hc4⟩ := after_store HQ3.out hi HX.out x.cap L' A2 c2 x.F (fun k => w1.heap.size ≤ k ∧ k < w2.heap.size)
  obtain ⟨w4, hw4⟩ : ∃ w4, ((w3.setCell ⟨b, 4 + i * 2, none⟩ (.int .i64 x.cap)).setCell ⟨b, 4 + i * 2 + 1, none⟩ (.slice A2 L'.length c2)).drew = w4 := ⟨_, rfl⟩
  rw [hw4] at h34 hc4
  rw [hw4]
  clear hSd hSs g1 g2 f1 f2 q0 q1 hw4
  have hnf := HQ3.out.nf i hi
  rw [HX.out] at hnf
  have e0 := h34.heap HO3.out (fun e => by omega)
  have e1 := h34.heap HM3.out (fun e => by omega)
  have HR4 := hide (HR3.out.kept h34 (fun k hk e => hnf (e ▸ hk)))
  have HN4 := hide (HN3.out.kept h34 (fun k hk _ e => by have := hk.1; omega))
  have HH34 := hide h34
  have HC4 := hide hc4
  clear h34 hc4 hnf o0 o2 o3 m0 m1
  obtain ⟨m0, m1, _, _⟩ := ref.box2 e1
  have o0 : w4.cell? ⟨p, 0, none⟩ = some (.int .i64 1) := by rw [cell_of_row w4 _ 0 _ _ _ e0]; rfl
  have o2 : w4.cell? ⟨p, 2, none⟩ = some (.int .i64 nn) := by rw [cell_of_row w4 _ 2 _ _ _ e0]; rfl
  have o3 : w4.cell? ⟨p, 3, none⟩ = some (.slice OA on oc) := by rw [cell_of_row w4 _ 3 _ _ _ e0]; rfl
  clear e0 e1
  obtain ⟨i0, hi0, hz0, hz1, hz2⟩ := info_parts ref.info_i
  have hlow4 : Below w0.heap.size w0 w4 := (HQ3.out.below).trans (HH34.out.below HQ3.out.below.size (fun k e => by have := HQ3.out.low; omega))
  have hal : Below w4.heap.size w4 (w4.alloc (.cells #[] 3)) := (Below.refl _ _).alloc (Nat.le_refl _) _
  have o35 := ref.cellN (o := .cells #[] 3) o3
  have HR5 := hide (HR4.out.below hal)
  have HX5 := hide (Reads.below HOp.out (hlow4.trans (hal.mono hlow4.size)))
  have HM45 := hide (Mod.ofBelow hal (fun _ => False))
  have hsz5 : (w4.alloc (.cells #[] 3)).heap.size = w4.heap.size + 1 := by simp
  have HLt := hide HR4.out.lt
  clear hal hlow4 o3
  go_wp2_with (first
    | (at_builtin; refine wpList_append_row rfl _ _ 38 rfl 3 i0 (.int .i64 0) 1 8 Tryd.underlying38 hi0 hz0 hz1 hz2 rfl (by decide) rfl (Row.empty _ (fun _ => False) 3 1 _) rfl HX5.out (ints_one _) (by unfold maxLen; omega) (by omega) ?_
       intro A4 c4 w6 hr6 hm6
       rw [Nat.zero_add, List.nil_append] at hr6
       rw [Nat.zero_add]
       have HR6 := hide (HR5.out.kept hm6 (fun _ _ h => h))
       have HX6 := hide (rdOut_row hr6 (fun k hk e => by rcases e with e | e; exact e; have := HLt.out k hk; omega))
       have hle6 := row_le hr6
       have HM46 := hide (HM45.out.trans hm6 (fun _ _ h => h))
       clear hr6 hm6))
  refine (push_n HR6.out HX6.out hle6 kn HK.out).mono ?_
  rintro e w7 ⟨rfl, hr7, hm7⟩
  rw [HL.out] at hr7
  have HR7 := hide hr7
  have HM7 := hide hm7
  clear hr7 hm7
  go_wp2
  go_ret
  have hs46 := HM46.out.size
  exact rw_post HBw.out hi HX.out (rw_end HQ1.out hi HX.out HB13.out HH34.out HC4.out ((HM46.out.mono (fun _ _ h => h.elim)).trans HM7.out (fun _ _ h => h)) (HPt.out ▸ HR7.out) HN4.out (fun k hk => ⟨hk.1, by have := hk.2; omega⟩) (fun k hk => hk.imp id (fun h => Nat.le_trans hs46 h.1)))

set_option maxRecDepth 10000 in
set_option maxHeartbeats 2000000 in
theorem rwstep_2 (w0 w : World) (b : Nat) (P : Nat → Place) (h : RW w0 w b P) (at_ nn : Int) (OA : Option Addr) (on oc : Nat) (xs : List Int) (ho : Reads w0 1 (.slice OA on oc) on (ints xs)) (hnc : on ≤ oc) :
    Calls Tryd.prog 32 #[.pointer (some ⟨b, 0, none⟩), .agg #[.int .i64 2, .int .i64 at_, .int .i64 nn, .slice OA on oc]] w (RWPost w0 b P w) := by
  obtain ⟨i, hi, hie⟩ := place_of at_
  have HOp := hide ho
  have HNc := hide hnc
  clear ho hnc
  go_enter Tryd.func32, Tryd.ntmps32
  go_upto_region 2 with fail
  clear hie
  have hal : Below w.heap.size w (w.alloc (.cells #[.int .i64 2, .int .i64 at_, .int .i64 nn, .slice OA on oc] 43)) := (Below.refl _ _).alloc (Nat.le_refl _) _
  have b0 : (w.alloc (.cells #[.int .i64 2, .int .i64 at_, .int .i64 nn, .slice OA on oc] 43)).heap[w.heap.size]? = some (.cells #[.int .i64 2, .int .i64 at_, .int .i64 nn, .slice OA on oc] 43 (0, 0)) := heap_alloc_new w _
  have hsz : (w.alloc (.cells #[.int .i64 2, .int .i64 at_, .int .i64 nn, .slice OA on oc] 43)).heap.size = w.heap.size + 1 := by simp
  obtain ⟨wa, hwa⟩ : ∃ wa, w.alloc (.cells #[.int .i64 2, .int .i64 at_, .int .i64 nn, .slice OA on oc] 43) = wa := ⟨_, rfl⟩
  obtain ⟨p, hp⟩ : ∃ p, w.heap.size = p := ⟨_, rfl⟩
  rw [hwa] at hal b0 hsz
  rw [hwa]
  rw [hp] at b0 hsz
  rw [hp]
  have HQa := hide (h.past hal)
  have HBwa := hide hal
  have HB0 := hide b0
  have hbs : b < p := hp ▸ h.size
  obtain ⟨c0, c1, c2, _, _, _⟩ := HQa.out.facts i hi
  have hA := HQa.out.at_ i hi
  obtain ⟨x, hx⟩ : ∃ x, P i = x := ⟨_, rfl⟩
  obtain ⟨a, ha⟩ := hA.ring.ptr
  rw [hx] at hA ha c0 c1 c2
  have hfit := hA.ring.fits
  rw [ha] at c0
  have HX := hide hx
  have HPt := hide ha
  have HH := hide h
  clear hA hx ha h hal b0 hwa
  have hi4 : (i : Int) < (4 : Int) := by omega
  have hi0 : (0 : Int) ≤ (i : Int) := by omega
  have hSd : wa.drew.cell? ⟨b, i, none⟩ = some (.pointer a) ∧ wa.drew.cell? ⟨b, 4 + i * 2, none⟩ = some (.int .i64 x.cap) ∧ wa.drew.cell? ⟨b, 4 + i * 2 + 1, none⟩ = some (.slice x.A x.L.length x.c) := ⟨c0, c1, c2⟩
  have hSa : (wa.alloc (.cells #[.int .i64 0, .slice none 0 0] 58)).drew.cell? ⟨b, i, none⟩ = some (.pointer a) ∧ (wa.alloc (.cells #[.int .i64 0, .slice none 0 0] 58)).drew.cell? ⟨b, 4 + i * 2, none⟩ = some (.int .i64 x.cap) ∧ (wa.alloc (.cells #[.int .i64 0, .slice none 0 0] 58)).drew.cell? ⟨b, 4 + i * 2 + 1, none⟩ = some (.slice x.A x.L.length x.c) := ⟨ref.cellN c0, ref.cellN c1, ref.cellN c2⟩
  have hSc : (wa.alloc (.cells #[.int .i64 x.cap, .slice x.A x.L.length x.c] 58)).drew.cell? ⟨b, i, none⟩ = some (.pointer a) ∧ (wa.alloc (.cells #[.int .i64 x.cap, .slice x.A x.L.length x.c] 58)).drew.cell? ⟨b, 4 + i * 2, none⟩ = some (.int .i64 x.cap) ∧ (wa.alloc (.cells #[.int .i64 x.cap, .slice x.A x.L.length x.c] 58)).drew.cell? ⟨b, 4 + i * 2 + 1, none⟩ = some (.slice x.A x.L.length x.c) := ⟨ref.cellN c0, ref.cellN c1, ref.cellN c2⟩
  go_region_held3 (fun w' => w'.cell? ⟨b, i, none⟩ = some (.pointer a) ∧ w'.cell? ⟨b, 4 + i * 2, none⟩ = some (.int .i64 x.cap) ∧ w'.cell? ⟨b, 4 + i * 2 + 1, none⟩ = some (.slice x.A x.L.length x.c)) (first | assumption) (first | fail)
  go_upto_region 3 with fail
  have hal : Below wa.heap.size wa (wa.alloc (.cells #[.int .i64 x.cap, .slice x.A x.L.length x.c] 58)).drew := ((Below.refl _ _).alloc (Nat.le_refl _) _).drew
  have b1 : (wa.alloc (.cells #[.int .i64 x.cap, .slice x.A x.L.length x.c] 58)).drew.heap[wa.heap.size]? = some (.cells #[.int .i64 x.cap, .slice x.A x.L.length x.c] 58 (0, 0)) := heap_alloc_new wa _
  have hsz1 : (wa.alloc (.cells #[.int .i64 x.cap, .slice x.A x.L.length x.c] 58)).drew.heap.size = wa.heap.size + 1 := by simp
  obtain ⟨w1, hw1⟩ : ∃ w1, (wa.alloc (.cells #[.int .i64 x.cap, .slice x.A x.L.length x.c] 58)).drew = w1 := ⟨_, rfl⟩
  rw [hw1] at hal b1 hsz1
  rw [hsz] at b1 hsz1
  rw [hw1]
  clear hSd hSa hSc c0 c1 c2 hw1
  have HQ1 := hide (HQa.out.past hal)
  have HBw1 := hide (HBwa.out.trans (hal.mono HBwa.out.size))
  have HBw := HBw1
  have b0 := (hal.block _ (Array.getElem?_eq_some_iff.1 HB0.out).1).trans HB0.out
  have HO := hide b0
  have HM := hide b1
  have hA := HQ1.out.at_ i hi
  rw [HX.out] at hA
  have HRow := hide hA.row
  have hring := hA.ring
  rw [HPt.out] at hring
  have HRing := hide hring
  have HA := hide hA
  obtain ⟨m0, m1, _, _⟩ := ref.box2 b1
  have o0 : w1.cell? ⟨p, 0, none⟩ = some (.int .i64 2) := by rw [cell_of_row w1 _ 0 _ _ _ b0]; rfl
  have o2 : w1.cell? ⟨p, 2, none⟩ = some (.int .i64 nn) := by rw [cell_of_row w1 _ 2 _ _ _ b0]; rfl
  have o3 : w1.cell? ⟨p, 3, none⟩ = some (.slice OA on oc) := by rw [cell_of_row w1 _ 3 _ _ _ b0]; rfl
  clear hal b0 b1 hA hring HQa HB0
  have HO1 := HO
  have HM1 := HM
  have HR1 := HRing
  have HW1 := HRow
  obtain ⟨kn, hkn⟩ : ∃ kn, min nn.toNat x.L.length = kn := ⟨_, rfl⟩
  obtain ⟨L', hL'⟩ : ∃ L', x.L.drop kn = L' := ⟨_, rfl⟩
  have hlen : x.L.length - kn = L'.length := by rw [← hL', List.length_drop]
  have HL := hide hL'
  have HLen := hide hlen
  have HK := hide hkn
  clear hkn hL' hlen
  go_wp2_with fail
  refine (ref.peek_any w1 x.cap x.L.length x.A x.c x.L HW1.out.reads (row_le HW1.out) nn kn HK.out (by omega)).mono ?_
  rintro e w2 ⟨A5, c5, rfl, hr5, hb2⟩
  have HV2 := hide (row_made hr5)
  have e0 := (hb2.block _ (Array.getElem?_eq_some_iff.1 HO1.out).1).trans HO1.out
  have e1 := (hb2.block _ (Array.getElem?_eq_some_iff.1 HM1.out).1).trans HM1.out
  have HQ2 := hide (HQ1.out.past hb2)
  have HBw2 := hide (HBw1.out.trans (hb2.mono HBw1.out.size))
  have HR2 := hide (HR1.out.below hb2)
  have HW2 := hide (HW1.out.kept (Mod.ofBelow hb2 (fun _ => False)) (fun _ _ _ h => h))
  have HO2 := hide e0
  have HM2 := hide e1
  clear o0 o2 o3 m0 m1
  obtain ⟨m0, m1, _, _⟩ := ref.box2 e1
  have o0 : w2.cell? ⟨p, 0, none⟩ = some (.int .i64 2) := by rw [cell_of_row w2 _ 0 _ _ _ e0]; rfl
  have o2 : w2.cell? ⟨p, 2, none⟩ = some (.int .i64 nn) := by rw [cell_of_row w2 _ 2 _ _ _ e0]; rfl
  have o3 : w2.cell? ⟨p, 3, none⟩ = some (.slice OA on oc) := by rw [cell_of_row w2 _ 3 _ _ _ e0]; rfl
  clear e0 e1
  have HS12 := hide hb2.size
  have HB12 := hide hb2
  clear hb2 hr5
  go_upto_region 18 with fail
  have hbd : Below w2.heap.size w2 w2.drew := (Below.refl _ w2).drew
  have HBd := hide (HB12.out.trans (hbd.mono HB12.out.size))
  have HQd := hide (HQ2.out.past hbd)
  have HBwd := hide (HBw2.out.trans (hbd.mono HBw2.out.size))
  have HRd := hide (HR2.out.below hbd)
  have HWd := hide (HW2.out.kept (Mod.ofBelow hbd (fun _ => False)) (fun _ _ _ h => h))
  have HVd := hide (HV2.out.kept (Mod.ofBelow hbd (fun _ => False)) (fun _ _ _ h => h))
  have HOd : Hid (w2.drew.heap[p]? = some (.cells #[.int .i64 2, .int .i64 at_, .int .i64 nn, .slice OA on oc] 43 (0, 0))) := hide HO2.out
  have HMd : Hid (w2.drew.heap[p + 1]? = some (.cells #[.int .i64 x.cap, .slice x.A x.L.length x.c] 58 (0, 0))) := hide HM2.out
  have hD := ref.drop_any w2.drew x.cap x.L.length x.A x.c x.L HWd.out.reads (row_le HWd.out) nn kn HK.out (by omega)
  rw [HLen.out, HL.out] at hD
  have HD := hide hD
  have hbp : p ≠ b := by omega
  have hbp1 : p + 1 ≠ b := by omega
  clear hD hbd
  have hSd : w2.drew.cell? ⟨p + 1, 0, none⟩ = some (.int .i64 x.cap) ∧ w2.drew.cell? ⟨p + 1, 1, none⟩ = some (.slice x.A x.L.length x.c) ∧ w2.drew.cell? ⟨p, 2, none⟩ = some (.int .i64 nn) := ⟨m0, m1, o2⟩
  go_region_held3 (fun w' => w'.cell? ⟨p + 1, 0, none⟩ = some (.int .i64 x.cap) ∧ w'.cell? ⟨p + 1, 1, none⟩ = some (.slice x.A x.L.length x.c) ∧ w'.cell? ⟨p, 2, none⟩ = some (.int .i64 nn)) (first | assumption | with_reducible exact ⟨m0, m1, o2⟩) (first
    | (go_at_call 36; refine HD.out.mono ?_
       rintro e w3 ⟨A2, c2, rfl, hr2, hb3⟩
       have HN3 := hide (row_made hr2)
       have HS23 := hide hb3.size
       have HB13 := hide (HBd.out.trans (hb3.mono HBd.out.size))
       have HV3 := hide (HVd.out.kept (Mod.ofBelow hb3 (fun _ => False)) (fun _ _ _ h => h))
       have e0 := (hb3.block _ (Array.getElem?_eq_some_iff.1 HOd.out).1).trans HOd.out
       have e1 := (hb3.block _ (Array.getElem?_eq_some_iff.1 HMd.out).1).trans HMd.out
       have HQ3 := hide (HQd.out.past hb3)
       have HBw3 := hide (HBwd.out.trans (hb3.mono HBwd.out.size))
       have HR3 := hide (HRd.out.below hb3)
       have HW3 := hide (HWd.out.kept (Mod.ofBelow hb3 (fun _ => False)) (fun _ _ _ h => h))
       have HO3 := hide e0
       have HM3 := hide e1
       clear o0 o2 o3 m0 m1
       obtain ⟨m0, m1, _, _⟩ := ref.box2 e1
       have o0 : w3.cell? ⟨p, 0, none⟩ = some (.int .i64 2) := by rw [cell_of_row w3 _ 0 _ _ _ e0]; rfl
       have o2 : w3.cell? ⟨p, 2, none⟩ = some (.int .i64 nn) := by rw [cell_of_row w3 _ 2 _ _ _ e0]; rfl
       have o3 : w3.cell? ⟨p, 3, none⟩ = some (.slice OA on oc) := by rw [cell_of_row w3 _ 3 _ _ _ e0]; rfl
       clear e0 e1
       obtain ⟨_, g1, g2, _, f1, f2⟩ := HQ3.out.facts i hi
       have hSs := far3c (i := 4 + i * 2) (j := 4 + i * 2 + 1) (u := .int .i64 x.cap) (v := .slice A2 L'.length c2) m0 m1 o2 hbp1 hbp
       clear hb3 hr2))
  go_upto_region 19 with fail
  obtain ⟨h34, hc4⟩ := after_store2 HQ3.out hi HX.out x.cap L' A2 c2 x.F (fun k => w2.drew.heap.size ≤ k ∧ k < w3.heap.size)
  obtain ⟨w4, hw4⟩ : ∃ w4, ((w3.setCell ⟨b, 4 + i * 2, none⟩ (.int .i64 x.cap)).setCell ⟨b, 4 + i * 2 + 1, none⟩ (.slice A2 L'.length c2)) = w4 := ⟨_, rfl⟩
  rw [hw4] at h34 hc4
  rw [hw4]
  clear hSd hSs g1 g2 f1 f2 hw4
  have hnf := HQ3.out.nf i hi
  rw [HX.out] at hnf
  have e0 := h34.heap HO3.out (fun e => by omega)
  have HR4 := hide (HR3.out.kept h34 (fun k hk e => hnf (e ▸ hk)))
  have hge : ∀ k, w2.drew.heap.size ≤ k → k ≠ b := fun k (hk : w2.heap.size ≤ k) e => by have := HS12.out; omega
  have HN4 := hide (HN3.out.kept h34 (fun k hk _ e => hge k hk.1 e))
  have HV4 := hide (HV3.out.kept h34 (fun k hk _ e => by have := hk.1; omega))
  have HH34 := hide h34
  have HC4 := hide hc4
  have HLt := hide HR4.out.lt
  have HLt1 := hide HR1.out.lt
  clear h34 hc4 hnf o0 o2 o3 m0 m1
  have o2 : w4.cell? ⟨p, 2, none⟩ = some (.int .i64 nn) := by rw [cell_of_row w4 _ 2 _ _ _ e0]; rfl
  clear e0
  go_wp2_with fail
  refine (pop_n HR4.out nn kn HK.out).mono ?_
  rintro e w5 ⟨A6, c6, rfl, hr6, hr5, hm5⟩
  rw [HL.out] at hr5
  have HR5 := hide hr5
  have HM5 := hide hm5
  have HP5 := hide hr6.reads
  have HV5 := hide (HV4.out.kept hm5 (fun k hk _ hf => by have := HLt1.out k hf; have := hk.1; omega)).reads
  clear hr5 hm5 hr6
  go_wp2_with fail
  refine (same_any _ _ _ kn (x.L.take kn) HP5.out HV5.out).mono ?_
  rintro e w6 ⟨rfl, hd6⟩
  have HR6 := hide (HR5.out.below hd6.below)
  have HM6 := hide (HM5.out.trans (Mod.ofBelow hd6.below x.F) (fun _ _ h => h))
  clear hd6
  go_wp2
  go_ret
  have hs12 := HS12.out
  exact rw_post HBw.out hi HX.out (rw_end HQ1.out hi HX.out HB13.out HH34.out HC4.out HM6.out (HPt.out ▸ HR6.out) HN4.out (fun k hk => ⟨Nat.le_trans hs12 hk.1, hk.2⟩) (fun k hk => .inl hk))

set_option maxRecDepth 10000 in
set_option maxHeartbeats 2000000 in
theorem rwstep_0a (w0 w : World) (b : Nat) (P : Nat → Place) (h : RW w0 w b P) (at_ nn : Int) (OA : Option Addr) (on oc : Nat) (xs : List Int) (ho : Reads w0 1 (.slice OA on oc) on (ints xs)) (hnc : on ≤ oc) (adr : Nat → Addr) (hS : errs.Sent w0 adr) (hbad : nn < 0 ∨ 2147483647 < nn) :
    Calls Tryd.prog 32 #[.pointer (some ⟨b, 0, none⟩), .agg #[.int .i64 0, .int .i64 at_, .int .i64 nn, .slice OA on oc]] w (RWPost w0 b P w) := by
  obtain ⟨i, hi, hie⟩ := place_of at_
  have HOp := hide ho
  have HNc := hide hnc
  clear ho hnc
  go_enter Tryd.func32, Tryd.ntmps32
  go_upto_region 2 with fail
  clear hie
  have hal : Below w.heap.size w (w.alloc (.cells #[.int .i64 0, .int .i64 at_, .int .i64 nn, .slice OA on oc] 43)) := (Below.refl _ _).alloc (Nat.le_refl _) _
  have b0 : (w.alloc (.cells #[.int .i64 0, .int .i64 at_, .int .i64 nn, .slice OA on oc] 43)).heap[w.heap.size]? = some (.cells #[.int .i64 0, .int .i64 at_, .int .i64 nn, .slice OA on oc] 43 (0, 0)) := heap_alloc_new w _
  have hsz : (w.alloc (.cells #[.int .i64 0, .int .i64 at_, .int .i64 nn, .slice OA on oc] 43)).heap.size = w.heap.size + 1 := by simp
  obtain ⟨wa, hwa⟩ : ∃ wa, w.alloc (.cells #[.int .i64 0, .int .i64 at_, .int .i64 nn, .slice OA on oc] 43) = wa := ⟨_, rfl⟩
  obtain ⟨p, hp⟩ : ∃ p, w.heap.size = p := ⟨_, rfl⟩
  rw [hwa] at hal b0 hsz
  rw [hwa]
  rw [hp] at b0 hsz
  rw [hp]
  have HQa := hide (h.past hal)
  have HBwa := hide hal
  have HB0 := hide b0
  have hbs : b < p := hp ▸ h.size
  obtain ⟨c0, c1, c2, _, _, _⟩ := HQa.out.facts i hi
  have hA := HQa.out.at_ i hi
  obtain ⟨x, hx⟩ : ∃ x, P i = x := ⟨_, rfl⟩
  obtain ⟨a, ha⟩ := hA.ring.ptr
  rw [hx] at hA ha c0 c1 c2
  have hfit := hA.ring.fits
  rw [ha] at c0
  have HX := hide hx
  have HPt := hide ha
  have HH := hide h
  clear hA hx ha h hal b0 hwa
  have hi4 : (i : Int) < (4 : Int) := by omega
  have hi0 : (0 : Int) ≤ (i : Int) := by omega
  have hSd : wa.drew.cell? ⟨b, i, none⟩ = some (.pointer a) ∧ wa.drew.cell? ⟨b, 4 + i * 2, none⟩ = some (.int .i64 x.cap) ∧ wa.drew.cell? ⟨b, 4 + i * 2 + 1, none⟩ = some (.slice x.A x.L.length x.c) := ⟨c0, c1, c2⟩
  have hSa : (wa.alloc (.cells #[.int .i64 0, .slice none 0 0] 58)).drew.cell? ⟨b, i, none⟩ = some (.pointer a) ∧ (wa.alloc (.cells #[.int .i64 0, .slice none 0 0] 58)).drew.cell? ⟨b, 4 + i * 2, none⟩ = some (.int .i64 x.cap) ∧ (wa.alloc (.cells #[.int .i64 0, .slice none 0 0] 58)).drew.cell? ⟨b, 4 + i * 2 + 1, none⟩ = some (.slice x.A x.L.length x.c) := ⟨ref.cellN c0, ref.cellN c1, ref.cellN c2⟩
  have hSc : (wa.alloc (.cells #[.int .i64 x.cap, .slice x.A x.L.length x.c] 58)).drew.cell? ⟨b, i, none⟩ = some (.pointer a) ∧ (wa.alloc (.cells #[.int .i64 x.cap, .slice x.A x.L.length x.c] 58)).drew.cell? ⟨b, 4 + i * 2, none⟩ = some (.int .i64 x.cap) ∧ (wa.alloc (.cells #[.int .i64 x.cap, .slice x.A x.L.length x.c] 58)).drew.cell? ⟨b, 4 + i * 2 + 1, none⟩ = some (.slice x.A x.L.length x.c) := ⟨ref.cellN c0, ref.cellN c1, ref.cellN c2⟩
  go_region_held3 (fun w' => w'.cell? ⟨b, i, none⟩ = some (.pointer a) ∧ w'.cell? ⟨b, 4 + i * 2, none⟩ = some (.int .i64 x.cap) ∧ w'.cell? ⟨b, 4 + i * 2 + 1, none⟩ = some (.slice x.A x.L.length x.c)) (first | assumption) (first | fail)
  go_upto_region 3 with fail
  have hal : Below wa.heap.size wa (wa.alloc (.cells #[.int .i64 x.cap, .slice x.A x.L.length x.c] 58)).drew := ((Below.refl _ _).alloc (Nat.le_refl _) _).drew
  have b1 : (wa.alloc (.cells #[.int .i64 x.cap, .slice x.A x.L.length x.c] 58)).drew.heap[wa.heap.size]? = some (.cells #[.int .i64 x.cap, .slice x.A x.L.length x.c] 58 (0, 0)) := heap_alloc_new wa _
  have hsz1 : (wa.alloc (.cells #[.int .i64 x.cap, .slice x.A x.L.length x.c] 58)).drew.heap.size = wa.heap.size + 1 := by simp
  obtain ⟨w1, hw1⟩ : ∃ w1, (wa.alloc (.cells #[.int .i64 x.cap, .slice x.A x.L.length x.c] 58)).drew = w1 := ⟨_, rfl⟩
  rw [hw1] at hal b1 hsz1
  rw [hsz] at b1 hsz1
  rw [hw1]
  clear hSd hSa hSc c0 c1 c2 hw1
  have HQ1 := hide (HQa.out.past hal)
  have HBw1 := hide (HBwa.out.trans (hal.mono HBwa.out.size))
  have HBw := HBw1
  have b0 := (hal.block _ (Array.getElem?_eq_some_iff.1 HB0.out).1).trans HB0.out
  have HO := hide b0
  have HM := hide b1
  have hA := HQ1.out.at_ i hi
  rw [HX.out] at hA
  have HRow := hide hA.row
  have hring := hA.ring
  rw [HPt.out] at hring
  have HRing := hide hring
  have HA := hide hA
  obtain ⟨m0, m1, _, _⟩ := ref.box2 b1
  have o0 : w1.cell? ⟨p, 0, none⟩ = some (.int .i64 0) := by rw [cell_of_row w1 _ 0 _ _ _ b0]; rfl
  have o2 : w1.cell? ⟨p, 2, none⟩ = some (.int .i64 nn) := by rw [cell_of_row w1 _ 2 _ _ _ b0]; rfl
  have o3 : w1.cell? ⟨p, 3, none⟩ = some (.slice OA on oc) := by rw [cell_of_row w1 _ 3 _ _ _ b0]; rfl
  clear hal b0 b1 hA hring HQa HB0
  have HO1 := HO
  have HM1 := HM
  have HR1 := HRing
  have HW1 := HRow
  have HS1 := hide (hS.below HQ1.out.below)
  have HBad := hide hbad
  have hE1 : Hid (w1.cell? ⟨0, 0, none⟩ = some (.iface errs.tTP (.pointer (some (adr 2))))) := HS1.out.cell 2 (by decide) (by decide)
  clear hbad hS
  go_wp2_with fail
  refine (RI.new_bad w1 nn HBad.out _ hE1.out).mono ?_
  rintro e w2 ⟨rfl, hb2⟩
  have e0 := (hb2.block _ (Array.getElem?_eq_some_iff.1 HO1.out).1).trans HO1.out
  have e1 := (hb2.block _ (Array.getElem?_eq_some_iff.1 HM1.out).1).trans HM1.out
  have HQ2 := hide (HQ1.out.past hb2)
  have HBw2 := hide (HBw1.out.trans (hb2.mono HBw1.out.size))
  have HR2 := hide (HR1.out.below hb2)
  have HW2 := hide (HW1.out.kept (Mod.ofBelow hb2 (fun _ => False)) (fun _ _ _ h => h))
  have HO2 := hide e0
  have HM2 := hide e1
  clear o0 o2 o3 m0 m1
  obtain ⟨m0, m1, _, _⟩ := ref.box2 e1
  have o0 : w2.cell? ⟨p, 0, none⟩ = some (.int .i64 0) := by rw [cell_of_row w2 _ 0 _ _ _ e0]; rfl
  have o2 : w2.cell? ⟨p, 2, none⟩ = some (.int .i64 nn) := by rw [cell_of_row w2 _ 2 _ _ _ e0]; rfl
  have o3 : w2.cell? ⟨p, 3, none⟩ = some (.slice OA on oc) := by rw [cell_of_row w2 _ 3 _ _ _ e0]; rfl
  clear e0 e1
  have HS2 := hide (HS1.out.below hb2)
  clear hb2
  go_wp2_with fail
  refine (ref.new_bad w2 nn HBad.out).mono ?_
  rintro e w3 ⟨rfl, hb3⟩
  have e0 := (hb3.block _ (Array.getElem?_eq_some_iff.1 HO2.out).1).trans HO2.out
  have e1 := (hb3.block _ (Array.getElem?_eq_some_iff.1 HM2.out).1).trans HM2.out
  have HQ3 := hide (HQ2.out.past hb3)
  have HBw3 := hide (HBw2.out.trans (hb3.mono HBw2.out.size))
  have HR3 := hide (HR2.out.below hb3)
  have HW3 := hide (HW2.out.kept (Mod.ofBelow hb3 (fun _ => False)) (fun _ _ _ h => h))
  have HO3 := hide e0
  have HM3 := hide e1
  clear o0 o2 o3 m0 m1
  obtain ⟨m0, m1, _, _⟩ := ref.box2 e1
  have o0 : w3.cell? ⟨p, 0, none⟩ = some (.int .i64 0) := by rw [cell_of_row w3 _ 0 _ _ _ e0]; rfl
  have o2 : w3.cell? ⟨p, 2, none⟩ = some (.int .i64 nn) := by rw [cell_of_row w3 _ 2 _ _ _ e0]; rfl
  have o3 : w3.cell? ⟨p, 3, none⟩ = some (.slice OA on oc) := by rw [cell_of_row w3 _ 3 _ _ _ e0]; rfl
  clear e0 e1
  have HS3 := hide (HS2.out.below hb3)
  clear hb3
  have hal : Below w3.heap.size w3 (w3.alloc (.cells #[.int .i64 0, .slice none 0 0] 58)) := (Below.refl _ _).alloc (Nat.le_refl _) _
  have HS4 := hide (HS3.out.below hal)
  have HQ4 := hide (HQ3.out.past hal)
  have HBw4 := hide (HBw3.out.trans (hal.mono HBw3.out.size))
  clear hal
  go_wp2_with fail
  refine (errs.code_err _ adr HS4.out 2 (by decide) (by decide) (by decide)).mono ?_
  rintro e w5 ⟨rfl, rfl⟩
  go_wp2
  go_ret
  exact ⟨rfl, ⟨P, HQ4.out⟩, Mod.ofBelow HBw4.out _⟩

set_option maxRecDepth 10000 in
set_option maxHeartbeats 2000000 in
theorem rwstep_0b (w0 w : World) (b : Nat) (P : Nat → Place) (h : RW w0 w b P) (at_ : Int) (OA : Option Addr) (on oc : Nat) (xs : List Int) (ho : Reads w0 1 (.slice OA on oc) on (ints xs)) (hnc : on ≤ oc) (nw : Nat) (hnw : nw ≤ 2147483647) (hi3 : ∀ i : Nat, (wrap64 (at_.tmod 4 + 4)).tmod 4 = (i : Int) → ¬ (i : Int) < 3) :
    Calls Tryd.prog 32 #[.pointer (some ⟨b, 0, none⟩), .agg #[.int .i64 0, .int .i64 at_, .int .i64 nw, .slice OA on oc]] w (RWPost w0 b P w) := by
  obtain ⟨i, hi, hie⟩ := place_of at_
  have HOp := hide ho
  have HNc := hide hnc
  clear ho hnc
  go_enter Tryd.func32, Tryd.ntmps32
  go_upto_region 2 with fail
  have hi3 := hi3 i hie
  clear hie
  have hal : Below w.heap.size w (w.alloc (.cells #[.int .i64 0, .int .i64 at_, .int .i64 nw, .slice OA on oc] 43)) := (Below.refl _ _).alloc (Nat.le_refl _) _
  have b0 : (w.alloc (.cells #[.int .i64 0, .int .i64 at_, .int .i64 nw, .slice OA on oc] 43)).heap[w.heap.size]? = some (.cells #[.int .i64 0, .int .i64 at_, .int .i64 nw, .slice OA on oc] 43 (0, 0)) := heap_alloc_new w _
  have hsz : (w.alloc (.cells #[.int .i64 0, .int .i64 at_, .int .i64 nw, .slice OA on oc] 43)).heap.size = w.heap.size + 1 := by simp
  obtain ⟨wa, hwa⟩ : ∃ wa, w.alloc (.cells #[.int .i64 0, .int .i64 at_, .int .i64 nw, .slice OA on oc] 43) = wa := ⟨_, rfl⟩
  obtain ⟨p, hp⟩ : ∃ p, w.heap.size = p := ⟨_, rfl⟩
  rw [hwa] at hal b0 hsz
  rw [hwa]
  rw [hp] at b0 hsz
  rw [hp]
  have HQa := hide (h.past hal)
  have HBwa := hide hal
  have HB0 := hide b0
  have hbs : b < p := hp ▸ h.size
  obtain ⟨c0, c1, c2, _, _, _⟩ := HQa.out.facts i hi
  have hA := HQa.out.at_ i hi
  obtain ⟨x, hx⟩ : ∃ x, P i = x := ⟨_, rfl⟩
  obtain ⟨a, ha⟩ := hA.ring.ptr
  rw [hx] at hA ha c0 c1 c2
  have hfit := hA.ring.fits
  rw [ha] at c0
  have HX := hide hx
  have HPt := hide ha
  have HH := hide h
  clear hA hx ha h hal b0 hwa
  have hi4 : (i : Int) < (4 : Int) := by omega
  have hi0 : (0 : Int) ≤ (i : Int) := by omega
  have hSd : wa.drew.cell? ⟨b, i, none⟩ = some (.pointer a) ∧ wa.drew.cell? ⟨b, 4 + i * 2, none⟩ = some (.int .i64 x.cap) ∧ wa.drew.cell? ⟨b, 4 + i * 2 + 1, none⟩ = some (.slice x.A x.L.length x.c) := ⟨c0, c1, c2⟩
  have hSa : (wa.alloc (.cells #[.int .i64 0, .slice none 0 0] 58)).drew.cell? ⟨b, i, none⟩ = some (.pointer a) ∧ (wa.alloc (.cells #[.int .i64 0, .slice none 0 0] 58)).drew.cell? ⟨b, 4 + i * 2, none⟩ = some (.int .i64 x.cap) ∧ (wa.alloc (.cells #[.int .i64 0, .slice none 0 0] 58)).drew.cell? ⟨b, 4 + i * 2 + 1, none⟩ = some (.slice x.A x.L.length x.c) := ⟨ref.cellN c0, ref.cellN c1, ref.cellN c2⟩
  have hSc : (wa.alloc (.cells #[.int .i64 x.cap, .slice x.A x.L.length x.c] 58)).drew.cell? ⟨b, i, none⟩ = some (.pointer a) ∧ (wa.alloc (.cells #[.int .i64 x.cap, .slice x.A x.L.length x.c] 58)).drew.cell? ⟨b, 4 + i * 2, none⟩ = some (.int .i64 x.cap) ∧ (wa.alloc (.cells #[.int .i64 x.cap, .slice x.A x.L.length x.c] 58)).drew.cell? ⟨b, 4 + i * 2 + 1, none⟩ = some (.slice x.A x.L.length x.c) := ⟨ref.cellN c0, ref.cellN c1, ref.cellN c2⟩
  go_region_held3 (fun w' => w'.cell? ⟨b, i, none⟩ = some (.pointer a) ∧ w'.cell? ⟨b, 4 + i * 2, none⟩ = some (.int .i64 x.cap) ∧ w'.cell? ⟨b, 4 + i * 2 + 1, none⟩ = some (.slice x.A x.L.length x.c)) (first | assumption) (first | fail)
  go_upto_region 3 with fail
  have hal : Below wa.heap.size wa (wa.alloc (.cells #[.int .i64 x.cap, .slice x.A x.L.length x.c] 58)).drew := ((Below.refl _ _).alloc (Nat.le_refl _) _).drew
  have b1 : (wa.alloc (.cells #[.int .i64 x.cap, .slice x.A x.L.length x.c] 58)).drew.heap[wa.heap.size]? = some (.cells #[.int .i64 x.cap, .slice x.A x.L.length x.c] 58 (0, 0)) := heap_alloc_new wa _
  have hsz1 : (wa.alloc (.cells #[.int .i64 x.cap, .slice x.A x.L.length x.c] 58)).drew.heap.size = wa.heap.size + 1 := by simp
  obtain ⟨w1, hw1⟩ : ∃ w1, (wa.alloc (.cells #[.int .i64 x.cap, .slice x.A x.L.length x.c] 58)).drew = w1 := ⟨_, rfl⟩
  rw [hw1] at hal b1 hsz1
  rw [hsz] at b1 hsz1
  rw [hw1]
  clear hSd hSa hSc c0 c1 c2 hw1
  have HQ1 := hide (HQa.out.past hal)
  have HBw1 := hide (HBwa.out.trans (hal.mono HBwa.out.size))
  have HBw := HBw1
  have b0 := (hal.block _ (Array.getElem?_eq_some_iff.1 HB0.out).1).trans HB0.out
  have HO := hide b0
  have HM := hide b1
  have hA := HQ1.out.at_ i hi
  rw [HX.out] at hA
  have HRow := hide hA.row
  have hring := hA.ring
  rw [HPt.out] at hring
  have HRing := hide hring
  have HA := hide hA
  obtain ⟨m0, m1, _, _⟩ := ref.box2 b1
  have o0 : w1.cell? ⟨p, 0, none⟩ = some (.int .i64 0) := by rw [cell_of_row w1 _ 0 _ _ _ b0]; rfl
  have o2 : w1.cell? ⟨p, 2, none⟩ = some (.int .i64 nw) := by rw [cell_of_row w1 _ 2 _ _ _ b0]; rfl
  have o3 : w1.cell? ⟨p, 3, none⟩ = some (.slice OA on oc) := by rw [cell_of_row w1 _ 3 _ _ _ b0]; rfl
  clear hal b0 b1 hA hring HQa HB0
  have HO1 := HO
  have HM1 := HM
  have HR1 := HRing
  have HW1 := HRow
  have HNw := hide hnw
  clear hnw
  go_wp2_with fail
  refine (RI.new_any w1 nw HNw.out).mono ?_
  rintro e w2 ⟨rb, rfl, hr2, hb2⟩
  have HRing2 := hide hr2
  have e0 := (hb2.block _ (Array.getElem?_eq_some_iff.1 HO1.out).1).trans HO1.out
  have e1 := (hb2.block _ (Array.getElem?_eq_some_iff.1 HM1.out).1).trans HM1.out
  have HQ2 := hide (HQ1.out.past hb2)
  have HBw2 := hide (HBw1.out.trans (hb2.mono HBw1.out.size))
  have HR2 := hide (HR1.out.below hb2)
  have HW2 := hide (HW1.out.kept (Mod.ofBelow hb2 (fun _ => False)) (fun _ _ _ h => h))
  have HO2 := hide e0
  have HM2 := hide e1
  clear o0 o2 o3 m0 m1
  obtain ⟨m0, m1, _, _⟩ := ref.box2 e1
  have o0 : w2.cell? ⟨p, 0, none⟩ = some (.int .i64 0) := by rw [cell_of_row w2 _ 0 _ _ _ e0]; rfl
  have o2 : w2.cell? ⟨p, 2, none⟩ = some (.int .i64 nw) := by rw [cell_of_row w2 _ 2 _ _ _ e0]; rfl
  have o3 : w2.cell? ⟨p, 3, none⟩ = some (.slice OA on oc) := by rw [cell_of_row w2 _ 3 _ _ _ e0]; rfl
  clear e0 e1
  have HB12 := hide hb2
  clear hb2 hr2
  go_wp2_with fail
  refine (ref.new_any w2 nw HNw.out).mono ?_
  rintro e w3 ⟨rfl, hb3⟩
  have e0 := (hb3.block _ (Array.getElem?_eq_some_iff.1 HO2.out).1).trans HO2.out
  have e1 := (hb3.block _ (Array.getElem?_eq_some_iff.1 HM2.out).1).trans HM2.out
  have HQ3 := hide (HQ2.out.past hb3)
  have HBw3 := hide (HBw2.out.trans (hb3.mono HBw2.out.size))
  have HR3 := hide (HR2.out.below hb3)
  have HW3 := hide (HW2.out.kept (Mod.ofBelow hb3 (fun _ => False)) (fun _ _ _ h => h))
  have HO3 := hide e0
  have HM3 := hide e1
  clear o0 o2 o3 m0 m1
  obtain ⟨m0, m1, _, _⟩ := ref.box2 e1
  have o0 : w3.cell? ⟨p, 0, none⟩ = some (.int .i64 0) := by rw [cell_of_row w3 _ 0 _ _ _ e0]; rfl
  have o2 : w3.cell? ⟨p, 2, none⟩ = some (.int .i64 nw) := by rw [cell_of_row w3 _ 2 _ _ _ e0]; rfl
  have o3 : w3.cell? ⟨p, 3, none⟩ = some (.slice OA on oc) := by rw [cell_of_row w3 _ 3 _ _ _ e0]; rfl
  clear e0 e1
  have HRing3 := hide (HRing2.out.below hb3)
  have HB13 := hide (HB12.out.trans (hb3.mono HB12.out.size))
  clear hb3
  have hal : Below w3.heap.size w3 (w3.alloc (.cells #[.int .i64 nw, .slice none 0 0] 58)) := (Below.refl _ _).alloc (Nat.le_refl _) _
  have b3 : (w3.alloc (.cells #[.int .i64 nw, .slice none 0 0] 58)).heap[w3.heap.size]? = some (.cells #[.int .i64 nw, .slice none 0 0] 58 (0, 0)) := heap_alloc_new w3 _
  have HQ4 := hide (HQ3.out.past hal)
  have HBw4 := hide (HBw3.out.trans (hal.mono HBw3.out.size))
  have HRing4 := hide (HRing3.out.below hal)
  have HB14 := hide (HB13.out.trans (hal.mono HB13.out.size))
  have HB4 := hide b3
  clear b3 hal
  go_wp2_with fail
  refine (errs.code_nil _).mono ?_
  rintro e w5 ⟨rfl, rfl⟩
  go_wp2
  go_ret
  exact ⟨rfl, ⟨P, HQ4.out⟩, Mod.ofBelow HBw4.out _⟩

set_option maxRecDepth 10000 in
set_option maxHeartbeats 2000000 in
theorem rwstep_0c (w0 w : World) (b : Nat) (P : Nat → Place) (h : RW w0 w b P) (at_ : Int) (OA : Option Addr) (on oc : Nat) (xs : List Int) (ho : Reads w0 1 (.slice OA on oc) on (ints xs)) (hnc : on ≤ oc) (nw : Nat) (hnw : nw ≤ 2147483647) (hi3 : ∀ i : Nat, (wrap64 (at_.tmod 4 + 4)).tmod 4 = (i : Int) → (i : Int) < 3) :
    Calls Tryd.prog 32 #[.pointer (some ⟨b, 0, none⟩), .agg #[.int .i64 0, .int .i64 at_, .int .i64 nw, .slice OA on oc]] w (RWPost w0 b P w) := by
  obtain ⟨i, hi, hie⟩ := place_of at_
  have HOp := hide ho
  have HNc := hide hnc
  clear ho hnc
  go_enter Tryd.func32, Tryd.ntmps32
  go_upto_region 2 with fail
  have hi3 := hi3 i hie
  clear hie
  have hal : Below w.heap.size w (w.alloc (.cells #[.int .i64 0, .int .i64 at_, .int .i64 nw, .slice OA on oc] 43)) := (Below.refl _ _).alloc (Nat.le_refl _) _
  have b0 : (w.alloc (.cells #[.int .i64 0, .int .i64 at_, .int .i64 nw, .slice OA on oc] 43)).heap[w.heap.size]? = some (.cells #[.int .i64 0, .int .i64 at_, .int .i64 nw, .slice OA on oc] 43 (0, 0)) := heap_alloc_new w _
  have hsz : (w.alloc (.cells #[.int .i64 0, .int .i64 at_, .int .i64 nw, .slice OA on oc] 43)).heap.size = w.heap.size + 1 := by simp
  obtain ⟨wa, hwa⟩ : ∃ wa, w.alloc (.cells #[.int .i64 0, .int .i64 at_, .int .i64 nw, .slice OA on oc] 43) = wa := ⟨_, rfl⟩
  obtain ⟨p, hp⟩ : ∃ p, w.heap.size = p := ⟨_, rfl⟩
  rw [hwa] at hal b0 hsz
  rw [hwa]
  rw [hp] at b0 hsz
  rw [hp]
  have HQa := hide (h.past hal)
  have HBwa := hide hal
  have HB0 := hide b0
  have hbs : b < p := hp ▸ h.size
  obtain ⟨c0, c1, c2, _, _, _⟩ := HQa.out.facts i hi
  have hA := HQa.out.at_ i hi
  obtain ⟨x, hx⟩ : ∃ x, P i = x := ⟨_, rfl⟩
  obtain ⟨a, ha⟩ := hA.ring.ptr
  rw [hx] at hA ha c0 c1 c2
  have hfit := hA.ring.fits
  rw [ha] at c0
  have HX := hide hx
  have HPt := hide ha
  have HH := hide h
  clear hA hx ha h hal b0 hwa
  have hi4 : (i : Int) < (4 : Int) := by omega
  have hi0 : (0 : Int) ≤ (i : Int) := by omega
  have hSd : wa.drew.cell? ⟨b, i, none⟩ = some (.pointer a) ∧ wa.drew.cell? ⟨b, 4 + i * 2, none⟩ = some (.int .i64 x.cap) ∧ wa.drew.cell? ⟨b, 4 + i * 2 + 1, none⟩ = some (.slice x.A x.L.length x.c) := ⟨c0, c1, c2⟩
  have hSa : (wa.alloc (.cells #[.int .i64 0, .slice none 0 0] 58)).drew.cell? ⟨b, i, none⟩ = some (.pointer a) ∧ (wa.alloc (.cells #[.int .i64 0, .slice none 0 0] 58)).drew.cell? ⟨b, 4 + i * 2, none⟩ = some (.int .i64 x.cap) ∧ (wa.alloc (.cells #[.int .i64 0, .slice none 0 0] 58)).drew.cell? ⟨b, 4 + i * 2 + 1, none⟩ = some (.slice x.A x.L.length x.c) := ⟨ref.cellN c0, ref.cellN c1, ref.cellN c2⟩
  have hSc : (wa.alloc (.cells #[.int .i64 x.cap, .slice x.A x.L.length x.c] 58)).drew.cell? ⟨b, i, none⟩ = some (.pointer a) ∧ (wa.alloc (.cells #[.int .i64 x.cap, .slice x.A x.L.length x.c] 58)).drew.cell? ⟨b, 4 + i * 2, none⟩ = some (.int .i64 x.cap) ∧ (wa.alloc (.cells #[.int .i64 x.cap, .slice x.A x.L.length x.c] 58)).drew.cell? ⟨b, 4 + i * 2 + 1, none⟩ = some (.slice x.A x.L.length x.c) := ⟨ref.cellN c0, ref.cellN c1, ref.cellN c2⟩
  go_region_held3 (fun w' => w'.cell? ⟨b, i, none⟩ = some (.pointer a) ∧ w'.cell? ⟨b, 4 + i * 2, none⟩ = some (.int .i64 x.cap) ∧ w'.cell? ⟨b, 4 + i * 2 + 1, none⟩ = some (.slice x.A x.L.length x.c)) (first | assumption) (first | fail)
  go_upto_region 3 with fail
  have hal : Below wa.heap.size wa (wa.alloc (.cells #[.int .i64 x.cap, .slice x.A x.L.length x.c] 58)).drew := ((Below.refl _ _).alloc (Nat.le_refl _) _).drew
  have b1 : (wa.alloc (.cells #[.int .i64 x.cap, .slice x.A x.L.length x.c] 58)).drew.heap[wa.heap.size]? = some (.cells #[.int .i64 x.cap, .slice x.A x.L.length x.c] 58 (0, 0)) := heap_alloc_new wa _
  have hsz1 : (wa.alloc (.cells #[.int .i64 x.cap, .slice x.A x.L.length x.c] 58)).drew.heap.size = wa.heap.size + 1 := by simp
  obtain ⟨w1, hw1⟩ : ∃ w1, (wa.alloc (.cells #[.int .i64 x.cap, .slice x.A x.L.length x.c] 58)).drew = w1 := ⟨_, rfl⟩
  rw [hw1] at hal b1 hsz1
  rw [hsz] at b1 hsz1
  rw [hw1]
  clear hSd hSa hSc c0 c1 c2 hw1
  have HQ1 := hide (HQa.out.past hal)
  have HBw1 := hide (HBwa.out.trans (hal.mono HBwa.out.size))
  have HBw := HBw1
  have b0 := (hal.block _ (Array.getElem?_eq_some_iff.1 HB0.out).1).trans HB0.out
  have HO := hide b0
  have HM := hide b1
  have hA := HQ1.out.at_ i hi
  rw [HX.out] at hA
  have HRow := hide hA.row
  have hring := hA.ring
  rw [HPt.out] at hring
  have HRing := hide hring
  have HA := hide hA
  obtain ⟨m0, m1, _, _⟩ := ref.box2 b1
  have o0 : w1.cell? ⟨p, 0, none⟩ = some (.int .i64 0) := by rw [cell_of_row w1 _ 0 _ _ _ b0]; rfl
  have o2 : w1.cell? ⟨p, 2, none⟩ = some (.int .i64 nw) := by rw [cell_of_row w1 _ 2 _ _ _ b0]; rfl
  have o3 : w1.cell? ⟨p, 3, none⟩ = some (.slice OA on oc) := by rw [cell_of_row w1 _ 3 _ _ _ b0]; rfl
  clear hal b0 b1 hA hring HQa HB0
  have HO1 := HO
  have HM1 := HM
  have HR1 := HRing
  have HW1 := HRow
  have HNw := hide hnw
  clear hnw
  go_wp2_with fail
  refine (RI.new_any w1 nw HNw.out).mono ?_
  rintro e w2 ⟨rb, rfl, hr2, hb2⟩
  have HRing2 := hide hr2
  have e0 := (hb2.block _ (Array.getElem?_eq_some_iff.1 HO1.out).1).trans HO1.out
  have e1 := (hb2.block _ (Array.getElem?_eq_some_iff.1 HM1.out).1).trans HM1.out
  have HQ2 := hide (HQ1.out.past hb2)
  have HBw2 := hide (HBw1.out.trans (hb2.mono HBw1.out.size))
  have HR2 := hide (HR1.out.below hb2)
  have HW2 := hide (HW1.out.kept (Mod.ofBelow hb2 (fun _ => False)) (fun _ _ _ h => h))
  have HO2 := hide e0
  have HM2 := hide e1
  clear o0 o2 o3 m0 m1
  obtain ⟨m0, m1, _, _⟩ := ref.box2 e1
  have o0 : w2.cell? ⟨p, 0, none⟩ = some (.int .i64 0) := by rw [cell_of_row w2 _ 0 _ _ _ e0]; rfl
  have o2 : w2.cell? ⟨p, 2, none⟩ = some (.int .i64 nw) := by rw [cell_of_row w2 _ 2 _ _ _ e0]; rfl
  have o3 : w2.cell? ⟨p, 3, none⟩ = some (.slice OA on oc) := by rw [cell_of_row w2 _ 3 _ _ _ e0]; rfl
  clear e0 e1
  have HB12 := hide hb2
  clear hb2 hr2
  go_wp2_with fail
  refine (ref.new_any w2 nw HNw.out).mono ?_
  rintro e w3 ⟨rfl, hb3⟩
  have e0 := (hb3.block _ (Array.getElem?_eq_some_iff.1 HO2.out).1).trans HO2.out
  have e1 := (hb3.block _ (Array.getElem?_eq_some_iff.1 HM2.out).1).trans HM2.out
  have HQ3 := hide (HQ2.out.past hb3)
  have HBw3 := hide (HBw2.out.trans (hb3.mono HBw2.out.size))
  have HR3 := hide (HR2.out.below hb3)
  have HW3 := hide (HW2.out.kept (Mod.ofBelow hb3 (fun _ => False)) (fun _ _ _ h => h))
  have HO3 := hide e0
  have HM3 := hide e1
  clear o0 o2 o3 m0 m1
  obtain ⟨m0, m1, _, _⟩ := ref.box2 e1
  have o0 : w3.cell? ⟨p, 0, none⟩ = some (.int .i64 0) := by rw [cell_of_row w3 _ 0 _ _ _ e0]; rfl
  have o2 : w3.cell? ⟨p, 2, none⟩ = some (.int .i64 nw) := by rw [cell_of_row w3 _ 2 _ _ _ e0]; rfl
  have o3 : w3.cell? ⟨p, 3, none⟩ = some (.slice OA on oc) := by rw [cell_of_row w3 _ 3 _ _ _ e0]; rfl
  clear e0 e1
  have HRing3 := hide (HRing2.out.below hb3)
  have HB13 := hide (HB12.out.trans (hb3.mono HB12.out.size))
  clear hb3
  have hal : Below w3.heap.size w3 (w3.alloc (.cells #[.int .i64 nw, .slice none 0 0] 58)) := (Below.refl _ _).alloc (Nat.le_refl _) _
  have b3 : (w3.alloc (.cells #[.int .i64 nw, .slice none 0 0] 58)).heap[w3.heap.size]? = some (.cells #[.int .i64 nw, .slice none 0 0] 58 (0, 0)) := heap_alloc_new w3 _
  have HQ4 := hide (HQ3.out.past hal)
  have HBw4 := hide (HBw3.out.trans (hal.mono HBw3.out.size))
  have HRing4 := hide (HRing3.out.below hal)
  have HB14 := hide (HB13.out.trans (hal.mono HB13.out.size))
  have HB4 := hide b3
  clear b3 hal
  go_wp2_with fail
  refine (errs.code_nil _).mono ?_
  rintro e w5 ⟨rfl, rfl⟩
  go_upto_region 10 with fail
  obtain ⟨w4, hw4⟩ : ∃ w4, w3.alloc (.cells #[.int .i64 nw, .slice none 0 0] 58) = w4 := ⟨_, rfl⟩
  obtain ⟨q, hq⟩ : ∃ q, w3.heap.size = q := ⟨_, rfl⟩
  rw [hw4] at HQ4 HRing4 HB14 HB4 HBw4
  rw [hq] at HB4
  rw [hw4, hq]
  have hs13 := HB13.out.size
  have hbq : q ≠ b := by omega
  obtain ⟨q0, q1, _, _⟩ := ref.box2 HB4.out
  obtain ⟨g0, g1, g2, f0, f1, f2⟩ := HQ4.out.facts i hi
  clear hw4 o0 o2 o3 m0 m1
  have hSd : w4.drew.cell? ⟨q, 0, none⟩ = some (.int .i64 nw) ∧ w4.drew.cell? ⟨q, 1, none⟩ = some (.slice none 0 0) := ⟨q0, q1⟩
  have hSs := far2 (i := 4 + i * 2) (j := 4 + i * 2 + 1) (u := .int .i64 nw) (v := .slice none 0 0) q0 q1 hbq
  have hSt := far4 (i := i) (j := 4 + i * 2) (k := 4 + i * 2 + 1) (t := .pointer (some ⟨rb, 0, none⟩)) (u := .int .i64 nw) (v := .slice none 0 0) q0 q1 hbq
  go_region_held3 (fun w' => w'.cell? ⟨q, 0, none⟩ = some (.int .i64 nw) ∧ w'.cell? ⟨q, 1, none⟩ = some (.slice none 0 0)) (first | assumption | with_reducible exact hSt.1 | with_reducible exact hSt.2 | with_reducible exact ⟨q0, q1⟩) (first | fail)
  go_wp2
  go_ret
  have hR := HRing4.out
  have hm4 := ((((Mod.refl (fun k => k = b) w4).setCell (p := ⟨b, i, none⟩) (fun _ => rfl) (.pointer (some ⟨rb, 0, none⟩))).setCell (p := ⟨b, 4 + i * 2, none⟩) (fun _ => rfl) (.int .i64 nw)).setCell (p := ⟨b, 4 + i * 2 + 1, none⟩) (fun _ => rfl) (.slice none 0 0)).drew
  have hs12 := HB12.out.size
  have hs14 := HB14.out.size
  have hM : Mod (fun k => k = b ∨ ∃ j, j < 4 ∧ (P j).F k) w _ := (Mod.ofBelow HBw4.out _).trans hm4 (fun k _ hk => .inl hk)
  refine ⟨rfl, ⟨_, HQ1.out.step i hi ⟨.pointer (some ⟨rb, 0, none⟩), fun k => w1.heap.size ≤ k ∧ k < w2.heap.size, nw, [], none, 0, fun _ => False⟩ ((Mod.ofBelow HB14.out _).trans hm4 (fun k _ hk => .inl hk)) ⟨.inl ⟨rb, rfl, ?_⟩, Row.nil _ _ _ _, fun k hk => hk.elim⟩ (fun k hk => .inr hk.1) (fun k hk => hk.elim) (fun k _ hk => hk) (store_all HQ4.out.cells i hi ⟨.pointer (some ⟨rb, 0, none⟩), fun k => w1.heap.size ≤ k ∧ k < w2.heap.size, nw, [], none, 0, fun _ => False⟩)⟩, hM⟩
  exact hR.kept hm4 (fun k hk e => by have := hk.1; omega)

theorem rwstep_any (w0 w : World) (b : Nat) (P : Nat → Place) (h : RW w0 w b P) (adr : Nat → Addr) (hS : errs.Sent w0 adr) (kd at_ nn : Int) (OA : Option Addr) (on oc : Nat) (xs : List Int) (ho : Reads w0 1 (.slice OA on oc) on (ints xs)) (hnc : on ≤ oc) (hob : on ≤ 17592186044415) :
    Calls Tryd.prog 32 #[.pointer (some ⟨b, 0, none⟩), .agg #[.int .i64 kd, .int .i64 at_, .int .i64 nn, .slice OA on oc]] w (RWPost w0 b P w) := by
  have hne : ∀ k : Int, kd ≠ k → (kd == k) = false := fun k h => by simp [h]
  by_cases h0 : kd = 0
  · subst h0
    by_cases hb : nn < 0 ∨ 2147483647 < nn
    · exact rwstep_0a w0 w b P h at_ nn OA on oc xs ho hnc adr hS hb
    · obtain ⟨nw, rfl⟩ : ∃ nw : Nat, nn = (nw : Int) := ⟨nn.toNat, by omega⟩
      by_cases h3 : (wrap64 (at_.tmod 4 + 4)).tmod 4 < 3
      · exact rwstep_0c w0 w b P h at_ OA on oc xs ho hnc nw (by omega) (fun i e => by omega)
      · exact rwstep_0b w0 w b P h at_ OA on oc xs ho hnc nw (by omega) (fun i e => by omega)
  by_cases h1 : kd = 1
  · subst h1; exact rwstep_1 w0 w b P h at_ nn OA on oc xs ho hnc hob
  by_cases h2 : kd = 2
  · subst h2; exact rwstep_2 w0 w b P h at_ nn OA on oc xs ho hnc
  by_cases h3 : kd = 3
  · subst h3; exact rwstep_3 w0 w b P h at_ nn OA on oc xs ho hnc
  by_cases h4 : kd = 4
  · subst h4; exact rwstep_4 w0 w b P h at_ nn OA on oc xs ho hnc
  by_cases h5 : kd = 5
  · subst h5; exact rwstep_5 w0 w b P h at_ nn OA on oc xs ho hnc
  by_cases h6 : kd = 6
  · subst h6; exact rwstep_6 w0 w b P h at_ nn OA on oc xs ho hnc
  exact rwstep_else w0 w b P h at_ nn OA on oc xs ho hnc kd (hne 0 h0) (hne 1 h1) (hne 2 h2) (hne 3 h3) (hne 4 h4) (hne 5 h5) (hne 6 h6)
end Go.Proofs.YtcalamofccdldaaDoor
