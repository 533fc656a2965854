import Derived.Test.YtipfjnjjfojdgaaDoorTStepN
import Derived.Deep.DeepCutAuto
import Derived.Deep.CutBlock
/- The law's step. Printed by gen_st.py. -/
namespace Go.Proofs.YtipfjnjjfojdgaaDoor
open Go Go.RowKit Go.Cu Go.Proofs.YtipfjnjjfojdgaaDoor.errs

/-- the boxes of a step: the document's history as it came, the call, the result, the document's history behind it -/
structure SX (p : Nat) (o : OpD) (A : Option Addr) (n c : Nat) (wx : World) (B : Option Addr) (m cc : Nat) : Prop where
  b0 : wx.heap[p]? = some (.cells #[.slice A n c] 44 (0, 0))
  b1 : wx.heap[p + 1]? = some (.cells (opA o) 28 (0, 0))
  b2 : wx.heap[p + 1 + 1]? = some (.cells #[.slice none 0 0] 44 (0, 0))
  b3 : wx.heap[p + 1 + 1 + 1]? = some (.cells #[.slice B m cc] 44 (0, 0))
section
variable {p : Nat} {o : OpD} {A : Option Addr} {n c : Nat} {wx wy : World} {B : Option Addr} {m cc : Nat}
theorem SX.past (h : SX p o A n c wx B m cc) (hb : Below wx.heap.size wx wy) : SX p o A n c wy B m cc := ⟨below_at hb h.b0, below_at hb h.b1, below_at hb h.b2, below_at hb h.b3⟩
theorem SX.mod {G : Nat → Prop} (h : SX p o A n c wx B m cc) (hm : Mod G wx wy) (hG : ∀ k, G k → k < p) : SX p o A n c wy B m cc :=
  ⟨hm.heap h.b0 (fun hk => by have := hG _ hk; omega), hm.heap h.b1 (fun hk => by have := hG _ hk; omega), hm.heap h.b2 (fun hk => by have := hG _ hk; omega), hm.heap h.b3 (fun hk => by have := hG _ hk; omega)⟩
theorem SX.set (h : SX p o A n c wx B m cc) (B' : Option Addr) (m' cc' : Nat) : SX p o A n c (wx.setCell ⟨p + 1 + 1 + 1, 0, none⟩ (.slice B' m' cc')) B' m' cc' := by
  refine ⟨?_, ?_, ?_, ?_⟩
  · rw [Below.heap_setCell _ _ _ _ (show p ≠ p + 1 + 1 + 1 by omega)]; exact h.b0
  · rw [Below.heap_setCell _ _ _ _ (show p + 1 ≠ p + 1 + 1 + 1 by omega)]; exact h.b1
  · rw [Below.heap_setCell _ _ _ _ (show p + 1 + 1 ≠ p + 1 + 1 + 1 by omega)]; exact h.b2
  · have := heap_setCell_same _ (p + 1 + 1 + 1) 0 _ 44 (.slice B' m' cc') h.b3
    simpa using this
theorem box5o {w : World} {p : Nat} {o : OpD} (h : w.heap[p]? = some (.cells (opA o) 28 (0, 0))) : w.cell? ⟨p, 0, none⟩ = some (.int .i64 o.kind) ∧ w.cell? ⟨p, 1, none⟩ = some (.int .i64 o.key) ∧ w.cell? ⟨p, 2, none⟩ = some (.int .i64 o.n) ∧ w.cell? ⟨p, 3, none⟩ = some (.bool o.next) ∧ w.cell? ⟨p, 4, none⟩ = some (.slice o.A o.len o.c) :=
  (box5 h).1
theorem step_boxes (w : World) (o : OpD) (A : Option Addr) (n c : Nat) : ∃ w1 p w2, (((w.alloc (.cells #[.slice A n c] 44)).alloc (.cells (opA o) 28)).alloc (.cells #[.slice none 0 0] 44)).alloc (.cells #[.slice none 0 0] 44) = w1 ∧ w.heap.size = p ∧ w1.setCell ⟨p + 1 + 1 + 1, 0, none⟩ (.slice A n c) = w2 ∧ Below w.heap.size w w2 ∧ w2.heap.size = p + 4 ∧ w1.heap[p + 1 + 1 + 1]? = some (.cells #[.slice none 0 0] 44 (0, 0)) ∧ SX p o A n c w2 A n c := by
  obtain ⟨w1, hw1⟩ : ∃ w1, (((w.alloc (.cells #[.slice A n c] 44)).alloc (.cells (opA o) 28)).alloc (.cells #[.slice none 0 0] 44)).alloc (.cells #[.slice none 0 0] 44) = w1 := ⟨_, rfl⟩
  have hb : Below w.heap.size w w1 := by rw [← hw1]; exact ((((Below.refl _ _).alloc (Nat.le_refl _) _).alloc (by simp) _).alloc (by simp; omega) _).alloc (by simp; omega) _
  have hs : w1.heap.size = w.heap.size + 4 := by rw [← hw1]; simp
  have b0 : w1.heap[w.heap.size]? = some (.cells #[.slice A n c] 44 (0, 0)) := by
    rw [← hw1, Below.heap_alloc _ _ _ (by simp [World.size_alloc] <;> omega), Below.heap_alloc _ _ _ (by simp [World.size_alloc] <;> omega), Below.heap_alloc _ _ _ (by simp [World.size_alloc] <;> omega)]
    exact heap_alloc_new w _
  have b1 : w1.heap[w.heap.size + 1]? = some (.cells (opA o) 28 (0, 0)) := by
    rw [← hw1, Below.heap_alloc _ _ _ (by simp [World.size_alloc] <;> omega), Below.heap_alloc _ _ _ (by simp [World.size_alloc] <;> omega)]
    exact (by rw [World.size_alloc] : w.heap.size + 1 = (w.alloc (.cells #[.slice A n c] 44)).heap.size) ▸ heap_alloc_new _ _
  have b2 : w1.heap[w.heap.size + 1 + 1]? = some (.cells #[.slice none 0 0] 44 (0, 0)) := by
    rw [← hw1, Below.heap_alloc _ _ _ (by simp [World.size_alloc] <;> omega)]
    exact (by simp : w.heap.size + 1 + 1 = ((w.alloc (.cells #[.slice A n c] 44)).alloc (.cells (opA o) 28)).heap.size) ▸ heap_alloc_new _ _
  have b3 : w1.heap[w.heap.size + 1 + 1 + 1]? = some (.cells #[.slice none 0 0] 44 (0, 0)) := by
    rw [← hw1]
    exact (by simp : w.heap.size + 1 + 1 + 1 = (((w.alloc (.cells #[.slice A n c] 44)).alloc (.cells (opA o) 28)).alloc (.cells #[.slice none 0 0] 44)).heap.size) ▸ heap_alloc_new _ _
  exact ⟨w1, _, _, hw1, rfl, rfl, hb.setCell (p := ⟨w.heap.size + 1 + 1 + 1, 0, none⟩) (by show w.heap.size ≤ w.heap.size + 1 + 1 + 1; omega) _, by rw [World.size_setCell]; exact hs, b3, SX.set (B := none) (m := 0) (cc := 0) ⟨b0, b1, b2, b3⟩ A n c⟩
end
section
variable {none : Bool} {S : Nat} {w w' : World} {pv v v' : Value} {D F G : Nat → Prop} {R1 R2 R' : List Rw}
theorem HD.kept (h : HD none S w pv D F v R1 R2) (hm : Mod G w w') (hD : ∀ k, D k → ¬ G k) (hF : ∀ k, F k → ¬ G k) : HD none S w' pv D F v R1 R2 :=
  ⟨h.h.kept hm (fun k hk _ => hD k hk), h.d.kept hm (fun k hk _ => hF k hk), fun k hk => ⟨(h.ld k hk).1, Nat.lt_of_lt_of_le (h.ld k hk).2 hm.size⟩, fun k hk => ⟨(h.lf k hk).1, Nat.lt_of_lt_of_le (h.lf k hk).2 hm.size⟩, h.df⟩
theorem HD.docf (h : HD none S w pv D F v R1 R2) (hS : S ≤ w.heap.size) (hb : Below w.heap.size w w') (hd : Doc w' (fun k => F k ∨ w.heap.size ≤ k) v' R') : ∃ F', HD none S w' pv D F' v' R1 R' ∧ ∀ k, F' k → F k ∨ w.heap.size ≤ k := by
  refine ⟨fun k => F k ∨ (w.heap.size ≤ k ∧ k < w'.heap.size), ⟨h.h.past hb, hd.mono (fun k hk hl => hk.imp id (fun h => ⟨h, hl⟩)), fun k hk => ⟨(h.ld k hk).1, Nat.lt_of_lt_of_le (h.ld k hk).2 hb.size⟩, ?_, ?_⟩, fun k hk => hk.imp id (·.1)⟩
  · rintro k (hk | hk)
    · exact ⟨(h.lf k hk).1, Nat.lt_of_lt_of_le (h.lf k hk).2 hb.size⟩
    · exact ⟨Nat.le_trans hS hk.1, hk.2⟩
  · rintro k hd (hk | hk)
    · exact h.df k hd hk
    · have := (h.ld k hd).2; omega
theorem HD.turnf (h : HD none S w pv D F v R1 R2) (hS : S ≤ w.heap.size) (ht : TurnedM none w w' pv D R') : ∃ D', HD none S w' pv D' F v R' R2 ∧ ∀ k, D' k → D k ∨ w.heap.size ≤ k := by
  obtain ⟨h1, hm⟩ := ht
  refine ⟨_, ⟨h1, h.d.kept hm (fun k hk _ hd => h.df k hd hk), ?_, fun k hk => ⟨(h.lf k hk).1, Nat.lt_of_lt_of_le (h.lf k hk).2 hm.size⟩, ?_⟩, fun k hk => hk.imp id (·.1)⟩
  · rintro k (hk | hk)
    · exact ⟨(h.ld k hk).1, Nat.lt_of_lt_of_le (h.ld k hk).2 hm.size⟩
    · exact ⟨Nat.le_trans hS hk.1, hk.2⟩
  · rintro k (hk | hk) hf
    · exact h.df k hk hf
    · have := (h.lf k hf).2; omega
theorem Doc.val (h : Doc w F v R') : ∃ A n c, v = docV A n c := by
  obtain ⟨A, n, c, _, h, _⟩ := h.ex
  exact ⟨A, n, c, h⟩
theorem wroteE_in (none : Bool) (R : List Rw) (k : Int) : sE none (wroteE R k) = 0 ∨ sE none (wroteE R k) = 1 ∨ sE none (wroteE R k) = 24 ∨ sE none (wroteE R k) = 39 := by
  unfold sE wroteE
  split
  · exact .inr (.inl rfl)
  · split
    · exact .inr (.inr (.inl rfl))
    · exact .inl rfl
theorem gaveE_in (none : Bool) (R : List Rw) (k : Int) (L : List Int) : sE none (gaveE R k L) = 0 ∨ sE none (gaveE R k L) = 1 ∨ sE none (gaveE R k L) = 24 ∨ sE none (gaveE R k L) = 39 := by
  unfold sE gaveE
  split
  · exact .inr (.inl rfl)
  · split
    · exact .inl rfl
    · exact .inr (.inr (.inr rfl))
theorem endedE_in (none : Bool) (R : List Rw) (k : Int) : sE none (endedE R k) = 0 ∨ sE none (endedE R k) = 1 ∨ sE none (endedE R k) = 24 ∨ sE none (endedE R k) = 39 := by
  unfold sE endedE
  split
  · exact .inr (.inl rfl)
  · split
    · exact .inl rfl
    · exact .inr (.inr (.inr rfl))
theorem Wl.sel {none : Bool} {R R' : List Rw} {N M i : Nat} (h : Wl R N i) (h' : Wl R' M (i + 1)) (hN : N ≤ M) : Wl (sR none R R') M (i + 1) := by
  unfold sR
  split
  · exact h.later hN (Nat.le_succ _)
  · exact h'
end
set_option maxRecDepth 100000 in
set_option maxHeartbeats 8000000 in
theorem step_any (w0 w : World) (adr : Nat → Addr) (hS : Sent w0 adr) (hb0 : Below w0.heap.size w0 w) {none : Bool} {pv v : Value} {D F : Nat → Prop} {R : List Rw} {N i : Nat} (h : HD none w0.heap.size w pv D F v R R) (hw : Wl R N i) (o : OpD) (hO : OpOk w0 o) (hN : o.len + N ≤ 1048576) (hi : i ≤ 1048576) :
    Calls Tryd.prog 19 #[pv, v, .bool none, .agg (opA o)] w fun r w' => ∃ v' D' F' R', r = .returned (.tuple #[v', .bool true]) ∧ HD none w0.heap.size w' pv D' F' v' R' R' ∧ Wl R' (N + o.len) (i + 1) ∧ Below w0.heap.size w0 w' ∧ Mod D w w' ∧ ∀ k, D' k ∨ F' k → (D k ∨ F k) ∨ w.heap.size ≤ k := by
  obtain ⟨A, n, c, rfl⟩ := h.d.val
  obtain ⟨w1, p, w2, hw1, hp, hw2, hb2, hs2, b3, hsx⟩ := step_boxes w o A n c
  have HD2 := hide (h.past hb2.drew)
  have HBl2 := hide (hb0.trans (hb2.drew.mono hb0.size))
  have HX2 := hide (hsx.past ((Below.refl _ _).drew))
  have HP := hide hp
  have HBw2 := hide hb2.drew
  have HW := hide hw
  have HS := hide hS
  have HO := hide hO
  have HLow : Hid (∀ k, D k ∨ F k → k < p) := hide (fun k hk => by
    rcases hk with hk | hk
    · have := (h.ld k hk).2; omega
    · have := (h.lf k hk).2; omega)
  have HSz : Hid (p + 4 ≤ w2.heap.size ∧ w0.heap.size ≤ p) := hide ⟨by omega, by rw [← hp]; exact hb0.size⟩
  obtain ⟨k0, f0⟩ := box1 b3
  have HRl : Hid ((restR R o.key).length ≤ 1048576) := hide (by have := hw.rest_len o.key; omega)
  have hrest := rest_ref w2.drew HD2.out.d (by have := hw.len; omega) o.key (hw.prd _) (by have := hw.pbig o.key; omega)
  have HRest := hide hrest
  clear h hw hS hO hb0 hb2 hs2 b3 hsx hrest
  go_enter Tryd.func19, Tryd.ntmps19
  go_upto_region 2 with fail
  try rw [hw2]
  clear k0 f0 hw1 hw2 hp
  have hrest := HRest.out
  obtain ⟨a0, _⟩ := box1 HX2.out.b0
  obtain ⟨b0, b1, b2, b3, b4⟩ := box5o HX2.out.b1
  have hHeld := And.intro a0 (And.intro b0 (And.intro b1 (And.intro b2 (And.intro b3 b4))))
  refine wp_region_held_n (n := 7) (l := #[false, false, false, false, false, false, false]) (S := (fun w' => w'.cell? ⟨p, 0, Option.none⟩ = some (.slice A n c) ∧ w'.cell? ⟨p + 1, 0, Option.none⟩ = some (.int .i64 o.kind) ∧ w'.cell? ⟨p + 1, 1, Option.none⟩ = some (.int .i64 o.key) ∧ w'.cell? ⟨p + 1, 2, Option.none⟩ = some (.int .i64 o.n) ∧ w'.cell? ⟨p + 1, 3, Option.none⟩ = some (.bool o.next) ∧ w'.cell? ⟨p + 1, 4, Option.none⟩ = some (.slice o.A o.len o.c))) rfl rfl (by kernel_rfl) ⟨a0, b0, b1, b2, b3, b4⟩ ?_
  refine wpAnyH_yields (i := 0) (oi := ?_) (v := ?_) ?_ (by kernel_rfl) (by kernel_rfl) (by kernel_rfl) (by assumption) ?_ ?_ ?_ ?_
  rotate_left 2
  · (simp only [List.getElem?_toArray, List.getElem?_cons_zero] <;> exact rfl)
  · rfl
  · (intro w' hSw; obtain ⟨g5, g0, g1, g2, g3, g4⟩ := hSw; go_simp <;> with_reducible rfl)
  · exact fun _ _ _ h => h
  simp only [Act.put, List.setIfInBounds_toArray, List.set]
  refine wpAnyH_yields (i := 1) (oi := ?_) (v := ?_) ?_ (by kernel_rfl) (by kernel_rfl) (by kernel_rfl) (by assumption) ?_ ?_ ?_ ?_
  rotate_left 2
  · (simp only [List.getElem?_toArray, List.getElem?_cons_succ, List.getElem?_cons_zero] <;> exact rfl)
  · rfl
  · (intro w' hSw; obtain ⟨g5, g0, g1, g2, g3, g4⟩ := hSw; go_simp <;> with_reducible rfl)
  · exact fun _ _ _ h => h
  simp only [Act.put, List.setIfInBounds_toArray, List.set]
  refine wpAnyH_yields (i := 2) (oi := ?_) (v := ?_) ?_ (by kernel_rfl) (by kernel_rfl) (by kernel_rfl) (by assumption) ?_ ?_ ?_ ?_
  rotate_left 2
  · (simp only [List.getElem?_toArray, List.getElem?_cons_succ, List.getElem?_cons_zero] <;> exact rfl)
  · rfl
  · (intro w' hSw; obtain ⟨g5, g0, g1, g2, g3, g4⟩ := hSw; go_simp <;> with_reducible rfl)
  · exact fun _ _ _ h => h
  simp only [Act.put, List.setIfInBounds_toArray, List.set]
  refine wpAnyH_yields (i := 3) (oi := ?_) (v := ?_) ?_ (by kernel_rfl) (by kernel_rfl) (by kernel_rfl) (by assumption) ?_ ?_ ?_ ?_
  rotate_left 2
  · (simp only [List.getElem?_toArray, List.getElem?_cons_succ, List.getElem?_cons_zero] <;> exact rfl)
  · rfl
  · (intro w' hSw; obtain ⟨g5, g0, g1, g2, g3, g4⟩ := hSw; go_simp <;> with_reducible rfl)
  · exact fun _ _ _ h => h
  simp only [Act.put, List.setIfInBounds_toArray, List.set]
  refine wpAnyH_ready (rs := [4]) (by kernel_rfl) (by simp) (AllReadyH.cons (o := ?_) ?_ (fun K hK => ?_) AllReadyH.nil)
  rotate_left 1
  · (simp only [List.getElem?_toArray, List.getElem?_cons_succ, List.getElem?_cons_zero] <;> exact rfl)
  go_simp
  go_at_call 18
  refine hrest.mono ?_
  rintro r wz ⟨Az, dz, rfl, hncz, hv, hbz⟩
  have HBz := hide (HBl2.out.trans (hbz.mono HBl2.out.size))
  have HBwz := hide (HBw2.out.trans (hbz.mono HBw2.out.size))
  have hbytes := gives_ok (HO.out.past HBz.out) (by omega) hv.reads hncz (by have := HRl.out; omega)
  have HDz := hide (HD2.out.past hbz)
  have HXz := hide (HX2.out.past hbz)
  have HSzz : Hid (w2.heap.size ≤ wz.heap.size) := hide hbz.size
  obtain ⟨za, _⟩ := box1 HXz.out.b0
  obtain ⟨z0, z1, z2, z3, z4⟩ := box5o HXz.out.b1
  clear hv hncz hbz hrest a0 b0 b1 b2 b3 b4 hHeld
  refine hK.out _ _ (⟨za, z0, z1, z2, z3, z4⟩) (fun hHeld => ?_)
  clear hK K
  try simp only [List.setIfInBounds_toArray, List.set_cons_zero, List.set_cons_succ]
  refine wpAnyH_ready (rs := [5]) (by kernel_rfl) (by simp) (AllReadyH.cons (o := ?_) ?_ (fun K hK => ?_) AllReadyH.nil)
  rotate_left 1
  · (simp only [List.getElem?_toArray, List.getElem?_cons_succ, List.getElem?_cons_zero] <;> exact rfl)
  go_simp
  go_at_call 10
  refine hbytes.mono ?_
  rintro r wy ⟨A3, d3, rfl, hv, hby⟩
  have HVR := hide hv
  have HBy := hide (HBz.out.trans (hby.mono HBz.out.size))
  have HBwy := hide (HBwz.out.trans (hby.mono HBwz.out.size))
  have HDy := hide (HDz.out.past hby)
  have HXy := hide (HXz.out.past hby)
  have HSy2 : Hid (wz.heap.size ≤ wy.heap.size) := hide hby.size
  obtain ⟨ya, _⟩ := box1 HXy.out.b0
  obtain ⟨y0, y1, y2, y3, y4⟩ := box5o HXy.out.b1
  clear hv hby hbytes za z0 z1 z2 z3 z4 hHeld
  refine hK.out _ _ (⟨ya, y0, y1, y2, y3, y4⟩) (fun hHeld => ?_)
  clear hK K
  try simp only [List.setIfInBounds_toArray, List.set_cons_zero, List.set_cons_succ]
  refine wpAnyH_yields (i := 6) (oi := ?_) (v := ?_) ?_ (by kernel_rfl) (by kernel_rfl) (by kernel_rfl) (by assumption) ?_ ?_ ?_ ?_
  rotate_left 2
  · (simp only [List.getElem?_toArray, List.getElem?_cons_succ, List.getElem?_cons_zero] <;> exact rfl)
  · rfl
  · (intro w' hSw; obtain ⟨g5, g0, g1, g2, g3, g4⟩ := hSw; go_simp <;> with_reducible rfl)
  · exact fun _ _ _ h => h
  simp only [Act.put, List.setIfInBounds_toArray, List.set]
  refine wpAnyH_done (by kernel_rfl) ?_ _
  clear hHeld
  have HL : Hid (∀ x ∈ givesL o (restR R o.key), 0 ≤ x ∧ x ≤ 255) := hide (gives_byte HO.out.byte (HW.out.rest_byte o.key))
  have HLl : Hid ((givesL o (restR R o.key)).length ≤ 1048576) := hide (gives_len (by have := HO.out.len; omega) HRl.out)
  obtain ⟨L, hL⟩ : ∃ L, L = givesL o (restR R o.key) := ⟨_, rfl⟩
  rw [← hL] at HVR HL HLl ⊢
  obtain ⟨wb, hwb⟩ : ∃ wb, wy = wb := ⟨_, rfl⟩
  rw [hwb] at HVR HBwy HBy HDy HXy HSy2 ya y0 y1 y2 y3 y4
  rw [hwb]
  have HSw : Hid (p + 4 ≤ wb.heap.size ∧ w0.heap.size ≤ wb.heap.size) := hide (by have := HSz.out; have := HSzz.out; have := HSy2.out; omega)
  clear hwb hL
  go_upto_block 0 with fail
  go_cut [11, 13] (fun v11 v13 wx => ∃ e B m cc, v11 = .int .i64 e ∧ v13 = evOf adr e ∧ Hid ((e = 0 ∨ e = 1 ∨ e = 24 ∨ e = 39) ∧ SX p o A n c wx B m cc ∧ ∃ D' F' R', HD none w0.heap.size wx pv D' F' (docV B m cc) R' R' ∧ Wl R' (N + o.len) (i + 1) ∧ Below w0.heap.size w0 wx ∧ (∀ k, D' k ∨ F' k → k ≠ p + 1 + 1) ∧ Mod D w wx ∧ ∀ k, D' k ∨ F' k → (D k ∨ F k) ∨ w.heap.size ≤ k))
  case first =>
    obtain ⟨i0, hi0, hz0, hz1, hz2⟩ := info_parts info_byte
    have HRn : Hid (R.length ≤ 1048576) := hide (by have := HW.out.len; omega)
    have HLo : Hid (∀ k, k < p → k ≠ p + 1 + 1 + 1) := hide (fun k hk => by omega)
    by_cases hk0 : o.kind = 0
    · have hd0 : (o.kind == 0) = true := beq_iff_eq.2 hk0
      clear hk0
      go_upto_if 39 with (fail)
      go_cut [11] (fun v11 wx => ∃ B m cc F', v11 = .int .i64 (sE none (wroteE R o.key)) ∧ Hid (SX p o A n c wx B m cc ∧ HD none w0.heap.size wx pv D F' (docV B m cc) R (sR none R (wroteR R o.key o.bs)) ∧ Below w0.heap.size w0 wx ∧ Mod (fun k => k = p + 1 + 1 + 1) wb wx ∧ ∀ k, F' k → F k ∨ wb.heap.size ≤ k))
      case first =>
        cases none with
        | false =>
          go_wp2_with fail
          refine (wrote_ref wb HDy.out.d (by have := HRn.out; omega) o.key (by have := HW.out.pbig o.key; omega) o.A o.len o.c o.bs (HO.out.past HBy.out).reads (by omega)).mono ?_
          rintro r w5 ⟨v', rfl, hdoc, hb5⟩
          obtain ⟨B, m, cc, rfl⟩ := hdoc.val
          obtain ⟨F', hhd, hF⟩ := HDy.out.docf HSw.out.2 hb5 hdoc
          have hx5 := HXy.out.past hb5
          obtain ⟨o3, fo3⟩ := box1 hx5.b3
          have HX6 := hide (hx5.set B m cc)
          have hm6 : Mod (fun k => k = p + 1 + 1 + 1) w5 (w5.setCell ⟨p + 1 + 1 + 1, 0, Option.none⟩ (.slice B m cc)) := Mod.setCell (F := fun k => k = p + 1 + 1 + 1) (Mod.refl (fun k => k = p + 1 + 1 + 1) w5) (p := ⟨p + 1 + 1 + 1, 0, Option.none⟩) (fun _ => rfl) _
          have HD6 := hide (hhd.kept hm6 (fun k hk => HLo.out k (HLow.out k (.inl hk))) (fun k hk => (hF k hk).elim (fun h => HLo.out k (HLow.out k (.inr h))) (fun h => by have := HSw.out.1; omega)))
          have HB6 := hide ((HBy.out.trans (hb5.mono HBy.out.size)).setCell (p := ⟨p + 1 + 1 + 1, 0, Option.none⟩) (by show w0.heap.size ≤ p + 1 + 1 + 1; have := HSz.out.2; omega) (.slice B m cc))
          have HM6 := hide ((Mod.ofBelow hb5 (fun k => k = p + 1 + 1 + 1)).trans hm6 (fun _ _ h => h))
          have HF6 := hide hF
          clear hdoc hhd hF hx5 hm6 hb5
          go_wp2
          go_meet
          case rel => exact ⟨B, m, cc, F', rfl, hide ⟨HX6.out, HD6.out, HB6.out, HM6.out, HF6.out⟩⟩
        | true =>
          go_wp2
          go_meet
          case rel => exact ⟨A, n, c, F, rfl, hide ⟨HXy.out, HDy.out, HBy.out, Mod.refl _ _, fun k hk => .inl hk⟩⟩
      case rest =>
        obtain ⟨B, m, cc, F', rfl, hx⟩ := hcut
        obtain ⟨wx, hwx⟩ : ∃ wx, wc = wx := ⟨_, rfl⟩
        rw [hwx] at hx
        rw [hwx]
        have HXx := hide hx.out.1
        have HDx := hide hx.out.2.1
        have HBx := hide hx.out.2.2.1
        have HMx := hide hx.out.2.2.2.1
        have HFx := hide hx.out.2.2.2.2
        have HMdx := hide ((Mod.ofBelow HBwy.out D).trans HMx.out (fun k hk h => by have := HP.out; omega))
        have HSx : Hid (p + 4 ≤ wx.heap.size) := hide (by have := HMx.out.size; have := HSw.out.1; omega)
        obtain ⟨x0, x1, x2, x3, x4⟩ := box5o HXx.out.b1
        clear hx hwx ya y0 y1 y2 y3 y4
        go_upto_region 11 with fail
        have HX8 := hide (HXx.out.past ((Below.refl wx.heap.size wx).drew))
        obtain ⟨c0, c1, c2, c3, c4⟩ := box5o HX8.out.b1
        obtain ⟨wq, hwq⟩ : ∃ wq, wx.drew.alloc (.cells #[] 5) = wq := ⟨_, rfl⟩
        obtain ⟨qq, hqq⟩ : ∃ qq, wx.drew.heap.size = qq := ⟨_, rfl⟩
        have hbq : Below wx.heap.size wx wq := by rw [← hwq]; exact ((Below.refl wx.heap.size wx).drew).alloc (Nat.le_refl _) _
        have HXq := hide (HXx.out.past hbq)
        have HDq := hide (HDx.out.past hbq)
        have HBq := hide (HBx.out.trans (hbq.mono HBx.out.size))
        have HMq := hide (HMdx.out.trans (Mod.ofBelow hbq D) (fun _ _ h => h))
        have HSq : Hid (p + 4 ≤ wq.heap.size) := hide (by have := hbq.size; have := HSx.out; omega)
        have HBt := hide (HO.out.past HBq.out).reads
        obtain ⟨d0, d1, d2, d3', d4⟩ := box5o HXq.out.b1
        have hHeld := And.intro c1 c4
        clear hbq x0 x1 x2 x3 x4
        refine wp_region_held_n (n := 9) (l := #[false, false, false, false, false, false, false, false, false]) (S := (fun w' => w'.cell? ⟨p + 1, 1, Option.none⟩ = some (.int .i64 o.key) ∧ w'.cell? ⟨p + 1, 4, Option.none⟩ = some (.slice o.A o.len o.c))) rfl rfl (by kernel_rfl) ⟨c1, c4⟩ ?_
        refine wpAnyH_yields (i := 0) (oi := ?_) (v := ?_) ?_ (by kernel_rfl) (by kernel_rfl) (by kernel_rfl) (by assumption) ?_ ?_ ?_ ?_
        rotate_left 2
        · (simp only [List.getElem?_toArray, List.getElem?_cons_zero] <;> exact rfl)
        · rfl
        · (intro w' hSw; obtain ⟨g1, g4⟩ := hSw; go_simp <;> with_reducible rfl)
        · exact fun _ _ _ h => h
        simp only [Act.put, List.setIfInBounds_toArray, List.set]
        refine wpAnyH_yields (i := 1) (oi := ?_) (v := ?_) ?_ (by kernel_rfl) (by kernel_rfl) (by kernel_rfl) (by assumption) ?_ ?_ ?_ ?_
        rotate_left 2
        · (simp only [List.getElem?_toArray, List.getElem?_cons_succ, List.getElem?_cons_zero] <;> exact rfl)
        · rfl
        · (intro w' hSw; obtain ⟨g1, g4⟩ := hSw; go_simp <;> with_reducible rfl)
        · exact fun _ _ _ h => h
        simp only [Act.put, List.setIfInBounds_toArray, List.set]
        refine wpAnyH_yields (i := 2) (oi := ?_) (v := ?_) ?_ (by kernel_rfl) (by kernel_rfl) (by kernel_rfl) (by assumption) ?_ ?_ ?_ ?_
        rotate_left 2
        · (simp only [List.getElem?_toArray, List.getElem?_cons_succ, List.getElem?_cons_zero] <;> exact rfl)
        · rfl
        · (intro w' hSw; obtain ⟨g1, g4⟩ := hSw; go_simp <;> with_reducible rfl)
        · exact fun _ _ _ h => h
        simp only [Act.put, List.setIfInBounds_toArray, List.set]
        refine wpAnyH_yields (i := 4) (oi := ?_) (v := ?_) ?_ (by kernel_rfl) (by kernel_rfl) (by kernel_rfl) (by assumption) ?_ ?_ ?_ ?_
        rotate_left 2
        · (simp only [List.getElem?_toArray, List.getElem?_cons_succ, List.getElem?_cons_zero] <;> exact rfl)
        · rfl
        · (intro w' hSw; obtain ⟨g1, g4⟩ := hSw; go_simp <;> with_reducible rfl)
        · exact fun _ _ _ h => h
        simp only [Act.put, List.setIfInBounds_toArray, List.set]
        refine wpAnyH_yields (i := 5) (oi := ?_) (v := ?_) ?_ (by kernel_rfl) (by kernel_rfl) (by kernel_rfl) (by assumption) ?_ ?_ ?_ ?_
        rotate_left 2
        · (simp only [List.getElem?_toArray, List.getElem?_cons_succ, List.getElem?_cons_zero] <;> exact rfl)
        · rfl
        · (intro w' hSw; obtain ⟨g1, g4⟩ := hSw; go_simp <;> with_reducible rfl)
        · exact fun _ _ _ h => h
        simp only [Act.put, List.setIfInBounds_toArray, List.set]
        refine wpAnyH_ready (rs := [3]) (by kernel_rfl) (by simp) (AllReadyH.cons (o := ?_) ?_ (fun K hK => ?_) AllReadyH.nil)
        rotate_left 1
        · (simp only [List.getElem?_toArray, List.getElem?_cons_succ, List.getElem?_cons_zero] <;> exact rfl)
        go_simp
        clear hHeld
        refine hK.out _ _ (⟨d1, d4⟩) (fun hHeld => ?_)
        clear hK K
        try simp only [List.setIfInBounds_toArray, List.set_cons_zero, List.set_cons_succ]
        refine wpAnyH_ready (rs := [6]) (by kernel_rfl) (by simp) (AllReadyH.cons (o := ?_) ?_ (fun K hK => ?_) AllReadyH.nil)
        rotate_left 1
        · (simp only [List.getElem?_toArray, List.getElem?_cons_succ, List.getElem?_cons_zero] <;> exact rfl)
        refine step_append_row rfl _ _ 26 rfl 5 i0 (.int .u8 0) 1 1 Tryd.underlying26 hi0 hz0 hz1 hz2 rfl (by decide) rfl (row_none _ _) rfl HBt.out (u8s_one _) (by unfold maxLen; omega) (by omega) ?_
        intro B5 c5 w5 hr5 hm5
        rw [Nat.zero_add] at hr5 ⊢
        have hb5 : Below wq.heap.size wq w5 := hm5.below (Nat.le_refl _) (fun k h => h.elim)
        have HDW := hide (HDq.out.past hb5)
        have HBW := hide (HBq.out.trans (hb5.mono HBq.out.size))
        have HXW := hide (HXq.out.past hb5)
        have HMW := hide (HMq.out.trans (Mod.ofBelow hb5 D) (fun _ _ h => h))
        have HSW : Hid (p + 4 ≤ w5.heap.size) := hide (by have := hb5.size; have := HSq.out; omega)
        have HV5 : Hid (Reads w5 1 (.slice B5 o.len c5) o.len (u8s o.bs)) := hide hr5.reads
        obtain ⟨f0', f1', f2', f3', f4'⟩ := box5o HXW.out.b1
        clear hr5 hm5 hb5 hHeld d0 d1 d2 d3' d4
        refine hK.out _ _ (⟨f1', f4'⟩) (fun hHeld => ?_)
        clear hK K
        try simp only [List.setIfInBounds_toArray, List.set_cons_zero, List.set_cons_succ]
        refine wpAnyH_ready (rs := [7]) (by kernel_rfl) (by simp) (AllReadyH.cons (o := ?_) ?_ (fun K hK => ?_) AllReadyH.nil)
        rotate_left 1
        · (simp only [List.getElem?_toArray, List.getElem?_cons_succ, List.getElem?_cons_zero] <;> exact rfl)
        go_simp
        go_at_call 12
        refine (m_wrote w5 (HS.out.below HBW.out) HDW.out.h o.key HO.out.key (by have := HRn.out; omega) B5 o.len c5 o.bs HV5.out HO.out.byte (by have := HW.out.pbig o.key; omega)).mono ?_
        rintro r w7 ⟨rfl, htn⟩
        obtain ⟨D', hh7, hD7⟩ := HDW.out.turnf HBW.out.size htn
        have HD7 := hide hh7
        have HX7 := hide (HXW.out.mod htn.2 (fun k hk => HLow.out k (.inl hk)))
        have HB7 := hide (HBW.out.trans (HDW.out.low HBW.out.size htn))
        have HFar : Hid (∀ k, D' k ∨ F' k → k ≠ p + 1 + 1) := hide (fun k hk => by
          rcases hk with hk | hk
          · rcases hD7 k hk with h | h
            · have := HLow.out k (.inl h); omega
            · have := HSW.out; omega
          · rcases HFx.out k hk with h | h
            · have := HLow.out k (.inr h); omega
            · have := HSw.out.1; omega)
        have HFar2 : Hid (∀ k, D' k ∨ F' k → (D k ∨ F k) ∨ w.heap.size ≤ k) := hide (fun k hk => by
          have hp := HP.out
          rcases hk with hk | hk
          · rcases hD7 k hk with h | h
            · exact .inl (.inl h)
            · have := HSW.out; exact .inr (by omega)
          · rcases HFx.out k hk with h | h
            · exact .inl (.inr h)
            · have := HSw.out.1; exact .inr (by omega))
        have HM7 := hide (HMW.out.trans htn.2 (fun _ _ h => h))
        obtain ⟨h0', h1', h2', h3', h4'⟩ := box5o HX7.out.b1
        clear hh7 htn hD7 f0' f1' f2' f3' f4' hHeld
        refine hK.out _ _ (⟨h1', h4'⟩) (fun hHeld => ?_)
        clear hK K
        try simp only [List.setIfInBounds_toArray, List.set_cons_zero, List.set_cons_succ]
        refine wpAnyH_yields (i := 8) (oi := ?_) (v := ?_) ?_ (by kernel_rfl) (by kernel_rfl) (by kernel_rfl) (by assumption) ?_ ?_ ?_ ?_
        rotate_left 2
        · (simp only [List.getElem?_toArray, List.getElem?_cons_succ, List.getElem?_cons_zero] <;> exact rfl)
        · rfl
        · (intro w' hSw; obtain ⟨g1, g4⟩ := hSw; go_simp <;> with_reducible rfl)
        · exact fun _ _ _ h => h
        simp only [Act.put, List.setIfInBounds_toArray, List.set]
        refine wpAnyH_done (by kernel_rfl) ?_ _
        go_wp2
        go_meet
        case rel => exact ⟨_, B, m, cc, rfl, rfl, hide ⟨wroteE_in none R o.key, HX7.out, D', F', _, HD7.out, by have h := HW.out.sel (none := none) (HW.out.wrote HO.out.key HO.out.byte) (Nat.le_add_right _ _); rw [HO.out.len] at h; exact h, HB7.out, HFar.out, HM7.out, HFar2.out⟩⟩
    · skip
      by_cases hk1 : o.kind = 1
      · have hd0 : (o.kind == 0) = false := beq_eq_false_iff_ne.2 hk0
        have hd1 : (o.kind == 1) = true := beq_iff_eq.2 hk1
        clear hk0 hk1
        go_upto_if 60 with (fail)
        go_cut [11] (fun v11 wx => ∃ B m cc F', v11 = .int .i64 (sE none (wroteE R o.key)) ∧ Hid (SX p o A n c wx B m cc ∧ HD none w0.heap.size wx pv D F' (docV B m cc) R (sR none R (closedR R o.key)) ∧ Below w0.heap.size w0 wx ∧ Mod (fun k => k = p + 1 + 1 + 1) wb wx ∧ ∀ k, F' k → F k ∨ wb.heap.size ≤ k))
        case first =>
          cases none with
          | false =>
            go_wp2_with fail
            refine (closed_ref wb HDy.out.d (by have := HRn.out; omega) o.key).mono ?_
            rintro r w5 ⟨v', rfl, hdoc, hb5⟩
            obtain ⟨B, m, cc, rfl⟩ := hdoc.val
            obtain ⟨F', hhd, hF⟩ := HDy.out.docf HSw.out.2 hb5 hdoc
            have hx5 := HXy.out.past hb5
            obtain ⟨o3, fo3⟩ := box1 hx5.b3
            have HX6 := hide (hx5.set B m cc)
            have hm6 : Mod (fun k => k = p + 1 + 1 + 1) w5 (w5.setCell ⟨p + 1 + 1 + 1, 0, Option.none⟩ (.slice B m cc)) := Mod.setCell (F := fun k => k = p + 1 + 1 + 1) (Mod.refl (fun k => k = p + 1 + 1 + 1) w5) (p := ⟨p + 1 + 1 + 1, 0, Option.none⟩) (fun _ => rfl) _
            have HD6 := hide (hhd.kept hm6 (fun k hk => HLo.out k (HLow.out k (.inl hk))) (fun k hk => (hF k hk).elim (fun h => HLo.out k (HLow.out k (.inr h))) (fun h => by have := HSw.out.1; omega)))
            have HB6 := hide ((HBy.out.trans (hb5.mono HBy.out.size)).setCell (p := ⟨p + 1 + 1 + 1, 0, Option.none⟩) (by show w0.heap.size ≤ p + 1 + 1 + 1; have := HSz.out.2; omega) (.slice B m cc))
            have HM6 := hide ((Mod.ofBelow hb5 (fun k => k = p + 1 + 1 + 1)).trans hm6 (fun _ _ h => h))
            have HF6 := hide hF
            clear hdoc hhd hF hx5 hm6 hb5
            go_wp2
            go_meet
            case rel => exact ⟨B, m, cc, F', rfl, hide ⟨HX6.out, HD6.out, HB6.out, HM6.out, HF6.out⟩⟩
          | true =>
            go_wp2
            go_meet
            case rel => exact ⟨A, n, c, F, rfl, hide ⟨HXy.out, HDy.out, HBy.out, Mod.refl _ _, fun k hk => .inl hk⟩⟩
        case rest =>
          obtain ⟨B, m, cc, F', rfl, hx⟩ := hcut
          obtain ⟨wx, hwx⟩ : ∃ wx, wc = wx := ⟨_, rfl⟩
          rw [hwx] at hx
          rw [hwx]
          have HXx := hide hx.out.1
          have HDx := hide hx.out.2.1
          have HBx := hide hx.out.2.2.1
          have HMx := hide hx.out.2.2.2.1
          have HFx := hide hx.out.2.2.2.2
          have HMdx := hide ((Mod.ofBelow HBwy.out D).trans HMx.out (fun k hk h => by have := HP.out; omega))
          have HSx : Hid (p + 4 ≤ wx.heap.size) := hide (by have := HMx.out.size; have := HSw.out.1; omega)
          obtain ⟨x0, x1, x2, x3, x4⟩ := box5o HXx.out.b1
          clear hx hwx ya y0 y1 y2 y3 y4
          have HDW := HDx
          have HBW := HBx
          have HXW := HXx
          have HSW := HSx
          have HMW := HMdx
          go_wp2_with fail
          refine (m_closed wx (HS.out.below HBx.out) HDx.out.h o.key HO.out.key (by have := HRn.out; omega)).mono ?_
          rintro r w7 ⟨rfl, htn⟩
          obtain ⟨D', hh7, hD7⟩ := HDW.out.turnf HBW.out.size htn
          have HD7 := hide hh7
          have HX7 := hide (HXW.out.mod htn.2 (fun k hk => HLow.out k (.inl hk)))
          have HB7 := hide (HBW.out.trans (HDW.out.low HBW.out.size htn))
          have HFar : Hid (∀ k, D' k ∨ F' k → k ≠ p + 1 + 1) := hide (fun k hk => by
            rcases hk with hk | hk
            · rcases hD7 k hk with h | h
              · have := HLow.out k (.inl h); omega
              · have := HSW.out; omega
            · rcases HFx.out k hk with h | h
              · have := HLow.out k (.inr h); omega
              · have := HSw.out.1; omega)
          have HFar2 : Hid (∀ k, D' k ∨ F' k → (D k ∨ F k) ∨ w.heap.size ≤ k) := hide (fun k hk => by
            have hp := HP.out
            rcases hk with hk | hk
            · rcases hD7 k hk with h | h
              · exact .inl (.inl h)
              · have := HSW.out; exact .inr (by omega)
            · rcases HFx.out k hk with h | h
              · exact .inl (.inr h)
              · have := HSw.out.1; exact .inr (by omega))
          have HM7 := hide (HMW.out.trans htn.2 (fun _ _ h => h))
          clear hh7 htn hD7 x0 x1 x2 x3 x4
          go_wp2
          go_meet
          case rel => exact ⟨_, B, m, cc, rfl, rfl, hide ⟨wroteE_in none R o.key, HX7.out, D', F', _, HD7.out, HW.out.sel ((HW.out.closed HO.out.key).later (Nat.le_add_right _ _) (Nat.le_refl _)) (Nat.le_add_right _ _), HB7.out, HFar.out, HM7.out, HFar2.out⟩⟩
      · skip
        by_cases hk2 : o.kind = 2
        · have hd0 : (o.kind == 0) = false := beq_eq_false_iff_ne.2 hk0
          have hd1 : (o.kind == 1) = false := beq_eq_false_iff_ne.2 hk1
          have hd2 : (o.kind == 2) = true := beq_iff_eq.2 hk2
          clear hk0 hk1 hk2
          go_upto_if 75 with (fail)
          go_cut [11] (fun v11 wx => ∃ B m cc F', v11 = .int .i64 (sE none (gaveE R o.key L)) ∧ Hid (SX p o A n c wx B m cc ∧ HD none w0.heap.size wx pv D F' (docV B m cc) R (sR none R (gaveR R o.key L)) ∧ Below w0.heap.size w0 wx ∧ Mod (fun k => k = p + 1 + 1 + 1) wb wx ∧ ∀ k, F' k → F k ∨ wb.heap.size ≤ k))
          case first =>
            cases none with
            | false =>
              go_wp2_with fail
              refine (gave_ref wb HDy.out.d (by have := HRn.out; omega) o.key (HW.out.prd _) (by have := HW.out.pbig o.key; omega) A3 L.length d3 L HVR.out.reads).mono ?_
              rintro r w5 ⟨v', rfl, hdoc, hb5⟩
              obtain ⟨B, m, cc, rfl⟩ := hdoc.val
              obtain ⟨F', hhd, hF⟩ := HDy.out.docf HSw.out.2 hb5 hdoc
              have hx5 := HXy.out.past hb5
              obtain ⟨o3, fo3⟩ := box1 hx5.b3
              have HX6 := hide (hx5.set B m cc)
              have hm6 : Mod (fun k => k = p + 1 + 1 + 1) w5 (w5.setCell ⟨p + 1 + 1 + 1, 0, Option.none⟩ (.slice B m cc)) := Mod.setCell (F := fun k => k = p + 1 + 1 + 1) (Mod.refl (fun k => k = p + 1 + 1 + 1) w5) (p := ⟨p + 1 + 1 + 1, 0, Option.none⟩) (fun _ => rfl) _
              have HD6 := hide (hhd.kept hm6 (fun k hk => HLo.out k (HLow.out k (.inl hk))) (fun k hk => (hF k hk).elim (fun h => HLo.out k (HLow.out k (.inr h))) (fun h => by have := HSw.out.1; omega)))
              have HB6 := hide ((HBy.out.trans (hb5.mono HBy.out.size)).setCell (p := ⟨p + 1 + 1 + 1, 0, Option.none⟩) (by show w0.heap.size ≤ p + 1 + 1 + 1; have := HSz.out.2; omega) (.slice B m cc))
              have HM6 := hide ((Mod.ofBelow hb5 (fun k => k = p + 1 + 1 + 1)).trans hm6 (fun _ _ h => h))
              have HF6 := hide hF
              clear hdoc hhd hF hx5 hm6 hb5
              go_wp2
              go_meet
              case rel => exact ⟨B, m, cc, F', rfl, hide ⟨HX6.out, HD6.out, HB6.out, HM6.out, HF6.out⟩⟩
            | true =>
              go_wp2
              go_meet
              case rel => exact ⟨A, n, c, F, rfl, hide ⟨HXy.out, HDy.out, HBy.out, Mod.refl _ _, fun k hk => .inl hk⟩⟩
          case rest =>
            obtain ⟨B, m, cc, F', rfl, hx⟩ := hcut
            obtain ⟨wx, hwx⟩ : ∃ wx, wc = wx := ⟨_, rfl⟩
            rw [hwx] at hx
            rw [hwx]
            have HXx := hide hx.out.1
            have HDx := hide hx.out.2.1
            have HBx := hide hx.out.2.2.1
            have HMx := hide hx.out.2.2.2.1
            have HFx := hide hx.out.2.2.2.2
            have HMdx := hide ((Mod.ofBelow HBwy.out D).trans HMx.out (fun k hk h => by have := HP.out; omega))
            have HSx : Hid (p + 4 ≤ wx.heap.size) := hide (by have := HMx.out.size; have := HSw.out.1; omega)
            obtain ⟨x0, x1, x2, x3, x4⟩ := box5o HXx.out.b1
            clear hx hwx ya y0 y1 y2 y3 y4
            have HVx := hide (HVR.out.kept HMx.out (fun k hk _ hd => by have := HSzz.out; have := HSz.out.1; have := hk.1; omega)).reads
            have HDW := HDx
            have HBW := HBx
            have HXW := HXx
            have HSW := HSx
            have HMW := HMdx
            go_wp2_with fail
            refine (m_gave wx (HS.out.below HBx.out) HDx.out.h o.key HO.out.key (by have := HRn.out; omega) A3 L.length d3 L HVx.out HL.out (by have := HW.out.pbig o.key; omega)).mono ?_
            rintro r w7 ⟨rfl, htn⟩
            obtain ⟨D', hh7, hD7⟩ := HDW.out.turnf HBW.out.size htn
            have HD7 := hide hh7
            have HX7 := hide (HXW.out.mod htn.2 (fun k hk => HLow.out k (.inl hk)))
            have HB7 := hide (HBW.out.trans (HDW.out.low HBW.out.size htn))
            have HFar : Hid (∀ k, D' k ∨ F' k → k ≠ p + 1 + 1) := hide (fun k hk => by
              rcases hk with hk | hk
              · rcases hD7 k hk with h | h
                · have := HLow.out k (.inl h); omega
                · have := HSW.out; omega
              · rcases HFx.out k hk with h | h
                · have := HLow.out k (.inr h); omega
                · have := HSw.out.1; omega)
            have HFar2 : Hid (∀ k, D' k ∨ F' k → (D k ∨ F k) ∨ w.heap.size ≤ k) := hide (fun k hk => by
              have hp := HP.out
              rcases hk with hk | hk
              · rcases hD7 k hk with h | h
                · exact .inl (.inl h)
                · have := HSW.out; exact .inr (by omega)
              · rcases HFx.out k hk with h | h
                · exact .inl (.inr h)
                · have := HSw.out.1; exact .inr (by omega))
            have HM7 := hide (HMW.out.trans htn.2 (fun _ _ h => h))
            clear hh7 htn hD7 x0 x1 x2 x3 x4
            go_wp2
            go_meet
            case rel => exact ⟨_, B, m, cc, rfl, rfl, hide ⟨gaveE_in none R o.key L, HX7.out, D', F', _, HD7.out, HW.out.sel ((HW.out.gave HO.out.key).later (Nat.le_add_right _ _) (Nat.le_refl _)) (Nat.le_add_right _ _), HB7.out, HFar.out, HM7.out, HFar2.out⟩⟩
        · skip
          have hd0 : (o.kind == 0) = false := beq_eq_false_iff_ne.2 hk0
          have hd1 : (o.kind == 1) = false := beq_eq_false_iff_ne.2 hk1
          have hd2 : (o.kind == 2) = false := beq_eq_false_iff_ne.2 hk2
          clear hk0 hk1 hk2
          go_upto_if 24 with (fail)
          go_cut [11] (fun v11 wx => ∃ B m cc F', v11 = .int .i64 (sE none (endedE R o.key)) ∧ Hid (SX p o A n c wx B m cc ∧ HD none w0.heap.size wx pv D F' (docV B m cc) R (sR none R (endedR R o.key)) ∧ Below w0.heap.size w0 wx ∧ Mod (fun k => k = p + 1 + 1 + 1) wb wx ∧ ∀ k, F' k → F k ∨ wb.heap.size ≤ k))
          case first =>
            cases none with
            | false =>
              go_wp2_with fail
              refine (ended_ref wb HDy.out.d (by have := HRn.out; omega) o.key (HW.out.prd _)).mono ?_
              rintro r w5 ⟨v', rfl, hdoc, hb5⟩
              obtain ⟨B, m, cc, rfl⟩ := hdoc.val
              obtain ⟨F', hhd, hF⟩ := HDy.out.docf HSw.out.2 hb5 hdoc
              have hx5 := HXy.out.past hb5
              obtain ⟨o3, fo3⟩ := box1 hx5.b3
              have HX6 := hide (hx5.set B m cc)
              have hm6 : Mod (fun k => k = p + 1 + 1 + 1) w5 (w5.setCell ⟨p + 1 + 1 + 1, 0, Option.none⟩ (.slice B m cc)) := Mod.setCell (F := fun k => k = p + 1 + 1 + 1) (Mod.refl (fun k => k = p + 1 + 1 + 1) w5) (p := ⟨p + 1 + 1 + 1, 0, Option.none⟩) (fun _ => rfl) _
              have HD6 := hide (hhd.kept hm6 (fun k hk => HLo.out k (HLow.out k (.inl hk))) (fun k hk => (hF k hk).elim (fun h => HLo.out k (HLow.out k (.inr h))) (fun h => by have := HSw.out.1; omega)))
              have HB6 := hide ((HBy.out.trans (hb5.mono HBy.out.size)).setCell (p := ⟨p + 1 + 1 + 1, 0, Option.none⟩) (by show w0.heap.size ≤ p + 1 + 1 + 1; have := HSz.out.2; omega) (.slice B m cc))
              have HM6 := hide ((Mod.ofBelow hb5 (fun k => k = p + 1 + 1 + 1)).trans hm6 (fun _ _ h => h))
              have HF6 := hide hF
              clear hdoc hhd hF hx5 hm6 hb5
              go_wp2
              go_meet
              case rel => exact ⟨B, m, cc, F', rfl, hide ⟨HX6.out, HD6.out, HB6.out, HM6.out, HF6.out⟩⟩
            | true =>
              go_wp2
              go_meet
              case rel => exact ⟨A, n, c, F, rfl, hide ⟨HXy.out, HDy.out, HBy.out, Mod.refl _ _, fun k hk => .inl hk⟩⟩
          case rest =>
            obtain ⟨B, m, cc, F', rfl, hx⟩ := hcut
            obtain ⟨wx, hwx⟩ : ∃ wx, wc = wx := ⟨_, rfl⟩
            rw [hwx] at hx
            rw [hwx]
            have HXx := hide hx.out.1
            have HDx := hide hx.out.2.1
            have HBx := hide hx.out.2.2.1
            have HMx := hide hx.out.2.2.2.1
            have HFx := hide hx.out.2.2.2.2
            have HMdx := hide ((Mod.ofBelow HBwy.out D).trans HMx.out (fun k hk h => by have := HP.out; omega))
            have HSx : Hid (p + 4 ≤ wx.heap.size) := hide (by have := HMx.out.size; have := HSw.out.1; omega)
            obtain ⟨x0, x1, x2, x3, x4⟩ := box5o HXx.out.b1
            clear hx hwx ya y0 y1 y2 y3 y4
            have HDW := HDx
            have HBW := HBx
            have HXW := HXx
            have HSW := HSx
            have HMW := HMdx
            go_wp2_with fail
            refine (m_ended wx (HS.out.below HBx.out) HDx.out.h o.key HO.out.key (HW.out.prd _)).mono ?_
            rintro r w7 ⟨rfl, htn⟩
            obtain ⟨D', hh7, hD7⟩ := HDW.out.turnf HBW.out.size htn
            have HD7 := hide hh7
            have HX7 := hide (HXW.out.mod htn.2 (fun k hk => HLow.out k (.inl hk)))
            have HB7 := hide (HBW.out.trans (HDW.out.low HBW.out.size htn))
            have HFar : Hid (∀ k, D' k ∨ F' k → k ≠ p + 1 + 1) := hide (fun k hk => by
              rcases hk with hk | hk
              · rcases hD7 k hk with h | h
                · have := HLow.out k (.inl h); omega
                · have := HSW.out; omega
              · rcases HFx.out k hk with h | h
                · have := HLow.out k (.inr h); omega
                · have := HSw.out.1; omega)
            have HFar2 : Hid (∀ k, D' k ∨ F' k → (D k ∨ F k) ∨ w.heap.size ≤ k) := hide (fun k hk => by
              have hp := HP.out
              rcases hk with hk | hk
              · rcases hD7 k hk with h | h
                · exact .inl (.inl h)
                · have := HSW.out; exact .inr (by omega)
              · rcases HFx.out k hk with h | h
                · exact .inl (.inr h)
                · have := HSw.out.1; exact .inr (by omega))
            have HM7 := hide (HMW.out.trans htn.2 (fun _ _ h => h))
            clear hh7 htn hD7 x0 x1 x2 x3 x4
            go_wp2
            go_meet
            case rel => exact ⟨_, B, m, cc, rfl, rfl, hide ⟨endedE_in none R o.key, HX7.out, D', F', _, HD7.out, HW.out.sel ((HW.out.ended HO.out.key).later (Nat.le_add_right _ _) (Nat.le_refl _)) (Nat.le_add_right _ _), HB7.out, HFar.out, HM7.out, HFar2.out⟩⟩
  case rest =>
    obtain ⟨e, B, m, cc, rfl, rfl, hx⟩ := hcut
    obtain ⟨wx, hwx⟩ : ∃ wx, wc = wx := ⟨_, rfl⟩
    rw [hwx] at hx
    rw [hwx]
    obtain ⟨he, hX, D', F', R', hD, hW, hB, hfar, hmd, hfar2⟩ := hx.out
    have HMd := hide hmd
    have HFar2 := hide hfar2
    have HXd := hide (hX.past ((Below.refl wx.heap.size wx).drew))
    have HDd := hide (hD.past ((Below.refl wx.heap.size wx).drew))
    have HBd := hide (hB.drew)
    have hcode := code_of wx.drew adr (HS.out.below HBd.out) e he
    have HWl := hide hW
    have HFar := hide hfar
    clear hx hwx hX hD hW hB hfar hmd hfar2 ya y0 y1 y2 y3 y4 he
    go_upto_region 20 with fail
    obtain ⟨o3, _⟩ := box1 HXd.out.b3
    obtain ⟨o2, fo2⟩ := box1 HXd.out.b2
    have hm8 : Mod (fun k => k = p + 1 + 1) wx.drew (wx.drew.setCell ⟨p + 1 + 1, 0, Option.none⟩ (.slice B m cc)) := Mod.setCell (F := fun k => k = p + 1 + 1) (Mod.refl (fun k => k = p + 1 + 1) wx.drew) (p := ⟨p + 1 + 1, 0, Option.none⟩) (fun _ => rfl) _
    have HD8 := hide (HDd.out.kept hm8 (fun k hk => HFar.out k (.inl hk)) (fun k hk => HFar.out k (.inr hk)))
    have HB8 := hide (HBd.out.setCell (p := ⟨p + 1 + 1, 0, Option.none⟩) (by show w0.heap.size ≤ p + 1 + 1; have := HSz.out.2; omega) (.slice B m cc))
    have hs8 := heap_setCell_same _ (p + 1 + 1) 0 _ 44 (.slice B m cc) HXd.out.b2
    obtain ⟨m0, _⟩ := box1 (show (wx.drew.setCell ⟨p + 1 + 1, 0, Option.none⟩ (.slice B m cc)).heap[p + 1 + 1]? = some (.cells #[.slice B m cc] 44 (0, 0)) by simpa using hs8)
    have m1 : (wx.setCell ⟨p + 1 + 1, 0, Option.none⟩ (.slice B m cc)).cell? ⟨p + 1 + 1, 0, Option.none⟩ = some (.slice B m cc) := m0
    have hHeld := o3
    have HM8 := hide ((HMd.out.trans (Mod.ofBelow ((Below.refl wx.heap.size wx).drew) D) (fun _ _ h => h)).trans hm8 (fun k hk h => by have := HP.out; omega))
    clear hm8 hs8 m0
    refine wp_region_held_n (n := 7) (l := #[false, false, false, false, false, false, false]) (S := (fun w' => w'.cell? ⟨p + 1 + 1 + 1, 0, Option.none⟩ = some (.slice B m cc))) rfl rfl (by kernel_rfl) o3 ?_
    refine wpAnyH_yields (i := 0) (oi := ?_) (v := ?_) ?_ (by kernel_rfl) (by kernel_rfl) (by kernel_rfl) (by assumption) ?_ ?_ ?_ ?_
    rotate_left 2
    · (simp only [List.getElem?_toArray, List.getElem?_cons_zero] <;> exact rfl)
    · rfl
    · (intro w' hSw; go_simp <;> with_reducible rfl)
    · exact fun _ _ _ h => h
    simp only [Act.put, List.setIfInBounds_toArray, List.set]
    refine wpAnyH_yields (i := 1) (oi := ?_) (v := ?_) ?_ (by kernel_rfl) (by kernel_rfl) (by kernel_rfl) (by assumption) ?_ ?_ ?_ ?_
    rotate_left 2
    · (simp only [List.getElem?_toArray, List.getElem?_cons_succ, List.getElem?_cons_zero] <;> exact rfl)
    · rfl
    · (intro w' hSw; go_simp <;> with_reducible rfl)
    · exact fun _ _ _ h => h
    simp only [Act.put, List.setIfInBounds_toArray, List.set]
    refine wpAnyH_yields (i := 3) (oi := ?_) (v := ?_) ?_ (by kernel_rfl) (by kernel_rfl) (by kernel_rfl) (by assumption) ?_ ?_ ?_ ?_
    rotate_left 2
    · (simp only [List.getElem?_toArray, List.getElem?_cons_succ, List.getElem?_cons_zero] <;> exact rfl)
    · rfl
    · (intro w' hSw; go_simp <;> with_reducible rfl)
    · exact fun _ _ _ h => h
    simp only [Act.put, List.setIfInBounds_toArray, List.set]
    refine wpAnyH_ready (rs := [2]) (by kernel_rfl) (by simp) (AllReadyH.cons (o := ?_) ?_ (fun K hK => ?_) AllReadyH.nil)
    rotate_left 1
    · (simp only [List.getElem?_toArray, List.getElem?_cons_succ, List.getElem?_cons_zero] <;> exact rfl)
    go_simp
    go_at_call 27
    refine hcode.mono ?_
    rintro r wz ⟨rfl, rfl⟩
    refine hK.out _ _ (by assumption) (fun hHeld => ?_)
    clear hK K
    try simp only [List.setIfInBounds_toArray, List.set_cons_zero, List.set_cons_succ]
    refine wpAnyH_yields (i := 4) (oi := ?_) (v := ?_) ?_ (by kernel_rfl) (by kernel_rfl) (by kernel_rfl) (by assumption) ?_ ?_ ?_ ?_
    rotate_left 2
    · (simp only [List.getElem?_toArray, List.getElem?_cons_succ, List.getElem?_cons_zero] <;> exact rfl)
    · rfl
    · (intro w' hSw; go_simp <;> with_reducible rfl)
    · exact fun _ _ _ h => h
    simp only [Act.put, List.setIfInBounds_toArray, List.set]
    refine wpAnyH_ready (rs := [5]) (by kernel_rfl) (by simp) (AllReadyH.cons (o := ?_) ?_ (fun K hK => ?_) AllReadyH.nil)
    rotate_left 1
    · (simp only [List.getElem?_toArray, List.getElem?_cons_succ, List.getElem?_cons_zero] <;> exact rfl)
    go_simp
    clear hHeld
    refine hK.out _ _ (cell_farB o3 (fun e => by have e : p + 1 + 1 + 1 = p + 1 + 1 := e; omega)) (fun hHeld => ?_)
    clear hK K
    try simp only [List.setIfInBounds_toArray, List.set_cons_zero, List.set_cons_succ]
    refine wpAnyH_yields (i := 6) (oi := ?_) (v := ?_) ?_ (by kernel_rfl) (by kernel_rfl) (by kernel_rfl) (by assumption) ?_ ?_ ?_ ?_
    rotate_left 2
    · (simp only [List.getElem?_toArray, List.getElem?_cons_succ, List.getElem?_cons_zero] <;> exact rfl)
    · rfl
    · (intro w' hSw; go_simp <;> with_reducible rfl)
    · exact fun _ _ _ h => h
    simp only [Act.put, List.setIfInBounds_toArray, List.set]
    refine wpAnyH_done (by kernel_rfl) ?_ _
    go_wp2
    refine bodyPost_ret (by simp [results, Tryd.results19, go_sem, m1]; rfl) rfl ?_
    exact ⟨docV B m cc, D', F', R', rfl, HD8.out, HWl.out, HB8.out, HM8.out, HFar2.out⟩
end Go.Proofs.YtipfjnjjfojdgaaDoor
