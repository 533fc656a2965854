import Derived.Test.YtipfjnjjfojdgaaDoorTStep
import Derived.Deep.DeepCutAuto
import Derived.Deep.CutBlock
import Derived.Deep.QuietTactic
/- TraceKeys. Printed by gen_tk.py. -/
namespace Go.Proofs.YtipfjnjjfojdgaaDoor
open Go Go.RowKit Go.Cu Go.Proofs.YtipfjnjjfojdgaaDoor.errs
namespace traceKeys

/-- between two rounds -/
def Rel (w0 w : World) (c1 c2 : Nat) (key : Int) (i rem : Nat) : Prop :=
  ∃ D1 D2 R1 R2 N, H2 w0.heap.size w c1 c2 D1 D2 R1 R2 ∧ Same key R1 R2 ∧ Wl R1 N i ∧ Wl R2 N i ∧ N + rem ≤ 1048576 ∧ Below w0.heap.size w0 w
theorem Rel.below {w0 w : World} {c1 c2 : Nat} {key : Int} {i rem : Nat} (h : Rel w0 w c1 c2 key i rem) : Below w0.heap.size w0 w := by
  obtain ⟨_, _, _, _, _, _, _, _, _, _, h⟩ := h
  exact h
set_option maxRecDepth 100000 in
set_option maxHeartbeats 8000000 in
theorem walk (w : World) (adr : Nat → Addr) (hS : Sent w adr) (hT : Tab w) (sv : Value) (ns : Nat) (ops : List OpD) (hO : Ops w sv ns ops) (key : Int) (hk : wfi key) :
    Calls Tryd.prog 3 #[sv, .int .i64 key] w fun e w' => e = .returned (.bool true) ∧ Below w.heap.size w w' := by
  have HS := hide hS
  have HT := hide hT
  have HK := hide hk
  have HO := hide hO
  obtain ⟨SA, sc, rfl⟩ := hO.reads.shape
  have HN : Hid (ns ≤ 1048576) := hide (by have := hO.sum; have := hO.length; omega)
  have HRem : Hid (rem ops 0 ≤ 1048576) := hide (by have := hO.sum; unfold rem; rw [List.drop_zero]; omega)
  clear hS hT hk hO
  go_enter Tryd.func3, Tryd.ntmps3
  go_wp2_with fail
  refine (fixed_any w adr HS.out HT.out).mono ?_
  rintro e w1 ⟨rfl, hb1⟩
  have HB1 := hide hb1
  clear hb1
  go_wp2_with fail
  refine (new_hist w1).mono ?_
  rintro e w2 ⟨c1, rfl, hh1, hb2⟩
  have HH1 := hide hh1
  have HB2 := hide hb2
  clear hh1 hb2
  go_wp2_with fail
  refine (new_hist w2).mono ?_
  rintro e w3 ⟨c2, rfl, hh2, hb3⟩
  have HR0 : Hid (Rel w w3 c1 c2 key 0 (rem ops 0)) := hide ⟨_, _, [], [], 0, ⟨HH1.out.past hb3, hh2, fun k hk => ⟨Nat.le_trans HB1.out.size hk.1, Nat.lt_of_lt_of_le hk.2 hb3.size⟩, fun k hk => ⟨Nat.le_trans (Nat.le_trans HB1.out.size HB2.out.size) hk.1, hk.2⟩, fun k h1 h2 => by omega⟩, ⟨rfl, fun _ h => (by cases h)⟩, Wl.start, Wl.start, by have := HRem.out; omega, HB1.out.trans ((HB2.out.trans (hb3.mono HB2.out.size)).mono HB1.out.size)⟩
  clear hh2 hb3 HB1 HB2 HH1
  go_wp2
  go_loopw [27] (fun s wr => ∃ i : Nat, i ≤ ns ∧ s = .int .i64 i ∧ Hid (Rel w wr c1 c2 key i (rem ops i))) (fun s _ => ns - (intOf s).toNat)
  case atStart => exact ⟨0, Nat.zero_le _, rfl, HR0⟩
  case round =>
    clear HR0
    obtain ⟨i, hi, rfl, HR⟩ := hrel
    by_cases hlt : i < ns
    · obtain ⟨D1, D2, R1, R2, N, hh, hsm, hw1, hw2, hrem, hbel⟩ := HR.out
      obtain ⟨o, ho⟩ : ∃ o, ops[i]? = some o := ⟨_, List.getElem?_eq_getElem (by have := HO.out.length; omega)⟩
      rw [rem_at ho] at hrem
      have HU := hide (flat_get opCell_length ho)
      have HScr := hide (HO.out.reads.kept (fun a v hc => (hbel.cell (World.block_lt_of_cell? w a hc)).trans hc))
      obtain ⟨w4, q, hw4, hq, hal, b0, b1, b2, b3, b4, hbx⟩ := op_box wr o
      have HO0 := hide (HO.out.each o (List.mem_of_getElem? ho))
      have HD : Hid (∀ k, D1 k ∨ D2 k → k ≠ q ∧ k < w4.heap.size) := hide (fun k hk => by
        have := hal.size
        rcases hk with hk | hk
        · have := (hh.d1 k hk).2; omega
        · have := (hh.d2 k hk).2; omega)
      have HOl : Hid (o.len + N + rem ops (i + 1) ≤ 1048576) := hide (by omega)
      have HSm := hide hsm
      have HW1 := hide hw1
      have HW2 := hide hw2
      have HB4 := hide (hbel.trans ((hal.drew).mono hbel.size))
      have HH4 := hide (hh.past hal.drew)
      have HRl : Hid ((restR R1 o.key).length ≤ 1048576) := hide (by have := hw1.rest_len o.key; omega)
      have hrest := rest_ok HH4.out.h1 hw1 (by omega) o.key HO0.out.key
      have HX := hide (And.intro b0 (And.intro b1 (And.intro b2 (And.intro b3 b4))))
      clear hh hsm hw1 hw2 hrem hbel hal hbx HR ho b0 b1 b2 b3 b4
      go_upto_region 7 with (first
        | ((with_reducible refine at_index rfl ?_); refine wpList_atS rfl rfl _ _ 22 28 _ rfl rfl rfl (by simp) Tryd.underlying22 (by decide) size_op agg_op rfl HScr.out rfl (by omega) (by omega) (us := [.int .i64 o.kind, .int .i64 o.key, .int .i64 o.n, .bool o.next, .slice o.A o.len o.c]) rfl HU.out ?_; intro p)
        | fail)
      rw [← hw4, ← hq]
      clear hw4 hq
      obtain ⟨b0, b1, b2, b3, b4⟩ : w4.drew.cell? ⟨q, 0, none⟩ = some (.int .i64 o.kind) ∧ w4.drew.cell? ⟨q, 1, none⟩ = some (.int .i64 o.key) ∧ w4.drew.cell? ⟨q, 2, none⟩ = some (.int .i64 o.n) ∧ w4.drew.cell? ⟨q, 3, none⟩ = some (.bool o.next) ∧ w4.drew.cell? ⟨q, 4, none⟩ = some (.slice o.A o.len o.c) := HX.out
      have hHeld := And.intro b0 (And.intro b1 (And.intro b2 (And.intro b3 b4)))
      refine wp_region_held_n (n := 7) (l := #[false, false, false, false, false, false, false]) (S := (fun w' => w'.cell? ⟨q, 0, none⟩ = some (.int .i64 o.kind) ∧ w'.cell? ⟨q, 1, none⟩ = some (.int .i64 o.key) ∧ w'.cell? ⟨q, 2, none⟩ = some (.int .i64 o.n) ∧ w'.cell? ⟨q, 3, none⟩ = some (.bool o.next) ∧ w'.cell? ⟨q, 4, none⟩ = some (.slice o.A o.len o.c))) rfl rfl (by kernel_rfl) ⟨b0, b1, b2, b3, b4⟩ ?_
      refine wpAnyH_yields (i := 0) (oi := ?_) (v := ?_) ?_ (by kernel_rfl) (by kernel_rfl) (by kernel_rfl) (by assumption) ?_ ?_ ?_ ?_
      rotate_left 2
      · (simp only [List.getElem?_toArray, List.getElem?_cons_zero] <;> exact rfl)
      · rfl
      · (intro w' hSw; obtain ⟨g0, g1, g2, g3, g4⟩ := hSw; go_simp <;> with_reducible rfl)
      · exact fun _ _ _ h => h
      simp only [Act.put, List.setIfInBounds_toArray, List.set]
      refine wpAnyH_yields (i := 1) (oi := ?_) (v := ?_) ?_ (by kernel_rfl) (by kernel_rfl) (by kernel_rfl) (by assumption) ?_ ?_ ?_ ?_
      rotate_left 2
      · (simp only [List.getElem?_toArray, List.getElem?_cons_succ, List.getElem?_cons_zero] <;> exact rfl)
      · rfl
      · (intro w' hSw; obtain ⟨g0, g1, g2, g3, g4⟩ := hSw; go_simp <;> with_reducible rfl)
      · exact fun _ _ _ h => h
      simp only [Act.put, List.setIfInBounds_toArray, List.set]
      refine wpAnyH_yields (i := 2) (oi := ?_) (v := ?_) ?_ (by kernel_rfl) (by kernel_rfl) (by kernel_rfl) (by assumption) ?_ ?_ ?_ ?_
      rotate_left 2
      · (simp only [List.getElem?_toArray, List.getElem?_cons_succ, List.getElem?_cons_zero] <;> exact rfl)
      · rfl
      · (intro w' hSw; obtain ⟨g0, g1, g2, g3, g4⟩ := hSw; go_simp <;> with_reducible rfl)
      · exact fun _ _ _ h => h
      simp only [Act.put, List.setIfInBounds_toArray, List.set]
      refine wpAnyH_yields (i := 3) (oi := ?_) (v := ?_) ?_ (by kernel_rfl) (by kernel_rfl) (by kernel_rfl) (by assumption) ?_ ?_ ?_ ?_
      rotate_left 2
      · (simp only [List.getElem?_toArray, List.getElem?_cons_succ, List.getElem?_cons_zero] <;> exact rfl)
      · rfl
      · (intro w' hSw; obtain ⟨g0, g1, g2, g3, g4⟩ := hSw; go_simp <;> with_reducible rfl)
      · exact fun _ _ _ h => h
      simp only [Act.put, List.setIfInBounds_toArray, List.set]
      refine wpAnyH_ready (rs := [4]) (by kernel_rfl) (by simp) (AllReadyH.cons (o := ?_) ?_ (fun K hK => ?_) AllReadyH.nil)
      rotate_left 1
      · (simp only [List.getElem?_toArray, List.getElem?_cons_succ, List.getElem?_cons_zero] <;> exact rfl)
      go_simp
      go_at_call 11
      refine hrest.mono ?_
      rintro r wz ⟨Az, dz, rfl, hncz, hv, hbz⟩
      have hbytes := gives_ok (HO0.out.past (HB4.out.trans (hbz.mono HB4.out.size))) (by have := HOl.out; omega) hv.reads hncz (by have := HRl.out; omega)
      have HBz := hide (HB4.out.trans (hbz.mono HB4.out.size))
      have HHz := hide (HH4.out.past hbz)
      have hsz : w4.heap.size ≤ wz.heap.size := hbz.size
      have z0 := cell_later hbz b0
      have z1 := cell_later hbz b1
      have z2 := cell_later hbz b2
      have z3 := cell_later hbz b3
      have z4 := cell_later hbz b4
      clear hv hncz hbz hrest b0 b1 b2 b3 b4 hHeld
      refine hK.out _ _ (⟨z0, z1, z2, z3, z4⟩) (fun hHeld => ?_)
      clear hK K
      try simp only [List.setIfInBounds_toArray, List.set_cons_zero, List.set_cons_succ]
      refine wpAnyH_ready (rs := [5]) (by kernel_rfl) (by simp) (AllReadyH.cons (o := ?_) ?_ (fun K hK => ?_) AllReadyH.nil)
      rotate_left 1
      · (simp only [List.getElem?_toArray, List.getElem?_cons_succ, List.getElem?_cons_zero] <;> exact rfl)
      go_simp
      go_at_call 10
      refine hbytes.mono ?_
      rintro r wy ⟨A3, d3, rfl, hv, hby⟩
      have HVR := hide hv
      have HBy := hide (HBz.out.trans (hby.mono HBz.out.size))
      have HHy := hide (HHz.out.past hby)
      have HSz : Hid (w4.heap.size ≤ wz.heap.size) := hide (by assumption)
      have y0 := cell_later hby z0
      have y1 := cell_later hby z1
      have y2 := cell_later hby z2
      have y3 := cell_later hby z3
      have y4 := cell_later hby z4
      clear hsz hv hby hbytes z0 z1 z2 z3 z4 hHeld
      refine hK.out _ _ (⟨y0, y1, y2, y3, y4⟩) (fun hHeld => ?_)
      clear hK K
      try simp only [List.setIfInBounds_toArray, List.set_cons_zero, List.set_cons_succ]
      refine wpAnyH_yields (i := 6) (oi := ?_) (v := ?_) ?_ (by kernel_rfl) (by kernel_rfl) (by kernel_rfl) (by assumption) ?_ ?_ ?_ ?_
      rotate_left 2
      · (simp only [List.getElem?_toArray, List.getElem?_cons_succ, List.getElem?_cons_zero] <;> exact rfl)
      · rfl
      · (intro w' hSw; obtain ⟨g0, g1, g2, g3, g4⟩ := hSw; go_simp <;> with_reducible rfl)
      · exact fun _ _ _ h => h
      simp only [Act.put, List.setIfInBounds_toArray, List.set]
      refine wpAnyH_done (by kernel_rfl) ?_ _
      clear hHeld
      have HL : Hid (∀ x ∈ givesL o (restR R1 o.key), 0 ≤ x ∧ x ≤ 255) := hide (gives_byte HO0.out.byte (HW1.out.rest_byte o.key))
      have HLl : Hid ((givesL o (restR R1 o.key)).length ≤ 1048576) := hide (gives_len (by have := HO0.out.len; have := HOl.out; omega) HRl.out)
      obtain ⟨L, hL⟩ : ∃ L, L = givesL o (restR R1 o.key) := ⟨_, rfl⟩
      rw [← hL] at HVR HL HLl ⊢
      obtain ⟨wb, hwb⟩ : ∃ wb, wy = wb := ⟨_, rfl⟩
      rw [hwb] at HVR HBy HHy y0 y1 y2 y3 y4
      rw [hwb]
      clear hwb hL
      go_upto_block 2 with fail
      go_cut [10] (fun v wc => v = .bool true ∧ Hid (∃ D1 D2 R1 R2 N, H2 w.heap.size wc c1 c2 D1 D2 R1 R2 ∧ Same key R1 R2 ∧ Wl R1 N (i + 1) ∧ Wl R2 N (i + 1) ∧ N + rem ops (i + 1) ≤ 1048576 ∧ Below w.heap.size w wc))
      case first => as_aux_lemma =>
        have HE1 : Hid (R1.length ≤ 2097152) := hide (by have := HW1.out.len; have := HN.out; omega)
        have HE2 : Hid (R2.length ≤ 2097152) := hide (by have := HW2.out.len; have := HN.out; omega)
        have HSy := hide (HS.out.below HBy.out)
        have HOy := hide (HO0.out.past HBy.out)
        by_cases hk0 : o.kind = 0
        · have hd0 : (o.kind == 0) = true := beq_iff_eq.2 hk0
          clear hk0
          go_wp2_with fail
          refine (wrote_act wb HSy.out HHy.out.h1 o.key HO0.out.key HE1.out o.A o.len o.c o.bs HOy.out.reads HOy.out.byte (by have := HW1.out.pbig o.key; have := HOl.out; omega)).mono ?_
          rintro e w5 ⟨ht, htn⟩
          have x1 := htn.2.cell y1 (fun h => (HD.out q (.inl h)).1 rfl)
          have x4 := htn.2.cell y4 (fun h => (HD.out q (.inl h)).1 rfl)
          have HB5 := hide (HBy.out.trans (HHy.out.low1 HBy.out.size htn))
          obtain ⟨D3, hh5⟩ := HHy.out.turn1 HBy.out.size htn
          have HH5 := hide hh5
          clear hh5 htn y0 y1 y2 y3 y4
          by_cases hke : o.key = key
          · have hne : (o.key != key) = false := bne_eq_false_iff_eq.2 hke
            have HKe := hide hke
            clear hke
            rcases ht with ⟨hp, rfl⟩ | ⟨hp, rfl⟩
            · have HP := hide hp
              clear hp
              go_upto_region 14 with fail
              have HB6 : Hid (Below w.heap.size w w5.drew) := hide (HB5.out.drew)
              have HH6 : Hid (H2 w.heap.size w5.drew c1 c2 D3 D2 _ R2) := hide (HH5.out.past ((Below.refl _ _).drew))
              have s1 : w5.drew.cell? ⟨q, 1, none⟩ = some (.int .i64 o.key) := x1
              have s4 : w5.drew.cell? ⟨q, 4, none⟩ = some (.slice o.A o.len o.c) := x4
              clear x1 x4
              have hHeld := And.intro s1 s4
              refine wp_region_held_n (n := 16) (l := #[false, false, false, false, false, false, false, false, false, false, false, false, false, false, false, false]) (S := (fun w' => w'.cell? ⟨q, 1, none⟩ = some (.int .i64 o.key) ∧ w'.cell? ⟨q, 4, none⟩ = some (.slice o.A o.len o.c))) rfl rfl (by kernel_rfl) ⟨s1, s4⟩ ?_
              refine wpAnyH_yields (i := 0) (oi := ?_) (v := ?_) ?_ (by kernel_rfl) (by kernel_rfl) (by kernel_rfl) (by assumption) ?_ ?_ ?_ ?_
              rotate_left 2
              · (simp only [List.getElem?_toArray, List.getElem?_cons_zero] <;> exact rfl)
              · rfl
              · (intro w' hSw; obtain ⟨g1, g4⟩ := hSw; go_simp <;> with_reducible rfl)
              · exact fun _ _ _ h => h
              simp only [Act.put, List.setIfInBounds_toArray, List.set]
              refine wpAnyH_yields (i := 1) (oi := ?_) (v := ?_) ?_ (by kernel_rfl) (by kernel_rfl) (by kernel_rfl) (by assumption) ?_ ?_ ?_ ?_
              rotate_left 2
              · (simp only [List.getElem?_toArray, List.getElem?_cons_succ, List.getElem?_cons_zero] <;> exact rfl)
              · rfl
              · (intro w' hSw; obtain ⟨g1, g4⟩ := hSw; go_simp <;> with_reducible rfl)
              · exact fun _ _ _ h => h
              simp only [Act.put, List.setIfInBounds_toArray, List.set]
              refine wpAnyH_yields (i := 2) (oi := ?_) (v := ?_) ?_ (by kernel_rfl) (by kernel_rfl) (by kernel_rfl) (by assumption) ?_ ?_ ?_ ?_
              rotate_left 2
              · (simp only [List.getElem?_toArray, List.getElem?_cons_succ, List.getElem?_cons_zero] <;> exact rfl)
              · rfl
              · (intro w' hSw; obtain ⟨g1, g4⟩ := hSw; go_simp <;> with_reducible rfl)
              · exact fun _ _ _ h => h
              simp only [Act.put, List.setIfInBounds_toArray, List.set]
              refine wpAnyH_yields (i := 3) (oi := ?_) (v := ?_) ?_ (by kernel_rfl) (by kernel_rfl) (by kernel_rfl) (by assumption) ?_ ?_ ?_ ?_
              rotate_left 2
              · (simp only [List.getElem?_toArray, List.getElem?_cons_succ, List.getElem?_cons_zero] <;> exact rfl)
              · rfl
              · (intro w' hSw; obtain ⟨g1, g4⟩ := hSw; go_simp <;> with_reducible rfl)
              · exact fun _ _ _ h => h
              simp only [Act.put, List.setIfInBounds_toArray, List.set]
              refine wpAnyH_yields (i := 4) (oi := ?_) (v := ?_) ?_ (by kernel_rfl) (by kernel_rfl) (by kernel_rfl) (by assumption) ?_ ?_ ?_ ?_
              rotate_left 2
              · (simp only [List.getElem?_toArray, List.getElem?_cons_succ, List.getElem?_cons_zero] <;> exact rfl)
              · rfl
              · (intro w' hSw; obtain ⟨g1, g4⟩ := hSw; go_simp <;> with_reducible rfl)
              · exact fun _ _ _ h => h
              simp only [Act.put, List.setIfInBounds_toArray, List.set]
              refine wpAnyH_yields (i := 5) (oi := ?_) (v := ?_) ?_ (by kernel_rfl) (by kernel_rfl) (by kernel_rfl) (by assumption) ?_ ?_ ?_ ?_
              rotate_left 2
              · (simp only [List.getElem?_toArray, List.getElem?_cons_succ, List.getElem?_cons_zero] <;> exact rfl)
              · rfl
              · (intro w' hSw; obtain ⟨g1, g4⟩ := hSw; go_simp <;> with_reducible rfl)
              · exact fun _ _ _ h => h
              simp only [Act.put, List.setIfInBounds_toArray, List.set]
              refine wpAnyH_yields (i := 6) (oi := ?_) (v := ?_) ?_ (by kernel_rfl) (by kernel_rfl) (by kernel_rfl) (by assumption) ?_ ?_ ?_ ?_
              rotate_left 2
              · (simp only [List.getElem?_toArray, List.getElem?_cons_succ, List.getElem?_cons_zero] <;> exact rfl)
              · rfl
              · (intro w' hSw; obtain ⟨g1, g4⟩ := hSw; go_simp <;> with_reducible rfl)
              · exact fun _ _ _ h => h
              simp only [Act.put, List.setIfInBounds_toArray, List.set]
              refine wpAnyH_yields (i := 7) (oi := ?_) (v := ?_) ?_ (by kernel_rfl) (by kernel_rfl) (by kernel_rfl) (by assumption) ?_ ?_ ?_ ?_
              rotate_left 2
              · (simp only [List.getElem?_toArray, List.getElem?_cons_succ, List.getElem?_cons_zero] <;> exact rfl)
              · rfl
              · (intro w' hSw; obtain ⟨g1, g4⟩ := hSw; go_simp <;> with_reducible rfl)
              · exact fun _ _ _ h => h
              simp only [Act.put, List.setIfInBounds_toArray, List.set]
              refine wpAnyH_yields (i := 8) (oi := ?_) (v := ?_) ?_ (by kernel_rfl) (by kernel_rfl) (by kernel_rfl) (by assumption) ?_ ?_ ?_ ?_
              rotate_left 2
              · (simp only [List.getElem?_toArray, List.getElem?_cons_succ, List.getElem?_cons_zero] <;> exact rfl)
              · rfl
              · (intro w' hSw; obtain ⟨g1, g4⟩ := hSw; go_simp <;> with_reducible rfl)
              · exact fun _ _ _ h => h
              simp only [Act.put, List.setIfInBounds_toArray, List.set]
              refine wpAnyH_yields (i := 9) (oi := ?_) (v := ?_) ?_ (by kernel_rfl) (by kernel_rfl) (by kernel_rfl) (by assumption) ?_ ?_ ?_ ?_
              rotate_left 2
              · (simp only [List.getElem?_toArray, List.getElem?_cons_succ, List.getElem?_cons_zero] <;> exact rfl)
              · rfl
              · (intro w' hSw; obtain ⟨g1, g4⟩ := hSw; go_simp <;> with_reducible rfl)
              · exact fun _ _ _ h => h
              simp only [Act.put, List.setIfInBounds_toArray, List.set]
              refine wpAnyH_yields (i := 10) (oi := ?_) (v := ?_) ?_ (by kernel_rfl) (by kernel_rfl) (by kernel_rfl) (by assumption) ?_ ?_ ?_ ?_
              rotate_left 2
              · (simp only [List.getElem?_toArray, List.getElem?_cons_succ, List.getElem?_cons_zero] <;> exact rfl)
              · rfl
              · (intro w' hSw; obtain ⟨g1, g4⟩ := hSw; go_simp <;> with_reducible rfl)
              · exact fun _ _ _ h => h
              simp only [Act.put, List.setIfInBounds_toArray, List.set]
              refine wpAnyH_ready (rs := [11]) (by kernel_rfl) (by simp) (AllReadyH.cons (o := ?_) ?_ (fun K hK => ?_) AllReadyH.nil)
              rotate_left 1
              · (simp only [List.getElem?_toArray, List.getElem?_cons_succ, List.getElem?_cons_zero] <;> exact rfl)
              go_simp
              go_at_call 12
              refine (wrote_act w5.drew (HS.out.below HB6.out) HH6.out.h2 key HK.out HE2.out o.A o.len o.c o.bs (HO0.out.past HB6.out).reads HO0.out.byte (by have := HW2.out.pbig key; have := HOl.out; omega)).mono ?_
              rintro e2 w7 ⟨ht2, htn2⟩
              obtain rfl := ht2.yes (by rw [← HSm.out.past, ← HKe.out]; exact HP.out)
              have HB7 := hide (HB6.out.trans (HH6.out.low2 HB6.out.size htn2))
              obtain ⟨D4, hh7⟩ := HH6.out.turn2 HB6.out.size htn2
              have HH7 := hide hh7
              have t1 := htn2.2.cell s1 (fun h => (HD.out q (.inr h)).1 rfl)
              have t4 := htn2.2.cell s4 (fun h => (HD.out q (.inr h)).1 rfl)
              clear hh7 htn2 ht2 s1 s4 hHeld
              refine hK.out _ _ (⟨t1, t4⟩) (fun hHeld => ?_)
              clear hK K
              try simp only [List.setIfInBounds_toArray, List.set_cons_zero, List.set_cons_succ]
              refine wpAnyH_yields (i := 12) (oi := ?_) (v := ?_) ?_ (by kernel_rfl) (by kernel_rfl) (by kernel_rfl) (by assumption) ?_ ?_ ?_ ?_
              rotate_left 2
              · (simp only [List.getElem?_toArray, List.getElem?_cons_succ, List.getElem?_cons_zero] <;> exact rfl)
              · rfl
              · (intro w' hSw; obtain ⟨g1, g4⟩ := hSw; go_simp <;> with_reducible rfl)
              · exact fun _ _ _ h => h
              simp only [Act.put, List.setIfInBounds_toArray, List.set]
              refine wpAnyH_yields (i := 13) (oi := ?_) (v := ?_) ?_ (by kernel_rfl) (by kernel_rfl) (by kernel_rfl) (by assumption) ?_ ?_ ?_ ?_
              rotate_left 2
              · (simp only [List.getElem?_toArray, List.getElem?_cons_succ, List.getElem?_cons_zero] <;> exact rfl)
              · rfl
              · (intro w' hSw; obtain ⟨g1, g4⟩ := hSw; go_simp <;> with_reducible rfl)
              · exact fun _ _ _ h => h
              simp only [Act.put, List.setIfInBounds_toArray, List.set]
              refine wpAnyH_yields (i := 14) (oi := ?_) (v := ?_) ?_ (by kernel_rfl) (by kernel_rfl) (by kernel_rfl) (by assumption) ?_ ?_ ?_ ?_
              rotate_left 2
              · (simp only [List.getElem?_toArray, List.getElem?_cons_succ, List.getElem?_cons_zero] <;> exact rfl)
              · rfl
              · (intro w' hSw; obtain ⟨g1, g4⟩ := hSw; go_simp <;> with_reducible rfl)
              · exact fun _ _ _ h => h
              simp only [Act.put, List.setIfInBounds_toArray, List.set]
              refine wpAnyH_yields (i := 15) (oi := ?_) (v := ?_) ?_ (by kernel_rfl) (by kernel_rfl) (by kernel_rfl) (by assumption) ?_ ?_ ?_ ?_
              rotate_left 2
              · (simp only [List.getElem?_toArray, List.getElem?_cons_succ, List.getElem?_cons_zero] <;> exact rfl)
              · rfl
              · (intro w' hSw; obtain ⟨g1, g4⟩ := hSw; go_simp <;> with_reducible rfl)
              · exact fun _ _ _ h => h
              simp only [Act.put, List.setIfInBounds_toArray, List.set]
              refine wpAnyH_done (by kernel_rfl) ?_ _
              go_wp2
              go_meet
              case rel => exact ⟨rfl, hide ⟨_, _, _, _, N + o.bs.length, HH7.out, by rw [HKe.out]; exact HSm.out.wrote2 HW1.out.srt HW2.out.srt o.bs, HW1.out.wrote HO0.out.key HO0.out.byte, HW2.out.wrote HK.out HO0.out.byte, by have := HOl.out; have := HO0.out.len; omega, HB7.out⟩⟩
            · have HP := hide hp
              clear hp
              go_upto_region 14 with fail
              have HB6 : Hid (Below w.heap.size w w5.drew) := hide (HB5.out.drew)
              have HH6 : Hid (H2 w.heap.size w5.drew c1 c2 D3 D2 _ R2) := hide (HH5.out.past ((Below.refl _ _).drew))
              have s1 : w5.drew.cell? ⟨q, 1, none⟩ = some (.int .i64 o.key) := x1
              have s4 : w5.drew.cell? ⟨q, 4, none⟩ = some (.slice o.A o.len o.c) := x4
              clear x1 x4
              have hHeld := And.intro s1 s4
              refine wp_region_held_n (n := 16) (l := #[false, false, false, false, false, false, false, false, false, false, false, false, false, false, false, false]) (S := (fun w' => w'.cell? ⟨q, 1, none⟩ = some (.int .i64 o.key) ∧ w'.cell? ⟨q, 4, none⟩ = some (.slice o.A o.len o.c))) rfl rfl (by kernel_rfl) ⟨s1, s4⟩ ?_
              refine wpAnyH_yields (i := 0) (oi := ?_) (v := ?_) ?_ (by kernel_rfl) (by kernel_rfl) (by kernel_rfl) (by assumption) ?_ ?_ ?_ ?_
              rotate_left 2
              · (simp only [List.getElem?_toArray, List.getElem?_cons_zero] <;> exact rfl)
              · rfl
              · (intro w' hSw; obtain ⟨g1, g4⟩ := hSw; go_simp <;> with_reducible rfl)
              · exact fun _ _ _ h => h
              simp only [Act.put, List.setIfInBounds_toArray, List.set]
              refine wpAnyH_yields (i := 1) (oi := ?_) (v := ?_) ?_ (by kernel_rfl) (by kernel_rfl) (by kernel_rfl) (by assumption) ?_ ?_ ?_ ?_
              rotate_left 2
              · (simp only [List.getElem?_toArray, List.getElem?_cons_succ, List.getElem?_cons_zero] <;> exact rfl)
              · rfl
              · (intro w' hSw; obtain ⟨g1, g4⟩ := hSw; go_simp <;> with_reducible rfl)
              · exact fun _ _ _ h => h
              simp only [Act.put, List.setIfInBounds_toArray, List.set]
              refine wpAnyH_yields (i := 2) (oi := ?_) (v := ?_) ?_ (by kernel_rfl) (by kernel_rfl) (by kernel_rfl) (by assumption) ?_ ?_ ?_ ?_
              rotate_left 2
              · (simp only [List.getElem?_toArray, List.getElem?_cons_succ, List.getElem?_cons_zero] <;> exact rfl)
              · rfl
              · (intro w' hSw; obtain ⟨g1, g4⟩ := hSw; go_simp <;> with_reducible rfl)
              · exact fun _ _ _ h => h
              simp only [Act.put, List.setIfInBounds_toArray, List.set]
              refine wpAnyH_yields (i := 3) (oi := ?_) (v := ?_) ?_ (by kernel_rfl) (by kernel_rfl) (by kernel_rfl) (by assumption) ?_ ?_ ?_ ?_
              rotate_left 2
              · (simp only [List.getElem?_toArray, List.getElem?_cons_succ, List.getElem?_cons_zero] <;> exact rfl)
              · rfl
              · (intro w' hSw; obtain ⟨g1, g4⟩ := hSw; go_simp <;> with_reducible rfl)
              · exact fun _ _ _ h => h
              simp only [Act.put, List.setIfInBounds_toArray, List.set]
              refine wpAnyH_yields (i := 4) (oi := ?_) (v := ?_) ?_ (by kernel_rfl) (by kernel_rfl) (by kernel_rfl) (by assumption) ?_ ?_ ?_ ?_
              rotate_left 2
              · (simp only [List.getElem?_toArray, List.getElem?_cons_succ, List.getElem?_cons_zero] <;> exact rfl)
              · rfl
              · (intro w' hSw; obtain ⟨g1, g4⟩ := hSw; go_simp <;> with_reducible rfl)
              · exact fun _ _ _ h => h
              simp only [Act.put, List.setIfInBounds_toArray, List.set]
              refine wpAnyH_yields (i := 5) (oi := ?_) (v := ?_) ?_ (by kernel_rfl) (by kernel_rfl) (by kernel_rfl) (by assumption) ?_ ?_ ?_ ?_
              rotate_left 2
              · (simp only [List.getElem?_toArray, List.getElem?_cons_succ, List.getElem?_cons_zero] <;> exact rfl)
              · rfl
              · (intro w' hSw; obtain ⟨g1, g4⟩ := hSw; go_simp <;> with_reducible rfl)
              · exact fun _ _ _ h => h
              simp only [Act.put, List.setIfInBounds_toArray, List.set]
              refine wpAnyH_yields (i := 6) (oi := ?_) (v := ?_) ?_ (by kernel_rfl) (by kernel_rfl) (by kernel_rfl) (by assumption) ?_ ?_ ?_ ?_
              rotate_left 2
              · (simp only [List.getElem?_toArray, List.getElem?_cons_succ, List.getElem?_cons_zero] <;> exact rfl)
              · rfl
              · (intro w' hSw; obtain ⟨g1, g4⟩ := hSw; go_simp <;> with_reducible rfl)
              · exact fun _ _ _ h => h
              simp only [Act.put, List.setIfInBounds_toArray, List.set]
              refine wpAnyH_yields (i := 7) (oi := ?_) (v := ?_) ?_ (by kernel_rfl) (by kernel_rfl) (by kernel_rfl) (by assumption) ?_ ?_ ?_ ?_
              rotate_left 2
              · (simp only [List.getElem?_toArray, List.getElem?_cons_succ, List.getElem?_cons_zero] <;> exact rfl)
              · rfl
              · (intro w' hSw; obtain ⟨g1, g4⟩ := hSw; go_simp <;> with_reducible rfl)
              · exact fun _ _ _ h => h
              simp only [Act.put, List.setIfInBounds_toArray, List.set]
              refine wpAnyH_yields (i := 8) (oi := ?_) (v := ?_) ?_ (by kernel_rfl) (by kernel_rfl) (by kernel_rfl) (by assumption) ?_ ?_ ?_ ?_
              rotate_left 2
              · (simp only [List.getElem?_toArray, List.getElem?_cons_succ, List.getElem?_cons_zero] <;> exact rfl)
              · rfl
              · (intro w' hSw; obtain ⟨g1, g4⟩ := hSw; go_simp <;> with_reducible rfl)
              · exact fun _ _ _ h => h
              simp only [Act.put, List.setIfInBounds_toArray, List.set]
              refine wpAnyH_yields (i := 9) (oi := ?_) (v := ?_) ?_ (by kernel_rfl) (by kernel_rfl) (by kernel_rfl) (by assumption) ?_ ?_ ?_ ?_
              rotate_left 2
              · (simp only [List.getElem?_toArray, List.getElem?_cons_succ, List.getElem?_cons_zero] <;> exact rfl)
              · rfl
              · (intro w' hSw; obtain ⟨g1, g4⟩ := hSw; go_simp <;> with_reducible rfl)
              · exact fun _ _ _ h => h
              simp only [Act.put, List.setIfInBounds_toArray, List.set]
              refine wpAnyH_yields (i := 10) (oi := ?_) (v := ?_) ?_ (by kernel_rfl) (by kernel_rfl) (by kernel_rfl) (by assumption) ?_ ?_ ?_ ?_
              rotate_left 2
              · (simp only [List.getElem?_toArray, List.getElem?_cons_succ, List.getElem?_cons_zero] <;> exact rfl)
              · rfl
              · (intro w' hSw; obtain ⟨g1, g4⟩ := hSw; go_simp <;> with_reducible rfl)
              · exact fun _ _ _ h => h
              simp only [Act.put, List.setIfInBounds_toArray, List.set]
              refine wpAnyH_ready (rs := [11]) (by kernel_rfl) (by simp) (AllReadyH.cons (o := ?_) ?_ (fun K hK => ?_) AllReadyH.nil)
              rotate_left 1
              · (simp only [List.getElem?_toArray, List.getElem?_cons_succ, List.getElem?_cons_zero] <;> exact rfl)
              go_simp
              go_at_call 12
              refine (wrote_act w5.drew (HS.out.below HB6.out) HH6.out.h2 key HK.out HE2.out o.A o.len o.c o.bs (HO0.out.past HB6.out).reads HO0.out.byte (by have := HW2.out.pbig key; have := HOl.out; omega)).mono ?_
              rintro e2 w7 ⟨ht2, htn2⟩
              obtain rfl := ht2.no (by rw [← HSm.out.past, ← HKe.out]; exact HP.out)
              have HB7 := hide (HB6.out.trans (HH6.out.low2 HB6.out.size htn2))
              obtain ⟨D4, hh7⟩ := HH6.out.turn2 HB6.out.size htn2
              have HH7 := hide hh7
              have t1 := htn2.2.cell s1 (fun h => (HD.out q (.inr h)).1 rfl)
              have t4 := htn2.2.cell s4 (fun h => (HD.out q (.inr h)).1 rfl)
              clear hh7 htn2 ht2 s1 s4 hHeld
              refine hK.out _ _ (⟨t1, t4⟩) (fun hHeld => ?_)
              clear hK K
              try simp only [List.setIfInBounds_toArray, List.set_cons_zero, List.set_cons_succ]
              refine wpAnyH_yields (i := 12) (oi := ?_) (v := ?_) ?_ (by kernel_rfl) (by kernel_rfl) (by kernel_rfl) (by assumption) ?_ ?_ ?_ ?_
              rotate_left 2
              · (simp only [List.getElem?_toArray, List.getElem?_cons_succ, List.getElem?_cons_zero] <;> exact rfl)
              · rfl
              · (intro w' hSw; obtain ⟨g1, g4⟩ := hSw; go_simp <;> with_reducible rfl)
              · exact fun _ _ _ h => h
              simp only [Act.put, List.setIfInBounds_toArray, List.set]
              refine wpAnyH_yields (i := 13) (oi := ?_) (v := ?_) ?_ (by kernel_rfl) (by kernel_rfl) (by kernel_rfl) (by assumption) ?_ ?_ ?_ ?_
              rotate_left 2
              · (simp only [List.getElem?_toArray, List.getElem?_cons_succ, List.getElem?_cons_zero] <;> exact rfl)
              · rfl
              · (intro w' hSw; obtain ⟨g1, g4⟩ := hSw; go_simp <;> with_reducible rfl)
              · exact fun _ _ _ h => h
              simp only [Act.put, List.setIfInBounds_toArray, List.set]
              refine wpAnyH_yields (i := 14) (oi := ?_) (v := ?_) ?_ (by kernel_rfl) (by kernel_rfl) (by kernel_rfl) (by assumption) ?_ ?_ ?_ ?_
              rotate_left 2
              · (simp only [List.getElem?_toArray, List.getElem?_cons_succ, List.getElem?_cons_zero] <;> exact rfl)
              · rfl
              · (intro w' hSw; obtain ⟨g1, g4⟩ := hSw; go_simp <;> with_reducible rfl)
              · exact fun _ _ _ h => h
              simp only [Act.put, List.setIfInBounds_toArray, List.set]
              refine wpAnyH_yields (i := 15) (oi := ?_) (v := ?_) ?_ (by kernel_rfl) (by kernel_rfl) (by kernel_rfl) (by assumption) ?_ ?_ ?_ ?_
              rotate_left 2
              · (simp only [List.getElem?_toArray, List.getElem?_cons_succ, List.getElem?_cons_zero] <;> exact rfl)
              · rfl
              · (intro w' hSw; obtain ⟨g1, g4⟩ := hSw; go_simp <;> with_reducible rfl)
              · exact fun _ _ _ h => h
              simp only [Act.put, List.setIfInBounds_toArray, List.set]
              refine wpAnyH_done (by kernel_rfl) ?_ _
              go_wp2
              go_meet
              case rel => exact ⟨rfl, hide ⟨_, _, _, _, N + o.bs.length, HH7.out, by rw [HKe.out]; exact HSm.out.wrote2 HW1.out.srt HW2.out.srt o.bs, HW1.out.wrote HO0.out.key HO0.out.byte, HW2.out.wrote HK.out HO0.out.byte, by have := HOl.out; have := HO0.out.len; omega, HB7.out⟩⟩
          · have hne : (o.key != key) = true := bne_iff_ne.2 hke
            have HKe := hide hke
            clear hke
            rcases ht with ⟨_, rfl⟩ | ⟨_, rfl⟩
            all_goals
              go_upto_region 14 with fail
              go_quiet (fail)
              go_wp2
              go_meet
              case rel => exact ⟨rfl, hide ⟨_, _, _, _, N + o.bs.length, HH5.out.past (dn_below (Below.refl _ _) _), HSm.out.wrote1 HW1.out.srt (fun e => HKe.out e.symm) o.bs, HW1.out.wrote HO0.out.key HO0.out.byte, HW2.out.later (by omega) (Nat.le_succ _), by have := HOl.out; have := HO0.out.len; omega, dn_below HB5.out _⟩⟩
        · skip
          by_cases hk1 : o.kind = 1
          · have hd0 : (o.kind == 0) = false := beq_eq_false_iff_ne.2 hk0
            have hd1 : (o.kind == 1) = true := beq_iff_eq.2 hk1
            clear hk0 hk1
            go_wp2_with fail
            refine (closed_act wb HSy.out HHy.out.h1 o.key HO0.out.key HE1.out).mono ?_
            rintro e w5 ⟨ht, htn⟩
            have x1 := htn.2.cell y1 (fun h => (HD.out q (.inl h)).1 rfl)
            have HB5 := hide (HBy.out.trans (HHy.out.low1 HBy.out.size htn))
            obtain ⟨D3, hh5⟩ := HHy.out.turn1 HBy.out.size htn
            have HH5 := hide hh5
            clear hh5 htn y0 y1 y2 y3 y4
            by_cases hke : o.key = key
            · have hne : (o.key != key) = false := bne_eq_false_iff_eq.2 hke
              have HKe := hide hke
              clear hke
              rcases ht with ⟨hp, rfl⟩ | ⟨hp, rfl⟩
              · have HP := hide hp
                clear hp
                go_upto_region 17 with fail
                have HB6 : Hid (Below w.heap.size w w5.drew) := hide (HB5.out.drew)
                have HH6 : Hid (H2 w.heap.size w5.drew c1 c2 D3 D2 _ R2) := hide (HH5.out.past ((Below.refl _ _).drew))
                have s1 : w5.drew.cell? ⟨q, 1, none⟩ = some (.int .i64 o.key) := x1
                clear x1
                have hHeld := s1
                refine wp_region_held_n (n := 14) (l := #[false, false, false, false, false, false, false, false, false, false, false, false, false, false]) (S := (fun w' => w'.cell? ⟨q, 1, none⟩ = some (.int .i64 o.key))) rfl rfl (by kernel_rfl) s1 ?_
                refine wpAnyH_yields (i := 0) (oi := ?_) (v := ?_) ?_ (by kernel_rfl) (by kernel_rfl) (by kernel_rfl) (by assumption) ?_ ?_ ?_ ?_
                rotate_left 2
                · (simp only [List.getElem?_toArray, List.getElem?_cons_zero] <;> exact rfl)
                · rfl
                · (intro w' hSw; go_simp <;> with_reducible rfl)
                · exact fun _ _ _ h => h
                simp only [Act.put, List.setIfInBounds_toArray, List.set]
                refine wpAnyH_yields (i := 1) (oi := ?_) (v := ?_) ?_ (by kernel_rfl) (by kernel_rfl) (by kernel_rfl) (by assumption) ?_ ?_ ?_ ?_
                rotate_left 2
                · (simp only [List.getElem?_toArray, List.getElem?_cons_succ, List.getElem?_cons_zero] <;> exact rfl)
                · rfl
                · (intro w' hSw; go_simp <;> with_reducible rfl)
                · exact fun _ _ _ h => h
                simp only [Act.put, List.setIfInBounds_toArray, List.set]
                refine wpAnyH_yields (i := 2) (oi := ?_) (v := ?_) ?_ (by kernel_rfl) (by kernel_rfl) (by kernel_rfl) (by assumption) ?_ ?_ ?_ ?_
                rotate_left 2
                · (simp only [List.getElem?_toArray, List.getElem?_cons_succ, List.getElem?_cons_zero] <;> exact rfl)
                · rfl
                · (intro w' hSw; go_simp <;> with_reducible rfl)
                · exact fun _ _ _ h => h
                simp only [Act.put, List.setIfInBounds_toArray, List.set]
                refine wpAnyH_yields (i := 3) (oi := ?_) (v := ?_) ?_ (by kernel_rfl) (by kernel_rfl) (by kernel_rfl) (by assumption) ?_ ?_ ?_ ?_
                rotate_left 2
                · (simp only [List.getElem?_toArray, List.getElem?_cons_succ, List.getElem?_cons_zero] <;> exact rfl)
                · rfl
                · (intro w' hSw; go_simp <;> with_reducible rfl)
                · exact fun _ _ _ h => h
                simp only [Act.put, List.setIfInBounds_toArray, List.set]
                refine wpAnyH_yields (i := 4) (oi := ?_) (v := ?_) ?_ (by kernel_rfl) (by kernel_rfl) (by kernel_rfl) (by assumption) ?_ ?_ ?_ ?_
                rotate_left 2
                · (simp only [List.getElem?_toArray, List.getElem?_cons_succ, List.getElem?_cons_zero] <;> exact rfl)
                · rfl
                · (intro w' hSw; go_simp <;> with_reducible rfl)
                · exact fun _ _ _ h => h
                simp only [Act.put, List.setIfInBounds_toArray, List.set]
                refine wpAnyH_yields (i := 5) (oi := ?_) (v := ?_) ?_ (by kernel_rfl) (by kernel_rfl) (by kernel_rfl) (by assumption) ?_ ?_ ?_ ?_
                rotate_left 2
                · (simp only [List.getElem?_toArray, List.getElem?_cons_succ, List.getElem?_cons_zero] <;> exact rfl)
                · rfl
                · (intro w' hSw; go_simp <;> with_reducible rfl)
                · exact fun _ _ _ h => h
                simp only [Act.put, List.setIfInBounds_toArray, List.set]
                refine wpAnyH_yields (i := 6) (oi := ?_) (v := ?_) ?_ (by kernel_rfl) (by kernel_rfl) (by kernel_rfl) (by assumption) ?_ ?_ ?_ ?_
                rotate_left 2
                · (simp only [List.getElem?_toArray, List.getElem?_cons_succ, List.getElem?_cons_zero] <;> exact rfl)
                · rfl
                · (intro w' hSw; go_simp <;> with_reducible rfl)
                · exact fun _ _ _ h => h
                simp only [Act.put, List.setIfInBounds_toArray, List.set]
                refine wpAnyH_yields (i := 7) (oi := ?_) (v := ?_) ?_ (by kernel_rfl) (by kernel_rfl) (by kernel_rfl) (by assumption) ?_ ?_ ?_ ?_
                rotate_left 2
                · (simp only [List.getElem?_toArray, List.getElem?_cons_succ, List.getElem?_cons_zero] <;> exact rfl)
                · rfl
                · (intro w' hSw; go_simp <;> with_reducible rfl)
                · exact fun _ _ _ h => h
                simp only [Act.put, List.setIfInBounds_toArray, List.set]
                refine wpAnyH_yields (i := 8) (oi := ?_) (v := ?_) ?_ (by kernel_rfl) (by kernel_rfl) (by kernel_rfl) (by assumption) ?_ ?_ ?_ ?_
                rotate_left 2
                · (simp only [List.getElem?_toArray, List.getElem?_cons_succ, List.getElem?_cons_zero] <;> exact rfl)
                · rfl
                · (intro w' hSw; go_simp <;> with_reducible rfl)
                · exact fun _ _ _ h => h
                simp only [Act.put, List.setIfInBounds_toArray, List.set]
                refine wpAnyH_ready (rs := [9]) (by kernel_rfl) (by simp) (AllReadyH.cons (o := ?_) ?_ (fun K hK => ?_) AllReadyH.nil)
                rotate_left 1
                · (simp only [List.getElem?_toArray, List.getElem?_cons_succ, List.getElem?_cons_zero] <;> exact rfl)
                go_simp
                go_at_call 13
                refine (closed_act w5.drew (HS.out.below HB6.out) HH6.out.h2 key HK.out HE2.out).mono ?_
                rintro e2 w7 ⟨ht2, htn2⟩
                obtain rfl := ht2.yes (by rw [← HSm.out.past, ← HKe.out]; exact HP.out)
                have HB7 := hide (HB6.out.trans (HH6.out.low2 HB6.out.size htn2))
                obtain ⟨D4, hh7⟩ := HH6.out.turn2 HB6.out.size htn2
                have HH7 := hide hh7
                have t1 := htn2.2.cell s1 (fun h => (HD.out q (.inr h)).1 rfl)
                clear hh7 htn2 ht2 s1 hHeld
                refine hK.out _ _ (t1) (fun hHeld => ?_)
                clear hK K
                try simp only [List.setIfInBounds_toArray, List.set_cons_zero, List.set_cons_succ]
                refine wpAnyH_yields (i := 10) (oi := ?_) (v := ?_) ?_ (by kernel_rfl) (by kernel_rfl) (by kernel_rfl) (by assumption) ?_ ?_ ?_ ?_
                rotate_left 2
                · (simp only [List.getElem?_toArray, List.getElem?_cons_succ, List.getElem?_cons_zero] <;> exact rfl)
                · rfl
                · (intro w' hSw; go_simp <;> with_reducible rfl)
                · exact fun _ _ _ h => h
                simp only [Act.put, List.setIfInBounds_toArray, List.set]
                refine wpAnyH_yields (i := 11) (oi := ?_) (v := ?_) ?_ (by kernel_rfl) (by kernel_rfl) (by kernel_rfl) (by assumption) ?_ ?_ ?_ ?_
                rotate_left 2
                · (simp only [List.getElem?_toArray, List.getElem?_cons_succ, List.getElem?_cons_zero] <;> exact rfl)
                · rfl
                · (intro w' hSw; go_simp <;> with_reducible rfl)
                · exact fun _ _ _ h => h
                simp only [Act.put, List.setIfInBounds_toArray, List.set]
                refine wpAnyH_yields (i := 12) (oi := ?_) (v := ?_) ?_ (by kernel_rfl) (by kernel_rfl) (by kernel_rfl) (by assumption) ?_ ?_ ?_ ?_
                rotate_left 2
                · (simp only [List.getElem?_toArray, List.getElem?_cons_succ, List.getElem?_cons_zero] <;> exact rfl)
                · rfl
                · (intro w' hSw; go_simp <;> with_reducible rfl)
                · exact fun _ _ _ h => h
                simp only [Act.put, List.setIfInBounds_toArray, List.set]
                refine wpAnyH_yields (i := 13) (oi := ?_) (v := ?_) ?_ (by kernel_rfl) (by kernel_rfl) (by kernel_rfl) (by assumption) ?_ ?_ ?_ ?_
                rotate_left 2
                · (simp only [List.getElem?_toArray, List.getElem?_cons_succ, List.getElem?_cons_zero] <;> exact rfl)
                · rfl
                · (intro w' hSw; go_simp <;> with_reducible rfl)
                · exact fun _ _ _ h => h
                simp only [Act.put, List.setIfInBounds_toArray, List.set]
                refine wpAnyH_done (by kernel_rfl) ?_ _
                go_wp2
                go_meet
                case rel => exact ⟨rfl, hide ⟨_, _, _, _, N, HH7.out, by rw [HKe.out]; exact HSm.out.closed2 HW1.out.srt HW2.out.srt, HW1.out.closed HO0.out.key, HW2.out.closed HK.out, by have := HOl.out; have := HO0.out.len; omega, HB7.out⟩⟩
              · have HP := hide hp
                clear hp
                go_upto_region 17 with fail
                have HB6 : Hid (Below w.heap.size w w5.drew) := hide (HB5.out.drew)
                have HH6 : Hid (H2 w.heap.size w5.drew c1 c2 D3 D2 _ R2) := hide (HH5.out.past ((Below.refl _ _).drew))
                have s1 : w5.drew.cell? ⟨q, 1, none⟩ = some (.int .i64 o.key) := x1
                clear x1
                have hHeld := s1
                refine wp_region_held_n (n := 14) (l := #[false, false, false, false, false, false, false, false, false, false, false, false, false, false]) (S := (fun w' => w'.cell? ⟨q, 1, none⟩ = some (.int .i64 o.key))) rfl rfl (by kernel_rfl) s1 ?_
                refine wpAnyH_yields (i := 0) (oi := ?_) (v := ?_) ?_ (by kernel_rfl) (by kernel_rfl) (by kernel_rfl) (by assumption) ?_ ?_ ?_ ?_
                rotate_left 2
                · (simp only [List.getElem?_toArray, List.getElem?_cons_zero] <;> exact rfl)
                · rfl
                · (intro w' hSw; go_simp <;> with_reducible rfl)
                · exact fun _ _ _ h => h
                simp only [Act.put, List.setIfInBounds_toArray, List.set]
                refine wpAnyH_yields (i := 1) (oi := ?_) (v := ?_) ?_ (by kernel_rfl) (by kernel_rfl) (by kernel_rfl) (by assumption) ?_ ?_ ?_ ?_
                rotate_left 2
                · (simp only [List.getElem?_toArray, List.getElem?_cons_succ, List.getElem?_cons_zero] <;> exact rfl)
                · rfl
                · (intro w' hSw; go_simp <;> with_reducible rfl)
                · exact fun _ _ _ h => h
                simp only [Act.put, List.setIfInBounds_toArray, List.set]
                refine wpAnyH_yields (i := 2) (oi := ?_) (v := ?_) ?_ (by kernel_rfl) (by kernel_rfl) (by kernel_rfl) (by assumption) ?_ ?_ ?_ ?_
                rotate_left 2
                · (simp only [List.getElem?_toArray, List.getElem?_cons_succ, List.getElem?_cons_zero] <;> exact rfl)
                · rfl
                · (intro w' hSw; go_simp <;> with_reducible rfl)
                · exact fun _ _ _ h => h
                simp only [Act.put, List.setIfInBounds_toArray, List.set]
                refine wpAnyH_yields (i := 3) (oi := ?_) (v := ?_) ?_ (by kernel_rfl) (by kernel_rfl) (by kernel_rfl) (by assumption) ?_ ?_ ?_ ?_
                rotate_left 2
                · (simp only [List.getElem?_toArray, List.getElem?_cons_succ, List.getElem?_cons_zero] <;> exact rfl)
                · rfl
                · (intro w' hSw; go_simp <;> with_reducible rfl)
                · exact fun _ _ _ h => h
                simp only [Act.put, List.setIfInBounds_toArray, List.set]
                refine wpAnyH_yields (i := 4) (oi := ?_) (v := ?_) ?_ (by kernel_rfl) (by kernel_rfl) (by kernel_rfl) (by assumption) ?_ ?_ ?_ ?_
                rotate_left 2
                · (simp only [List.getElem?_toArray, List.getElem?_cons_succ, List.getElem?_cons_zero] <;> exact rfl)
                · rfl
                · (intro w' hSw; go_simp <;> with_reducible rfl)
                · exact fun _ _ _ h => h
                simp only [Act.put, List.setIfInBounds_toArray, List.set]
                refine wpAnyH_yields (i := 5) (oi := ?_) (v := ?_) ?_ (by kernel_rfl) (by kernel_rfl) (by kernel_rfl) (by assumption) ?_ ?_ ?_ ?_
                rotate_left 2
                · (simp only [List.getElem?_toArray, List.getElem?_cons_succ, List.getElem?_cons_zero] <;> exact rfl)
                · rfl
                · (intro w' hSw; go_simp <;> with_reducible rfl)
                · exact fun _ _ _ h => h
                simp only [Act.put, List.setIfInBounds_toArray, List.set]
                refine wpAnyH_yields (i := 6) (oi := ?_) (v := ?_) ?_ (by kernel_rfl) (by kernel_rfl) (by kernel_rfl) (by assumption) ?_ ?_ ?_ ?_
                rotate_left 2
                · (simp only [List.getElem?_toArray, List.getElem?_cons_succ, List.getElem?_cons_zero] <;> exact rfl)
                · rfl
                · (intro w' hSw; go_simp <;> with_reducible rfl)
                · exact fun _ _ _ h => h
                simp only [Act.put, List.setIfInBounds_toArray, List.set]
                refine wpAnyH_yields (i := 7) (oi := ?_) (v := ?_) ?_ (by kernel_rfl) (by kernel_rfl) (by kernel_rfl) (by assumption) ?_ ?_ ?_ ?_
                rotate_left 2
                · (simp only [List.getElem?_toArray, List.getElem?_cons_succ, List.getElem?_cons_zero] <;> exact rfl)
                · rfl
                · (intro w' hSw; go_simp <;> with_reducible rfl)
                · exact fun _ _ _ h => h
                simp only [Act.put, List.setIfInBounds_toArray, List.set]
                refine wpAnyH_yields (i := 8) (oi := ?_) (v := ?_) ?_ (by kernel_rfl) (by kernel_rfl) (by kernel_rfl) (by assumption) ?_ ?_ ?_ ?_
                rotate_left 2
                · (simp only [List.getElem?_toArray, List.getElem?_cons_succ, List.getElem?_cons_zero] <;> exact rfl)
                · rfl
                · (intro w' hSw; go_simp <;> with_reducible rfl)
                · exact fun _ _ _ h => h
                simp only [Act.put, List.setIfInBounds_toArray, List.set]
                refine wpAnyH_ready (rs := [9]) (by kernel_rfl) (by simp) (AllReadyH.cons (o := ?_) ?_ (fun K hK => ?_) AllReadyH.nil)
                rotate_left 1
                · (simp only [List.getElem?_toArray, List.getElem?_cons_succ, List.getElem?_cons_zero] <;> exact rfl)
                go_simp
                go_at_call 13
                refine (closed_act w5.drew (HS.out.below HB6.out) HH6.out.h2 key HK.out HE2.out).mono ?_
                rintro e2 w7 ⟨ht2, htn2⟩
                obtain rfl := ht2.no (by rw [← HSm.out.past, ← HKe.out]; exact HP.out)
                have HB7 := hide (HB6.out.trans (HH6.out.low2 HB6.out.size htn2))
                obtain ⟨D4, hh7⟩ := HH6.out.turn2 HB6.out.size htn2
                have HH7 := hide hh7
                have t1 := htn2.2.cell s1 (fun h => (HD.out q (.inr h)).1 rfl)
                clear hh7 htn2 ht2 s1 hHeld
                refine hK.out _ _ (t1) (fun hHeld => ?_)
                clear hK K
                try simp only [List.setIfInBounds_toArray, List.set_cons_zero, List.set_cons_succ]
                refine wpAnyH_yields (i := 10) (oi := ?_) (v := ?_) ?_ (by kernel_rfl) (by kernel_rfl) (by kernel_rfl) (by assumption) ?_ ?_ ?_ ?_
                rotate_left 2
                · (simp only [List.getElem?_toArray, List.getElem?_cons_succ, List.getElem?_cons_zero] <;> exact rfl)
                · rfl
                · (intro w' hSw; go_simp <;> with_reducible rfl)
                · exact fun _ _ _ h => h
                simp only [Act.put, List.setIfInBounds_toArray, List.set]
                refine wpAnyH_yields (i := 11) (oi := ?_) (v := ?_) ?_ (by kernel_rfl) (by kernel_rfl) (by kernel_rfl) (by assumption) ?_ ?_ ?_ ?_
                rotate_left 2
                · (simp only [List.getElem?_toArray, List.getElem?_cons_succ, List.getElem?_cons_zero] <;> exact rfl)
                · rfl
                · (intro w' hSw; go_simp <;> with_reducible rfl)
                · exact fun _ _ _ h => h
                simp only [Act.put, List.setIfInBounds_toArray, List.set]
                refine wpAnyH_yields (i := 12) (oi := ?_) (v := ?_) ?_ (by kernel_rfl) (by kernel_rfl) (by kernel_rfl) (by assumption) ?_ ?_ ?_ ?_
                rotate_left 2
                · (simp only [List.getElem?_toArray, List.getElem?_cons_succ, List.getElem?_cons_zero] <;> exact rfl)
                · rfl
                · (intro w' hSw; go_simp <;> with_reducible rfl)
                · exact fun _ _ _ h => h
                simp only [Act.put, List.setIfInBounds_toArray, List.set]
                refine wpAnyH_yields (i := 13) (oi := ?_) (v := ?_) ?_ (by kernel_rfl) (by kernel_rfl) (by kernel_rfl) (by assumption) ?_ ?_ ?_ ?_
                rotate_left 2
                · (simp only [List.getElem?_toArray, List.getElem?_cons_succ, List.getElem?_cons_zero] <;> exact rfl)
                · rfl
                · (intro w' hSw; go_simp <;> with_reducible rfl)
                · exact fun _ _ _ h => h
                simp only [Act.put, List.setIfInBounds_toArray, List.set]
                refine wpAnyH_done (by kernel_rfl) ?_ _
                go_wp2
                go_meet
                case rel => exact ⟨rfl, hide ⟨_, _, _, _, N, HH7.out, by rw [HKe.out]; exact HSm.out.closed2 HW1.out.srt HW2.out.srt, HW1.out.closed HO0.out.key, HW2.out.closed HK.out, by have := HOl.out; have := HO0.out.len; omega, HB7.out⟩⟩
            · have hne : (o.key != key) = true := bne_iff_ne.2 hke
              have HKe := hide hke
              clear hke
              rcases ht with ⟨_, rfl⟩ | ⟨_, rfl⟩
              all_goals
                go_upto_region 17 with fail
                go_quiet (fail)
                go_wp2
                go_meet
                case rel => exact ⟨rfl, hide ⟨_, _, _, _, N, HH5.out.past (dn_below (Below.refl _ _) _), HSm.out.closed1 HW1.out.srt (fun e => HKe.out e.symm), HW1.out.closed HO0.out.key, HW2.out.later (by omega) (Nat.le_succ _), by have := HOl.out; have := HO0.out.len; omega, dn_below HB5.out _⟩⟩
          · skip
            by_cases hk2 : o.kind = 2
            · have hd0 : (o.kind == 0) = false := beq_eq_false_iff_ne.2 hk0
              have hd1 : (o.kind == 1) = false := beq_eq_false_iff_ne.2 hk1
              have hd2 : (o.kind == 2) = true := beq_iff_eq.2 hk2
              clear hk0 hk1 hk2
              go_wp2_with fail
              refine (gave_act wb HSy.out HHy.out.h1 o.key HO0.out.key HE1.out A3 L.length d3 L HVR.out.reads HL.out (by have := HW1.out.pbig o.key; have := HOl.out; omega)).mono ?_
              rintro e w5 ⟨ht, htn⟩
              have x1 := htn.2.cell y1 (fun h => (HD.out q (.inl h)).1 rfl)
              have HV5 : Hid (Row w5 _ 5 1 (.slice A3 L.length d3) L.length (u8s L)) := hide (HVR.out.kept htn.2 (fun k hk _ hd => by have := (HD.out k (.inl hd)).2; have := HSz.out; have := hk.1; omega))
              have HB5 := hide (HBy.out.trans (HHy.out.low1 HBy.out.size htn))
              obtain ⟨D3, hh5⟩ := HHy.out.turn1 HBy.out.size htn
              have HH5 := hide hh5
              clear hh5 htn y0 y1 y2 y3 y4
              by_cases hke : o.key = key
              · have hne : (o.key != key) = false := bne_eq_false_iff_eq.2 hke
                have HKe := hide hke
                clear hke
                rcases ht with ⟨hp, rfl⟩ | ⟨hp, rfl⟩
                · have HP := hide hp
                  clear hp
                  go_upto_region 20 with fail
                  have HB6 : Hid (Below w.heap.size w w5.drew) := hide (HB5.out.drew)
                  have HH6 : Hid (H2 w.heap.size w5.drew c1 c2 D3 D2 _ R2) := hide (HH5.out.past ((Below.refl _ _).drew))
                  have HV6 : Hid (Reads w5.drew 1 (.slice A3 L.length d3) L.length (u8s L)) := hide (Reads.past HV5.out.reads ((Below.refl _ _).drew))
                  have s1 : w5.drew.cell? ⟨q, 1, none⟩ = some (.int .i64 o.key) := x1
                  clear x1
                  have hHeld := s1
                  refine wp_region_held_n (n := 15) (l := #[false, false, false, false, false, false, false, false, false, false, false, false, false, false, false]) (S := (fun w' => w'.cell? ⟨q, 1, none⟩ = some (.int .i64 o.key))) rfl rfl (by kernel_rfl) s1 ?_
                  refine wpAnyH_yields (i := 0) (oi := ?_) (v := ?_) ?_ (by kernel_rfl) (by kernel_rfl) (by kernel_rfl) (by assumption) ?_ ?_ ?_ ?_
                  rotate_left 2
                  · (simp only [List.getElem?_toArray, List.getElem?_cons_zero] <;> exact rfl)
                  · rfl
                  · (intro w' hSw; go_simp <;> with_reducible rfl)
                  · exact fun _ _ _ h => h
                  simp only [Act.put, List.setIfInBounds_toArray, List.set]
                  refine wpAnyH_yields (i := 1) (oi := ?_) (v := ?_) ?_ (by kernel_rfl) (by kernel_rfl) (by kernel_rfl) (by assumption) ?_ ?_ ?_ ?_
                  rotate_left 2
                  · (simp only [List.getElem?_toArray, List.getElem?_cons_succ, List.getElem?_cons_zero] <;> exact rfl)
                  · rfl
                  · (intro w' hSw; go_simp <;> with_reducible rfl)
                  · exact fun _ _ _ h => h
                  simp only [Act.put, List.setIfInBounds_toArray, List.set]
                  refine wpAnyH_yields (i := 2) (oi := ?_) (v := ?_) ?_ (by kernel_rfl) (by kernel_rfl) (by kernel_rfl) (by assumption) ?_ ?_ ?_ ?_
                  rotate_left 2
                  · (simp only [List.getElem?_toArray, List.getElem?_cons_succ, List.getElem?_cons_zero] <;> exact rfl)
                  · rfl
                  · (intro w' hSw; go_simp <;> with_reducible rfl)
                  · exact fun _ _ _ h => h
                  simp only [Act.put, List.setIfInBounds_toArray, List.set]
                  refine wpAnyH_yields (i := 3) (oi := ?_) (v := ?_) ?_ (by kernel_rfl) (by kernel_rfl) (by kernel_rfl) (by assumption) ?_ ?_ ?_ ?_
                  rotate_left 2
                  · (simp only [List.getElem?_toArray, List.getElem?_cons_succ, List.getElem?_cons_zero] <;> exact rfl)
                  · rfl
                  · (intro w' hSw; go_simp <;> with_reducible rfl)
                  · exact fun _ _ _ h => h
                  simp only [Act.put, List.setIfInBounds_toArray, List.set]
                  refine wpAnyH_yields (i := 4) (oi := ?_) (v := ?_) ?_ (by kernel_rfl) (by kernel_rfl) (by kernel_rfl) (by assumption) ?_ ?_ ?_ ?_
                  rotate_left 2
                  · (simp only [List.getElem?_toArray, List.getElem?_cons_succ, List.getElem?_cons_zero] <;> exact rfl)
                  · rfl
                  · (intro w' hSw; go_simp <;> with_reducible rfl)
                  · exact fun _ _ _ h => h
                  simp only [Act.put, List.setIfInBounds_toArray, List.set]
                  refine wpAnyH_yields (i := 5) (oi := ?_) (v := ?_) ?_ (by kernel_rfl) (by kernel_rfl) (by kernel_rfl) (by assumption) ?_ ?_ ?_ ?_
                  rotate_left 2
                  · (simp only [List.getElem?_toArray, List.getElem?_cons_succ, List.getElem?_cons_zero] <;> exact rfl)
                  · rfl
                  · (intro w' hSw; go_simp <;> with_reducible rfl)
                  · exact fun _ _ _ h => h
                  simp only [Act.put, List.setIfInBounds_toArray, List.set]
                  refine wpAnyH_yields (i := 6) (oi := ?_) (v := ?_) ?_ (by kernel_rfl) (by kernel_rfl) (by kernel_rfl) (by assumption) ?_ ?_ ?_ ?_
                  rotate_left 2
                  · (simp only [List.getElem?_toArray, List.getElem?_cons_succ, List.getElem?_cons_zero] <;> exact rfl)
                  · rfl
                  · (intro w' hSw; go_simp <;> with_reducible rfl)
                  · exact fun _ _ _ h => h
                  simp only [Act.put, List.setIfInBounds_toArray, List.set]
                  refine wpAnyH_yields (i := 7) (oi := ?_) (v := ?_) ?_ (by kernel_rfl) (by kernel_rfl) (by kernel_rfl) (by assumption) ?_ ?_ ?_ ?_
                  rotate_left 2
                  · (simp only [List.getElem?_toArray, List.getElem?_cons_succ, List.getElem?_cons_zero] <;> exact rfl)
                  · rfl
                  · (intro w' hSw; go_simp <;> with_reducible rfl)
                  · exact fun _ _ _ h => h
                  simp only [Act.put, List.setIfInBounds_toArray, List.set]
                  refine wpAnyH_yields (i := 8) (oi := ?_) (v := ?_) ?_ (by kernel_rfl) (by kernel_rfl) (by kernel_rfl) (by assumption) ?_ ?_ ?_ ?_
                  rotate_left 2
                  · (simp only [List.getElem?_toArray, List.getElem?_cons_succ, List.getElem?_cons_zero] <;> exact rfl)
                  · rfl
                  · (intro w' hSw; go_simp <;> with_reducible rfl)
                  · exact fun _ _ _ h => h
                  simp only [Act.put, List.setIfInBounds_toArray, List.set]
                  refine wpAnyH_yields (i := 9) (oi := ?_) (v := ?_) ?_ (by kernel_rfl) (by kernel_rfl) (by kernel_rfl) (by assumption) ?_ ?_ ?_ ?_
                  rotate_left 2
                  · (simp only [List.getElem?_toArray, List.getElem?_cons_succ, List.getElem?_cons_zero] <;> exact rfl)
                  · rfl
                  · (intro w' hSw; go_simp <;> with_reducible rfl)
                  · exact fun _ _ _ h => h
                  simp only [Act.put, List.setIfInBounds_toArray, List.set]
                  refine wpAnyH_ready (rs := [10]) (by kernel_rfl) (by simp) (AllReadyH.cons (o := ?_) ?_ (fun K hK => ?_) AllReadyH.nil)
                  rotate_left 1
                  · (simp only [List.getElem?_toArray, List.getElem?_cons_succ, List.getElem?_cons_zero] <;> exact rfl)
                  go_simp
                  go_at_call 14
                  refine (gave_act w5.drew (HS.out.below HB6.out) HH6.out.h2 key HK.out HE2.out A3 L.length d3 L HV6.out HL.out (by have := HW2.out.pbig key; have := HOl.out; omega)).mono ?_
                  rintro e2 w7 ⟨ht2, htn2⟩
                  obtain rfl := ht2.yes (by rw [← HSm.out.past, ← HKe.out]; exact HP.out)
                  have HB7 := hide (HB6.out.trans (HH6.out.low2 HB6.out.size htn2))
                  obtain ⟨D4, hh7⟩ := HH6.out.turn2 HB6.out.size htn2
                  have HH7 := hide hh7
                  have t1 := htn2.2.cell s1 (fun h => (HD.out q (.inr h)).1 rfl)
                  clear hh7 htn2 ht2 s1 hHeld
                  refine hK.out _ _ (t1) (fun hHeld => ?_)
                  clear hK K
                  try simp only [List.setIfInBounds_toArray, List.set_cons_zero, List.set_cons_succ]
                  refine wpAnyH_yields (i := 11) (oi := ?_) (v := ?_) ?_ (by kernel_rfl) (by kernel_rfl) (by kernel_rfl) (by assumption) ?_ ?_ ?_ ?_
                  rotate_left 2
                  · (simp only [List.getElem?_toArray, List.getElem?_cons_succ, List.getElem?_cons_zero] <;> exact rfl)
                  · rfl
                  · (intro w' hSw; go_simp <;> with_reducible rfl)
                  · exact fun _ _ _ h => h
                  simp only [Act.put, List.setIfInBounds_toArray, List.set]
                  refine wpAnyH_yields (i := 12) (oi := ?_) (v := ?_) ?_ (by kernel_rfl) (by kernel_rfl) (by kernel_rfl) (by assumption) ?_ ?_ ?_ ?_
                  rotate_left 2
                  · (simp only [List.getElem?_toArray, List.getElem?_cons_succ, List.getElem?_cons_zero] <;> exact rfl)
                  · rfl
                  · (intro w' hSw; go_simp <;> with_reducible rfl)
                  · exact fun _ _ _ h => h
                  simp only [Act.put, List.setIfInBounds_toArray, List.set]
                  refine wpAnyH_yields (i := 13) (oi := ?_) (v := ?_) ?_ (by kernel_rfl) (by kernel_rfl) (by kernel_rfl) (by assumption) ?_ ?_ ?_ ?_
                  rotate_left 2
                  · (simp only [List.getElem?_toArray, List.getElem?_cons_succ, List.getElem?_cons_zero] <;> exact rfl)
                  · rfl
                  · (intro w' hSw; go_simp <;> with_reducible rfl)
                  · exact fun _ _ _ h => h
                  simp only [Act.put, List.setIfInBounds_toArray, List.set]
                  refine wpAnyH_yields (i := 14) (oi := ?_) (v := ?_) ?_ (by kernel_rfl) (by kernel_rfl) (by kernel_rfl) (by assumption) ?_ ?_ ?_ ?_
                  rotate_left 2
                  · (simp only [List.getElem?_toArray, List.getElem?_cons_succ, List.getElem?_cons_zero] <;> exact rfl)
                  · rfl
                  · (intro w' hSw; go_simp <;> with_reducible rfl)
                  · exact fun _ _ _ h => h
                  simp only [Act.put, List.setIfInBounds_toArray, List.set]
                  refine wpAnyH_done (by kernel_rfl) ?_ _
                  go_wp2
                  go_meet
                  case rel => exact ⟨rfl, hide ⟨_, _, _, _, N, HH7.out, by rw [HKe.out]; exact HSm.out.gave2 HW1.out.srt HW2.out.srt L, HW1.out.gave HO0.out.key, HW2.out.gave HK.out, by have := HOl.out; have := HO0.out.len; omega, HB7.out⟩⟩
                · have HP := hide hp
                  clear hp
                  go_upto_region 20 with fail
                  have HB6 : Hid (Below w.heap.size w w5.drew) := hide (HB5.out.drew)
                  have HH6 : Hid (H2 w.heap.size w5.drew c1 c2 D3 D2 _ R2) := hide (HH5.out.past ((Below.refl _ _).drew))
                  have HV6 : Hid (Reads w5.drew 1 (.slice A3 L.length d3) L.length (u8s L)) := hide (Reads.past HV5.out.reads ((Below.refl _ _).drew))
                  have s1 : w5.drew.cell? ⟨q, 1, none⟩ = some (.int .i64 o.key) := x1
                  clear x1
                  have hHeld := s1
                  refine wp_region_held_n (n := 15) (l := #[false, false, false, false, false, false, false, false, false, false, false, false, false, false, false]) (S := (fun w' => w'.cell? ⟨q, 1, none⟩ = some (.int .i64 o.key))) rfl rfl (by kernel_rfl) s1 ?_
                  refine wpAnyH_yields (i := 0) (oi := ?_) (v := ?_) ?_ (by kernel_rfl) (by kernel_rfl) (by kernel_rfl) (by assumption) ?_ ?_ ?_ ?_
                  rotate_left 2
                  · (simp only [List.getElem?_toArray, List.getElem?_cons_zero] <;> exact rfl)
                  · rfl
                  · (intro w' hSw; go_simp <;> with_reducible rfl)
                  · exact fun _ _ _ h => h
                  simp only [Act.put, List.setIfInBounds_toArray, List.set]
                  refine wpAnyH_yields (i := 1) (oi := ?_) (v := ?_) ?_ (by kernel_rfl) (by kernel_rfl) (by kernel_rfl) (by assumption) ?_ ?_ ?_ ?_
                  rotate_left 2
                  · (simp only [List.getElem?_toArray, List.getElem?_cons_succ, List.getElem?_cons_zero] <;> exact rfl)
                  · rfl
                  · (intro w' hSw; go_simp <;> with_reducible rfl)
                  · exact fun _ _ _ h => h
                  simp only [Act.put, List.setIfInBounds_toArray, List.set]
                  refine wpAnyH_yields (i := 2) (oi := ?_) (v := ?_) ?_ (by kernel_rfl) (by kernel_rfl) (by kernel_rfl) (by assumption) ?_ ?_ ?_ ?_
                  rotate_left 2
                  · (simp only [List.getElem?_toArray, List.getElem?_cons_succ, List.getElem?_cons_zero] <;> exact rfl)
                  · rfl
                  · (intro w' hSw; go_simp <;> with_reducible rfl)
                  · exact fun _ _ _ h => h
                  simp only [Act.put, List.setIfInBounds_toArray, List.set]
                  refine wpAnyH_yields (i := 3) (oi := ?_) (v := ?_) ?_ (by kernel_rfl) (by kernel_rfl) (by kernel_rfl) (by assumption) ?_ ?_ ?_ ?_
                  rotate_left 2
                  · (simp only [List.getElem?_toArray, List.getElem?_cons_succ, List.getElem?_cons_zero] <;> exact rfl)
                  · rfl
                  · (intro w' hSw; go_simp <;> with_reducible rfl)
                  · exact fun _ _ _ h => h
                  simp only [Act.put, List.setIfInBounds_toArray, List.set]
                  refine wpAnyH_yields (i := 4) (oi := ?_) (v := ?_) ?_ (by kernel_rfl) (by kernel_rfl) (by kernel_rfl) (by assumption) ?_ ?_ ?_ ?_
                  rotate_left 2
                  · (simp only [List.getElem?_toArray, List.getElem?_cons_succ, List.getElem?_cons_zero] <;> exact rfl)
                  · rfl
                  · (intro w' hSw; go_simp <;> with_reducible rfl)
                  · exact fun _ _ _ h => h
                  simp only [Act.put, List.setIfInBounds_toArray, List.set]
                  refine wpAnyH_yields (i := 5) (oi := ?_) (v := ?_) ?_ (by kernel_rfl) (by kernel_rfl) (by kernel_rfl) (by assumption) ?_ ?_ ?_ ?_
                  rotate_left 2
                  · (simp only [List.getElem?_toArray, List.getElem?_cons_succ, List.getElem?_cons_zero] <;> exact rfl)
                  · rfl
                  · (intro w' hSw; go_simp <;> with_reducible rfl)
                  · exact fun _ _ _ h => h
                  simp only [Act.put, List.setIfInBounds_toArray, List.set]
                  refine wpAnyH_yields (i := 6) (oi := ?_) (v := ?_) ?_ (by kernel_rfl) (by kernel_rfl) (by kernel_rfl) (by assumption) ?_ ?_ ?_ ?_
                  rotate_left 2
                  · (simp only [List.getElem?_toArray, List.getElem?_cons_succ, List.getElem?_cons_zero] <;> exact rfl)
                  · rfl
                  · (intro w' hSw; go_simp <;> with_reducible rfl)
                  · exact fun _ _ _ h => h
                  simp only [Act.put, List.setIfInBounds_toArray, List.set]
                  refine wpAnyH_yields (i := 7) (oi := ?_) (v := ?_) ?_ (by kernel_rfl) (by kernel_rfl) (by kernel_rfl) (by assumption) ?_ ?_ ?_ ?_
                  rotate_left 2
                  · (simp only [List.getElem?_toArray, List.getElem?_cons_succ, List.getElem?_cons_zero] <;> exact rfl)
                  · rfl
                  · (intro w' hSw; go_simp <;> with_reducible rfl)
                  · exact fun _ _ _ h => h
                  simp only [Act.put, List.setIfInBounds_toArray, List.set]
                  refine wpAnyH_yields (i := 8) (oi := ?_) (v := ?_) ?_ (by kernel_rfl) (by kernel_rfl) (by kernel_rfl) (by assumption) ?_ ?_ ?_ ?_
                  rotate_left 2
                  · (simp only [List.getElem?_toArray, List.getElem?_cons_succ, List.getElem?_cons_zero] <;> exact rfl)
                  · rfl
                  · (intro w' hSw; go_simp <;> with_reducible rfl)
                  · exact fun _ _ _ h => h
                  simp only [Act.put, List.setIfInBounds_toArray, List.set]
                  refine wpAnyH_yields (i := 9) (oi := ?_) (v := ?_) ?_ (by kernel_rfl) (by kernel_rfl) (by kernel_rfl) (by assumption) ?_ ?_ ?_ ?_
                  rotate_left 2
                  · (simp only [List.getElem?_toArray, List.getElem?_cons_succ, List.getElem?_cons_zero] <;> exact rfl)
                  · rfl
                  · (intro w' hSw; go_simp <;> with_reducible rfl)
                  · exact fun _ _ _ h => h
                  simp only [Act.put, List.setIfInBounds_toArray, List.set]
                  refine wpAnyH_ready (rs := [10]) (by kernel_rfl) (by simp) (AllReadyH.cons (o := ?_) ?_ (fun K hK => ?_) AllReadyH.nil)
                  rotate_left 1
                  · (simp only [List.getElem?_toArray, List.getElem?_cons_succ, List.getElem?_cons_zero] <;> exact rfl)
                  go_simp
                  go_at_call 14
                  refine (gave_act w5.drew (HS.out.below HB6.out) HH6.out.h2 key HK.out HE2.out A3 L.length d3 L HV6.out HL.out (by have := HW2.out.pbig key; have := HOl.out; omega)).mono ?_
                  rintro e2 w7 ⟨ht2, htn2⟩
                  obtain rfl := ht2.no (by rw [← HSm.out.past, ← HKe.out]; exact HP.out)
                  have HB7 := hide (HB6.out.trans (HH6.out.low2 HB6.out.size htn2))
                  obtain ⟨D4, hh7⟩ := HH6.out.turn2 HB6.out.size htn2
                  have HH7 := hide hh7
                  have t1 := htn2.2.cell s1 (fun h => (HD.out q (.inr h)).1 rfl)
                  clear hh7 htn2 ht2 s1 hHeld
                  refine hK.out _ _ (t1) (fun hHeld => ?_)
                  clear hK K
                  try simp only [List.setIfInBounds_toArray, List.set_cons_zero, List.set_cons_succ]
                  refine wpAnyH_yields (i := 11) (oi := ?_) (v := ?_) ?_ (by kernel_rfl) (by kernel_rfl) (by kernel_rfl) (by assumption) ?_ ?_ ?_ ?_
                  rotate_left 2
                  · (simp only [List.getElem?_toArray, List.getElem?_cons_succ, List.getElem?_cons_zero] <;> exact rfl)
                  · rfl
                  · (intro w' hSw; go_simp <;> with_reducible rfl)
                  · exact fun _ _ _ h => h
                  simp only [Act.put, List.setIfInBounds_toArray, List.set]
                  refine wpAnyH_yields (i := 12) (oi := ?_) (v := ?_) ?_ (by kernel_rfl) (by kernel_rfl) (by kernel_rfl) (by assumption) ?_ ?_ ?_ ?_
                  rotate_left 2
                  · (simp only [List.getElem?_toArray, List.getElem?_cons_succ, List.getElem?_cons_zero] <;> exact rfl)
                  · rfl
                  · (intro w' hSw; go_simp <;> with_reducible rfl)
                  · exact fun _ _ _ h => h
                  simp only [Act.put, List.setIfInBounds_toArray, List.set]
                  refine wpAnyH_yields (i := 13) (oi := ?_) (v := ?_) ?_ (by kernel_rfl) (by kernel_rfl) (by kernel_rfl) (by assumption) ?_ ?_ ?_ ?_
                  rotate_left 2
                  · (simp only [List.getElem?_toArray, List.getElem?_cons_succ, List.getElem?_cons_zero] <;> exact rfl)
                  · rfl
                  · (intro w' hSw; go_simp <;> with_reducible rfl)
                  · exact fun _ _ _ h => h
                  simp only [Act.put, List.setIfInBounds_toArray, List.set]
                  refine wpAnyH_yields (i := 14) (oi := ?_) (v := ?_) ?_ (by kernel_rfl) (by kernel_rfl) (by kernel_rfl) (by assumption) ?_ ?_ ?_ ?_
                  rotate_left 2
                  · (simp only [List.getElem?_toArray, List.getElem?_cons_succ, List.getElem?_cons_zero] <;> exact rfl)
                  · rfl
                  · (intro w' hSw; go_simp <;> with_reducible rfl)
                  · exact fun _ _ _ h => h
                  simp only [Act.put, List.setIfInBounds_toArray, List.set]
                  refine wpAnyH_done (by kernel_rfl) ?_ _
                  go_wp2
                  go_meet
                  case rel => exact ⟨rfl, hide ⟨_, _, _, _, N, HH7.out, by rw [HKe.out]; exact HSm.out.gave2 HW1.out.srt HW2.out.srt L, HW1.out.gave HO0.out.key, HW2.out.gave HK.out, by have := HOl.out; have := HO0.out.len; omega, HB7.out⟩⟩
              · have hne : (o.key != key) = true := bne_iff_ne.2 hke
                have HKe := hide hke
                clear hke
                rcases ht with ⟨_, rfl⟩ | ⟨_, rfl⟩
                all_goals
                  go_upto_region 20 with fail
                  go_quiet (fail)
                  go_wp2
                  go_meet
                  case rel => exact ⟨rfl, hide ⟨_, _, _, _, N, HH5.out.past (dn_below (Below.refl _ _) _), HSm.out.gave1 HW1.out.srt (fun e => HKe.out e.symm) L, HW1.out.gave HO0.out.key, HW2.out.later (by omega) (Nat.le_succ _), by have := HOl.out; have := HO0.out.len; omega, dn_below HB5.out _⟩⟩
            · skip
              have hd0 : (o.kind == 0) = false := beq_eq_false_iff_ne.2 hk0
              have hd1 : (o.kind == 1) = false := beq_eq_false_iff_ne.2 hk1
              have hd2 : (o.kind == 2) = false := beq_eq_false_iff_ne.2 hk2
              clear hk0 hk1 hk2
              go_wp2_with fail
              refine (ended_act wb HSy.out HHy.out.h1 o.key HO0.out.key (HW1.out.prd o.key)).mono ?_
              rintro e w5 ⟨ht, htn⟩
              have x1 := htn.2.cell y1 (fun h => (HD.out q (.inl h)).1 rfl)
              have HB5 := hide (HBy.out.trans (HHy.out.low1 HBy.out.size htn))
              obtain ⟨D3, hh5⟩ := HHy.out.turn1 HBy.out.size htn
              have HH5 := hide hh5
              clear hh5 htn y0 y1 y2 y3 y4
              by_cases hke : o.key = key
              · have hne : (o.key != key) = false := bne_eq_false_iff_eq.2 hke
                have HKe := hide hke
                clear hke
                rcases ht with ⟨hp, rfl⟩ | ⟨hp, rfl⟩
                · have HP := hide hp
                  clear hp
                  go_upto_region 11 with fail
                  have HB6 : Hid (Below w.heap.size w w5.drew) := hide (HB5.out.drew)
                  have HH6 : Hid (H2 w.heap.size w5.drew c1 c2 D3 D2 _ R2) := hide (HH5.out.past ((Below.refl _ _).drew))
                  have s1 : w5.drew.cell? ⟨q, 1, none⟩ = some (.int .i64 o.key) := x1
                  clear x1
                  have hHeld := s1
                  refine wp_region_held_n (n := 14) (l := #[false, false, false, false, false, false, false, false, false, false, false, false, false, false]) (S := (fun w' => w'.cell? ⟨q, 1, none⟩ = some (.int .i64 o.key))) rfl rfl (by kernel_rfl) s1 ?_
                  refine wpAnyH_yields (i := 0) (oi := ?_) (v := ?_) ?_ (by kernel_rfl) (by kernel_rfl) (by kernel_rfl) (by assumption) ?_ ?_ ?_ ?_
                  rotate_left 2
                  · (simp only [List.getElem?_toArray, List.getElem?_cons_zero] <;> exact rfl)
                  · rfl
                  · (intro w' hSw; go_simp <;> with_reducible rfl)
                  · exact fun _ _ _ h => h
                  simp only [Act.put, List.setIfInBounds_toArray, List.set]
                  refine wpAnyH_yields (i := 1) (oi := ?_) (v := ?_) ?_ (by kernel_rfl) (by kernel_rfl) (by kernel_rfl) (by assumption) ?_ ?_ ?_ ?_
                  rotate_left 2
                  · (simp only [List.getElem?_toArray, List.getElem?_cons_succ, List.getElem?_cons_zero] <;> exact rfl)
                  · rfl
                  · (intro w' hSw; go_simp <;> with_reducible rfl)
                  · exact fun _ _ _ h => h
                  simp only [Act.put, List.setIfInBounds_toArray, List.set]
                  refine wpAnyH_yields (i := 2) (oi := ?_) (v := ?_) ?_ (by kernel_rfl) (by kernel_rfl) (by kernel_rfl) (by assumption) ?_ ?_ ?_ ?_
                  rotate_left 2
                  · (simp only [List.getElem?_toArray, List.getElem?_cons_succ, List.getElem?_cons_zero] <;> exact rfl)
                  · rfl
                  · (intro w' hSw; go_simp <;> with_reducible rfl)
                  · exact fun _ _ _ h => h
                  simp only [Act.put, List.setIfInBounds_toArray, List.set]
                  refine wpAnyH_yields (i := 3) (oi := ?_) (v := ?_) ?_ (by kernel_rfl) (by kernel_rfl) (by kernel_rfl) (by assumption) ?_ ?_ ?_ ?_
                  rotate_left 2
                  · (simp only [List.getElem?_toArray, List.getElem?_cons_succ, List.getElem?_cons_zero] <;> exact rfl)
                  · rfl
                  · (intro w' hSw; go_simp <;> with_reducible rfl)
                  · exact fun _ _ _ h => h
                  simp only [Act.put, List.setIfInBounds_toArray, List.set]
                  refine wpAnyH_yields (i := 4) (oi := ?_) (v := ?_) ?_ (by kernel_rfl) (by kernel_rfl) (by kernel_rfl) (by assumption) ?_ ?_ ?_ ?_
                  rotate_left 2
                  · (simp only [List.getElem?_toArray, List.getElem?_cons_succ, List.getElem?_cons_zero] <;> exact rfl)
                  · rfl
                  · (intro w' hSw; go_simp <;> with_reducible rfl)
                  · exact fun _ _ _ h => h
                  simp only [Act.put, List.setIfInBounds_toArray, List.set]
                  refine wpAnyH_yields (i := 5) (oi := ?_) (v := ?_) ?_ (by kernel_rfl) (by kernel_rfl) (by kernel_rfl) (by assumption) ?_ ?_ ?_ ?_
                  rotate_left 2
                  · (simp only [List.getElem?_toArray, List.getElem?_cons_succ, List.getElem?_cons_zero] <;> exact rfl)
                  · rfl
                  · (intro w' hSw; go_simp <;> with_reducible rfl)
                  · exact fun _ _ _ h => h
                  simp only [Act.put, List.setIfInBounds_toArray, List.set]
                  refine wpAnyH_yields (i := 6) (oi := ?_) (v := ?_) ?_ (by kernel_rfl) (by kernel_rfl) (by kernel_rfl) (by assumption) ?_ ?_ ?_ ?_
                  rotate_left 2
                  · (simp only [List.getElem?_toArray, List.getElem?_cons_succ, List.getElem?_cons_zero] <;> exact rfl)
                  · rfl
                  · (intro w' hSw; go_simp <;> with_reducible rfl)
                  · exact fun _ _ _ h => h
                  simp only [Act.put, List.setIfInBounds_toArray, List.set]
                  refine wpAnyH_yields (i := 7) (oi := ?_) (v := ?_) ?_ (by kernel_rfl) (by kernel_rfl) (by kernel_rfl) (by assumption) ?_ ?_ ?_ ?_
                  rotate_left 2
                  · (simp only [List.getElem?_toArray, List.getElem?_cons_succ, List.getElem?_cons_zero] <;> exact rfl)
                  · rfl
                  · (intro w' hSw; go_simp <;> with_reducible rfl)
                  · exact fun _ _ _ h => h
                  simp only [Act.put, List.setIfInBounds_toArray, List.set]
                  refine wpAnyH_yields (i := 8) (oi := ?_) (v := ?_) ?_ (by kernel_rfl) (by kernel_rfl) (by kernel_rfl) (by assumption) ?_ ?_ ?_ ?_
                  rotate_left 2
                  · (simp only [List.getElem?_toArray, List.getElem?_cons_succ, List.getElem?_cons_zero] <;> exact rfl)
                  · rfl
                  · (intro w' hSw; go_simp <;> with_reducible rfl)
                  · exact fun _ _ _ h => h
                  simp only [Act.put, List.setIfInBounds_toArray, List.set]
                  refine wpAnyH_ready (rs := [9]) (by kernel_rfl) (by simp) (AllReadyH.cons (o := ?_) ?_ (fun K hK => ?_) AllReadyH.nil)
                  rotate_left 1
                  · (simp only [List.getElem?_toArray, List.getElem?_cons_succ, List.getElem?_cons_zero] <;> exact rfl)
                  go_simp
                  go_at_call 15
                  refine (ended_act w5.drew (HS.out.below HB6.out) HH6.out.h2 key HK.out (HW2.out.prd key)).mono ?_
                  rintro e2 w7 ⟨ht2, htn2⟩
                  obtain rfl := ht2.yes (by rw [← HSm.out.past, ← HKe.out]; exact HP.out)
                  have HB7 := hide (HB6.out.trans (HH6.out.low2 HB6.out.size htn2))
                  obtain ⟨D4, hh7⟩ := HH6.out.turn2 HB6.out.size htn2
                  have HH7 := hide hh7
                  have t1 := htn2.2.cell s1 (fun h => (HD.out q (.inr h)).1 rfl)
                  clear hh7 htn2 ht2 s1 hHeld
                  refine hK.out _ _ (t1) (fun hHeld => ?_)
                  clear hK K
                  try simp only [List.setIfInBounds_toArray, List.set_cons_zero, List.set_cons_succ]
                  refine wpAnyH_yields (i := 10) (oi := ?_) (v := ?_) ?_ (by kernel_rfl) (by kernel_rfl) (by kernel_rfl) (by assumption) ?_ ?_ ?_ ?_
                  rotate_left 2
                  · (simp only [List.getElem?_toArray, List.getElem?_cons_succ, List.getElem?_cons_zero] <;> exact rfl)
                  · rfl
                  · (intro w' hSw; go_simp <;> with_reducible rfl)
                  · exact fun _ _ _ h => h
                  simp only [Act.put, List.setIfInBounds_toArray, List.set]
                  refine wpAnyH_yields (i := 11) (oi := ?_) (v := ?_) ?_ (by kernel_rfl) (by kernel_rfl) (by kernel_rfl) (by assumption) ?_ ?_ ?_ ?_
                  rotate_left 2
                  · (simp only [List.getElem?_toArray, List.getElem?_cons_succ, List.getElem?_cons_zero] <;> exact rfl)
                  · rfl
                  · (intro w' hSw; go_simp <;> with_reducible rfl)
                  · exact fun _ _ _ h => h
                  simp only [Act.put, List.setIfInBounds_toArray, List.set]
                  refine wpAnyH_yields (i := 12) (oi := ?_) (v := ?_) ?_ (by kernel_rfl) (by kernel_rfl) (by kernel_rfl) (by assumption) ?_ ?_ ?_ ?_
                  rotate_left 2
                  · (simp only [List.getElem?_toArray, List.getElem?_cons_succ, List.getElem?_cons_zero] <;> exact rfl)
                  · rfl
                  · (intro w' hSw; go_simp <;> with_reducible rfl)
                  · exact fun _ _ _ h => h
                  simp only [Act.put, List.setIfInBounds_toArray, List.set]
                  refine wpAnyH_yields (i := 13) (oi := ?_) (v := ?_) ?_ (by kernel_rfl) (by kernel_rfl) (by kernel_rfl) (by assumption) ?_ ?_ ?_ ?_
                  rotate_left 2
                  · (simp only [List.getElem?_toArray, List.getElem?_cons_succ, List.getElem?_cons_zero] <;> exact rfl)
                  · rfl
                  · (intro w' hSw; go_simp <;> with_reducible rfl)
                  · exact fun _ _ _ h => h
                  simp only [Act.put, List.setIfInBounds_toArray, List.set]
                  refine wpAnyH_done (by kernel_rfl) ?_ _
                  go_wp2
                  go_meet
                  case rel => exact ⟨rfl, hide ⟨_, _, _, _, N, HH7.out, by rw [HKe.out]; exact HSm.out.ended2 HW1.out.srt HW2.out.srt, HW1.out.ended HO0.out.key, HW2.out.ended HK.out, by have := HOl.out; have := HO0.out.len; omega, HB7.out⟩⟩
                · have HP := hide hp
                  clear hp
                  go_upto_region 11 with fail
                  have HB6 : Hid (Below w.heap.size w w5.drew) := hide (HB5.out.drew)
                  have HH6 : Hid (H2 w.heap.size w5.drew c1 c2 D3 D2 _ R2) := hide (HH5.out.past ((Below.refl _ _).drew))
                  have s1 : w5.drew.cell? ⟨q, 1, none⟩ = some (.int .i64 o.key) := x1
                  clear x1
                  have hHeld := s1
                  refine wp_region_held_n (n := 14) (l := #[false, false, false, false, false, false, false, false, false, false, false, false, false, false]) (S := (fun w' => w'.cell? ⟨q, 1, none⟩ = some (.int .i64 o.key))) rfl rfl (by kernel_rfl) s1 ?_
                  refine wpAnyH_yields (i := 0) (oi := ?_) (v := ?_) ?_ (by kernel_rfl) (by kernel_rfl) (by kernel_rfl) (by assumption) ?_ ?_ ?_ ?_
                  rotate_left 2
                  · (simp only [List.getElem?_toArray, List.getElem?_cons_zero] <;> exact rfl)
                  · rfl
                  · (intro w' hSw; go_simp <;> with_reducible rfl)
                  · exact fun _ _ _ h => h
                  simp only [Act.put, List.setIfInBounds_toArray, List.set]
                  refine wpAnyH_yields (i := 1) (oi := ?_) (v := ?_) ?_ (by kernel_rfl) (by kernel_rfl) (by kernel_rfl) (by assumption) ?_ ?_ ?_ ?_
                  rotate_left 2
                  · (simp only [List.getElem?_toArray, List.getElem?_cons_succ, List.getElem?_cons_zero] <;> exact rfl)
                  · rfl
                  · (intro w' hSw; go_simp <;> with_reducible rfl)
                  · exact fun _ _ _ h => h
                  simp only [Act.put, List.setIfInBounds_toArray, List.set]
                  refine wpAnyH_yields (i := 2) (oi := ?_) (v := ?_) ?_ (by kernel_rfl) (by kernel_rfl) (by kernel_rfl) (by assumption) ?_ ?_ ?_ ?_
                  rotate_left 2
                  · (simp only [List.getElem?_toArray, List.getElem?_cons_succ, List.getElem?_cons_zero] <;> exact rfl)
                  · rfl
                  · (intro w' hSw; go_simp <;> with_reducible rfl)
                  · exact fun _ _ _ h => h
                  simp only [Act.put, List.setIfInBounds_toArray, List.set]
                  refine wpAnyH_yields (i := 3) (oi := ?_) (v := ?_) ?_ (by kernel_rfl) (by kernel_rfl) (by kernel_rfl) (by assumption) ?_ ?_ ?_ ?_
                  rotate_left 2
                  · (simp only [List.getElem?_toArray, List.getElem?_cons_succ, List.getElem?_cons_zero] <;> exact rfl)
                  · rfl
                  · (intro w' hSw; go_simp <;> with_reducible rfl)
                  · exact fun _ _ _ h => h
                  simp only [Act.put, List.setIfInBounds_toArray, List.set]
                  refine wpAnyH_yields (i := 4) (oi := ?_) (v := ?_) ?_ (by kernel_rfl) (by kernel_rfl) (by kernel_rfl) (by assumption) ?_ ?_ ?_ ?_
                  rotate_left 2
                  · (simp only [List.getElem?_toArray, List.getElem?_cons_succ, List.getElem?_cons_zero] <;> exact rfl)
                  · rfl
                  · (intro w' hSw; go_simp <;> with_reducible rfl)
                  · exact fun _ _ _ h => h
                  simp only [Act.put, List.setIfInBounds_toArray, List.set]
                  refine wpAnyH_yields (i := 5) (oi := ?_) (v := ?_) ?_ (by kernel_rfl) (by kernel_rfl) (by kernel_rfl) (by assumption) ?_ ?_ ?_ ?_
                  rotate_left 2
                  · (simp only [List.getElem?_toArray, List.getElem?_cons_succ, List.getElem?_cons_zero] <;> exact rfl)
                  · rfl
                  · (intro w' hSw; go_simp <;> with_reducible rfl)
                  · exact fun _ _ _ h => h
                  simp only [Act.put, List.setIfInBounds_toArray, List.set]
                  refine wpAnyH_yields (i := 6) (oi := ?_) (v := ?_) ?_ (by kernel_rfl) (by kernel_rfl) (by kernel_rfl) (by assumption) ?_ ?_ ?_ ?_
                  rotate_left 2
                  · (simp only [List.getElem?_toArray, List.getElem?_cons_succ, List.getElem?_cons_zero] <;> exact rfl)
                  · rfl
                  · (intro w' hSw; go_simp <;> with_reducible rfl)
                  · exact fun _ _ _ h => h
                  simp only [Act.put, List.setIfInBounds_toArray, List.set]
                  refine wpAnyH_yields (i := 7) (oi := ?_) (v := ?_) ?_ (by kernel_rfl) (by kernel_rfl) (by kernel_rfl) (by assumption) ?_ ?_ ?_ ?_
                  rotate_left 2
                  · (simp only [List.getElem?_toArray, List.getElem?_cons_succ, List.getElem?_cons_zero] <;> exact rfl)
                  · rfl
                  · (intro w' hSw; go_simp <;> with_reducible rfl)
                  · exact fun _ _ _ h => h
                  simp only [Act.put, List.setIfInBounds_toArray, List.set]
                  refine wpAnyH_yields (i := 8) (oi := ?_) (v := ?_) ?_ (by kernel_rfl) (by kernel_rfl) (by kernel_rfl) (by assumption) ?_ ?_ ?_ ?_
                  rotate_left 2
                  · (simp only [List.getElem?_toArray, List.getElem?_cons_succ, List.getElem?_cons_zero] <;> exact rfl)
                  · rfl
                  · (intro w' hSw; go_simp <;> with_reducible rfl)
                  · exact fun _ _ _ h => h
                  simp only [Act.put, List.setIfInBounds_toArray, List.set]
                  refine wpAnyH_ready (rs := [9]) (by kernel_rfl) (by simp) (AllReadyH.cons (o := ?_) ?_ (fun K hK => ?_) AllReadyH.nil)
                  rotate_left 1
                  · (simp only [List.getElem?_toArray, List.getElem?_cons_succ, List.getElem?_cons_zero] <;> exact rfl)
                  go_simp
                  go_at_call 15
                  refine (ended_act w5.drew (HS.out.below HB6.out) HH6.out.h2 key HK.out (HW2.out.prd key)).mono ?_
                  rintro e2 w7 ⟨ht2, htn2⟩
                  obtain rfl := ht2.no (by rw [← HSm.out.past, ← HKe.out]; exact HP.out)
                  have HB7 := hide (HB6.out.trans (HH6.out.low2 HB6.out.size htn2))
                  obtain ⟨D4, hh7⟩ := HH6.out.turn2 HB6.out.size htn2
                  have HH7 := hide hh7
                  have t1 := htn2.2.cell s1 (fun h => (HD.out q (.inr h)).1 rfl)
                  clear hh7 htn2 ht2 s1 hHeld
                  refine hK.out _ _ (t1) (fun hHeld => ?_)
                  clear hK K
                  try simp only [List.setIfInBounds_toArray, List.set_cons_zero, List.set_cons_succ]
                  refine wpAnyH_yields (i := 10) (oi := ?_) (v := ?_) ?_ (by kernel_rfl) (by kernel_rfl) (by kernel_rfl) (by assumption) ?_ ?_ ?_ ?_
                  rotate_left 2
                  · (simp only [List.getElem?_toArray, List.getElem?_cons_succ, List.getElem?_cons_zero] <;> exact rfl)
                  · rfl
                  · (intro w' hSw; go_simp <;> with_reducible rfl)
                  · exact fun _ _ _ h => h
                  simp only [Act.put, List.setIfInBounds_toArray, List.set]
                  refine wpAnyH_yields (i := 11) (oi := ?_) (v := ?_) ?_ (by kernel_rfl) (by kernel_rfl) (by kernel_rfl) (by assumption) ?_ ?_ ?_ ?_
                  rotate_left 2
                  · (simp only [List.getElem?_toArray, List.getElem?_cons_succ, List.getElem?_cons_zero] <;> exact rfl)
                  · rfl
                  · (intro w' hSw; go_simp <;> with_reducible rfl)
                  · exact fun _ _ _ h => h
                  simp only [Act.put, List.setIfInBounds_toArray, List.set]
                  refine wpAnyH_yields (i := 12) (oi := ?_) (v := ?_) ?_ (by kernel_rfl) (by kernel_rfl) (by kernel_rfl) (by assumption) ?_ ?_ ?_ ?_
                  rotate_left 2
                  · (simp only [List.getElem?_toArray, List.getElem?_cons_succ, List.getElem?_cons_zero] <;> exact rfl)
                  · rfl
                  · (intro w' hSw; go_simp <;> with_reducible rfl)
                  · exact fun _ _ _ h => h
                  simp only [Act.put, List.setIfInBounds_toArray, List.set]
                  refine wpAnyH_yields (i := 13) (oi := ?_) (v := ?_) ?_ (by kernel_rfl) (by kernel_rfl) (by kernel_rfl) (by assumption) ?_ ?_ ?_ ?_
                  rotate_left 2
                  · (simp only [List.getElem?_toArray, List.getElem?_cons_succ, List.getElem?_cons_zero] <;> exact rfl)
                  · rfl
                  · (intro w' hSw; go_simp <;> with_reducible rfl)
                  · exact fun _ _ _ h => h
                  simp only [Act.put, List.setIfInBounds_toArray, List.set]
                  refine wpAnyH_done (by kernel_rfl) ?_ _
                  go_wp2
                  go_meet
                  case rel => exact ⟨rfl, hide ⟨_, _, _, _, N, HH7.out, by rw [HKe.out]; exact HSm.out.ended2 HW1.out.srt HW2.out.srt, HW1.out.ended HO0.out.key, HW2.out.ended HK.out, by have := HOl.out; have := HO0.out.len; omega, HB7.out⟩⟩
              · have hne : (o.key != key) = true := bne_iff_ne.2 hke
                have HKe := hide hke
                clear hke
                rcases ht with ⟨_, rfl⟩ | ⟨_, rfl⟩
                all_goals
                  go_upto_region 11 with fail
                  go_quiet (fail)
                  go_wp2
                  go_meet
                  case rel => exact ⟨rfl, hide ⟨_, _, _, _, N, HH5.out.past (dn_below (Below.refl _ _) _), HSm.out.ended1 HW1.out.srt (fun e => HKe.out e.symm), HW1.out.ended HO0.out.key, HW2.out.later (by omega) (Nat.le_succ _), by have := HOl.out; have := HO0.out.len; omega, dn_below HB5.out _⟩⟩

      case rest => as_aux_lemma =>
        obtain ⟨rfl, hx⟩ := hcut
        clear HO0 HD HOl HSm HW1 HW2 HB4 HH4 HRl HVR HBy HHy HL HLl HSz HBz HHz y0 y1 y2 y3 y4 HX
        obtain ⟨D1, D2, R1, R2, N, hh, hsm, hw1, hw2, hrem, hbel⟩ := hx.out
        obtain ⟨wv, hwv⟩ : ∃ wv, wc = wv := ⟨_, rfl⟩
        rw [hwv] at hh hbel
        rw [hwv]
        have HHv := hide hh
        have HBv := hide hbel
        have HSm := hide hsm
        have HW1 := hide hw1
        have HW2 := hide hw2
        have HRem := hide hrem
        obtain ⟨P, hP⟩ : ∃ P, pastR R2 key = P := ⟨_, rfl⟩
        obtain ⟨ok, hok⟩ : ∃ ok, (get Rw.k R2 key).isSome = ok := ⟨_, rfl⟩
        have hp1 : Calls Tryd.prog 16 #[ptr c1, .int .i64 key] wv fun r w' => r = .returned (.tuple #[.agg #[.int .i64 P.bs.length, .int .i64 P.rd, .bool P.cl, .bool P.en], .bool ok]) ∧ Below wv.heap.size wv w' := by
          have h := hist_past hh.h1 key HK.out
          rw [hsm.past, hsm.get, hP, hok] at h
          exact h
        have HP2 : ∀ wx, Below wv.heap.size wv wx → Hid (Calls Tryd.prog 16 #[ptr c2, .int .i64 key] wx fun r w' => r = .returned (.tuple #[.agg #[.int .i64 P.bs.length, .int .i64 P.rd, .bool P.cl, .bool P.en], .bool ok]) ∧ Below wx.heap.size wx w') := fun wx hb => hide (by
          have h := hist_past (hh.past hb).h2 key HK.out
          rw [hP, hok] at h
          exact h)
        clear hh hbel hsm hw1 hw2 hrem hwv hx hP hok
        go_wp2_with fail
        refine hp1.mono ?_
        rintro r w8 ⟨rfl, hb8⟩
        obtain ⟨w9, q1, wa, hw9, hq, hwa, hnew, hset, hbl⟩ := past_filled hb8 P.bs.length P.rd P.cl P.en
        obtain ⟨_, f0, f1, f2, f3⟩ := box4 hnew
        have HSet := hide hset
        have HBl := hide hbl
        clear hp1 hb8 hnew hset hbl
        go_upto_region 22 with fail
        try rw [hwa]
        clear hw9 hq hwa f0 f1 f2 f3
        go_wp2_with fail
        refine (HP2 _ HBl.out).out.mono ?_
        rintro r w10 ⟨rfl, hb10⟩
        obtain ⟨w11, q2, wb, hw11, hq2, hwb, hnew, hset, hbl⟩ := past_filled hb10 P.bs.length P.rd P.cl P.en
        obtain ⟨_, f0, f1, f2, f3⟩ := box4 hnew
        have HSet2 := hide hset
        have HBl2 := hide hbl
        clear hb10 hnew hset hbl HP2
        go_upto_region 23 with fail
        try rw [hwb]
        clear hw11 hq2 hwb f0 f1 f2 f3
        obtain ⟨⟨a0, a1, a2, a3⟩, _⟩ := box4 HSet.out
        have a0 := cell_later HBl2.out.drew a0
        have a1 := cell_later HBl2.out.drew a1
        have a2 := cell_later HBl2.out.drew a2
        have a3 := cell_later HBl2.out.drew a3
        obtain ⟨⟨a4, a5, a6, a7⟩, _⟩ := box4 (show wb.drew.heap[q2]? = _ from HSet2.out)
        have HBd := hide (HBv.out.trans ((HBl.out.trans (HBl2.out.drew.mono HBl.out.size)).mono HBv.out.size))
        have HHd := hide (HHv.out.past (HBl.out.trans (HBl2.out.drew.mono HBl.out.size)))
        have HRb := hide (HW2.out.rest_byte key)
        have hr1 := rest_ok HHd.out.h1 HW1.out (by have := HRem.out; omega) key HK.out
        have e12 : restR R1 key = restR R2 key := by unfold restR; rw [HSm.out.past]
        rw [e12] at hr1
        have hr2 := rest_ok HHd.out.h2 HW2.out (by have := HRem.out; omega) key HK.out
        have HN2 : Hid (N ≤ 1048576) := hide (by have := HRem.out; omega)
        have hHeld := And.intro a0 (And.intro a1 (And.intro a2 (And.intro a3 (And.intro a4 (And.intro a5 (And.intro a6 a7))))))
        have E12 := hide e12
        clear e12
        go_cut [153] (fun v wx => v = .bool false ∧ Hid (H2 w.heap.size wx c1 c2 D1 D2 R1 R2 ∧ Below w.heap.size w wx))
        case first => as_aux_lemma =>
          refine wp_region_held_n (n := 23) (l := #[false, false, false, false, false, false, false, false, false, false, false, false, false, false, false, false, false, false, false, false, false, false, false]) (S := (fun w' => w'.cell? ⟨q1, 0, none⟩ = some (.int .i64 P.bs.length) ∧ w'.cell? ⟨q1, 1, none⟩ = some (.int .i64 P.rd) ∧ w'.cell? ⟨q1, 2, none⟩ = some (.bool P.cl) ∧ w'.cell? ⟨q1, 3, none⟩ = some (.bool P.en) ∧ w'.cell? ⟨q2, 0, none⟩ = some (.int .i64 P.bs.length) ∧ w'.cell? ⟨q2, 1, none⟩ = some (.int .i64 P.rd) ∧ w'.cell? ⟨q2, 2, none⟩ = some (.bool P.cl) ∧ w'.cell? ⟨q2, 3, none⟩ = some (.bool P.en))) rfl rfl (by kernel_rfl) ⟨a0, a1, a2, a3, a4, a5, a6, a7⟩ ?_
          refine wpAnyH_yields (i := 0) (oi := ?_) (v := ?_) ?_ (by kernel_rfl) (by kernel_rfl) (by kernel_rfl) (by assumption) ?_ ?_ ?_ ?_
          rotate_left 2
          · (simp only [List.getElem?_toArray, List.getElem?_cons_zero] <;> exact rfl)
          · rfl
          · (intro w' hSw; obtain ⟨g0, g1, g2, g3, g4, g5, g6, g7⟩ := hSw; go_simp <;> with_reducible rfl)
          · exact fun _ _ _ h => h
          simp only [Act.put, List.setIfInBounds_toArray, List.set]
          refine wpAnyH_yields (i := 1) (oi := ?_) (v := ?_) ?_ (by kernel_rfl) (by kernel_rfl) (by kernel_rfl) (by assumption) ?_ ?_ ?_ ?_
          rotate_left 2
          · (simp only [List.getElem?_toArray, List.getElem?_cons_succ, List.getElem?_cons_zero] <;> exact rfl)
          · rfl
          · (intro w' hSw; obtain ⟨g0, g1, g2, g3, g4, g5, g6, g7⟩ := hSw; go_simp <;> with_reducible rfl)
          · exact fun _ _ _ h => h
          simp only [Act.put, List.setIfInBounds_toArray, List.set]
          refine wpAnyH_yields (i := 2) (oi := ?_) (v := ?_) ?_ (by kernel_rfl) (by kernel_rfl) (by kernel_rfl) (by assumption) ?_ ?_ ?_ ?_
          rotate_left 2
          · (simp only [List.getElem?_toArray, List.getElem?_cons_succ, List.getElem?_cons_zero] <;> exact rfl)
          · rfl
          · (intro w' hSw; obtain ⟨g0, g1, g2, g3, g4, g5, g6, g7⟩ := hSw; go_simp <;> with_reducible rfl)
          · exact fun _ _ _ h => h
          simp only [Act.put, List.setIfInBounds_toArray, List.set]
          refine wpAnyH_yields (i := 3) (oi := ?_) (v := ?_) ?_ (by kernel_rfl) (by kernel_rfl) (by kernel_rfl) (by assumption) ?_ ?_ ?_ ?_
          rotate_left 2
          · (simp only [List.getElem?_toArray, List.getElem?_cons_succ, List.getElem?_cons_zero] <;> exact rfl)
          · rfl
          · (intro w' hSw; obtain ⟨g0, g1, g2, g3, g4, g5, g6, g7⟩ := hSw; go_simp <;> with_reducible rfl)
          · exact fun _ _ _ h => h
          simp only [Act.put, List.setIfInBounds_toArray, List.set]
          refine wpAnyH_yields (i := 4) (oi := ?_) (v := ?_) ?_ (by kernel_rfl) (by kernel_rfl) (by kernel_rfl) (by assumption) ?_ ?_ ?_ ?_
          rotate_left 2
          · (simp only [List.getElem?_toArray, List.getElem?_cons_succ, List.getElem?_cons_zero] <;> exact rfl)
          · rfl
          · (intro w' hSw; obtain ⟨g0, g1, g2, g3, g4, g5, g6, g7⟩ := hSw; go_simp <;> with_reducible rfl)
          · exact fun _ _ _ h => h
          simp only [Act.put, List.setIfInBounds_toArray, List.set]
          refine wpAnyH_yields (i := 5) (oi := ?_) (v := ?_) ?_ (by kernel_rfl) (by kernel_rfl) (by kernel_rfl) (by assumption) ?_ ?_ ?_ ?_
          rotate_left 2
          · (simp only [List.getElem?_toArray, List.getElem?_cons_succ, List.getElem?_cons_zero] <;> exact rfl)
          · rfl
          · (intro w' hSw; obtain ⟨g0, g1, g2, g3, g4, g5, g6, g7⟩ := hSw; go_simp <;> with_reducible rfl)
          · exact fun _ _ _ h => h
          simp only [Act.put, List.setIfInBounds_toArray, List.set]
          refine wpAnyH_yields (i := 6) (oi := ?_) (v := ?_) ?_ (by kernel_rfl) (by kernel_rfl) (by kernel_rfl) (by assumption) ?_ ?_ ?_ ?_
          rotate_left 2
          · (simp only [List.getElem?_toArray, List.getElem?_cons_succ, List.getElem?_cons_zero] <;> exact rfl)
          · rfl
          · (intro w' hSw; obtain ⟨g0, g1, g2, g3, g4, g5, g6, g7⟩ := hSw; go_simp <;> with_reducible rfl)
          · exact fun _ _ _ h => h
          simp only [Act.put, List.setIfInBounds_toArray, List.set]
          refine wpAnyH_yields (i := 7) (oi := ?_) (v := ?_) ?_ (by kernel_rfl) (by kernel_rfl) (by kernel_rfl) (by assumption) ?_ ?_ ?_ ?_
          rotate_left 2
          · (simp only [List.getElem?_toArray, List.getElem?_cons_succ, List.getElem?_cons_zero] <;> exact rfl)
          · rfl
          · (intro w' hSw; obtain ⟨g0, g1, g2, g3, g4, g5, g6, g7⟩ := hSw; go_simp <;> with_reducible rfl)
          · exact fun _ _ _ h => h
          simp only [Act.put, List.setIfInBounds_toArray, List.set]
          refine wpAnyH_yields (i := 8) (oi := ?_) (v := ?_) ?_ (by kernel_rfl) (by kernel_rfl) (by kernel_rfl) (by assumption) ?_ ?_ ?_ ?_
          rotate_left 2
          · (simp only [List.getElem?_toArray, List.getElem?_cons_succ, List.getElem?_cons_zero] <;> exact rfl)
          · rfl
          · (intro w' hSw; obtain ⟨g0, g1, g2, g3, g4, g5, g6, g7⟩ := hSw; go_simp <;> with_reducible rfl)
          · exact fun _ _ _ h => h
          simp only [Act.put, List.setIfInBounds_toArray, List.set]
          refine wpAnyH_yields (i := 9) (oi := ?_) (v := ?_) ?_ (by kernel_rfl) (by kernel_rfl) (by kernel_rfl) (by assumption) ?_ ?_ ?_ ?_
          rotate_left 2
          · (simp only [List.getElem?_toArray, List.getElem?_cons_succ, List.getElem?_cons_zero] <;> exact rfl)
          · rfl
          · (intro w' hSw; obtain ⟨g0, g1, g2, g3, g4, g5, g6, g7⟩ := hSw; go_simp <;> with_reducible rfl)
          · exact fun _ _ _ h => h
          simp only [Act.put, List.setIfInBounds_toArray, List.set]
          refine wpAnyH_yields (i := 10) (oi := ?_) (v := ?_) ?_ (by kernel_rfl) (by kernel_rfl) (by kernel_rfl) (by assumption) ?_ ?_ ?_ ?_
          rotate_left 2
          · (simp only [List.getElem?_toArray, List.getElem?_cons_succ, List.getElem?_cons_zero] <;> exact rfl)
          · rfl
          · (intro w' hSw; obtain ⟨g0, g1, g2, g3, g4, g5, g6, g7⟩ := hSw; go_simp <;> with_reducible rfl)
          · exact fun _ _ _ h => h
          simp only [Act.put, List.setIfInBounds_toArray, List.set]
          refine wpAnyH_yields (i := 11) (oi := ?_) (v := ?_) ?_ (by kernel_rfl) (by kernel_rfl) (by kernel_rfl) (by assumption) ?_ ?_ ?_ ?_
          rotate_left 2
          · (simp only [List.getElem?_toArray, List.getElem?_cons_succ, List.getElem?_cons_zero] <;> exact rfl)
          · rfl
          · (intro w' hSw; obtain ⟨g0, g1, g2, g3, g4, g5, g6, g7⟩ := hSw; go_simp <;> with_reducible rfl)
          · exact fun _ _ _ h => h
          simp only [Act.put, List.setIfInBounds_toArray, List.set]
          refine wpAnyH_yields (i := 12) (oi := ?_) (v := ?_) ?_ (by kernel_rfl) (by kernel_rfl) (by kernel_rfl) (by assumption) ?_ ?_ ?_ ?_
          rotate_left 2
          · (simp only [List.getElem?_toArray, List.getElem?_cons_succ, List.getElem?_cons_zero] <;> exact rfl)
          · rfl
          · (intro w' hSw; obtain ⟨g0, g1, g2, g3, g4, g5, g6, g7⟩ := hSw; go_simp <;> with_reducible rfl)
          · exact fun _ _ _ h => h
          simp only [Act.put, List.setIfInBounds_toArray, List.set]
          refine wpAnyH_yields (i := 13) (oi := ?_) (v := ?_) ?_ (by kernel_rfl) (by kernel_rfl) (by kernel_rfl) (by assumption) ?_ ?_ ?_ ?_
          rotate_left 2
          · (simp only [List.getElem?_toArray, List.getElem?_cons_succ, List.getElem?_cons_zero] <;> exact rfl)
          · rfl
          · (intro w' hSw; obtain ⟨g0, g1, g2, g3, g4, g5, g6, g7⟩ := hSw; go_simp <;> with_reducible rfl)
          · exact fun _ _ _ h => h
          simp only [Act.put, List.setIfInBounds_toArray, List.set]
          refine wpAnyH_yields (i := 14) (oi := ?_) (v := ?_) ?_ (by kernel_rfl) (by kernel_rfl) (by kernel_rfl) (by assumption) ?_ ?_ ?_ ?_
          rotate_left 2
          · (simp only [List.getElem?_toArray, List.getElem?_cons_succ, List.getElem?_cons_zero] <;> exact rfl)
          · rfl
          · (intro w' hSw; obtain ⟨g0, g1, g2, g3, g4, g5, g6, g7⟩ := hSw; go_simp <;> with_reducible rfl)
          · exact fun _ _ _ h => h
          simp only [Act.put, List.setIfInBounds_toArray, List.set]
          refine wpAnyH_yields (i := 17) (oi := ?_) (v := ?_) ?_ (by kernel_rfl) (by kernel_rfl) (by kernel_rfl) (by assumption) ?_ ?_ ?_ ?_
          rotate_left 2
          · (simp only [List.getElem?_toArray, List.getElem?_cons_succ, List.getElem?_cons_zero] <;> exact rfl)
          · rfl
          · (intro w' hSw; obtain ⟨g0, g1, g2, g3, g4, g5, g6, g7⟩ := hSw; go_simp <;> with_reducible rfl)
          · exact fun _ _ _ h => h
          simp only [Act.put, List.setIfInBounds_toArray, List.set]
          refine wpAnyH_yields (i := 18) (oi := ?_) (v := ?_) ?_ (by kernel_rfl) (by kernel_rfl) (by kernel_rfl) (by assumption) ?_ ?_ ?_ ?_
          rotate_left 2
          · (simp only [List.getElem?_toArray, List.getElem?_cons_succ, List.getElem?_cons_zero] <;> exact rfl)
          · rfl
          · (intro w' hSw; obtain ⟨g0, g1, g2, g3, g4, g5, g6, g7⟩ := hSw; go_simp <;> with_reducible rfl)
          · exact fun _ _ _ h => h
          simp only [Act.put, List.setIfInBounds_toArray, List.set]
          refine wpAnyH_ready (rs := [15]) (by kernel_rfl) (by simp) (AllReadyH.cons (o := ?_) ?_ (fun K hK => ?_) AllReadyH.nil)
          rotate_left 1
          · (simp only [List.getElem?_toArray, List.getElem?_cons_succ, List.getElem?_cons_zero] <;> exact rfl)
          go_simp
          go_at_call 11
          refine hr1.mono ?_
          rintro r wz ⟨Az, dz, rfl, _, hv, hbz⟩
          have cvA := run_str hv.reads HRb.out
          have HVA := hide hv.reads
          have HBz := hide (HBd.out.trans (hbz.mono HBd.out.size))
          have HHz := hide (HHd.out.past hbz)
          have hrB := rest_ok HHz.out.h2 HW2.out HN2.out key HK.out
          have z0 := cell_later hbz a0
          have z1 := cell_later hbz a1
          have z2 := cell_later hbz a2
          have z3 := cell_later hbz a3
          have z4 := cell_later hbz a4
          have z5 := cell_later hbz a5
          have z6 := cell_later hbz a6
          have z7 := cell_later hbz a7
          clear hv hbz hr1 hr2 a0 a1 a2 a3 a4 a5 a6 a7 hHeld
          refine hK.out _ _ (⟨z0, z1, z2, z3, z4, z5, z6, z7⟩) (fun hHeld => ?_)
          clear hK K
          try simp only [List.setIfInBounds_toArray, List.set_cons_zero, List.set_cons_succ]
          refine wpAnyH_more (S' := (fun w' => (w'.cell? ⟨q1, 0, none⟩ = some (.int .i64 P.bs.length) ∧ w'.cell? ⟨q1, 1, none⟩ = some (.int .i64 P.rd) ∧ w'.cell? ⟨q1, 2, none⟩ = some (.bool P.cl) ∧ w'.cell? ⟨q1, 3, none⟩ = some (.bool P.en) ∧ w'.cell? ⟨q2, 0, none⟩ = some (.int .i64 P.bs.length) ∧ w'.cell? ⟨q2, 1, none⟩ = some (.int .i64 P.rd) ∧ w'.cell? ⟨q2, 2, none⟩ = some (.bool P.cl) ∧ w'.cell? ⟨q2, 3, none⟩ = some (.bool P.en)) ∧ (convert 26 9 (.slice Az (restR R2 key).length dz)).run Tryd.prog w' = .ok (.string ⟨(Lib.bytesOf (restR R2 key)).toArray⟩) w')) (fun w h => h.1) _ _ _ _ ?_
          have hHeld := And.intro hHeld cvA
          refine wpAnyH_yields (i := 16) (oi := ?_) (v := ?_) ?_ (by kernel_rfl) (by kernel_rfl) (by kernel_rfl) (by assumption) ?_ ?_ ?_ ?_
          rotate_left 2
          · (simp only [List.getElem?_toArray, List.getElem?_cons_succ, List.getElem?_cons_zero] <;> exact rfl)
          · rfl
          · (intro w' hSw; obtain ⟨⟨g0, g1, g2, g3, g4, g5, g6, g7⟩, g8⟩ := hSw; go_simp <;> with_reducible rfl)
          · exact fun _ _ _ h => h
          simp only [Act.put, List.setIfInBounds_toArray, List.set]
          refine wpAnyH_ready (rs := [19]) (by kernel_rfl) (by simp) (AllReadyH.cons (o := ?_) ?_ (fun K hK => ?_) AllReadyH.nil)
          rotate_left 1
          · (simp only [List.getElem?_toArray, List.getElem?_cons_succ, List.getElem?_cons_zero] <;> exact rfl)
          go_simp
          go_at_call 11
          refine hrB.mono ?_
          rintro r wy ⟨Ay, dy, rfl, _, hv, hby⟩
          have cvB := run_str hv.reads HRb.out
          have cvA2 := run_str (Reads.past HVA.out hby) HRb.out
          have HBy := hide (HBz.out.trans (hby.mono HBz.out.size))
          have HHy := hide (HHz.out.past hby)
          have y0 := cell_later hby z0
          have y1 := cell_later hby z1
          have y2 := cell_later hby z2
          have y3 := cell_later hby z3
          have y4 := cell_later hby z4
          have y5 := cell_later hby z5
          have y6 := cell_later hby z6
          have y7 := cell_later hby z7
          clear hv hby hrB z0 z1 z2 z3 z4 z5 z6 z7 cvA hHeld
          refine hK.out _ _ (⟨⟨y0, y1, y2, y3, y4, y5, y6, y7⟩, cvA2⟩) (fun hHeld => ?_)
          clear hK K
          try simp only [List.setIfInBounds_toArray, List.set_cons_zero, List.set_cons_succ]
          refine wpAnyH_ready (rs := [20]) (by kernel_rfl) (by simp) (AllReadyH.cons (o := ?_) ?_ (fun K hK => ?_) AllReadyH.nil)
          rotate_left 1
          · (simp only [List.getElem?_toArray, List.getElem?_cons_succ, List.getElem?_cons_zero] <;> exact rfl)
          go_simp
          refine hK.out _ _ (⟨⟨y0, y1, y2, y3, y4, y5, y6, y7⟩, cvA2⟩) (fun hHeld => ?_)
          clear hK K
          try simp only [List.setIfInBounds_toArray, List.set_cons_zero, List.set_cons_succ]
          refine wpAnyH_yields (i := 21) (oi := ?_) (v := ?_) ?_ (by kernel_rfl) (by kernel_rfl) (by kernel_rfl) (by assumption) ?_ ?_ ?_ ?_
          rotate_left 2
          · (simp only [List.getElem?_toArray, List.getElem?_cons_succ, List.getElem?_cons_zero] <;> exact rfl)
          · rfl
          · (intro w' hSw; obtain ⟨⟨g0, g1, g2, g3, g4, g5, g6, g7⟩, g8⟩ := hSw; go_simp <;> with_reducible rfl)
          · exact fun _ _ _ h => h
          simp only [Act.put, List.setIfInBounds_toArray, List.set]
          refine wpAnyH_yields (i := 22) (oi := ?_) (v := ?_) ?_ (by kernel_rfl) (by kernel_rfl) (by kernel_rfl) (by assumption) ?_ ?_ ?_ ?_
          rotate_left 2
          · (simp only [List.getElem?_toArray, List.getElem?_cons_succ, List.getElem?_cons_zero] <;> exact rfl)
          · rfl
          · (intro w' hSw; obtain ⟨⟨g0, g1, g2, g3, g4, g5, g6, g7⟩, g8⟩ := hSw; go_simp <;> with_reducible rfl)
          · exact fun _ _ _ h => h
          simp only [Act.put, List.setIfInBounds_toArray, List.set]
          refine wpAnyH_done (by kernel_rfl) ?_ _
          go_wp2
          go_meet
          case rel => exact ⟨rfl, hide ⟨HHy.out, HBy.out⟩⟩
        case rest => as_aux_lemma =>
          obtain ⟨rfl, hx⟩ := hcut
          have HR : Hid (Rel w wc c1 c2 key (i + 1) (rem ops (i + 1))) := hide ⟨D1, D2, R1, R2, N, hx.out.1, HSm.out, HW1.out, HW2.out, HRem.out, hx.out.2⟩
          have hnn := HN.out
          clear hx
          go_wp2
          go_round
          case rel => exact ⟨i + 1, by omega, by go_num, HR⟩
          case measure => simp [intOf]; omega
    · obtain rfl : i = ns := by omega
      obtain ⟨D1, D2, R1, R2, N, hh, hsm, hw1, hw2, hrem, hbel⟩ := HR.out
      have HL1 : Hid (R1.length ≤ 1048576) := hide (by have := hw1.len; have := HN.out; omega)
      have hone := hsm.one hw2.srt
      have HP : Hid ((R1.map Rw.k).Pairwise (fun x y => x < y)) := hide (by rw [List.pairwise_map]; exact hw1.srt)
      have hk1 := hist_keys hh.h1 (by have := HL1.out; omega)
      have HK2 : ∀ wx, Below wr.heap.size wr wx → Hid (Calls Tryd.prog 17 #[ptr c2] wx (Rise wx (R2.map Rw.k))) := fun wx hb => hide (hist_keys (hh.past hb).h2 (by omega))
      have hlen : (R1.map Rw.k).length ≤ 1048576 := by rw [List.length_map]; exact HL1.out
      obtain ⟨L, hL⟩ : ∃ L, R1.map Rw.k = L := ⟨_, rfl⟩
      have h2 : (R2.map Rw.k).length ≤ 1 := by rw [List.length_map]; exact hone
      obtain ⟨L2, hL2⟩ : ∃ L2, R2.map Rw.k = L2 := ⟨_, rfl⟩
      rw [hL] at HP hk1 hlen
      rw [hL2] at HK2 h2
      have HB := hide hbel
      have h2' : (L2.length : Int) ≤ 1 := by omega
      clear hh hsm hw1 hw2 hrem hbel HR hL hL2 hone HL1 h2
      go_wp2_with fail
      refine hk1.mono ?_
      clear hk1
      rintro e w8 ⟨A, cc, rfl, hr, hb⟩
      have HRow := hide hr
      have HB8 := hide hb
      clear hr hb
      go_wp2
      go_loopw [159] (fun s wz => ∃ j : Nat, j ≤ L.length ∧ s = .int .i64 j ∧ Hid (Below w8.heap.size w8 wz)) (fun s _ => L.length - (intOf s).toNat)
      case atStart => exact ⟨0, Nat.zero_le _, rfl, hide (Below.refl _ _)⟩
      case round =>
        obtain ⟨j, hj, rfl, HZ⟩ := hrel
        by_cases hjl : j < L.length
        · obtain ⟨b, of, c', he, _, _, hF, hbl, hcell, _⟩ := (HRow.out.kept (Mod.ofBelow HZ.out (fun _ => False)) (fun _ _ _ h => h)).open (by omega)
          injection he with he1 _ he3
          subst he1 he3
          go_upto_region 30 with fail
          rcases Nat.eq_zero_or_pos j with rfl | hpos
          · go_quiet (fail)
            go_wp2
            go_round
            case rel => exact ⟨1, by omega, by go_num, hide (dn_below HZ.out _)⟩
            case measure => simp [intOf]; omega
          · obtain ⟨j', rfl⟩ : ∃ j', j = j' + 1 := ⟨j - 1, by omega⟩
            have q1 : wr.cell? ⟨b, of + j', none⟩ = some (.int .i64 L[j']) := hcell j' _ (by simp [ks])
            have q2 : wr.cell? ⟨b, of + (j' + 1), none⟩ = some (.int .i64 L[j' + 1]) := hcell (j' + 1) _ (by simp [ks])
            have hq : ¬ L[j' + 1] ≤ L[j'] := by
              have := List.pairwise_iff_getElem.1 HP.out j' (j' + 1) (by omega) hjl (by omega)
              omega
            have hp : decide ((0 : Int) < ((j' + 1 : Nat) : Int)) = true := decide_eq_true (by omega)
            go_quiet (fail)
            go_wp2
            go_round
            case rel => exact ⟨j' + 1 + 1, by omega, by go_num, hide (dn_below HZ.out _)⟩
            case measure => simp [intOf]; omega
        · obtain rfl : j = L.length := by omega
          have HBz := hide (HB8.out.trans (HZ.out.mono HB8.out.size))
          go_wp2_with fail
          refine (HK2 _ HBz.out).out.mono ?_
          rintro e w9 ⟨A2, cc2, rfl, _, hb9⟩
          have HB9 := hide (HB.out.trans ((HBz.out.trans (hb9.mono HBz.out.size)).mono HB.out.size))
          clear hb9 HK2
          go_wp2
          go_ret
          exact ⟨rfl, HB9.out⟩

end traceKeys
end Go.Proofs.YtipfjnjjfojdgaaDoor
