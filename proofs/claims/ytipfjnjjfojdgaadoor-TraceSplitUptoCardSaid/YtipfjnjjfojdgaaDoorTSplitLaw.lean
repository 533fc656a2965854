import Derived.Test.YtipfjnjjfojdgaaDoorTMid
import Derived.Deep.DeepCutAuto
import Derived.Deep.CutBlock
import Derived.Deep.QuietTactic
/- TraceSplit. Printed by gen_ts.py. -/
namespace Go.Proofs.YtipfjnjjfojdgaaDoor
open Go Go.RowKit Go.Cu Go.Proofs.YtipfjnjjfojdgaaDoor.errs
namespace traceSplit

/-- between two rounds -/
def Rel (w0 w : World) (c1 c2 : Nat) (i rem : Nat) : Prop :=
  ∃ D1 D2 R N, H2 w0.heap.size w c1 c2 D1 D2 R R ∧ Wl R N i ∧ N + rem ≤ 1048576 ∧ Below w0.heap.size w0 w
theorem Rel.below {w0 w : World} {c1 c2 : Nat} {i rem : Nat} (h : Rel w0 w c1 c2 i rem) : Below w0.heap.size w0 w := by
  obtain ⟨_, _, _, _, _, _, _, h⟩ := h
  exact h
/-- one byte of a list -/
theorem cut_one {w : World} {A : Option Addr} {n c : Nat} {L : List Int} (hr : Reads w 1 (.slice A n c) n (u8s L)) (hnc : n ≤ c) {k : Nat} {x : Int} (hx : L[k]? = some x) :
    ∃ B d, (∀ w, (Instr.sliceAt 26 (.slice A n c) (some (.int .i64 (k : Int))) (some (.int .i64 ((k : Int) + 1))) none).run Tryd.prog w = .ok (.slice B 1 d) w) ∧ Reads w 1 (.slice B 1 d) 1 (u8s [x]) := by
  have hlen : L.length = n := by have := hr.1; rw [u8s_length] at this; omega
  have hk : k < n := by rw [← hlen]; exact (List.getElem?_eq_some_iff.1 hx).1
  have h := hr.cut hnc (lo := k) (hi := k + 1) (by omega) (by omega)
  have e1 : k + 1 - k = 1 := by omega
  rw [e1] at h
  have e2 : ((u8s L).drop (k * 1)).take (1 * 1) = u8s [x] := by
    rw [Nat.mul_one, Nat.mul_one, u8s_drop, u8s_take]
    have hkl : k < L.length := by omega
    rw [List.drop_eq_getElem_cons hkl]
    have h4 := List.getElem?_eq_getElem hkl
    rw [h4] at hx
    rw [Option.some.inj hx]
    rfl
  rw [e2] at h
  unfold cutV at h
  rw [e1] at h
  refine ⟨_, _, fun w => ?_, h⟩
  have h3 := run_sliceAt_both (P := Tryd.prog) w 26 5 1 Tryd.underlying26 size_byte A n c .i64 .i64 k (k + 1) (by omega) (by omega)
  rw [e1] at h3
  exact h3
theorem hvcap {w : World} {F : Nat → Prop} {A : Option Addr} {n c : Nat} {xs : List Value} (h : Row w F 5 1 (.slice A n c) n xs) : n ≤ c := row_cap h
theorem reads_nil (w : World) : Reads w 1 (.slice none 0 0) 0 (u8s []) := ⟨rfl, none, 0, rfl, Nat.zero_le _, .inl rfl⟩
set_option maxRecDepth 100000 in
set_option maxHeartbeats 8000000 in
theorem walk (w : World) (adr : Nat → Addr) (hS : Sent w adr) (hT : Tab w) (key : Int) (hk : wfi key) (sv : Value) (ns : Nat) (ops : List OpD) (hO : Ops w sv ns ops) :
    Calls Tryd.prog 7 #[.int .i64 key, sv] w fun e w' => e = .returned (.bool true) ∧ Below w.heap.size w w' := by
  have HS := hide hS
  have HT := hide hT
  have HK := hide hk
  have HO := hide hO
  obtain ⟨SA, sc, rfl⟩ := hO.reads.shape
  have HN : Hid (ns ≤ 1048576) := hide (by have := hO.sum; have := hO.length; omega)
  have HRem : Hid (rem ops 0 ≤ 1048576) := hide (by have := hO.sum; unfold rem; rw [List.drop_zero]; omega)
  clear hS hT hk hO
  go_enter Tryd.func7, Tryd.ntmps7
  go_wp2_with fail
  refine (fixed_any w adr HS.out HT.out).mono ?_
  rintro e w1 ⟨rfl, hb1⟩
  have HB1 := hide hb1
  clear hb1
  go_wp2_with fail
  refine (new_hist w1).mono ?_
  rintro e w2 ⟨c1, rfl, hh1, hb2⟩
  have HH1 := hide hh1
  have HB2 := hide hb2
  clear hh1 hb2
  go_wp2_with fail
  refine (new_hist w2).mono ?_
  rintro e w3 ⟨c2, rfl, hh2, hb3⟩
  have HR0 : Hid (Rel w w3 c1 c2 0 (rem ops 0)) := hide ⟨_, _, [], 0, ⟨HH1.out.past hb3, hh2, fun k hk => ⟨Nat.le_trans HB1.out.size hk.1, Nat.lt_of_lt_of_le hk.2 hb3.size⟩, fun k hk => ⟨Nat.le_trans (Nat.le_trans HB1.out.size HB2.out.size) hk.1, hk.2⟩, fun k h1 h2 => by omega⟩, Wl.start, by have := HRem.out; omega, HB1.out.trans ((HB2.out.trans (hb3.mono HB2.out.size)).mono HB1.out.size)⟩
  clear hh2 hb3 HB1 HB2 HH1
  go_wp2
  go_loopw [22] (fun s wr => ∃ i : Nat, i ≤ ns ∧ s = .int .i64 i ∧ Hid (Rel w wr c1 c2 i (rem ops i))) (fun s _ => ns - (intOf s).toNat)
  case atStart => exact ⟨0, Nat.zero_le _, rfl, HR0⟩
  case round =>
    clear HR0
    obtain ⟨i, hi, rfl, HR⟩ := hrel
    by_cases hlt : i < ns
    · obtain ⟨D1, D2, R, N, hh, hw1, hrem, hbel⟩ := HR.out
      obtain ⟨o, ho⟩ : ∃ o, ops[i]? = some o := ⟨_, List.getElem?_eq_getElem (by have := HO.out.length; omega)⟩
      rw [rem_at ho] at hrem
      have HU := hide (flat_get opCell_length ho)
      have HScr := hide (HO.out.reads.kept (fun a v hc => (hbel.cell (World.block_lt_of_cell? w a hc)).trans hc))
      obtain ⟨w4, q, hw4, hq, hal, b0, b1, b2, b3, b4, hbx⟩ := op_box wr o
      have HO0 := hide (HO.out.each o (List.mem_of_getElem? ho))
      have HD : Hid (∀ k, D1 k ∨ D2 k → k ≠ q ∧ k < w4.heap.size) := hide (fun k hk => by
        have := hal.size
        rcases hk with hk | hk
        · have := (hh.d1 k hk).2; omega
        · have := (hh.d2 k hk).2; omega)
      have HOl : Hid (o.len + N + rem ops (i + 1) ≤ 1048576) := hide (by omega)
      have HW := hide hw1
      have HB4 := hide (hbel.trans ((hal.drew).mono hbel.size))
      have HH4 := hide (hh.past hal.drew)
      have HRl : Hid ((restR R key).length ≤ 1048576) := hide (by have := hw1.rest_len key; omega)
      have HQw : Hid (q < w4.heap.size ∧ w.heap.size ≤ q) := hide ⟨World.block_lt_of_cell? _ _ b0, by rw [hq]; exact hbel.size⟩
      have hrest := rest_ok HH4.out.h1 hw1 (by omega) key HK.out
      have HX := hide (And.intro b0 (And.intro b1 (And.intro b2 (And.intro b3 b4))))
      clear hh hw1 hrem hbel hal hbx HR ho b0 b1 b2 b3 b4
      go_upto_region 7 with (first
        | ((with_reducible refine at_index rfl ?_); refine wpList_atS rfl rfl _ _ 22 28 _ rfl rfl rfl (by simp) Tryd.underlying22 (by decide) size_op agg_op rfl HScr.out rfl (by omega) (by omega) (us := [.int .i64 o.kind, .int .i64 o.key, .int .i64 o.n, .bool o.next, .slice o.A o.len o.c]) rfl HU.out ?_; intro p)
        | fail)
      rw [← hw4, ← hq]
      clear hw4 hq
      obtain ⟨b0, b1, b2, b3, b4⟩ : w4.drew.cell? ⟨q, 0, none⟩ = some (.int .i64 o.kind) ∧ w4.drew.cell? ⟨q, 1, none⟩ = some (.int .i64 o.key) ∧ w4.drew.cell? ⟨q, 2, none⟩ = some (.int .i64 o.n) ∧ w4.drew.cell? ⟨q, 3, none⟩ = some (.bool o.next) ∧ w4.drew.cell? ⟨q, 4, none⟩ = some (.slice o.A o.len o.c) := HX.out
      have hHeld := And.intro b0 (And.intro b1 (And.intro b2 (And.intro b3 b4)))
      refine wp_region_held_n (n := 6) (l := #[false, false, false, false, false, false]) (S := (fun w' => w'.cell? ⟨q, 0, none⟩ = some (.int .i64 o.kind) ∧ w'.cell? ⟨q, 1, none⟩ = some (.int .i64 o.key) ∧ w'.cell? ⟨q, 2, none⟩ = some (.int .i64 o.n) ∧ w'.cell? ⟨q, 3, none⟩ = some (.bool o.next) ∧ w'.cell? ⟨q, 4, none⟩ = some (.slice o.A o.len o.c))) rfl rfl (by kernel_rfl) ⟨b0, b1, b2, b3, b4⟩ ?_
      refine wpAnyH_yields (i := 0) (oi := ?_) (v := ?_) ?_ (by kernel_rfl) (by kernel_rfl) (by kernel_rfl) (by assumption) ?_ ?_ ?_ ?_
      rotate_left 2
      · (simp only [List.getElem?_toArray, List.getElem?_cons_zero] <;> exact rfl)
      · rfl
      · (intro w' hSw; obtain ⟨g0, g1, g2, g3, g4⟩ := hSw; go_simp <;> with_reducible rfl)
      · exact fun _ _ _ h => h
      simp only [Act.put, List.setIfInBounds_toArray, List.set]
      refine wpAnyH_yields (i := 1) (oi := ?_) (v := ?_) ?_ (by kernel_rfl) (by kernel_rfl) (by kernel_rfl) (by assumption) ?_ ?_ ?_ ?_
      rotate_left 2
      · (simp only [List.getElem?_toArray, List.getElem?_cons_succ, List.getElem?_cons_zero] <;> exact rfl)
      · rfl
      · (intro w' hSw; obtain ⟨g0, g1, g2, g3, g4⟩ := hSw; go_simp <;> with_reducible rfl)
      · exact fun _ _ _ h => h
      simp only [Act.put, List.setIfInBounds_toArray, List.set]
      refine wpAnyH_yields (i := 2) (oi := ?_) (v := ?_) ?_ (by kernel_rfl) (by kernel_rfl) (by kernel_rfl) (by assumption) ?_ ?_ ?_ ?_
      rotate_left 2
      · (simp only [List.getElem?_toArray, List.getElem?_cons_succ, List.getElem?_cons_zero] <;> exact rfl)
      · rfl
      · (intro w' hSw; obtain ⟨g0, g1, g2, g3, g4⟩ := hSw; go_simp <;> with_reducible rfl)
      · exact fun _ _ _ h => h
      simp only [Act.put, List.setIfInBounds_toArray, List.set]
      refine wpAnyH_ready (rs := [3]) (by kernel_rfl) (by simp) (AllReadyH.cons (o := ?_) ?_ (fun K hK => ?_) AllReadyH.nil)
      rotate_left 1
      · (simp only [List.getElem?_toArray, List.getElem?_cons_succ, List.getElem?_cons_zero] <;> exact rfl)
      go_simp
      go_at_call 11
      refine hrest.mono ?_
      rintro r wz ⟨Az, dz, rfl, hncz, hv, hbz⟩
      have hbytes := gives_ok (HO0.out.past (HB4.out.trans (hbz.mono HB4.out.size))) (by have := HOl.out; omega) hv.reads hncz (by have := HRl.out; omega)
      have HBz := hide (HB4.out.trans (hbz.mono HB4.out.size))
      have HHz := hide (HH4.out.past hbz)
      have hsz : w4.heap.size ≤ wz.heap.size := hbz.size
      have z0 := cell_later hbz b0
      have z1 := cell_later hbz b1
      have z2 := cell_later hbz b2
      have z3 := cell_later hbz b3
      have z4 := cell_later hbz b4
      clear hv hncz hbz hrest b0 b1 b2 b3 b4 hHeld
      refine hK.out _ _ (⟨z0, z1, z2, z3, z4⟩) (fun hHeld => ?_)
      clear hK K
      try simp only [List.setIfInBounds_toArray, List.set_cons_zero, List.set_cons_succ]
      refine wpAnyH_ready (rs := [4]) (by kernel_rfl) (by simp) (AllReadyH.cons (o := ?_) ?_ (fun K hK => ?_) AllReadyH.nil)
      rotate_left 1
      · (simp only [List.getElem?_toArray, List.getElem?_cons_succ, List.getElem?_cons_zero] <;> exact rfl)
      go_simp
      go_at_call 10
      refine hbytes.mono ?_
      rintro r wy ⟨A3, d3, rfl, hv, hby⟩
      have HVR := hide hv
      have HBy := hide (HBz.out.trans (hby.mono HBz.out.size))
      have HHy := hide (HHz.out.past hby)
      have HBs := hide hby.size
      have HSz : Hid (w4.heap.size ≤ wz.heap.size) := hide (by assumption)
      have y0 := cell_later hby z0
      have y1 := cell_later hby z1
      have y2 := cell_later hby z2
      have y3 := cell_later hby z3
      have y4 := cell_later hby z4
      clear hsz hv hby hbytes z0 z1 z2 z3 z4 hHeld
      refine hK.out _ _ (⟨y0, y1, y2, y3, y4⟩) (fun hHeld => ?_)
      clear hK K
      try simp only [List.setIfInBounds_toArray, List.set_cons_zero, List.set_cons_succ]
      refine wpAnyH_yields (i := 5) (oi := ?_) (v := ?_) ?_ (by kernel_rfl) (by kernel_rfl) (by kernel_rfl) (by assumption) ?_ ?_ ?_ ?_
      rotate_left 2
      · (simp only [List.getElem?_toArray, List.getElem?_cons_succ, List.getElem?_cons_zero] <;> exact rfl)
      · rfl
      · (intro w' hSw; obtain ⟨g0, g1, g2, g3, g4⟩ := hSw; go_simp <;> with_reducible rfl)
      · exact fun _ _ _ h => h
      simp only [Act.put, List.setIfInBounds_toArray, List.set]
      refine wpAnyH_done (by kernel_rfl) ?_ _
      clear hHeld
      have HL : Hid (∀ x ∈ givesL o (restR R key), 0 ≤ x ∧ x ≤ 255) := hide (gives_byte HO0.out.byte (HW.out.rest_byte key))
      have HLl : Hid ((givesL o (restR R key)).length ≤ 1048576) := hide (gives_len (by have := HO0.out.len; have := HOl.out; omega) HRl.out)
      obtain ⟨L, hL⟩ : ∃ L, L = givesL o (restR R key) := ⟨_, rfl⟩
      rw [← hL] at HVR HL HLl ⊢
      obtain ⟨wb, hwb⟩ : ∃ wb, wy = wb := ⟨_, rfl⟩
      rw [hwb] at HVR HBy HHy HBs y0 y1 y2 y3 y4
      rw [hwb]
      have hncb := (hvcap HVR.out)
      have HCap := hide hncb
      clear hwb hL hncb
      go_upto_block 2 with fail
      go_cut [9] (fun _ wc => Hid (∃ D1 D2 R N, H2 w.heap.size wc c1 c2 D1 D2 R R ∧ Wl R N (i + 1) ∧ N + rem ops (i + 1) ≤ 1048576 ∧ Below w.heap.size w wc))
      case first => as_aux_lemma =>
        have HE : Hid (R.length ≤ 1048576) := hide (by have := HW.out.len; have := HN.out; omega)
        have HSy := hide (HS.out.below HBy.out)
        have HOy := hide (HO0.out.past HBy.out)
        have HVb : Hid (Row wb (fun k => wz.heap.size ≤ k ∧ k < wb.heap.size) 5 1 (.slice A3 L.length d3) L.length (u8s L)) := hide (HVR.out.mono (fun k hk hl => ⟨hk.1, hl⟩))
        have HLow : Hid (w4.heap.size ≤ wb.heap.size) := hide (Nat.le_trans HSz.out HBs.out)
        clear HX HU HScr HVR
        by_cases hk0 : o.kind = 0
        · have hd0 : (o.kind == 0) = true := beq_iff_eq.2 hk0
          clear hk0
          have hob : o.len ≤ 1048576 := by have := HOl.out; omega
          by_cases hcl : (pastR R key).cl = false
          · have HCl := hide hcl
            clear hcl
            go_wp2_with fail
            refine (wrote_act wb HSy.out HHy.out.h1 key HK.out (by have := HE.out; omega) o.A o.len o.c o.bs HOy.out.reads HOy.out.byte (by have := HW.out.pbig key; have := HOl.out; omega)).mono ?_
            rintro e w5 ⟨ht, htn⟩
            obtain rfl := ht.yes HCl.out
            have x4 := htn.2.cell y4 (fun h => (HD.out q (.inl h)).1 rfl)
            have HB5 := hide (HBy.out.trans (HHy.out.low1 HBy.out.size htn))
            have HZ5 : Hid (wb.heap.size ≤ w5.heap.size) := hide htn.2.size
            obtain ⟨D3, hh5⟩ := HHy.out.turn1 HBy.out.size htn
            have HG0 : Hid (∃ D2k Rk, H2 w.heap.size w5 c1 c2 D3 D2k (wroteR R key o.bs) Rk ∧ Mid key R { pastR R key with bs := (pastR R key).bs ++ o.bs.take 0 } Rk ∧ (∀ j, D2k j → D2 j ∨ wb.heap.size ≤ j) ∧ w5.cell? ⟨q, 4, none⟩ = some (.slice o.A o.len o.c) ∧ Below w.heap.size w w5 ∧ wb.heap.size ≤ w5.heap.size) := hide ⟨D2, R, hh5, by simpa using Mid.start key R, fun j hj => .inl hj, x4, HB5.out, HZ5.out⟩
            clear hh5 htn x4 ht y0 y1 y2 y3
            obtain ⟨_, _, _, _, _, x4, _⟩ := HG0.out
            clear y4
            go_wp2
            clear x4
            go_loopw [53] (fun s wr => ∃ k : Nat, k ≤ o.len ∧ s = .int .i64 k ∧ Hid (∃ D2k Rk, H2 w.heap.size wr c1 c2 D3 D2k (wroteR R key o.bs) Rk ∧ Mid key R { pastR R key with bs := (pastR R key).bs ++ o.bs.take k } Rk ∧ (∀ j, D2k j → D2 j ∨ wb.heap.size ≤ j) ∧ wr.cell? ⟨q, 4, none⟩ = some (.slice o.A o.len o.c) ∧ Below w.heap.size w wr ∧ wb.heap.size ≤ wr.heap.size)) (fun s _ => o.len - (intOf s).toNat)
            case atStart => exact ⟨0, Nat.zero_le _, rfl, HG0⟩
            case round =>
              clear HG0
              obtain ⟨k, hkk, rfl, HG⟩ := hrel
              obtain ⟨D2k, Rk, hh6, hmid, hfar, x4, hbel6, hsz6⟩ := HG.out
              have HH6 := hide hh6
              have HMid := hide hmid
              have HFar := hide hfar
              have HB6 := hide hbel6
              have HZ6 := hide hsz6
              have HWk : Hid (Wl Rk (N + o.bs.length) (i + 1)) := hide (hmid.wl HW.out HK.out (by show ((pastR R key).bs ++ o.bs.take k).length ≤ _; rw [List.length_append, List.length_take]; have := HW.out.pbig key; omega) (Nat.le_add_right _ _) (by show (pastR R key).rd ≤ ((pastR R key).bs ++ o.bs.take k).length; rw [List.length_append]; have := HW.out.prd key; omega) (fun x hx => (List.mem_append.1 hx).elim (HW.out.pbyte key x) (fun h => HO0.out.byte x (List.mem_of_mem_take h))))
              clear hh6 hmid hfar hbel6 hsz6 HG
              by_cases hkl : k < o.len
              · obtain ⟨x, hx⟩ : ∃ x, o.bs[k]? = some x := ⟨_, List.getElem?_eq_getElem (by have := HO0.out.len; omega)⟩
                obtain ⟨Bk, dk, hs, hrk⟩ := cut_one (HO0.out.past HB6.out).reads HO0.out.cap hx
                have HRk := hide hrk
                have hxb := HO0.out.byte x (List.mem_of_getElem? hx)
                have HXb : Hid (∀ y ∈ [x], 0 ≤ y ∧ y ≤ 255) := hide (fun y hy => by rw [List.mem_singleton] at hy; rw [hy]; exact hxb)
                have HX2 := hide hx
                clear hrk hxb hx
                go_wp2_with fail
                refine (wrote_act wr (HS.out.below HB6.out) HH6.out.h2 key HK.out (by have := HWk.out.len; have := HN.out; omega) Bk 1 dk [x] HRk.out HXb.out (by have := HWk.out.pbig key; have := HOl.out; have := HO0.out.len; omega)).mono ?_
                rintro e w7 ⟨ht2, htn2⟩
                obtain rfl := ht2.yes (by rw [HMid.out.at HW.out.srt]; exact HCl.out)
                have HMid7 := hide (HMid.out.wrote HW.out.srt HCl.out HX2.out)
                have HB7 := hide (HB6.out.trans (HH6.out.low2 HB6.out.size htn2))
                have z4 := htn2.2.cell x4 (fun h => (HFar.out q h).elim (fun h => (HD.out q (.inr h)).1 rfl) (fun h => by have := HQw.out; have := HLow.out; omega))
                have hsz7 : wb.heap.size ≤ w7.heap.size := Nat.le_trans HZ6.out htn2.2.size
                obtain ⟨D7, hh7, hf7⟩ := HH6.out.turn2f HB6.out.size htn2
                have HG7 : Hid (∃ D2k Rk, H2 w.heap.size w7 c1 c2 D3 D2k (wroteR R key o.bs) Rk ∧ Mid key R { pastR R key with bs := (pastR R key).bs ++ o.bs.take (k + 1) } Rk ∧ (∀ j, D2k j → D2 j ∨ wb.heap.size ≤ j) ∧ w7.cell? ⟨q, 4, none⟩ = some (.slice o.A o.len o.c) ∧ Below w.heap.size w w7 ∧ wb.heap.size ≤ w7.heap.size) := hide ⟨_, _, hh7, HMid7.out, fun j hj => (hf7 j hj).elim (HFar.out j) (fun h => .inr (Nat.le_trans HZ6.out h)), z4, HB7.out, hsz7⟩
                clear hh7 hf7 htn2 ht2 z4 x4 hs hsz7
                go_wp2
                go_round
                case rel => exact ⟨k + 1, by omega, by go_num, HG7⟩
                case measure => simp [intOf]; omega
              · obtain rfl : k = o.len := by omega
                clear hkl
                go_wp2_with fail
                refine (wrote_act wr (HS.out.below HB6.out) HH6.out.h2 key HK.out (by have := HWk.out.len; have := HN.out; omega) none 0 0 [] (reads_nil _) (fun _ h => (by cases h)) (by have := HWk.out.pbig key; have := HOl.out; have := HO0.out.len; omega)).mono ?_
                rintro e w7 ⟨ht2, htn2⟩
                obtain rfl := ht2.yes (by rw [HMid.out.at HW.out.srt]; exact HCl.out)
                have hend : wroteR Rk key [] = wroteR R key o.bs := Mid.wrote_end (by have h := HMid.out; rw [List.take_of_length_le (by have := HO0.out.len; omega)] at h; exact h) HW.out.srt HCl.out
                have HB7 := hide (HB6.out.trans (HH6.out.low2 HB6.out.size htn2))
                obtain ⟨D7, hh7⟩ := HH6.out.turn2 HB6.out.size htn2
                rw [hend] at hh7
                have HH7 := hide hh7
                clear hh7 htn2 ht2 x4
                go_wp2
                go_meet
                case rel => exact hide ⟨_, _, _, N + o.bs.length, HH7.out, HW.out.wrote HK.out HO0.out.byte, by have := HOl.out; have := HO0.out.len; omega, HB7.out⟩
          · have HCl := hide hcl
            clear hcl
            go_wp2_with fail
            refine (wrote_act wb HSy.out HHy.out.h1 key HK.out (by have := HE.out; omega) o.A o.len o.c o.bs HOy.out.reads HOy.out.byte (by have := HW.out.pbig key; have := HOl.out; omega)).mono ?_
            rintro e w5 ⟨ht, htn⟩
            obtain rfl := ht.no HCl.out
            have HB5 := hide (HBy.out.trans (HHy.out.low1 HBy.out.size htn))
            obtain ⟨D3, hh5⟩ := HHy.out.turn1 HBy.out.size htn
            have hsame : wroteR R key o.bs = R := by unfold wroteR; rw [if_pos (by simpa using HCl.out)]
            rw [hsame] at hh5
            have HH5 := hide hh5
            clear hh5 htn ht hsame
            go_wp2
            go_meet
            case rel => exact hide ⟨_, _, _, N, HH5.out, HW.out.later (Nat.le_refl _) (Nat.le_succ _), by have := HOl.out; omega, HB5.out⟩
        · skip
          by_cases hk1 : o.kind = 1
          · have hd0 : (o.kind == 0) = false := beq_eq_false_iff_ne.2 hk0
            have hd1 : (o.kind == 1) = true := beq_iff_eq.2 hk1
            clear hk0 hk1
            clear y0 y1 y2 y3 y4
            go_upto_region 22 with fail
            have HHd : Hid (H2 w.heap.size wb.drew c1 c2 D1 D2 R R) := hide (HHy.out.past ((Below.refl _ _).drew))
            have HBd : Hid (Below w.heap.size w wb.drew) := hide HBy.out.drew
            have hHeld : True := trivial
            by_cases hc : (pastR R key).cl = false
            · have HC := hide hc
              clear hc
              refine wp_region_held_n (n := 9) (l := #[false, false, false, false, false, false, false, false, false]) (S := (fun _ => True)) rfl rfl (by kernel_rfl) trivial ?_
              refine wpAnyH_yields (i := 0) (oi := ?_) (v := ?_) ?_ (by kernel_rfl) (by kernel_rfl) (by kernel_rfl) (by assumption) ?_ ?_ ?_ ?_
              rotate_left 2
              · (simp only [List.getElem?_toArray, List.getElem?_cons_zero] <;> exact rfl)
              · rfl
              · (intro w' hSw; go_simp <;> with_reducible rfl)
              · exact fun _ _ _ h => h
              simp only [Act.put, List.setIfInBounds_toArray, List.set]
              refine wpAnyH_yields (i := 1) (oi := ?_) (v := ?_) ?_ (by kernel_rfl) (by kernel_rfl) (by kernel_rfl) (by assumption) ?_ ?_ ?_ ?_
              rotate_left 2
              · (simp only [List.getElem?_toArray, List.getElem?_cons_succ, List.getElem?_cons_zero] <;> exact rfl)
              · rfl
              · (intro w' hSw; go_simp <;> with_reducible rfl)
              · exact fun _ _ _ h => h
              simp only [Act.put, List.setIfInBounds_toArray, List.set]
              refine wpAnyH_yields (i := 4) (oi := ?_) (v := ?_) ?_ (by kernel_rfl) (by kernel_rfl) (by kernel_rfl) (by assumption) ?_ ?_ ?_ ?_
              rotate_left 2
              · (simp only [List.getElem?_toArray, List.getElem?_cons_succ, List.getElem?_cons_zero] <;> exact rfl)
              · rfl
              · (intro w' hSw; go_simp <;> with_reducible rfl)
              · exact fun _ _ _ h => h
              simp only [Act.put, List.setIfInBounds_toArray, List.set]
              refine wpAnyH_yields (i := 5) (oi := ?_) (v := ?_) ?_ (by kernel_rfl) (by kernel_rfl) (by kernel_rfl) (by assumption) ?_ ?_ ?_ ?_
              rotate_left 2
              · (simp only [List.getElem?_toArray, List.getElem?_cons_succ, List.getElem?_cons_zero] <;> exact rfl)
              · rfl
              · (intro w' hSw; go_simp <;> with_reducible rfl)
              · exact fun _ _ _ h => h
              simp only [Act.put, List.setIfInBounds_toArray, List.set]
              refine wpAnyH_ready (rs := [2]) (by kernel_rfl) (by simp) (AllReadyH.cons (o := ?_) ?_ (fun K hK => ?_) AllReadyH.nil)
              rotate_left 1
              · (simp only [List.getElem?_toArray, List.getElem?_cons_succ, List.getElem?_cons_zero] <;> exact rfl)
              go_simp
              go_at_call 13
              refine (closed_act wb.drew (HS.out.below HBd.out) HHd.out.h1 key HK.out (by have := HE.out; omega)).mono ?_
              rintro e w5 ⟨ht, htn⟩
              obtain rfl := ht.yes HC.out
              have HB5 := hide (HBd.out.trans (HHd.out.low1 HBd.out.size htn))
              obtain ⟨D3, hh5⟩ := HHd.out.turn1 HBd.out.size htn
              have HH5 := hide hh5
              clear hh5 htn ht hHeld
              refine hK.out _ _ (trivial) (fun hHeld => ?_)
              clear hK K
              try simp only [List.setIfInBounds_toArray, List.set_cons_zero, List.set_cons_succ]
              refine wpAnyH_yields (i := 3) (oi := ?_) (v := ?_) ?_ (by kernel_rfl) (by kernel_rfl) (by kernel_rfl) (by assumption) ?_ ?_ ?_ ?_
              rotate_left 2
              · (simp only [List.getElem?_toArray, List.getElem?_cons_succ, List.getElem?_cons_zero] <;> exact rfl)
              · rfl
              · (intro w' hSw; go_simp <;> with_reducible rfl)
              · exact fun _ _ _ h => h
              simp only [Act.put, List.setIfInBounds_toArray, List.set]
              refine wpAnyH_ready (rs := [6]) (by kernel_rfl) (by simp) (AllReadyH.cons (o := ?_) ?_ (fun K hK => ?_) AllReadyH.nil)
              rotate_left 1
              · (simp only [List.getElem?_toArray, List.getElem?_cons_succ, List.getElem?_cons_zero] <;> exact rfl)
              go_simp
              go_at_call 13
              refine (closed_act w5 (HS.out.below HB5.out) HH5.out.h2 key HK.out (by have := HE.out; omega)).mono ?_
              rintro e w7 ⟨ht, htn⟩
              obtain rfl := ht.yes HC.out
              have HB7 := hide (HB5.out.trans (HH5.out.low2 HB5.out.size htn))
              obtain ⟨D4, hh7⟩ := HH5.out.turn2 HB5.out.size htn
              have HH7 := hide hh7
              clear hh7 htn ht hHeld
              refine hK.out _ _ (trivial) (fun hHeld => ?_)
              clear hK K
              try simp only [List.setIfInBounds_toArray, List.set_cons_zero, List.set_cons_succ]
              refine wpAnyH_yields (i := 7) (oi := ?_) (v := ?_) ?_ (by kernel_rfl) (by kernel_rfl) (by kernel_rfl) (by assumption) ?_ ?_ ?_ ?_
              rotate_left 2
              · (simp only [List.getElem?_toArray, List.getElem?_cons_succ, List.getElem?_cons_zero] <;> exact rfl)
              · rfl
              · (intro w' hSw; go_simp <;> with_reducible rfl)
              · exact fun _ _ _ h => h
              simp only [Act.put, List.setIfInBounds_toArray, List.set]
              refine wpAnyH_yields (i := 8) (oi := ?_) (v := ?_) ?_ (by kernel_rfl) (by kernel_rfl) (by kernel_rfl) (by assumption) ?_ ?_ ?_ ?_
              rotate_left 2
              · (simp only [List.getElem?_toArray, List.getElem?_cons_succ, List.getElem?_cons_zero] <;> exact rfl)
              · rfl
              · (intro w' hSw; go_simp <;> with_reducible rfl)
              · exact fun _ _ _ h => h
              simp only [Act.put, List.setIfInBounds_toArray, List.set]
              refine wpAnyH_done (by kernel_rfl) ?_ _
              go_wp2
              go_meet
              case rel => exact hide ⟨_, _, _, N, HH7.out, HW.out.closed HK.out, by have := HOl.out; omega, HB7.out⟩
            · have HC := hide hc
              clear hc
              refine wp_region_held_n (n := 9) (l := #[false, false, false, false, false, false, false, false, false]) (S := (fun _ => True)) rfl rfl (by kernel_rfl) trivial ?_
              refine wpAnyH_yields (i := 0) (oi := ?_) (v := ?_) ?_ (by kernel_rfl) (by kernel_rfl) (by kernel_rfl) (by assumption) ?_ ?_ ?_ ?_
              rotate_left 2
              · (simp only [List.getElem?_toArray, List.getElem?_cons_zero] <;> exact rfl)
              · rfl
              · (intro w' hSw; go_simp <;> with_reducible rfl)
              · exact fun _ _ _ h => h
              simp only [Act.put, List.setIfInBounds_toArray, List.set]
              refine wpAnyH_yields (i := 1) (oi := ?_) (v := ?_) ?_ (by kernel_rfl) (by kernel_rfl) (by kernel_rfl) (by assumption) ?_ ?_ ?_ ?_
              rotate_left 2
              · (simp only [List.getElem?_toArray, List.getElem?_cons_succ, List.getElem?_cons_zero] <;> exact rfl)
              · rfl
              · (intro w' hSw; go_simp <;> with_reducible rfl)
              · exact fun _ _ _ h => h
              simp only [Act.put, List.setIfInBounds_toArray, List.set]
              refine wpAnyH_yields (i := 4) (oi := ?_) (v := ?_) ?_ (by kernel_rfl) (by kernel_rfl) (by kernel_rfl) (by assumption) ?_ ?_ ?_ ?_
              rotate_left 2
              · (simp only [List.getElem?_toArray, List.getElem?_cons_succ, List.getElem?_cons_zero] <;> exact rfl)
              · rfl
              · (intro w' hSw; go_simp <;> with_reducible rfl)
              · exact fun _ _ _ h => h
              simp only [Act.put, List.setIfInBounds_toArray, List.set]
              refine wpAnyH_yields (i := 5) (oi := ?_) (v := ?_) ?_ (by kernel_rfl) (by kernel_rfl) (by kernel_rfl) (by assumption) ?_ ?_ ?_ ?_
              rotate_left 2
              · (simp only [List.getElem?_toArray, List.getElem?_cons_succ, List.getElem?_cons_zero] <;> exact rfl)
              · rfl
              · (intro w' hSw; go_simp <;> with_reducible rfl)
              · exact fun _ _ _ h => h
              simp only [Act.put, List.setIfInBounds_toArray, List.set]
              refine wpAnyH_ready (rs := [2]) (by kernel_rfl) (by simp) (AllReadyH.cons (o := ?_) ?_ (fun K hK => ?_) AllReadyH.nil)
              rotate_left 1
              · (simp only [List.getElem?_toArray, List.getElem?_cons_succ, List.getElem?_cons_zero] <;> exact rfl)
              go_simp
              go_at_call 13
              refine (closed_act wb.drew (HS.out.below HBd.out) HHd.out.h1 key HK.out (by have := HE.out; omega)).mono ?_
              rintro e w5 ⟨ht, htn⟩
              obtain rfl := ht.no HC.out
              have HB5 := hide (HBd.out.trans (HHd.out.low1 HBd.out.size htn))
              obtain ⟨D3, hh5⟩ := HHd.out.turn1 HBd.out.size htn
              have HH5 := hide hh5
              clear hh5 htn ht hHeld
              refine hK.out _ _ (trivial) (fun hHeld => ?_)
              clear hK K
              try simp only [List.setIfInBounds_toArray, List.set_cons_zero, List.set_cons_succ]
              refine wpAnyH_yields (i := 3) (oi := ?_) (v := ?_) ?_ (by kernel_rfl) (by kernel_rfl) (by kernel_rfl) (by assumption) ?_ ?_ ?_ ?_
              rotate_left 2
              · (simp only [List.getElem?_toArray, List.getElem?_cons_succ, List.getElem?_cons_zero] <;> exact rfl)
              · rfl
              · (intro w' hSw; go_simp <;> with_reducible rfl)
              · exact fun _ _ _ h => h
              simp only [Act.put, List.setIfInBounds_toArray, List.set]
              refine wpAnyH_ready (rs := [6]) (by kernel_rfl) (by simp) (AllReadyH.cons (o := ?_) ?_ (fun K hK => ?_) AllReadyH.nil)
              rotate_left 1
              · (simp only [List.getElem?_toArray, List.getElem?_cons_succ, List.getElem?_cons_zero] <;> exact rfl)
              go_simp
              go_at_call 13
              refine (closed_act w5 (HS.out.below HB5.out) HH5.out.h2 key HK.out (by have := HE.out; omega)).mono ?_
              rintro e w7 ⟨ht, htn⟩
              obtain rfl := ht.no HC.out
              have HB7 := hide (HB5.out.trans (HH5.out.low2 HB5.out.size htn))
              obtain ⟨D4, hh7⟩ := HH5.out.turn2 HB5.out.size htn
              have HH7 := hide hh7
              clear hh7 htn ht hHeld
              refine hK.out _ _ (trivial) (fun hHeld => ?_)
              clear hK K
              try simp only [List.setIfInBounds_toArray, List.set_cons_zero, List.set_cons_succ]
              refine wpAnyH_yields (i := 7) (oi := ?_) (v := ?_) ?_ (by kernel_rfl) (by kernel_rfl) (by kernel_rfl) (by assumption) ?_ ?_ ?_ ?_
              rotate_left 2
              · (simp only [List.getElem?_toArray, List.getElem?_cons_succ, List.getElem?_cons_zero] <;> exact rfl)
              · rfl
              · (intro w' hSw; go_simp <;> with_reducible rfl)
              · exact fun _ _ _ h => h
              simp only [Act.put, List.setIfInBounds_toArray, List.set]
              refine wpAnyH_yields (i := 8) (oi := ?_) (v := ?_) ?_ (by kernel_rfl) (by kernel_rfl) (by kernel_rfl) (by assumption) ?_ ?_ ?_ ?_
              rotate_left 2
              · (simp only [List.getElem?_toArray, List.getElem?_cons_succ, List.getElem?_cons_zero] <;> exact rfl)
              · rfl
              · (intro w' hSw; go_simp <;> with_reducible rfl)
              · exact fun _ _ _ h => h
              simp only [Act.put, List.setIfInBounds_toArray, List.set]
              refine wpAnyH_done (by kernel_rfl) ?_ _
              go_wp2
              go_meet
              case rel => exact hide ⟨_, _, _, N, HH7.out, HW.out.closed HK.out, by have := HOl.out; omega, HB7.out⟩
          · skip
            by_cases hk2 : o.kind = 2
            · have hd0 : (o.kind == 0) = false := beq_eq_false_iff_ne.2 hk0
              have hd1 : (o.kind == 1) = false := beq_eq_false_iff_ne.2 hk1
              have hd2 : (o.kind == 2) = true := beq_iff_eq.2 hk2
              clear hk0 hk1
              clear hk2
              have hob : L.length ≤ 1048576 := by exact HLl.out
              by_cases hcl : L <+: (pastR R key).bs.drop (pastR R key).rd
              · have HCl := hide hcl
                clear hcl
                go_wp2_with fail
                refine (gave_act wb HSy.out HHy.out.h1 key HK.out (by have := HE.out; omega) A3 L.length d3 L HVb.out.reads HL.out (by have := HW.out.pbig key; have := HOl.out; omega)).mono ?_
                rintro e w5 ⟨ht, htn⟩
                obtain rfl := ht.yes HCl.out
                have x4 := htn.2.cell y4 (fun h => (HD.out q (.inl h)).1 rfl)
                have HVk0 := hide (HVb.out.kept htn.2 (fun k hk _ hd => by have := (HD.out k (.inl hd)).2; have := HSz.out; have := hk.1; omega))
                have HB5 := hide (HBy.out.trans (HHy.out.low1 HBy.out.size htn))
                have HZ5 : Hid (wb.heap.size ≤ w5.heap.size) := hide htn.2.size
                obtain ⟨D3, hh5⟩ := HHy.out.turn1 HBy.out.size htn
                have HG0 : Hid (∃ D2k Rk, H2 w.heap.size w5 c1 c2 D3 D2k (gaveR R key L) Rk ∧ Mid key R { pastR R key with rd := (pastR R key).rd + 0 } Rk ∧ (∀ j, D2k j → D2 j ∨ wb.heap.size ≤ j) ∧ w5.cell? ⟨q, 4, none⟩ = some (.slice o.A o.len o.c) ∧ Below w.heap.size w w5 ∧ wb.heap.size ≤ w5.heap.size ∧ Row w5 (fun k => wz.heap.size ≤ k ∧ k < wb.heap.size) 5 1 (.slice A3 L.length d3) L.length (u8s L)) := hide ⟨D2, R, hh5, by simpa using Mid.start key R, fun j hj => .inl hj, x4, HB5.out, HZ5.out, HVk0.out⟩
                clear hh5 htn x4 ht y0 y1 y2 y3
                obtain ⟨_, _, _, _, _, x4, _⟩ := HG0.out
                clear y4
                go_wp2
                clear x4
                go_loopw [91] (fun s wr => ∃ k : Nat, k ≤ L.length ∧ s = .int .i64 k ∧ Hid (∃ D2k Rk, H2 w.heap.size wr c1 c2 D3 D2k (gaveR R key L) Rk ∧ Mid key R { pastR R key with rd := (pastR R key).rd + k } Rk ∧ (∀ j, D2k j → D2 j ∨ wb.heap.size ≤ j) ∧ wr.cell? ⟨q, 4, none⟩ = some (.slice o.A o.len o.c) ∧ Below w.heap.size w wr ∧ wb.heap.size ≤ wr.heap.size ∧ Row wr (fun k => wz.heap.size ≤ k ∧ k < wb.heap.size) 5 1 (.slice A3 L.length d3) L.length (u8s L))) (fun s _ => L.length - (intOf s).toNat)
                case atStart => exact ⟨0, Nat.zero_le _, rfl, HG0⟩
                case round =>
                  clear HG0
                  obtain ⟨k, hkk, rfl, HG⟩ := hrel
                  obtain ⟨D2k, Rk, hh6, hmid, hfar, x4, hbel6, hsz6, hrow6⟩ := HG.out
                  have HH6 := hide hh6
                  have HMid := hide hmid
                  have HFar := hide hfar
                  have HB6 := hide hbel6
                  have HZ6 := hide hsz6
                  have HRow6 := hide hrow6
                  have HWk : Hid (Wl Rk (N) (i + 1)) := hide (hmid.wl HW.out HK.out (HW.out.pbig key) (Nat.le_refl _) (by show (pastR R key).rd + k ≤ (pastR R key).bs.length; have h := HCl.out.length_le; rw [List.length_drop] at h; have := HW.out.prd key; omega) (HW.out.pbyte key))
                  clear hh6 hmid hfar hbel6 hsz6 HG hrow6
                  by_cases hkl : k < L.length
                  · obtain ⟨x, hx⟩ : ∃ x, L[k]? = some x := ⟨_, List.getElem?_eq_getElem (by omega)⟩
                    obtain ⟨Bk, dk, hs, hrk⟩ := cut_one (HRow6.out.reads) HCap.out hx
                    have HRk := hide hrk
                    have hxb := HL.out x (List.mem_of_getElem? hx)
                    have HXb : Hid (∀ y ∈ [x], 0 ≤ y ∧ y ≤ 255) := hide (fun y hy => by rw [List.mem_singleton] at hy; rw [hy]; exact hxb)
                    have HX2 := hide hx
                    clear hrk hxb hx
                    go_wp2_with fail
                    refine (gave_act wr (HS.out.below HB6.out) HH6.out.h2 key HK.out (by have := HWk.out.len; have := HN.out; omega) Bk 1 dk [x] HRk.out HXb.out (by have := HWk.out.pbig key; have := HOl.out; have := HO0.out.len; omega)).mono ?_
                    rintro e w7 ⟨ht2, htn2⟩
                    obtain ⟨hok, hmid7⟩ := HMid.out.gave HW.out.srt HCl.out HX2.out
                    obtain rfl := ht2.yes hok
                    have HMid7 := hide hmid7
                    clear hok hmid7
                    have HB7 := hide (HB6.out.trans (HH6.out.low2 HB6.out.size htn2))
                    have z4 := htn2.2.cell x4 (fun h => (HFar.out q h).elim (fun h => (HD.out q (.inr h)).1 rfl) (fun h => by have := HQw.out; have := HLow.out; omega))
                    have HRow7 := hide (HRow6.out.kept htn2.2 (fun j hj _ hd => (HFar.out j hd).elim (fun h => by have := (HD.out j (.inr h)).2; have := HSz.out; have := hj.1; omega) (fun h => by have := hj.2; omega)))
                    have hsz7 : wb.heap.size ≤ w7.heap.size := Nat.le_trans HZ6.out htn2.2.size
                    obtain ⟨D7, hh7, hf7⟩ := HH6.out.turn2f HB6.out.size htn2
                    have HG7 : Hid (∃ D2k Rk, H2 w.heap.size w7 c1 c2 D3 D2k (gaveR R key L) Rk ∧ Mid key R { pastR R key with rd := (pastR R key).rd + (k + 1) } Rk ∧ (∀ j, D2k j → D2 j ∨ wb.heap.size ≤ j) ∧ w7.cell? ⟨q, 4, none⟩ = some (.slice o.A o.len o.c) ∧ Below w.heap.size w w7 ∧ wb.heap.size ≤ w7.heap.size ∧ Row w7 (fun k => wz.heap.size ≤ k ∧ k < wb.heap.size) 5 1 (.slice A3 L.length d3) L.length (u8s L)) := hide ⟨_, _, hh7, HMid7.out, fun j hj => (hf7 j hj).elim (HFar.out j) (fun h => .inr (Nat.le_trans HZ6.out h)), z4, HB7.out, hsz7, HRow7.out⟩
                    clear hh7 hf7 htn2 ht2 z4 x4 hs hsz7
                    go_wp2
                    go_round
                    case rel => exact ⟨k + 1, by omega, by go_num, HG7⟩
                    case measure => simp [intOf]; omega
                  · obtain rfl : k = L.length := by omega
                    clear hkl
                    go_wp2_with fail
                    refine (gave_act wr (HS.out.below HB6.out) HH6.out.h2 key HK.out (by have := HWk.out.len; have := HN.out; omega) none 0 0 [] (reads_nil _) (fun _ h => (by cases h)) (by have := HWk.out.pbig key; have := HOl.out; have := HO0.out.len; omega)).mono ?_
                    rintro e w7 ⟨ht2, htn2⟩
                    obtain rfl := ht2.yes List.nil_prefix
                    have hend : gaveR Rk key [] = gaveR R key L := Mid.gave_end HMid.out HW.out.srt HCl.out
                    have HB7 := hide (HB6.out.trans (HH6.out.low2 HB6.out.size htn2))
                    obtain ⟨D7, hh7⟩ := HH6.out.turn2 HB6.out.size htn2
                    rw [hend] at hh7
                    have HH7 := hide hh7
                    clear hh7 htn2 ht2 x4
                    go_wp2
                    go_meet
                    case rel => exact hide ⟨_, _, _, N, HH7.out, HW.out.gave HK.out, by have := HOl.out; have := HO0.out.len; omega, HB7.out⟩
              · have HCl := hide hcl
                clear hcl
                go_wp2_with fail
                refine (gave_act wb HSy.out HHy.out.h1 key HK.out (by have := HE.out; omega) A3 L.length d3 L HVb.out.reads HL.out (by have := HW.out.pbig key; have := HOl.out; omega)).mono ?_
                rintro e w5 ⟨ht, htn⟩
                obtain rfl := ht.no HCl.out
                have HB5 := hide (HBy.out.trans (HHy.out.low1 HBy.out.size htn))
                obtain ⟨D3, hh5⟩ := HHy.out.turn1 HBy.out.size htn
                have hsame : gaveR R key L = R := by unfold gaveR; rw [if_neg HCl.out]
                rw [hsame] at hh5
                have HH5 := hide hh5
                clear hh5 htn ht hsame
                go_wp2
                go_meet
                case rel => exact hide ⟨_, _, _, N, HH5.out, HW.out.later (Nat.le_refl _) (Nat.le_succ _), by have := HOl.out; omega, HB5.out⟩
            · have hd0 : (o.kind == 0) = false := beq_eq_false_iff_ne.2 hk0
              have hd1 : (o.kind == 1) = false := beq_eq_false_iff_ne.2 hk1
              have hd2 : (o.kind == 2) = false := beq_eq_false_iff_ne.2 hk2
              clear hk0 hk1 hk2
              clear y0 y1 y2 y3 y4
              go_upto_region 9 with fail
              have HHd : Hid (H2 w.heap.size wb.drew c1 c2 D1 D2 R R) := hide (HHy.out.past ((Below.refl _ _).drew))
              have HBd : Hid (Below w.heap.size w wb.drew) := hide HBy.out.drew
              have hHeld : True := trivial
              by_cases hc : (pastR R key).cl = true ∧ (pastR R key).rd = (pastR R key).bs.length
              · have HC := hide hc
                clear hc
                refine wp_region_held_n (n := 9) (l := #[false, false, false, false, false, false, false, false, false]) (S := (fun _ => True)) rfl rfl (by kernel_rfl) trivial ?_
                refine wpAnyH_yields (i := 0) (oi := ?_) (v := ?_) ?_ (by kernel_rfl) (by kernel_rfl) (by kernel_rfl) (by assumption) ?_ ?_ ?_ ?_
                rotate_left 2
                · (simp only [List.getElem?_toArray, List.getElem?_cons_zero] <;> exact rfl)
                · rfl
                · (intro w' hSw; go_simp <;> with_reducible rfl)
                · exact fun _ _ _ h => h
                simp only [Act.put, List.setIfInBounds_toArray, List.set]
                refine wpAnyH_yields (i := 1) (oi := ?_) (v := ?_) ?_ (by kernel_rfl) (by kernel_rfl) (by kernel_rfl) (by assumption) ?_ ?_ ?_ ?_
                rotate_left 2
                · (simp only [List.getElem?_toArray, List.getElem?_cons_succ, List.getElem?_cons_zero] <;> exact rfl)
                · rfl
                · (intro w' hSw; go_simp <;> with_reducible rfl)
                · exact fun _ _ _ h => h
                simp only [Act.put, List.setIfInBounds_toArray, List.set]
                refine wpAnyH_yields (i := 4) (oi := ?_) (v := ?_) ?_ (by kernel_rfl) (by kernel_rfl) (by kernel_rfl) (by assumption) ?_ ?_ ?_ ?_
                rotate_left 2
                · (simp only [List.getElem?_toArray, List.getElem?_cons_succ, List.getElem?_cons_zero] <;> exact rfl)
                · rfl
                · (intro w' hSw; go_simp <;> with_reducible rfl)
                · exact fun _ _ _ h => h
                simp only [Act.put, List.setIfInBounds_toArray, List.set]
                refine wpAnyH_yields (i := 5) (oi := ?_) (v := ?_) ?_ (by kernel_rfl) (by kernel_rfl) (by kernel_rfl) (by assumption) ?_ ?_ ?_ ?_
                rotate_left 2
                · (simp only [List.getElem?_toArray, List.getElem?_cons_succ, List.getElem?_cons_zero] <;> exact rfl)
                · rfl
                · (intro w' hSw; go_simp <;> with_reducible rfl)
                · exact fun _ _ _ h => h
                simp only [Act.put, List.setIfInBounds_toArray, List.set]
                refine wpAnyH_ready (rs := [2]) (by kernel_rfl) (by simp) (AllReadyH.cons (o := ?_) ?_ (fun K hK => ?_) AllReadyH.nil)
                rotate_left 1
                · (simp only [List.getElem?_toArray, List.getElem?_cons_succ, List.getElem?_cons_zero] <;> exact rfl)
                go_simp
                go_at_call 15
                refine (ended_act wb.drew (HS.out.below HBd.out) HHd.out.h1 key HK.out (HW.out.prd key)).mono ?_
                rintro e w5 ⟨ht, htn⟩
                obtain rfl := ht.yes HC.out
                have HB5 := hide (HBd.out.trans (HHd.out.low1 HBd.out.size htn))
                obtain ⟨D3, hh5⟩ := HHd.out.turn1 HBd.out.size htn
                have HH5 := hide hh5
                clear hh5 htn ht hHeld
                refine hK.out _ _ (trivial) (fun hHeld => ?_)
                clear hK K
                try simp only [List.setIfInBounds_toArray, List.set_cons_zero, List.set_cons_succ]
                refine wpAnyH_yields (i := 3) (oi := ?_) (v := ?_) ?_ (by kernel_rfl) (by kernel_rfl) (by kernel_rfl) (by assumption) ?_ ?_ ?_ ?_
                rotate_left 2
                · (simp only [List.getElem?_toArray, List.getElem?_cons_succ, List.getElem?_cons_zero] <;> exact rfl)
                · rfl
                · (intro w' hSw; go_simp <;> with_reducible rfl)
                · exact fun _ _ _ h => h
                simp only [Act.put, List.setIfInBounds_toArray, List.set]
                refine wpAnyH_ready (rs := [6]) (by kernel_rfl) (by simp) (AllReadyH.cons (o := ?_) ?_ (fun K hK => ?_) AllReadyH.nil)
                rotate_left 1
                · (simp only [List.getElem?_toArray, List.getElem?_cons_succ, List.getElem?_cons_zero] <;> exact rfl)
                go_simp
                go_at_call 15
                refine (ended_act w5 (HS.out.below HB5.out) HH5.out.h2 key HK.out (HW.out.prd key)).mono ?_
                rintro e w7 ⟨ht, htn⟩
                obtain rfl := ht.yes HC.out
                have HB7 := hide (HB5.out.trans (HH5.out.low2 HB5.out.size htn))
                obtain ⟨D4, hh7⟩ := HH5.out.turn2 HB5.out.size htn
                have HH7 := hide hh7
                clear hh7 htn ht hHeld
                refine hK.out _ _ (trivial) (fun hHeld => ?_)
                clear hK K
                try simp only [List.setIfInBounds_toArray, List.set_cons_zero, List.set_cons_succ]
                refine wpAnyH_yields (i := 7) (oi := ?_) (v := ?_) ?_ (by kernel_rfl) (by kernel_rfl) (by kernel_rfl) (by assumption) ?_ ?_ ?_ ?_
                rotate_left 2
                · (simp only [List.getElem?_toArray, List.getElem?_cons_succ, List.getElem?_cons_zero] <;> exact rfl)
                · rfl
                · (intro w' hSw; go_simp <;> with_reducible rfl)
                · exact fun _ _ _ h => h
                simp only [Act.put, List.setIfInBounds_toArray, List.set]
                refine wpAnyH_yields (i := 8) (oi := ?_) (v := ?_) ?_ (by kernel_rfl) (by kernel_rfl) (by kernel_rfl) (by assumption) ?_ ?_ ?_ ?_
                rotate_left 2
                · (simp only [List.getElem?_toArray, List.getElem?_cons_succ, List.getElem?_cons_zero] <;> exact rfl)
                · rfl
                · (intro w' hSw; go_simp <;> with_reducible rfl)
                · exact fun _ _ _ h => h
                simp only [Act.put, List.setIfInBounds_toArray, List.set]
                refine wpAnyH_done (by kernel_rfl) ?_ _
                go_wp2
                go_meet
                case rel => exact hide ⟨_, _, _, N, HH7.out, HW.out.ended HK.out, by have := HOl.out; omega, HB7.out⟩
              · have HC := hide hc
                clear hc
                refine wp_region_held_n (n := 9) (l := #[false, false, false, false, false, false, false, false, false]) (S := (fun _ => True)) rfl rfl (by kernel_rfl) trivial ?_
                refine wpAnyH_yields (i := 0) (oi := ?_) (v := ?_) ?_ (by kernel_rfl) (by kernel_rfl) (by kernel_rfl) (by assumption) ?_ ?_ ?_ ?_
                rotate_left 2
                · (simp only [List.getElem?_toArray, List.getElem?_cons_zero] <;> exact rfl)
                · rfl
                · (intro w' hSw; go_simp <;> with_reducible rfl)
                · exact fun _ _ _ h => h
                simp only [Act.put, List.setIfInBounds_toArray, List.set]
                refine wpAnyH_yields (i := 1) (oi := ?_) (v := ?_) ?_ (by kernel_rfl) (by kernel_rfl) (by kernel_rfl) (by assumption) ?_ ?_ ?_ ?_
                rotate_left 2
                · (simp only [List.getElem?_toArray, List.getElem?_cons_succ, List.getElem?_cons_zero] <;> exact rfl)
                · rfl
                · (intro w' hSw; go_simp <;> with_reducible rfl)
                · exact fun _ _ _ h => h
                simp only [Act.put, List.setIfInBounds_toArray, List.set]
                refine wpAnyH_yields (i := 4) (oi := ?_) (v := ?_) ?_ (by kernel_rfl) (by kernel_rfl) (by kernel_rfl) (by assumption) ?_ ?_ ?_ ?_
                rotate_left 2
                · (simp only [List.getElem?_toArray, List.getElem?_cons_succ, List.getElem?_cons_zero] <;> exact rfl)
                · rfl
                · (intro w' hSw; go_simp <;> with_reducible rfl)
                · exact fun _ _ _ h => h
                simp only [Act.put, List.setIfInBounds_toArray, List.set]
                refine wpAnyH_yields (i := 5) (oi := ?_) (v := ?_) ?_ (by kernel_rfl) (by kernel_rfl) (by kernel_rfl) (by assumption) ?_ ?_ ?_ ?_
                rotate_left 2
                · (simp only [List.getElem?_toArray, List.getElem?_cons_succ, List.getElem?_cons_zero] <;> exact rfl)
                · rfl
                · (intro w' hSw; go_simp <;> with_reducible rfl)
                · exact fun _ _ _ h => h
                simp only [Act.put, List.setIfInBounds_toArray, List.set]
                refine wpAnyH_ready (rs := [2]) (by kernel_rfl) (by simp) (AllReadyH.cons (o := ?_) ?_ (fun K hK => ?_) AllReadyH.nil)
                rotate_left 1
                · (simp only [List.getElem?_toArray, List.getElem?_cons_succ, List.getElem?_cons_zero] <;> exact rfl)
                go_simp
                go_at_call 15
                refine (ended_act wb.drew (HS.out.below HBd.out) HHd.out.h1 key HK.out (HW.out.prd key)).mono ?_
                rintro e w5 ⟨ht, htn⟩
                obtain rfl := ht.no HC.out
                have HB5 := hide (HBd.out.trans (HHd.out.low1 HBd.out.size htn))
                obtain ⟨D3, hh5⟩ := HHd.out.turn1 HBd.out.size htn
                have HH5 := hide hh5
                clear hh5 htn ht hHeld
                refine hK.out _ _ (trivial) (fun hHeld => ?_)
                clear hK K
                try simp only [List.setIfInBounds_toArray, List.set_cons_zero, List.set_cons_succ]
                refine wpAnyH_yields (i := 3) (oi := ?_) (v := ?_) ?_ (by kernel_rfl) (by kernel_rfl) (by kernel_rfl) (by assumption) ?_ ?_ ?_ ?_
                rotate_left 2
                · (simp only [List.getElem?_toArray, List.getElem?_cons_succ, List.getElem?_cons_zero] <;> exact rfl)
                · rfl
                · (intro w' hSw; go_simp <;> with_reducible rfl)
                · exact fun _ _ _ h => h
                simp only [Act.put, List.setIfInBounds_toArray, List.set]
                refine wpAnyH_ready (rs := [6]) (by kernel_rfl) (by simp) (AllReadyH.cons (o := ?_) ?_ (fun K hK => ?_) AllReadyH.nil)
                rotate_left 1
                · (simp only [List.getElem?_toArray, List.getElem?_cons_succ, List.getElem?_cons_zero] <;> exact rfl)
                go_simp
                go_at_call 15
                refine (ended_act w5 (HS.out.below HB5.out) HH5.out.h2 key HK.out (HW.out.prd key)).mono ?_
                rintro e w7 ⟨ht, htn⟩
                obtain rfl := ht.no HC.out
                have HB7 := hide (HB5.out.trans (HH5.out.low2 HB5.out.size htn))
                obtain ⟨D4, hh7⟩ := HH5.out.turn2 HB5.out.size htn
                have HH7 := hide hh7
                clear hh7 htn ht hHeld
                refine hK.out _ _ (trivial) (fun hHeld => ?_)
                clear hK K
                try simp only [List.setIfInBounds_toArray, List.set_cons_zero, List.set_cons_succ]
                refine wpAnyH_yields (i := 7) (oi := ?_) (v := ?_) ?_ (by kernel_rfl) (by kernel_rfl) (by kernel_rfl) (by assumption) ?_ ?_ ?_ ?_
                rotate_left 2
                · (simp only [List.getElem?_toArray, List.getElem?_cons_succ, List.getElem?_cons_zero] <;> exact rfl)
                · rfl
                · (intro w' hSw; go_simp <;> with_reducible rfl)
                · exact fun _ _ _ h => h
                simp only [Act.put, List.setIfInBounds_toArray, List.set]
                refine wpAnyH_yields (i := 8) (oi := ?_) (v := ?_) ?_ (by kernel_rfl) (by kernel_rfl) (by kernel_rfl) (by assumption) ?_ ?_ ?_ ?_
                rotate_left 2
                · (simp only [List.getElem?_toArray, List.getElem?_cons_succ, List.getElem?_cons_zero] <;> exact rfl)
                · rfl
                · (intro w' hSw; go_simp <;> with_reducible rfl)
                · exact fun _ _ _ h => h
                simp only [Act.put, List.setIfInBounds_toArray, List.set]
                refine wpAnyH_done (by kernel_rfl) ?_ _
                go_wp2
                go_meet
                case rel => exact hide ⟨_, _, _, N, HH7.out, HW.out.ended HK.out, by have := HOl.out; omega, HB7.out⟩

      case rest => as_aux_lemma =>
        clear HO0 HD HOl HW HB4 HH4 HRl HVR HBy HHy HL HLl HSz HBz HHz HBs HCap HQw y0 y1 y2 y3 y4 HX HU HScr
        obtain ⟨D1, D2, R, N, hh, hw, hrem, hbel⟩ := hcut.out
        clear hcut
        obtain ⟨wv, hwv⟩ : ∃ wv, wc = wv := ⟨_, rfl⟩
        rw [hwv] at hh hbel
        rw [hwv]
        have HHv := hide hh
        have HBv := hide hbel
        have HW := hide hw
        have HRem := hide hrem
        obtain ⟨P, hP⟩ : ∃ P, pastR R key = P := ⟨_, rfl⟩
        obtain ⟨ok, hok⟩ : ∃ ok, (get Rw.k R key).isSome = ok := ⟨_, rfl⟩
        have hp1 : Calls Tryd.prog 16 #[ptr c1, .int .i64 key] wv fun r w' => r = .returned (.tuple #[.agg #[.int .i64 P.bs.length, .int .i64 P.rd, .bool P.cl, .bool P.en], .bool ok]) ∧ Below wv.heap.size wv w' := by
          have h := hist_past hh.h1 key HK.out
          rw [hP, hok] at h
          exact h
        have HP2 : ∀ wx, Below wv.heap.size wv wx → Hid (Calls Tryd.prog 16 #[ptr c2, .int .i64 key] wx fun r w' => r = .returned (.tuple #[.agg #[.int .i64 P.bs.length, .int .i64 P.rd, .bool P.cl, .bool P.en], .bool ok]) ∧ Below wx.heap.size wx w') := fun wx hb => hide (by
          have h := hist_past (hh.past hb).h2 key HK.out
          rw [hP, hok] at h
          exact h)
        clear hh hbel hw hrem hwv hP hok
        go_wp2_with fail
        refine hp1.mono ?_
        rintro r w8 ⟨rfl, hb8⟩
        obtain ⟨w9, q1, wa, hw9, hq, hwa, hnew, hset, hbl⟩ := past_filled hb8 P.bs.length P.rd P.cl P.en
        obtain ⟨_, f0, f1, f2, f3⟩ := box4 hnew
        have HSet := hide hset
        have HBl := hide hbl
        clear hp1 hb8 hnew hset hbl
        go_upto_region 35 with fail
        try rw [hwa]
        clear hw9 hq hwa f0 f1 f2 f3
        go_wp2_with fail
        refine (HP2 _ HBl.out).out.mono ?_
        rintro r w10 ⟨rfl, hb10⟩
        obtain ⟨w11, q2, wb, hw11, hq2, hwb, hnew, hset, hbl⟩ := past_filled hb10 P.bs.length P.rd P.cl P.en
        obtain ⟨_, f0, f1, f2, f3⟩ := box4 hnew
        have HSet2 := hide hset
        have HBl2 := hide hbl
        clear hb10 hnew hset hbl HP2
        go_upto_region 36 with fail
        try rw [hwb]
        clear hw11 hq2 hwb f0 f1 f2 f3
        obtain ⟨⟨a0, a1, a2, a3⟩, _⟩ := box4 HSet.out
        have a0 := cell_later HBl2.out.drew a0
        have a1 := cell_later HBl2.out.drew a1
        have a2 := cell_later HBl2.out.drew a2
        have a3 := cell_later HBl2.out.drew a3
        obtain ⟨⟨a4, a5, a6, a7⟩, _⟩ := box4 (show wb.drew.heap[q2]? = _ from HSet2.out)
        have HBd := hide (HBv.out.trans ((HBl.out.trans (HBl2.out.drew.mono HBl.out.size)).mono HBv.out.size))
        have HHd := hide (HHv.out.past (HBl.out.trans (HBl2.out.drew.mono HBl.out.size)))
        have HRb := hide (HW.out.rest_byte key)
        have hr1 := rest_ok HHd.out.h1 HW.out (by have := HRem.out; omega) key HK.out
        have hr2 := rest_ok HHd.out.h2 HW.out (by have := HRem.out; omega) key HK.out
        have HN2 : Hid (N ≤ 1048576) := hide (by have := HRem.out; omega)
        have hHeld := And.intro a0 (And.intro a1 (And.intro a2 (And.intro a3 (And.intro a4 (And.intro a5 (And.intro a6 a7))))))
        go_cut [145] (fun v wx => v = .bool false ∧ Hid (H2 w.heap.size wx c1 c2 D1 D2 R R ∧ Below w.heap.size w wx))
        case first => as_aux_lemma =>
          refine wp_region_held_n (n := 26) (l := #[false, false, false, false, false, false, false, false, false, false, false, false, false, false, false, false, false, false, false, false, false, false, false, false, false, false]) (S := (fun w' => w'.cell? ⟨q1, 0, none⟩ = some (.int .i64 P.bs.length) ∧ w'.cell? ⟨q1, 1, none⟩ = some (.int .i64 P.rd) ∧ w'.cell? ⟨q1, 2, none⟩ = some (.bool P.cl) ∧ w'.cell? ⟨q1, 3, none⟩ = some (.bool P.en) ∧ w'.cell? ⟨q2, 0, none⟩ = some (.int .i64 P.bs.length) ∧ w'.cell? ⟨q2, 1, none⟩ = some (.int .i64 P.rd) ∧ w'.cell? ⟨q2, 2, none⟩ = some (.bool P.cl) ∧ w'.cell? ⟨q2, 3, none⟩ = some (.bool P.en))) rfl rfl (by kernel_rfl) ⟨a0, a1, a2, a3, a4, a5, a6, a7⟩ ?_
          refine wpAnyH_yields (i := 0) (oi := ?_) (v := ?_) ?_ (by kernel_rfl) (by kernel_rfl) (by kernel_rfl) (by assumption) ?_ ?_ ?_ ?_
          rotate_left 2
          · (simp only [List.getElem?_toArray, List.getElem?_cons_zero] <;> exact rfl)
          · rfl
          · (intro w' hSw; obtain ⟨g0, g1, g2, g3, g4, g5, g6, g7⟩ := hSw; go_simp <;> with_reducible rfl)
          · exact fun _ _ _ h => h
          simp only [Act.put, List.setIfInBounds_toArray, List.set]
          refine wpAnyH_yields (i := 1) (oi := ?_) (v := ?_) ?_ (by kernel_rfl) (by kernel_rfl) (by kernel_rfl) (by assumption) ?_ ?_ ?_ ?_
          rotate_left 2
          · (simp only [List.getElem?_toArray, List.getElem?_cons_succ, List.getElem?_cons_zero] <;> exact rfl)
          · rfl
          · (intro w' hSw; obtain ⟨g0, g1, g2, g3, g4, g5, g6, g7⟩ := hSw; go_simp <;> with_reducible rfl)
          · exact fun _ _ _ h => h
          simp only [Act.put, List.setIfInBounds_toArray, List.set]
          refine wpAnyH_yields (i := 2) (oi := ?_) (v := ?_) ?_ (by kernel_rfl) (by kernel_rfl) (by kernel_rfl) (by assumption) ?_ ?_ ?_ ?_
          rotate_left 2
          · (simp only [List.getElem?_toArray, List.getElem?_cons_succ, List.getElem?_cons_zero] <;> exact rfl)
          · rfl
          · (intro w' hSw; obtain ⟨g0, g1, g2, g3, g4, g5, g6, g7⟩ := hSw; go_simp <;> with_reducible rfl)
          · exact fun _ _ _ h => h
          simp only [Act.put, List.setIfInBounds_toArray, List.set]
          refine wpAnyH_yields (i := 3) (oi := ?_) (v := ?_) ?_ (by kernel_rfl) (by kernel_rfl) (by kernel_rfl) (by assumption) ?_ ?_ ?_ ?_
          rotate_left 2
          · (simp only [List.getElem?_toArray, List.getElem?_cons_succ, List.getElem?_cons_zero] <;> exact rfl)
          · rfl
          · (intro w' hSw; obtain ⟨g0, g1, g2, g3, g4, g5, g6, g7⟩ := hSw; go_simp <;> with_reducible rfl)
          · exact fun _ _ _ h => h
          simp only [Act.put, List.setIfInBounds_toArray, List.set]
          refine wpAnyH_yields (i := 4) (oi := ?_) (v := ?_) ?_ (by kernel_rfl) (by kernel_rfl) (by kernel_rfl) (by assumption) ?_ ?_ ?_ ?_
          rotate_left 2
          · (simp only [List.getElem?_toArray, List.getElem?_cons_succ, List.getElem?_cons_zero] <;> exact rfl)
          · rfl
          · (intro w' hSw; obtain ⟨g0, g1, g2, g3, g4, g5, g6, g7⟩ := hSw; go_simp <;> with_reducible rfl)
          · exact fun _ _ _ h => h
          simp only [Act.put, List.setIfInBounds_toArray, List.set]
          refine wpAnyH_yields (i := 5) (oi := ?_) (v := ?_) ?_ (by kernel_rfl) (by kernel_rfl) (by kernel_rfl) (by assumption) ?_ ?_ ?_ ?_
          rotate_left 2
          · (simp only [List.getElem?_toArray, List.getElem?_cons_succ, List.getElem?_cons_zero] <;> exact rfl)
          · rfl
          · (intro w' hSw; obtain ⟨g0, g1, g2, g3, g4, g5, g6, g7⟩ := hSw; go_simp <;> with_reducible rfl)
          · exact fun _ _ _ h => h
          simp only [Act.put, List.setIfInBounds_toArray, List.set]
          refine wpAnyH_yields (i := 6) (oi := ?_) (v := ?_) ?_ (by kernel_rfl) (by kernel_rfl) (by kernel_rfl) (by assumption) ?_ ?_ ?_ ?_
          rotate_left 2
          · (simp only [List.getElem?_toArray, List.getElem?_cons_succ, List.getElem?_cons_zero] <;> exact rfl)
          · rfl
          · (intro w' hSw; obtain ⟨g0, g1, g2, g3, g4, g5, g6, g7⟩ := hSw; go_simp <;> with_reducible rfl)
          · exact fun _ _ _ h => h
          simp only [Act.put, List.setIfInBounds_toArray, List.set]
          refine wpAnyH_yields (i := 7) (oi := ?_) (v := ?_) ?_ (by kernel_rfl) (by kernel_rfl) (by kernel_rfl) (by assumption) ?_ ?_ ?_ ?_
          rotate_left 2
          · (simp only [List.getElem?_toArray, List.getElem?_cons_succ, List.getElem?_cons_zero] <;> exact rfl)
          · rfl
          · (intro w' hSw; obtain ⟨g0, g1, g2, g3, g4, g5, g6, g7⟩ := hSw; go_simp <;> with_reducible rfl)
          · exact fun _ _ _ h => h
          simp only [Act.put, List.setIfInBounds_toArray, List.set]
          refine wpAnyH_yields (i := 8) (oi := ?_) (v := ?_) ?_ (by kernel_rfl) (by kernel_rfl) (by kernel_rfl) (by assumption) ?_ ?_ ?_ ?_
          rotate_left 2
          · (simp only [List.getElem?_toArray, List.getElem?_cons_succ, List.getElem?_cons_zero] <;> exact rfl)
          · rfl
          · (intro w' hSw; obtain ⟨g0, g1, g2, g3, g4, g5, g6, g7⟩ := hSw; go_simp <;> with_reducible rfl)
          · exact fun _ _ _ h => h
          simp only [Act.put, List.setIfInBounds_toArray, List.set]
          refine wpAnyH_yields (i := 9) (oi := ?_) (v := ?_) ?_ (by kernel_rfl) (by kernel_rfl) (by kernel_rfl) (by assumption) ?_ ?_ ?_ ?_
          rotate_left 2
          · (simp only [List.getElem?_toArray, List.getElem?_cons_succ, List.getElem?_cons_zero] <;> exact rfl)
          · rfl
          · (intro w' hSw; obtain ⟨g0, g1, g2, g3, g4, g5, g6, g7⟩ := hSw; go_simp <;> with_reducible rfl)
          · exact fun _ _ _ h => h
          simp only [Act.put, List.setIfInBounds_toArray, List.set]
          refine wpAnyH_yields (i := 10) (oi := ?_) (v := ?_) ?_ (by kernel_rfl) (by kernel_rfl) (by kernel_rfl) (by assumption) ?_ ?_ ?_ ?_
          rotate_left 2
          · (simp only [List.getElem?_toArray, List.getElem?_cons_succ, List.getElem?_cons_zero] <;> exact rfl)
          · rfl
          · (intro w' hSw; obtain ⟨g0, g1, g2, g3, g4, g5, g6, g7⟩ := hSw; go_simp <;> with_reducible rfl)
          · exact fun _ _ _ h => h
          simp only [Act.put, List.setIfInBounds_toArray, List.set]
          refine wpAnyH_yields (i := 13) (oi := ?_) (v := ?_) ?_ (by kernel_rfl) (by kernel_rfl) (by kernel_rfl) (by assumption) ?_ ?_ ?_ ?_
          rotate_left 2
          · (simp only [List.getElem?_toArray, List.getElem?_cons_succ, List.getElem?_cons_zero] <;> exact rfl)
          · rfl
          · (intro w' hSw; obtain ⟨g0, g1, g2, g3, g4, g5, g6, g7⟩ := hSw; go_simp <;> with_reducible rfl)
          · exact fun _ _ _ h => h
          simp only [Act.put, List.setIfInBounds_toArray, List.set]
          refine wpAnyH_yields (i := 14) (oi := ?_) (v := ?_) ?_ (by kernel_rfl) (by kernel_rfl) (by kernel_rfl) (by assumption) ?_ ?_ ?_ ?_
          rotate_left 2
          · (simp only [List.getElem?_toArray, List.getElem?_cons_succ, List.getElem?_cons_zero] <;> exact rfl)
          · rfl
          · (intro w' hSw; obtain ⟨g0, g1, g2, g3, g4, g5, g6, g7⟩ := hSw; go_simp <;> with_reducible rfl)
          · exact fun _ _ _ h => h
          simp only [Act.put, List.setIfInBounds_toArray, List.set]
          refine wpAnyH_ready (rs := [11]) (by kernel_rfl) (by simp) (AllReadyH.cons (o := ?_) ?_ (fun K hK => ?_) AllReadyH.nil)
          rotate_left 1
          · (simp only [List.getElem?_toArray, List.getElem?_cons_succ, List.getElem?_cons_zero] <;> exact rfl)
          go_simp
          go_at_call 11
          refine hr1.mono ?_
          rintro r wz ⟨Az, dz, rfl, _, hv, hbz⟩
          have cvA := run_str hv.reads HRb.out
          have HVA := hide hv.reads
          have HBz := hide (HBd.out.trans (hbz.mono HBd.out.size))
          have HHz := hide (HHd.out.past hbz)
          have hrB := rest_ok HHz.out.h2 HW.out HN2.out key HK.out
          have z0 := cell_later hbz a0
          have z1 := cell_later hbz a1
          have z2 := cell_later hbz a2
          have z3 := cell_later hbz a3
          have z4 := cell_later hbz a4
          have z5 := cell_later hbz a5
          have z6 := cell_later hbz a6
          have z7 := cell_later hbz a7
          clear hv hbz hr1 hr2 a0 a1 a2 a3 a4 a5 a6 a7 hHeld
          refine hK.out _ _ (⟨z0, z1, z2, z3, z4, z5, z6, z7⟩) (fun hHeld => ?_)
          clear hK K
          try simp only [List.setIfInBounds_toArray, List.set_cons_zero, List.set_cons_succ]
          refine wpAnyH_more (S' := (fun w' => (w'.cell? ⟨q1, 0, none⟩ = some (.int .i64 P.bs.length) ∧ w'.cell? ⟨q1, 1, none⟩ = some (.int .i64 P.rd) ∧ w'.cell? ⟨q1, 2, none⟩ = some (.bool P.cl) ∧ w'.cell? ⟨q1, 3, none⟩ = some (.bool P.en) ∧ w'.cell? ⟨q2, 0, none⟩ = some (.int .i64 P.bs.length) ∧ w'.cell? ⟨q2, 1, none⟩ = some (.int .i64 P.rd) ∧ w'.cell? ⟨q2, 2, none⟩ = some (.bool P.cl) ∧ w'.cell? ⟨q2, 3, none⟩ = some (.bool P.en)) ∧ (convert 26 9 (.slice Az (restR R key).length dz)).run Tryd.prog w' = .ok (.string ⟨(Lib.bytesOf (restR R key)).toArray⟩) w')) (fun w h => h.1) _ _ _ _ ?_
          have hHeld := And.intro hHeld cvA
          refine wpAnyH_yields (i := 12) (oi := ?_) (v := ?_) ?_ (by kernel_rfl) (by kernel_rfl) (by kernel_rfl) (by assumption) ?_ ?_ ?_ ?_
          rotate_left 2
          · (simp only [List.getElem?_toArray, List.getElem?_cons_succ, List.getElem?_cons_zero] <;> exact rfl)
          · rfl
          · (intro w' hSw; obtain ⟨⟨g0, g1, g2, g3, g4, g5, g6, g7⟩, g8⟩ := hSw; go_simp <;> with_reducible rfl)
          · exact fun _ _ _ h => h
          simp only [Act.put, List.setIfInBounds_toArray, List.set]
          refine wpAnyH_ready (rs := [15]) (by kernel_rfl) (by simp) (AllReadyH.cons (o := ?_) ?_ (fun K hK => ?_) AllReadyH.nil)
          rotate_left 1
          · (simp only [List.getElem?_toArray, List.getElem?_cons_succ, List.getElem?_cons_zero] <;> exact rfl)
          go_simp
          go_at_call 11
          refine hrB.mono ?_
          rintro r wy ⟨Ay, dy, rfl, _, hv, hby⟩
          have cvB := run_str hv.reads HRb.out
          have HVA2 := hide (Reads.past HVA.out hby)
          have cvA2 := run_str (Reads.past HVA.out hby) HRb.out
          have HBy := hide (HBz.out.trans (hby.mono HBz.out.size))
          have HHy := hide (HHz.out.past hby)
          have y0 := cell_later hby z0
          have y1 := cell_later hby z1
          have y2 := cell_later hby z2
          have y3 := cell_later hby z3
          have y4 := cell_later hby z4
          have y5 := cell_later hby z5
          have y6 := cell_later hby z6
          have y7 := cell_later hby z7
          clear hv hby hrB z0 z1 z2 z3 z4 z5 z6 z7 cvA hHeld
          refine hK.out _ _ (⟨⟨y0, y1, y2, y3, y4, y5, y6, y7⟩, cvA2⟩) (fun hHeld => ?_)
          clear hK K
          try simp only [List.setIfInBounds_toArray, List.set_cons_zero, List.set_cons_succ]
          refine wpAnyH_ready (rs := [16]) (by kernel_rfl) (by simp) (AllReadyH.cons (o := ?_) ?_ (fun K hK => ?_) AllReadyH.nil)
          rotate_left 1
          · (simp only [List.getElem?_toArray, List.getElem?_cons_succ, List.getElem?_cons_zero] <;> exact rfl)
          go_simp
          refine hK.out _ _ (⟨⟨y0, y1, y2, y3, y4, y5, y6, y7⟩, cvA2⟩) (fun hHeld => ?_)
          clear hK K
          try simp only [List.setIfInBounds_toArray, List.set_cons_zero, List.set_cons_succ]
          refine wpAnyH_yields (i := 17) (oi := ?_) (v := ?_) ?_ (by kernel_rfl) (by kernel_rfl) (by kernel_rfl) (by assumption) ?_ ?_ ?_ ?_
          rotate_left 2
          · (simp only [List.getElem?_toArray, List.getElem?_cons_succ, List.getElem?_cons_zero] <;> exact rfl)
          · rfl
          · (intro w' hSw; obtain ⟨⟨g0, g1, g2, g3, g4, g5, g6, g7⟩, g8⟩ := hSw; go_simp <;> with_reducible rfl)
          · exact fun _ _ _ h => h
          simp only [Act.put, List.setIfInBounds_toArray, List.set]
          refine wpAnyH_yields (i := 18) (oi := ?_) (v := ?_) ?_ (by kernel_rfl) (by kernel_rfl) (by kernel_rfl) (by assumption) ?_ ?_ ?_ ?_
          rotate_left 2
          · (simp only [List.getElem?_toArray, List.getElem?_cons_succ, List.getElem?_cons_zero] <;> exact rfl)
          · rfl
          · (intro w' hSw; obtain ⟨⟨g0, g1, g2, g3, g4, g5, g6, g7⟩, g8⟩ := hSw; go_simp <;> with_reducible rfl)
          · exact fun _ _ _ h => h
          simp only [Act.put, List.setIfInBounds_toArray, List.set]
          refine wpAnyH_yields (i := 19) (oi := ?_) (v := ?_) ?_ (by kernel_rfl) (by kernel_rfl) (by kernel_rfl) (by assumption) ?_ ?_ ?_ ?_
          rotate_left 2
          · (simp only [List.getElem?_toArray, List.getElem?_cons_succ, List.getElem?_cons_zero] <;> exact rfl)
          · rfl
          · (intro w' hSw; obtain ⟨⟨g0, g1, g2, g3, g4, g5, g6, g7⟩, g8⟩ := hSw; go_simp <;> with_reducible rfl)
          · exact fun _ _ _ h => h
          simp only [Act.put, List.setIfInBounds_toArray, List.set]
          refine wpAnyH_yields (i := 20) (oi := ?_) (v := ?_) ?_ (by kernel_rfl) (by kernel_rfl) (by kernel_rfl) (by assumption) ?_ ?_ ?_ ?_
          rotate_left 2
          · (simp only [List.getElem?_toArray, List.getElem?_cons_succ, List.getElem?_cons_zero] <;> exact rfl)
          · rfl
          · (intro w' hSw; obtain ⟨⟨g0, g1, g2, g3, g4, g5, g6, g7⟩, g8⟩ := hSw; go_simp <;> with_reducible rfl)
          · exact fun _ _ _ h => h
          simp only [Act.put, List.setIfInBounds_toArray, List.set]
          refine wpAnyH_yields (i := 22) (oi := ?_) (v := ?_) ?_ (by kernel_rfl) (by kernel_rfl) (by kernel_rfl) (by assumption) ?_ ?_ ?_ ?_
          rotate_left 2
          · (simp only [List.getElem?_toArray, List.getElem?_cons_succ, List.getElem?_cons_zero] <;> exact rfl)
          · rfl
          · (intro w' hSw; obtain ⟨⟨g0, g1, g2, g3, g4, g5, g6, g7⟩, g8⟩ := hSw; go_simp <;> with_reducible rfl)
          · exact fun _ _ _ h => h
          simp only [Act.put, List.setIfInBounds_toArray, List.set]
          refine wpAnyH_ready (rs := [21]) (by kernel_rfl) (by simp) (AllReadyH.cons (o := ?_) ?_ (fun K hK => ?_) AllReadyH.nil)
          rotate_left 1
          · (simp only [List.getElem?_toArray, List.getElem?_cons_succ, List.getElem?_cons_zero] <;> exact rfl)
          go_simp
          go_at_call 25
          refine (hist_text HHy.out.h1 (HT.out.past HBy.out) (by have := HW.out.len; have := HN.out; omega) (HW.out.told (by have := HN2.out; omega))).mono ?_
          rintro r ws ⟨rfl, hbt⟩
          have HBs := hide (HBy.out.trans (hbt.mono HBy.out.size))
          have HHs := hide (HHy.out.past hbt)
          have HVAs := hide (Reads.past HVA2.out hbt)
          have cvAs := run_str HVAs.out HRb.out
          have s0 := cell_later hbt y0
          have s1 := cell_later hbt y1
          have s2 := cell_later hbt y2
          have s3 := cell_later hbt y3
          have s4 := cell_later hbt y4
          have s5 := cell_later hbt y5
          have s6 := cell_later hbt y6
          have s7 := cell_later hbt y7
          clear hbt y0 y1 y2 y3 y4 y5 y6 y7 cvA2 hHeld
          refine hK.out _ _ (⟨⟨s0, s1, s2, s3, s4, s5, s6, s7⟩, cvAs⟩) (fun hHeld => ?_)
          clear hK K
          try simp only [List.setIfInBounds_toArray, List.set_cons_zero, List.set_cons_succ]
          refine wpAnyH_ready (rs := [23]) (by kernel_rfl) (by simp) (AllReadyH.cons (o := ?_) ?_ (fun K hK => ?_) AllReadyH.nil)
          rotate_left 1
          · (simp only [List.getElem?_toArray, List.getElem?_cons_succ, List.getElem?_cons_zero] <;> exact rfl)
          go_simp
          go_at_call 25
          refine (hist_text HHs.out.h2 (HT.out.past HBs.out) (by have := HW.out.len; have := HN.out; omega) (HW.out.told (by have := HN2.out; omega))).mono ?_
          rintro r wt ⟨rfl, hbt⟩
          have HBt := hide (HBs.out.trans (hbt.mono HBs.out.size))
          have HHt := hide (HHs.out.past hbt)
          have HVAt := hide (Reads.past HVAs.out hbt)
          have cvAt := run_str HVAt.out HRb.out
          have t0 := cell_later hbt s0
          have t1 := cell_later hbt s1
          have t2 := cell_later hbt s2
          have t3 := cell_later hbt s3
          have t4 := cell_later hbt s4
          have t5 := cell_later hbt s5
          have t6 := cell_later hbt s6
          have t7 := cell_later hbt s7
          clear hbt s0 s1 s2 s3 s4 s5 s6 s7 cvAs hHeld
          refine hK.out _ _ (⟨⟨t0, t1, t2, t3, t4, t5, t6, t7⟩, cvAt⟩) (fun hHeld => ?_)
          clear hK K
          try simp only [List.setIfInBounds_toArray, List.set_cons_zero, List.set_cons_succ]
          refine wpAnyH_yields (i := 24) (oi := ?_) (v := ?_) ?_ (by kernel_rfl) (by kernel_rfl) (by kernel_rfl) (by assumption) ?_ ?_ ?_ ?_
          rotate_left 2
          · (simp only [List.getElem?_toArray, List.getElem?_cons_succ, List.getElem?_cons_zero] <;> exact rfl)
          · rfl
          · (intro w' hSw; obtain ⟨⟨g0, g1, g2, g3, g4, g5, g6, g7⟩, g8⟩ := hSw; go_simp <;> with_reducible rfl)
          · exact fun _ _ _ h => h
          simp only [Act.put, List.setIfInBounds_toArray, List.set]
          refine wpAnyH_yields (i := 25) (oi := ?_) (v := ?_) ?_ (by kernel_rfl) (by kernel_rfl) (by kernel_rfl) (by assumption) ?_ ?_ ?_ ?_
          rotate_left 2
          · (simp only [List.getElem?_toArray, List.getElem?_cons_succ, List.getElem?_cons_zero] <;> exact rfl)
          · rfl
          · (intro w' hSw; obtain ⟨⟨g0, g1, g2, g3, g4, g5, g6, g7⟩, g8⟩ := hSw; go_simp <;> with_reducible rfl)
          · exact fun _ _ _ h => h
          simp only [Act.put, List.setIfInBounds_toArray, List.set]
          refine wpAnyH_done (by kernel_rfl) ?_ _
          go_wp2
          go_meet
          case rel => exact ⟨rfl, hide ⟨HHt.out, HBt.out⟩⟩
        case rest => as_aux_lemma =>
          obtain ⟨rfl, hx⟩ := hcut
          have HR : Hid (Rel w wc c1 c2 (i + 1) (rem ops (i + 1))) := hide ⟨D1, D2, R, N, hx.out.1, HW.out, HRem.out, hx.out.2⟩
          have hnn := HN.out
          clear hx
          go_wp2
          go_round
          case rel => exact ⟨i + 1, by omega, by go_num, HR⟩
          case measure => simp [intOf]; omega
    · obtain rfl : i = ns := by omega
      go_wp2
      go_ret
      exact ⟨rfl, HR.out.below⟩
end traceSplit
end Go.Proofs.YtipfjnjjfojdgaaDoor
