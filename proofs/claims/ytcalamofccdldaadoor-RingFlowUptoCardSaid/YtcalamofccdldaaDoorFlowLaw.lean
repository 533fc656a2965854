/-
  RingFlow (bulk of the arguments at most 1048576): for every capacity and every flows the law returns true: what came out, what was let go and what is in the ring, one behind the other, is what went in.
-/
import Derived.Test.YtcalamofccdldaaDoorFlowW
namespace Go.Proofs.YtcalamofccdldaaDoor.ringFlow
open Go Go.RowKit Go.Cu Go.Proofs.YtcalamofccdldaaDoor

set_option maxRecDepth 10000 in
set_option maxHeartbeats 8000000 in
theorem walk (w : World) (capacity : Int) (v : Value) (n : Nat) (fs : List FlowD) (h : Flows w v n fs) (u : TypeId) (x : Value) (hE : w.cell? ⟨0, 0, none⟩ = some (.iface u x)) :
    Calls Tryd.prog 3 #[.int .i64 capacity, v] w fun e w' => e = .returned (.bool true) ∧ Below w.heap.size w w' := by
  have HS := hide h
  obtain ⟨A, c, rfl⟩ := h.reads.shape
  have hroom := h.room
  have HL := hide h.length
  clear h
  by_cases hcap : capacity < 0 ∨ 2147483647 < capacity
  · have hcap' : capacity < 0 ∨ (¬ capacity < 0 ∧ 2147483647 < capacity) := by omega
    have HC := hide hcap
    clear hcap
    rcases hcap' with h1 | ⟨h1, h2⟩
    all_goals
      go_enter Tryd.func3, Tryd.ntmps3
      go_wp2_with fail
      refine (fixed_true w).mono ?_
      rintro e w1 ⟨rfl, hb1⟩
      have HB1 := hide hb1
      have hE1 := hide ((hb1.cell (World.block_lt_of_cell? w _ hE)).trans hE)
      clear hb1
      go_wp2_with fail
      refine (RB.new_bad w1 capacity HC.out _ hE1.out).mono ?_
      rintro e w2 ⟨rfl, hb2⟩
      have HB2 := hide hb2
      clear hb2
      go_wp2
      go_ret
      exact ⟨rfl, HB1.out.trans (HB2.out.mono HB1.out.size)⟩
  · obtain ⟨cap, rfl⟩ : ∃ cap : Nat, capacity = (cap : Int) := ⟨capacity.toNat, by omega⟩
    have hcap' : cap ≤ 2147483647 := by omega
    clear hcap
    go_enter Tryd.func3, Tryd.ntmps3
    go_wp2_with fail
    refine (fixed_true w).mono ?_
    rintro e w1 ⟨rfl, hb1⟩
    have HB1 := hide hb1
    clear hb1
    go_wp2_with fail
    refine (RB.new_any w1 cap hcap').mono ?_
    rintro e w2 ⟨b, rfl, hr, hb2⟩
    have hs1 := HB1.out.size
    have HB2 := hide (HB1.out.trans (hb2.mono hs1))
    have HF2 : Hid (FS w w2 (fun j => w1.heap.size ≤ j ∧ j < w2.heap.size) (fun _ => False) (fun _ => False) b cap none 0 none 0 [] [] []) :=
      ⟨hr, Row.nil _ _ _ _, Row.nil _ _ _ _, fun _ _ => ⟨fun h => h, fun h => h⟩, fun _ h => h.elim, fun k hk => by have := hk.1; omega, fun _ h => h.elim, fun _ h => h.elim⟩
    clear hr hb2 hs1 hE
    go_wp2
    go_loopw [7, 8, 41] (fun v1 v2 t wr => ∃ i : Nat, i ≤ n ∧ t = .int .i64 i ∧ ∃ (inn out held : List UInt8) (A1 : Option Addr) (c1 : Nat) (A2 : Option Addr) (c2 : Nat), v1 = .slice A1 inn.length c1 ∧ v2 = .slice A2 out.length c2 ∧ inn.length ≤ total fs i ∧ Hid (out ++ held = inn) ∧
      Hid (∃ F G1 G2, FS w wr F G1 G2 b cap A1 c1 A2 c2 inn out held) ∧ Hid (Below w.heap.size w wr)) (fun _ _ t _ => n - (intOf t).toNat)
    case atStart => exact ⟨0, Nat.zero_le _, rfl, [], [], [], none, 0, none, 0, rfl, rfl, Nat.zero_le _, rfl, ⟨_, _, _, HF2.out⟩, HB2.out⟩
    case round =>
      clear HF2 HB2 HB1
      obtain ⟨i, hi, rfl, inn, out, held, A1, c1, A2, c2, rfl, rfl, hin, hsum, hst, hbel⟩ := hrel
      obtain ⟨F, G1, G2, hfs⟩ := hst.out
      have HF := hide hfs
      have hws := hbel.out.size
      have htot := total_le HL.out hi
      clear hst hfs
      by_cases hlt : i < n
      · obtain ⟨f, hf⟩ : ∃ f, fs[i]? = some f := ⟨_, List.getElem?_eq_getElem (by have := HL.out; omega)⟩
        have HU := hide (flat_get flowCell_length hf)
        have hmem := List.mem_of_getElem? hf
        have htot' := total_succ hf
        have htot2 := total_le HL.out (show i + 1 ≤ n by omega)
        have hnc := (HS.out.each f hmem).2.1
        have hbd := bounds_i64 (HS.out.each f hmem).2.2
        have HRd := hide (HS.out.each f hmem).1
        have HScr := hide (Reads.below HS.out.reads hbel.out)
        clear hf hmem
        obtain ⟨fr, hfr⟩ : ∃ fr, cap - held.length = fr := ⟨_, rfl⟩
        obtain ⟨k, hk⟩ : ∃ k, min f.n fr = k := ⟨_, rfl⟩
        have hfc : fr ≤ 2147483647 := by omega
        have HFr := hide hfr
        have HK := hide (show min f.n (cap - (bytesV held).length) = k by rw [bytesV_length, hfr]; exact hk)
        have hcs : (fr < f.n ∧ fr = k) ∨ (¬ fr < f.n ∧ f.n = k) := by omega
        have hkn : k ≤ f.n := by omega
        have hkc : k ≤ f.c := by omega
        have hbl : f.bs.length = f.n := by have := HRd.out.1; rw [bytesV_length] at this; omega
        have htk : (f.bs.take k).length = k := by rw [List.length_take]; omega
        have HTk := hide htk
        obtain ⟨i0, hi0, hz0, hz1, hz2⟩ := info_parts RB.info_e
        have hlowF := HF.out.ring.lt
        have HlowF := hide hlowF
        obtain ⟨held2, hheld2⟩ : ∃ held2, held ++ f.bs.take k = held2 := ⟨_, rfl⟩
        have HH2 := hide hheld2
        have hal := (Below.refl wr.heap.size wr).alloc (Nat.le_refl _) (.cells #[.slice f.A f.n f.c, .int .i64 f.out, .bool f.drop] 31)
        have HF0 := hide (HF.out.below hal)
        have HB0 := hide (hbel.out.trans (hal.mono hws))
        have HR0 : Hid (RdOut (wr.alloc (.cells #[.slice f.A f.n f.c, .int .i64 f.out, .bool f.drop] 31)) F (.slice f.A f.n f.c) f.n (bytesV f.bs)) := by
          have hrd := Reads.below HRd.out HB0.out
          refine ⟨hrd, fun ad c' e => ?_⟩
          by_cases hn0 : f.n = 0
          · exact .inl hn0
          · right
            obtain ⟨ad', c'', e', hc⟩ := reads_pos HRd.out (by omega)
            have hlt0 := World.block_lt_of_cell? _ _ (hc 0 _ (List.getElem?_eq_getElem (by rw [bytesV_length]; omega)))
            rw [add_block] at hlt0
            rw [e] at e'
            injection e' with e' _ _
            injection e' with e'
            subst e'
            exact ⟨fun hf => by have := HF.out.lowF _ hf; omega, by simp; omega⟩
        have hh2 : held2.length = held.length + k := by rw [← hheld2, List.length_append, htk]
        have hio : out.length + held.length = inn.length := by rw [← hsum.out, List.length_append]
        obtain ⟨kk, hkk, hkl, hcs2⟩ := RB.cnt_cases f.out held2.length
        clear hfr hk hheld2 hal hbl htk hlowF hkk
        cases hd : f.drop
        all_goals
          rcases hcs with ⟨hlt2, he⟩ | ⟨hlt2, he⟩
        all_goals
          have HD := hide hd
          have hc := congrArg (fun x : Nat => (x : Int)) he
          first
            | have hlt3 : k < f.n := by omega
            | have hlt3 : ¬ fr < k := by omega
          clear he hd
          go_wp2_with (first
            | ((with_reducible refine at_index rfl ?_); refine wpList_atS rfl rfl _ _ 22 31 _ rfl rfl rfl (by simp) Tryd.underlying22 (by decide) size_flow agg_flow rfl HScr.out rfl (by omega) (by omega) (us := [.slice f.A f.n f.c, .int .i64 f.out, .bool f.drop]) rfl HU.out ?_; intro p)
            | (go_at_call 11; refine (freeB _ F b cap held fr HF0.out.ring HFr.out).mono ?_; rintro e w3 ⟨rfl, rfl⟩))
          refine (RB.push_any _ F b cap (bytesV held) 0 f.A f.n f.c (bytesV f.bs) k HF0.out.ring HR0.out hnc (bytesV_one _) HK.out).mono ?_
          rintro e w4 ⟨rfl, hr, hm⟩
          have hm' := hm.mono (G := F) (fun _ _ h => h)
          have HF4 : Hid (FS w w4 (Wide F (wr.alloc (.cells #[.slice f.A f.n f.c, .int .i64 f.out, .bool f.drop] 31)) w4) G1 G2 b cap A1 c1 A2 c2 inn out held2) :=
            FS.ringStep HF0.out (by rw [← HH2.out, ← bytesV_append, ← bytesV_take]; exact hr) hm (fun j hj => hj.imp id (fun h => h.1)) (by simp; omega)
          have hC4 := (Cel.made wr f).kept hm (fun hf => by have := HlowF.out _ hf; omega)
          have d0 := hC4.c0
          have d2 := hC4.c2
          have hd := HD.out
          have HC4 := hide hC4
          have HB4 := hide (HB0.out.trans (hm.below (by simp; omega) HF.out.lowF))
          have HR4 := hide ((Reads.below HRd.out HB4.out).cut hnc (Nat.zero_le k) hkn)
          clear hr hm hm' hC4
          go_wp2_with (first
            | ((with_reducible refine at_slice rfl ?_); refine wpList_cut_hi rfl _ _ 29 5 rfl Tryd.underlying29 RB.size_e rfl rfl rfl hkc ?_)
            | (at_builtin; refine wpList_append_row rfl _ _ 29 rfl 5 i0 (.int .u8 0) 1 1 Tryd.underlying29 hi0 hz0 hz1 hz2 rfl (by decide) rfl HF4.out.row1 (news := bytesV (f.bs.take k)) rfl (by have := HR4.out; rw [cutV_zero, Nat.zero_mul, List.drop_zero, Nat.sub_zero, Nat.mul_one, bytesV_take] at this; exact this) (bytesV_one _) (by unfold maxLen; omega) (by omega) ?_; intro A5 c5 w5 hr5 hm5
               have HF5 := hide (FS.inStep HF4.out HTk.out hr5 hm5 HB4.out.size)
               have hC5 := HC4.out.kept hm5 (fun hg => by have := (HF.out.low1 _ hg).2; omega)
               have e1 := hC5.c1
               have e2 := hC5.c2
               have HC5 := hide hC5
               have HB5 := hide (HB4.out.trans (hm5.below HB4.out.size (fun j hj => (HF.out.low1 j hj).1)))
               clear hr5 hm5 hC5 d0 d2))
          have hnp : Hid (¬ Wide F (wr.alloc (.cells #[.slice f.A f.n f.c, .int .i64 f.out, .bool f.drop] 31)) w4 wr.heap.size) := by
            rintro (hf | hf)
            · have := HlowF.out _ hf; omega
            · have := hf.1; simp at this; omega
          have hcs3 : Hid ((f.out < 0 ∧ kk = 0) ∨ (¬ f.out < 0 ∧ ¬ (held2.length : Int) < f.out ∧ f.out = kk) ∨ (¬ f.out < 0 ∧ (held2.length : Int) < f.out ∧ held2.length = kk)) := hide (by omega)
          clear hcs2
          have hkb : out.length + kk ≤ inn.length + k := by omega
          rcases hcs3.out with ⟨g1, g2⟩ | ⟨g1, g2, g3⟩ | ⟨g1, g2, g3⟩
          all_goals (first
            | (have gz1 : ¬ (0 : Int) < (kk : Int) := by omega
               have gz2 : ((kk : Int) != 0) = false := by rw [g2]; rfl
               have gz3 : ((kk : Int) == 0) = true := by rw [g2]; rfl
               clear g2)
            | (have hc2 : (held2.length : Int) = (kk : Int) := by omega
               clear g3 hh2)
            | skip)
          all_goals
            go_wp2_with (first
              | (go_at_call 16; refine (popB w5 _ b cap held2 _ kk HF5.out.ring (by omega)).mono ?_; rintro e w6 ⟨A6, c6, rfl, hr6, hg6, hm6⟩
                 have HF6 := hide (FS.ringStep HF5.out hg6 hm6 (fun j hj => .inl hj) HB5.out.size)
                 have HS6 := hide hr6.reads
                 have HB6 := hide (HB5.out.trans (hm6.below HB5.out.size HF5.out.lowF))
                 have q1 := (HC5.out.kept hm6 hnp.out).c1
                 clear hr6 hg6 hm6 e1 e2)
              | (go_at_call 14; refine (lenB w5 _ b cap held2 HF5.out.ring).mono ?_; rintro e wz ⟨rfl, rfl⟩)
              | (go_at_call 13; refine (peekB w5 _ b cap held2 _ held2.length HF5.out.ring (by omega)).mono ?_; rintro e wa ⟨A6, c6, rfl, hra, hba⟩
                 have hca : held2.length ≤ c6 := by obtain ⟨_, _, ee, h1, _⟩ := hra.shape; injection ee with _ _ ee; omega
                 have HRa := hide hra
                 have HFa := hide (HF5.out.below hba)
                 have HBa := hide (HB5.out.trans (hba.mono HB5.out.size))
                 have hCa := HC5.out.kept (Mod.ofBelow hba (fun _ => False)) (fun h => h)
                 have r1 := hCa.c1
                 have HCa := hide hCa
                 have HSa := hide hba.size
                 clear hra hba hCa e1 e2)
              | (go_at_call 15; refine (dropB wa _ b cap held2 _ kk HFa.out.ring (by omega)).mono ?_; rintro e w6 ⟨rfl, hg6, hm6⟩
                 have HF6 := hide (FS.ringStep HFa.out hg6 hm6 (fun j hj => .inl hj) HBa.out.size)
                 have HS6 : Hid (Reads w6 1 (.slice A6 kk c6) kk (bytesV (held2.take kk))) := by
                   have h1 := (HRa.out.kept hm6 (fun j hj _ hf => by have h2 : w5.heap.size ≤ j := hj; have := HF5.out.ring.lt j hf; omega)).reads.cut hca (Nat.zero_le kk) hkl
                   rw [cutV_zero, Nat.zero_mul, List.drop_zero, Nat.sub_zero, Nat.mul_one, bytesV_take, List.take_take, Nat.min_eq_left hkl] at h1
                   exact h1
                 have HB6 := hide (HBa.out.trans (hm6.below HBa.out.size HFa.out.lowF))
                 have q1 := (HCa.out.kept hm6 hnp.out).c1
                 clear hg6 hm6 r1)
              | ((with_reducible refine at_slice rfl ?_); refine wpList_cut_hi rfl _ _ 29 5 rfl Tryd.underlying29 RB.size_e rfl rfl rfl (by omega) ?_)
              | (at_builtin; refine wpList_append_row rfl _ _ 29 rfl 5 i0 (.int .u8 0) 1 1 Tryd.underlying29 hi0 hz0 hz1 hz2 rfl (by decide) rfl HF6.out.row2 (news := bytesV (held2.take kk)) rfl HS6.out (bytesV_one _) (by unfold maxLen; omega) (by omega) ?_; intro A7 c7 w7 hr7 hm7
                 have HF7 := hide (FS.outStep HF6.out (by rw [List.length_take]; omega) hr7 hm7 HB6.out.size)
                 have HB7 := hide (HB6.out.trans (hm7.below HB6.out.size (fun j hj => (HF6.out.low2 j hj).1)))
                 clear hr7 hm7 q1))

            have HH3 : Hid (out ++ List.take kk held2 ++ List.drop kk held2 = inn ++ List.take k f.bs) := hide (by
              rw [List.append_assoc, List.take_append_drop, ← HH2.out, ← List.append_assoc, hsum.out])
            obtain ⟨in2, hin2⟩ : ∃ x, inn ++ f.bs.take k = x := ⟨_, rfl⟩
            obtain ⟨out2, hout2⟩ : ∃ x, out ++ held2.take kk = x := ⟨_, rfl⟩
            obtain ⟨held3, hheld3⟩ : ∃ x, held2.drop kk = x := ⟨_, rfl⟩
            have HL1 : in2.length = inn.length + k := by rw [← hin2, List.length_append, HTk.out]
            have HL2 : out2.length = out.length + kk := by rw [← hout2, List.length_append, List.length_take]; omega
            rw [hin2, hout2, hheld3] at HF7
            obtain ⟨F7, G71, G72, hK7⟩ : ∃ F7 G71 G72, Keep w F7 G71 G72 b cap A5 c5 A7 c7 in2 out2 held3 w7 := ⟨_, _, _, HF7.out, HB7.out⟩
            have HK7 := hide hK7
            clear hK7
            have hcat0 := HH3.out
            rw [hin2, hout2, hheld3] at hcat0
            have hcat : (⟨out2.toArray⟩ : ByteArray) ++ ⟨held3.toArray⟩ = ⟨in2.toArray⟩ := by
              apply ByteArray.ext
              rw [ByteArray.data_append, ← hcat0]
              simp
            have HCat := hide hcat0
            clear hcat0 hin2 hout2 hheld3 HH3
            obtain ⟨fr3, hfr3⟩ : ∃ x, cap - held3.length = x := ⟨_, rfl⟩
            have hft := HF7.out.ring.fits.1
            rw [bytesV_length] at hft
            have hlf : (held3.length : Int) + (fr3 : Int) = (cap : Int) := by omega
            have hwc : IntKind.i64.wrap (cap : Int) = (cap : Int) := by rw [IntKind.wrap_i64]; omega
            have hS := St.mk (Keep.drew HK7.out) HL1 HL2
            unfold St at hS
            have hl2 : out2.length + held3.length = in2.length := by rw [← HCat.out, List.length_append]
            have hsz : ¬ 9223372036854775807 < out.length + kk + held3.length := by omega
            refine wp_region_held_n (n := 20) (l := #[false, false, false, false, false, false, false, false, false, false, false, false, false, false, false, false, false, false, false, false]) (S := (fun w' => (convert 29 9 (.slice A5 (inn.length + k) c5)).run Tryd.prog w' = .ok (.string ⟨in2.toArray⟩) w' ∧ (convert 29 9 (.slice A7 (out.length + kk) c7)).run Tryd.prog w' = .ok (.string ⟨out2.toArray⟩) w' ∧ Keep w F7 G71 G72 b cap A5 c5 A7 c7 in2 out2 held3 w')) rfl rfl (by kernel_rfl) hS ?_
            refine wpAnyH_yields (i := 0) (oi := ?_) (v := ?_) ?_ (by kernel_rfl) (by kernel_rfl) (by kernel_rfl) (by assumption) ?_ ?_ ?_ ?_
            rotate_left 2
            · (simp only [List.getElem?_toArray, List.getElem?_cons_zero] <;> exact rfl)
            · rfl
            · (intro w' hSw; obtain ⟨hq1, hq2, hq3⟩ := hSw; go_simp <;> with_reducible rfl)
            · exact fun _ _ _ h => h
            simp only [Act.put, List.setIfInBounds_toArray, List.set]
            refine wpAnyH_yields (i := 2) (oi := ?_) (v := ?_) ?_ (by kernel_rfl) (by kernel_rfl) (by kernel_rfl) (by assumption) ?_ ?_ ?_ ?_
            rotate_left 2
            · (simp only [List.getElem?_toArray, List.getElem?_cons_succ, List.getElem?_cons_zero] <;> exact rfl)
            · rfl
            · (intro w' hSw; obtain ⟨hq1, hq2, hq3⟩ := hSw; go_simp <;> with_reducible rfl)
            · exact fun _ _ _ h => h
            simp only [Act.put, List.setIfInBounds_toArray, List.set]
            refine wpAnyH_yields (i := 5) (oi := ?_) (v := ?_) ?_ (by kernel_rfl) (by kernel_rfl) (by kernel_rfl) (by assumption) ?_ ?_ ?_ ?_
            rotate_left 2
            · (simp only [List.getElem?_toArray, List.getElem?_cons_succ, List.getElem?_cons_zero] <;> exact rfl)
            · rfl
            · (intro w' hSw; obtain ⟨hq1, hq2, hq3⟩ := hSw; go_simp <;> with_reducible rfl)
            · exact fun _ _ _ h => h
            simp only [Act.put, List.setIfInBounds_toArray, List.set]
            refine wpAnyH_ready (rs := [1]) (by kernel_rfl) (by simp) (AllReadyH.cons (o := ?_) ?_ (fun K hK => ?_) AllReadyH.nil)
            rotate_left 1
            · (simp only [List.getElem?_toArray, List.getElem?_cons_succ, List.getElem?_cons_zero] <;> exact rfl)
            go_simp
            go_at_call 14; refine (lenS (by assumption)).mono ?_; rintro e wz ⟨rfl, rfl⟩
            refine hK.out _ _ (by assumption) (fun hHeld => ?_)
            clear hK K hHeld
            try simp only [List.setIfInBounds_toArray, List.set_cons_zero, List.set_cons_succ]
            refine wpAnyH_ready (rs := [3]) (by kernel_rfl) (by simp) (AllReadyH.cons (o := ?_) ?_ (fun K hK => ?_) AllReadyH.nil)
            rotate_left 1
            · (simp only [List.getElem?_toArray, List.getElem?_cons_succ, List.getElem?_cons_zero] <;> exact rfl)
            go_simp
            go_at_call 11; refine (freeS fr3 hfr3 (by assumption)).mono ?_; rintro e wz ⟨rfl, rfl⟩
            refine hK.out _ _ (by assumption) (fun hHeld => ?_)
            clear hK K hHeld
            try simp only [List.setIfInBounds_toArray, List.set_cons_zero, List.set_cons_succ]
            refine wpAnyH_yields (i := 4) (oi := ?_) (v := ?_) ?_ (by kernel_rfl) (by kernel_rfl) (by kernel_rfl) (by assumption) ?_ ?_ ?_ ?_
            rotate_left 2
            · (simp only [List.getElem?_toArray, List.getElem?_cons_succ, List.getElem?_cons_zero] <;> exact rfl)
            · rfl
            · (intro w' hSw; obtain ⟨hq1, hq2, hq3⟩ := hSw; go_simp <;> with_reducible rfl)
            · exact fun _ _ _ h => h
            simp only [Act.put, List.setIfInBounds_toArray, List.set]
            refine wpAnyH_yields (i := 6) (oi := ?_) (v := ?_) ?_ (by kernel_rfl) (by kernel_rfl) (by kernel_rfl) (by assumption) ?_ ?_ ?_ ?_
            rotate_left 2
            · (simp only [List.getElem?_toArray, List.getElem?_cons_succ, List.getElem?_cons_zero] <;> exact rfl)
            · rfl
            · (intro w' hSw; obtain ⟨hq1, hq2, hq3⟩ := hSw; go_simp <;> with_reducible rfl)
            · exact fun _ _ _ h => h
            simp only [Act.put, List.setIfInBounds_toArray, List.set]
            refine wpAnyH_yields (i := 7) (oi := ?_) (v := ?_) ?_ (by kernel_rfl) (by kernel_rfl) (by kernel_rfl) (by assumption) ?_ ?_ ?_ ?_
            rotate_left 2
            · (simp only [List.getElem?_toArray, List.getElem?_cons_succ, List.getElem?_cons_zero] <;> exact rfl)
            · rfl
            · (intro w' hSw; obtain ⟨hq1, hq2, hq3⟩ := hSw; go_simp <;> with_reducible rfl)
            · exact fun _ _ _ h => h
            simp only [Act.put, List.setIfInBounds_toArray, List.set]
            refine wpAnyH_yields (i := 8) (oi := ?_) (v := ?_) ?_ (by kernel_rfl) (by kernel_rfl) (by kernel_rfl) (by assumption) ?_ ?_ ?_ ?_
            rotate_left 2
            · (simp only [List.getElem?_toArray, List.getElem?_cons_succ, List.getElem?_cons_zero] <;> exact rfl)
            · rfl
            · (intro w' hSw; obtain ⟨hq1, hq2, hq3⟩ := hSw; go_simp <;> with_reducible rfl)
            · exact fun _ _ _ h => h
            simp only [Act.put, List.setIfInBounds_toArray, List.set]
            refine wpAnyH_yields (i := 9) (oi := ?_) (v := ?_) ?_ (by kernel_rfl) (by kernel_rfl) (by kernel_rfl) (by assumption) ?_ ?_ ?_ ?_
            rotate_left 2
            · (simp only [List.getElem?_toArray, List.getElem?_cons_succ, List.getElem?_cons_zero] <;> exact rfl)
            · rfl
            · (intro w' hSw; obtain ⟨hq1, hq2, hq3⟩ := hSw; go_simp <;> with_reducible rfl)
            · exact fun _ _ _ h => h
            simp only [Act.put, List.setIfInBounds_toArray, List.set]
            refine wpAnyH_yields (i := 10) (oi := ?_) (v := ?_) ?_ (by kernel_rfl) (by kernel_rfl) (by kernel_rfl) (by assumption) ?_ ?_ ?_ ?_
            rotate_left 2
            · (simp only [List.getElem?_toArray, List.getElem?_cons_succ, List.getElem?_cons_zero] <;> exact rfl)
            · rfl
            · (intro w' hSw; obtain ⟨hq1, hq2, hq3⟩ := hSw; go_simp <;> with_reducible rfl)
            · exact fun _ _ _ h => h
            simp only [Act.put, List.setIfInBounds_toArray, List.set]
            refine wpAnyH_yields (i := 11) (oi := ?_) (v := ?_) ?_ (by kernel_rfl) (by kernel_rfl) (by kernel_rfl) (by assumption) ?_ ?_ ?_ ?_
            rotate_left 2
            · (simp only [List.getElem?_toArray, List.getElem?_cons_succ, List.getElem?_cons_zero] <;> exact rfl)
            · rfl
            · (intro w' hSw; obtain ⟨hq1, hq2, hq3⟩ := hSw; go_simp <;> with_reducible rfl)
            · exact fun _ _ _ h => h
            simp only [Act.put, List.setIfInBounds_toArray, List.set]
            refine wpAnyH_yields (i := 16) (oi := ?_) (v := ?_) ?_ (by kernel_rfl) (by kernel_rfl) (by kernel_rfl) (by assumption) ?_ ?_ ?_ ?_
            rotate_left 2
            · (simp only [List.getElem?_toArray, List.getElem?_cons_succ, List.getElem?_cons_zero] <;> exact rfl)
            · rfl
            · (intro w' hSw; obtain ⟨hq1, hq2, hq3⟩ := hSw; go_simp <;> with_reducible rfl)
            · exact fun _ _ _ h => h
            simp only [Act.put, List.setIfInBounds_toArray, List.set]
            refine wpAnyH_yields (i := 17) (oi := ?_) (v := ?_) ?_ (by kernel_rfl) (by kernel_rfl) (by kernel_rfl) (by assumption) ?_ ?_ ?_ ?_
            rotate_left 2
            · (simp only [List.getElem?_toArray, List.getElem?_cons_succ, List.getElem?_cons_zero] <;> exact rfl)
            · rfl
            · (intro w' hSw; obtain ⟨hq1, hq2, hq3⟩ := hSw; go_simp <;> with_reducible rfl)
            · exact fun _ _ _ h => h
            simp only [Act.put, List.setIfInBounds_toArray, List.set]
            refine wpAnyH_ready (rs := [12]) (by kernel_rfl) (by simp) (AllReadyH.cons (o := ?_) ?_ (fun K hK => ?_) AllReadyH.nil)
            rotate_left 1
            · (simp only [List.getElem?_toArray, List.getElem?_cons_succ, List.getElem?_cons_zero] <;> exact rfl)
            go_simp
            go_at_call 14; refine (lenS (by assumption)).mono ?_; rintro e wz ⟨rfl, rfl⟩
            refine hK.out _ _ (by assumption) (fun hHeld => ?_)
            clear hK K hHeld
            try simp only [List.setIfInBounds_toArray, List.set_cons_zero, List.set_cons_succ]
            refine wpAnyH_ready (rs := [13]) (by kernel_rfl) (by simp) (AllReadyH.cons (o := ?_) ?_ (fun K hK => ?_) AllReadyH.nil)
            rotate_left 1
            · (simp only [List.getElem?_toArray, List.getElem?_cons_succ, List.getElem?_cons_zero] <;> exact rfl)
            go_simp
            go_at_call 13; refine (peekS _ _ HL1 HL2 (by assumption)).mono ?_; rintro e w8 ⟨A8, c8, rfl, hc8, hS8⟩; unfold St at hS8
            refine hK.out _ _ (by assumption) (fun hHeld => ?_)
            clear hK K hHeld
            try simp only [List.setIfInBounds_toArray, List.set_cons_zero, List.set_cons_succ]
            refine wpAnyH_strong (S2 := fun w' => w' = w8) (fun w' e => e ▸ hS8) _ _ _ _ ?_
            have hw8 : w8 = w8 := rfl
            refine wpAnyH_yields (i := 14) (oi := ?_) (v := ?_) ?_ (by kernel_rfl) (by kernel_rfl) (by kernel_rfl) (by assumption) ?_ ?_ ?_ ?_
            rotate_left 2
            · (simp only [List.getElem?_toArray, List.getElem?_cons_succ, List.getElem?_cons_zero] <;> exact rfl)
            · rfl
            · (intro w' hSw; subst hSw; go_simp <;> with_reducible rfl)
            · exact fun _ _ _ h => h
            simp only [Act.put, List.setIfInBounds_toArray, List.set]
            refine wpAnyH_yields (i := 15) (oi := ?_) (v := ?_) ?_ (by kernel_rfl) (by kernel_rfl) (by kernel_rfl) (by assumption) ?_ ?_ ?_ ?_
            rotate_left 2
            · (simp only [List.getElem?_toArray, List.getElem?_cons_succ, List.getElem?_cons_zero] <;> exact rfl)
            · rfl
            · (intro w' hSw; subst hSw; go_simp <;> with_reducible rfl)
            · exact fun _ _ _ h => h
            simp only [Act.put, List.setIfInBounds_toArray, List.set]
            refine wpAnyH_yields (i := 18) (oi := ?_) (v := ?_) ?_ (by kernel_rfl) (by kernel_rfl) (by kernel_rfl) (by assumption) ?_ ?_ ?_ ?_
            rotate_left 2
            · (simp only [List.getElem?_toArray, List.getElem?_cons_succ, List.getElem?_cons_zero] <;> exact rfl)
            · rfl
            · (intro w' hSw; subst hSw; go_simp <;> with_reducible rfl)
            · exact fun _ _ _ h => h
            simp only [Act.put, List.setIfInBounds_toArray, List.set]
            refine wpAnyH_yields (i := 19) (oi := ?_) (v := ?_) ?_ (by kernel_rfl) (by kernel_rfl) (by kernel_rfl) (by assumption) ?_ ?_ ?_ ?_
            rotate_left 2
            · (simp only [List.getElem?_toArray, List.getElem?_cons_succ, List.getElem?_cons_zero] <;> exact rfl)
            · rfl
            · (intro w' hSw; subst hSw; go_simp <;> with_reducible rfl)
            · exact fun _ _ _ h => h
            simp only [Act.put, List.setIfInBounds_toArray, List.set]
            refine wpAnyH_done (by kernel_rfl) ?_ _
            clear hw8
            clear hcat hS hsz hc8
            go_wp2
            go_roundw
            case rel => exact ⟨i + 1, by omega, by go_num, in2, out2, held3, A5, c5, A7, c7, by rw [HL1], by rw [HL2], by omega, HCat, ⟨F7, G71, G72, hS8.2.2.1⟩, hS8.2.2.2⟩
            case measure => simp [intOf]; omega
      · obtain rfl : i = n := by omega
        have hsub : (inn.length : Int) - (out.length : Int) = (held.length : Int) := by
          have hio : inn.length = out.length + held.length := by rw [← hsum.out, List.length_append]
          omega
        have hfl := HF.out.ring.fits
        rw [bytesV_length] at hfl
        have hwh : IntKind.i64.wrap (held.length : Int) = (held.length : Int) := by rw [IntKind.wrap_i64]; omega
        go_wp2_with fail
        refine (clearB wr F b cap held HF.out.ring).mono ?_
        rintro e w3 ⟨rfl, hr3, hm3⟩
        have HR3 := hide hr3
        have HB3 := hide (hbel.out.trans (hm3.below hws HF.out.lowF))
        clear hr3 hm3
        go_wp2_with fail
        refine (lenB w3 F b cap [] HR3.out).mono ?_
        rintro e w4 ⟨rfl, rfl⟩
        go_wp2_with fail
        refine (popB w3 F b cap [] 1 0 HR3.out (by simp)).mono ?_
        rintro e w5 ⟨A5, c5, rfl, _, _, hm5⟩
        have HB5 := hide (HB3.out.trans (hm5.below HB3.out.size HF.out.lowF))
        clear hm5
        go_wp2
        go_ret
        exact ⟨rfl, HB5.out⟩
end Go.Proofs.YtcalamofccdldaaDoor.ringFlow
