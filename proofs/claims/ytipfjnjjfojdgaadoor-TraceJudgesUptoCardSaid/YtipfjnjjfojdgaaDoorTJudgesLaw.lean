import Derived.Test.YtipfjnjjfojdgaaDoorTBook
import Derived.Test.YtipfjnjjfojdgaaDoorTBytes
import Derived.Test.YtipfjnjjfojdgaaDoorTFix
import Derived.Deep.DeepCutAuto
import Derived.Deep.CutBlock
import Derived.Deep.RegionLaw
import Derived.Deep.QuietTactic
import Derived.Test.YtipfjnjjfojdgaaDoorTHeld
/- TraceJudges. -/
namespace Go.Proofs.YtipfjnjjfojdgaaDoor
open Go Go.RowKit Go.Cu Go.Proofs.YtipfjnjjfojdgaaDoor.errs
namespace traceJudges

/-- between two rounds -/
def Rel (w0 w : World) (c : Nat) (key : Int) (A1 : Option Addr) (n1 c1 : Nat) (A2 : Option Addr) (n2 c2 : Nat) (cl en : Bool) (i rem : Nat) : Prop :=
  ∃ D FI FO R I O, JM w0.heap.size w c D FI FO R A1 n1 c1 A2 n2 c2 I O ∧ Bk key R I O cl en i ∧ n1 + rem ≤ 1048576 ∧ Below w0.heap.size w0 w
theorem Rel.below {w0 w : World} {c : Nat} {key : Int} {A1 : Option Addr} {n1 c1 : Nat} {A2 : Option Addr} {n2 c2 : Nat} {cl en : Bool} {i rem : Nat} (h : Rel w0 w c key A1 n1 c1 A2 n2 c2 cl en i rem) : Below w0.heap.size w0 w := by
  obtain ⟨_, _, _, _, _, _, _, _, _, h⟩ := h
  exact h
def rem (ops : List OpD) (i : Nat) : Nat := ((ops.drop i).map (·.len)).sum
theorem rem_at {ops : List OpD} {i : Nat} {o : OpD} (h : ops[i]? = some o) : rem ops i = o.len + rem ops (i + 1) := by
  obtain ⟨hi, rfl⟩ := List.getElem?_eq_some_iff.1 h
  unfold rem
  rw [List.drop_eq_getElem_cons hi, List.map_cons, List.sum_cons]
theorem slice_to (w : World) (A : Option Addr) (n c m : Nat) (hm : m ≤ c) : (Instr.sliceAt 26 (.slice A n c) none (some (.int .i64 (m : Int))) none).run Tryd.prog w = .ok (.slice A m c) w := by
  have h := run_sliceAt_hi w 26 5 1 Tryd.underlying26 size_byte A n c .i64 m hm
  rw [h]
  have e1 : (if c = 0 then A else A.map (·.add (0 * 1))) = A := by
    split
    · rfl
    · cases A with
      | none => rfl
      | some a => simp [Addr.add]
  rw [e1]
  rfl
theorem bytes_fit {xs L : List Int} (hx : ∀ x ∈ xs, 0 ≤ x ∧ x ≤ 255) (hL : ∀ x ∈ L, 0 ≤ x ∧ x ≤ 255) : (Lib.bytesOf (xs.take L.length) == Lib.bytesOf L) = decide (L <+: xs) := by
  rw [Bool.eq_iff_iff, beq_iff_eq, decide_eq_true_iff, List.prefix_iff_eq_take]
  constructor
  · intro h
    have h1 := congrArg (List.map (fun b : UInt8 => (b.toNat : Int))) h
    rw [nums_bytes (fun x hx' => hx x (List.mem_of_mem_take hx')), nums_bytes hL] at h1
    exact h1.symm
  · intro h
    rw [← h]
theorem gives_byte {o : OpD} {L : List Int} (ho : ∀ x ∈ o.bs, 0 ≤ x ∧ x ≤ 255) (hL : ∀ x ∈ L, 0 ≤ x ∧ x ≤ 255) : ∀ x ∈ givesL o L, 0 ≤ x ∧ x ≤ 255 := by
  unfold givesL
  split
  · exact fun x hx => hL x (List.mem_of_mem_take hx)
  · exact ho



set_option maxRecDepth 100000 in
set_option maxHeartbeats 8000000 in
theorem walk (w : World) (adr : Nat → Addr) (hS : Sent w adr) (hT : Tab w) (key : Int) (hk : wfi key) (sv : Value) (ns : Nat) (ops : List OpD) (hO : Ops w sv ns ops) :
    Calls Tryd.prog 6 #[.int .i64 key, sv] w fun e w' => e = .returned (.bool true) ∧ Below w.heap.size w w' := by
  have HS := hide hS
  have HT := hide hT
  have HK := hide hk
  have HO := hide hO
  obtain ⟨SA, sc, rfl⟩ := hO.reads.shape
  obtain ⟨i0, hi0, hz0, hz1, hz2⟩ := info_parts info_byte
  have HN : Hid (ns ≤ 1048576) := hide (by have := hO.sum; have := hO.length; omega)
  have HRem : Hid (rem ops 0 ≤ 1048576) := hide (by have := hO.sum; unfold rem; rw [List.drop_zero]; omega)
  clear hS hT hk hO
  go_enter Tryd.func6, Tryd.ntmps6
  go_wp2_with fail
  refine (fixed_any w adr HS.out HT.out).mono ?_
  rintro e w1 ⟨rfl, hb1⟩
  have HB1 := hide hb1
  clear hb1
  go_wp2_with fail
  refine (new_hist w1).mono ?_
  rintro e w2 ⟨c, rfl, hh, hb2⟩
  have HR0 : Hid (Rel w w2 c key none 0 0 none 0 0 false false 0 (rem ops 0)) := hide ⟨_, _, _, _, _, _, JM.start hh (fun k hk => ⟨Nat.le_trans HB1.out.size hk.1, hk.2⟩), Bk.start key, by have := HRem.out; omega, HB1.out.trans (hb2.mono HB1.out.size)⟩
  clear hh hb2 HB1
  go_wp2
  go_loopw [6, 7, 8, 9, 23] (fun va vb vc vd s wr => ∃ i : Nat, i ≤ ns ∧ s = .int .i64 i ∧ ∃ A1 n1 c1 A2 n2 c2 cl en, va = .slice A1 n1 c1 ∧ vb = .slice A2 n2 c2 ∧ vc = .bool cl ∧ vd = .bool en ∧ Hid (Rel w wr c key A1 n1 c1 A2 n2 c2 cl en i (rem ops i))) (fun _ _ _ _ s _ => ns - (intOf s).toNat)
  case atStart => exact ⟨0, Nat.zero_le _, rfl, none, 0, 0, none, 0, 0, false, false, rfl, rfl, rfl, rfl, HR0⟩
  case round =>
    clear HR0
    obtain ⟨i, hi, rfl, A1, n1, c1, A2, n2, c2, cl, en, rfl, rfl, rfl, rfl, HR⟩ := hrel
    by_cases hlt : i < ns
    · obtain ⟨D, FI, FO, R, I, O, hj, hbk, hrem, hbel⟩ := HR.out
      obtain ⟨o, ho⟩ : ∃ o, ops[i]? = some o := ⟨_, List.getElem?_eq_getElem (by have := HO.out.length; omega)⟩
      rw [rem_at ho] at hrem
      have HU := hide (flat_get opCell_length ho)
      have HScr := hide (HO.out.reads.kept (fun a v hc => (hbel.cell (World.block_lt_of_cell? w a hc)).trans hc))
      obtain ⟨w4, q, hw4, hq, hal, c0, c1', c2', c3, c4, hbx⟩ := op_box wr o
      have hbe4 := hbel.trans (hal.mono hbel.size)
      have HO0 := hide (HO.out.each o (List.mem_of_getElem? ho))
      have HOk := hide (HO0.out.past hbe4)
      obtain ⟨m, rfl⟩ : ∃ m, n1 = n2 + m := ⟨n1 - n2, by have := hbk.pre.length_le; rw [hj.len1, hj.len2] at this; omega⟩
      have HD : Hid (∀ k, D k → k ≠ q ∧ k < w4.heap.size) := hide (fun k hk => by have := (hj.d k hk).2; have := hal.size; omega)
      have HOl : Hid (o.len + n2 + m + rem ops (i + 1) ≤ 1048576) := hide (by omega)
      have HJ := hide (hj.past hal)
      have HBk := hide hbk
      have HB4 := hide hbe4
      have HBx := hide hbx
      obtain ⟨B, d, hs, hrd, hnd⟩ := cut_rest (hj.past hal).ri.reads (row_cap hj.ri) n2 (Nat.le_add_right _ _)
      rw [Nat.add_sub_cancel_left] at hs hrd hnd
      have HRd := hide hrd
      have HNd := hide hnd
      have HI1 := hide hj.len1
      have HI2 := hide hj.len2
      clear hj hbk hrem hbel hal hbe4 hbx hrd hnd HR ho
      go_upto_region 9 with (first
        | ((with_reducible refine at_index rfl ?_); refine wpList_atS rfl rfl _ _ 22 28 _ rfl rfl rfl (by simp) Tryd.underlying22 (by decide) size_op agg_op rfl HScr.out rfl (by omega) (by omega) (us := [.int .i64 o.kind, .int .i64 o.key, .int .i64 o.n, .bool o.next, .slice o.A o.len o.c]) rfl HU.out ?_; intro p)
        | fail)
      rw [← hw4, ← hq]
      clear hw4 hq
      go_upto_region 10 with fail
      go_wp2_with fail
      refine (bytes_any w4 o HOk.out (by have := HOl.out; omega) B m d (I.drop n2) HRd.out HNd.out (by have := HOl.out; omega)).mono ?_
      rintro e w5 ⟨v, rfl, hv, hb5⟩
      obtain ⟨A3, d3, rfl, hnc3, _⟩ := hv.shape
      obtain ⟨L, hL⟩ : ∃ L, L = givesL o (I.drop n2) := ⟨_, rfl⟩
      rw [← hL] at hv hnc3 ⊢
      have hv5 := hv.reads
      have HV := hide hv5
      have HVR : Hid (Row w5 (fun k => w4.heap.size ≤ k ∧ OfE w5 5 k) 5 1 (.slice A3 L.length d3) L.length (u8s L)) := hide hv
      have HL := hide hL
      have HJ5 := hide (HJ.out.past hb5)
      have HB5 := hide (HB4.out.trans (hb5.mono HB4.out.size))
      have HO5 := hide (HOk.out.later (fun a v hc => cell_later hb5 hc))
      have HRd5 := hide (Reads.past HRd.out hb5)
      have k0 := cell_later hb5 c0
      have k4 := cell_later hb5 c4
      clear hv hb5 c0 c1' c2' c3 c4 hnc3 hv5 HJ HB4 HOk HRd hL
      go_upto_block 2 with fail
      go_cut [6, 7, 8, 9] (fun va vb vc vd wc => ∃ A1 n1 c1 A2 n2 c2 cl en, va = .slice A1 n1 c1 ∧ vb = .slice A2 n2 c2 ∧ vc = .bool cl ∧ vd = .bool en ∧ Hid (Rel w wc c key A1 n1 c1 A2 n2 c2 cl en (i + 1) (rem ops (i + 1))))
      case first => as_aux_lemma =>
        have hE : R.length ≤ 2097152 := by have := HBk.out.len; have := HN.out; omega
        have hS5 := HS.out.below HB5.out
        have HE := hide hE
        have HS5 := hide hS5
        clear hE hS5
        by_cases hk0 : o.kind = 0
        · have hd0 : (o.kind == 0) = true := beq_iff_eq.2 hk0
          have hb0 : n2 + m + o.len ≤ 1048576 := by have := HOl.out; omega
          clear hk0 k0
          go_wp2_with fail
          refine (wrote_act w5 HS5.out HJ5.out.hist key HK.out HE.out o.A o.len o.c o.bs HO5.out.reads HO5.out.byte (by rw [HBk.out.at_]; have := HI1.out; have := HOl.out; show I.length + o.len ≤ _; omega)).mono ?_
          rintro e w6 ⟨ht, htn⟩
          have k6 := htn.2.cell k4 (fun h => (HD.out q h).1 rfl)
          have HB6 := hide (HB5.out.trans (HJ5.out.low HB5.out.size htn))
          have HO6 := hide (HO0.out.past HB6.out)
          obtain ⟨D6, hj6⟩ := HJ5.out.turned HB5.out.size htn
          have HJ6 := hide hj6
          clear hj6 htn k4
          cases cl with
          | false =>
            obtain ⟨_, rfl⟩ : (pastR R key).cl = false ∧ e = .returned .nilIface := by
              rcases ht with ht | ht
              · exact ht
              · exact (ht.1 (by rw [HBk.out.at_])).elim
            clear ht
            go_wp2_with (first
              | (at_builtin; refine wpList_append_row rfl _ _ 26 rfl 5 i0 (.int .u8 0) 1 1 Tryd.underlying26 hi0 hz0 hz1 hz2 rfl (by decide) rfl HJ6.out.ri rfl HO6.out.reads (u8s_one _) (by unfold maxLen; omega) (by omega) ?_
                 intro A5 c5 w7 hr7 hm7
                 have HR7 := hide hr7
                 have HM7 := hide hm7
                 clear hr7 hm7)
              | fail)
            go_meet
            case rel =>
              have hr := HR7.out
              rw [u8s_append] at hr
              obtain ⟨FI7, hj7⟩ := HJ6.out.into HB6.out.size hr HM7.out
              exact ⟨A5, n2 + m + o.len, c5, A2, n2, c2, false, en, rfl, rfl, rfl, rfl, hide ⟨_, _, _, _, _, _, hj7, HBk.out.wroteR1 rfl HO5.out.byte, by have := HOl.out; omega, HB6.out.trans (HM7.out.below HB6.out.size (fun k hk => (HJ6.out.i k hk).1))⟩⟩
          | true =>
            obtain ⟨_, rfl⟩ : ¬ (pastR R key).cl = false ∧ e = .returned (errV adr 24) := by
              rcases ht with ht | ht
              · have := ht.1
                rw [HBk.out.at_] at this
                cases this
              · exact ht
            clear ht
            go_wp2
            go_meet
            case rel =>
              have hj6 := HJ6.out
              rw [HBk.out.wroteR2 rfl] at hj6
              exact ⟨A1, n2 + m, c1, A2, n2, c2, true, en, rfl, rfl, rfl, rfl, hide ⟨_, _, _, _, _, _, hj6, HBk.out.later (Nat.le_succ _), by have := HOl.out; omega, HB6.out⟩⟩
        · by_cases hk1 : o.kind = 1
          · have hd0 : (o.kind == 0) = false := beq_eq_false_iff_ne.2 hk0
            have hd1 : (o.kind == 1) = true := beq_iff_eq.2 hk1
            clear hk0 hk1 k0 k4
            go_wp2_with fail
            refine (closed_act w5 HS5.out HJ5.out.hist key HK.out HE.out).mono ?_
            rintro e w6 ⟨ht, htn⟩
            have HB6 := hide (HB5.out.trans (HJ5.out.low HB5.out.size htn))
            obtain ⟨D6, hj6⟩ := HJ5.out.turned HB5.out.size htn
            have HJ6 := hide hj6
            clear hj6 htn
            cases cl with
            | false =>
              obtain ⟨_, rfl⟩ : (pastR R key).cl = false ∧ e = .returned .nilIface := by
                rcases ht with ht | ht
                · exact ht
                · exact (ht.1 (by rw [HBk.out.at_])).elim
              clear ht
              go_wp2
              go_meet
              case rel => exact ⟨A1, n2 + m, c1, A2, n2, c2, true, en, rfl, rfl, rfl, rfl, hide ⟨_, _, _, _, _, _, HJ6.out, HBk.out.closedR1, by have := HOl.out; omega, HB6.out⟩⟩
            | true =>
              obtain ⟨_, rfl⟩ : ¬ (pastR R key).cl = false ∧ e = .returned (errV adr 24) := by
                rcases ht with ht | ht
                · have := ht.1
                  rw [HBk.out.at_] at this
                  cases this
                · exact ht
              clear ht
              go_wp2
              go_meet
              case rel => exact ⟨A1, n2 + m, c1, A2, n2, c2, true, en, rfl, rfl, rfl, rfl, hide ⟨_, _, _, _, _, _, HJ6.out, HBk.out.closedR1, by have := HOl.out; omega, HB6.out⟩⟩
          · by_cases hk2 : o.kind = 2
            · have hd0 : (o.kind == 0) = false := beq_eq_false_iff_ne.2 hk0
              have hd1 : (o.kind == 1) = false := beq_eq_false_iff_ne.2 hk1
              have hd2 : (o.kind == 2) = true := beq_iff_eq.2 hk2
              clear hk0 hk1 hk2 k0 k4
              have hd : (I.drop n2).length = m := by rw [List.length_drop, HI1.out]; omega
              have hIb : ∀ x ∈ I.drop n2, 0 ≤ x ∧ x ≤ 255 := fun x hx => HBk.out.byte x (List.mem_of_mem_drop hx)
              have hLb : ∀ x ∈ L, 0 ≤ x ∧ x ≤ 255 := fun x hx => by
                rw [HL.out] at hx
                exact gives_byte HO5.out.byte hIb x hx
              have HIb := hide hIb
              have HLb := hide hLb
              have HDl := hide hd
              clear hd hIb hLb
              go_upto_region 26 with fail
              go_cut [14] (fun v wx => v = .bool (decide (L <+: I.drop n2)) ∧ Hid (∃ n, wx = w5.drewN n))
              case first => as_aux_lemma =>
                by_cases hle : L.length ≤ m
                · have hle2 : (L.length : Int) ≤ (m : Int) := by omega
                  have hsl1 := fun w => slice_to w B m d L.length (by have := HNd.out; omega)
                  have hmin : min (L.length : Int) (m : Int) = (L.length : Int) := by omega
                  have hcv1 : ∀ j, (convert 26 9 (.slice B L.length d)).run Tryd.prog (w5.drewN j) = .ok (.string ⟨(Lib.bytesOf ((I.drop n2).take L.length)).toArray⟩) (w5.drewN j) := fun j =>
                    run_str (hr2cut (Reads.past HRd5.out (dn_below (Below.refl _ _) j)) HDl.out hle) (fun x hx => HIb.out x (List.mem_of_mem_take hx))
                  have hcv2 : ∀ j, (convert 26 9 (.slice A3 L.length d3)).run Tryd.prog (w5.drewN j) = .ok (.string ⟨(Lib.bytesOf L).toArray⟩) (w5.drewN j) := fun j =>
                    run_str (Reads.past HV.out (dn_below (Below.refl _ _) j)) HLb.out
                  have hfit : (Lib.bytesOf ((I.drop n2).take L.length) == Lib.bytesOf L) = decide (L <+: I.drop n2) := bytes_fit HIb.out HLb.out
                  go_quiet (fail)
                  go_wp2
                  go_meet
                  case rel => exact ⟨rfl, hide ⟨nq, rfl⟩⟩
                · have hle2 : ¬ (L.length : Int) ≤ (m : Int) := by omega
                  have hfit : decide (L <+: I.drop n2) = false := decide_eq_false (fun h => hle (by have := h.length_le; rw [HDl.out] at this; exact this))
                  go_quiet (fail)
                  go_wp2
                  go_meet
                  case rel => exact ⟨by rw [hfit], hide ⟨nq, rfl⟩⟩
              case rest => as_aux_lemma =>
                obtain ⟨rfl, hwc⟩ := hcut
                obtain ⟨w7, hw7⟩ : ∃ w7, wc = w7 := ⟨_, rfl⟩
                have HB7 : Hid (Below w5.heap.size w5 w7) := hide (by
                  obtain ⟨n, e⟩ := hwc.out
                  rw [← hw7, e]
                  exact dn_below (Below.refl _ _) n)
                rw [hw7]
                have HJ7 := hide (HJ5.out.past HB7.out)
                have HB8 := hide (HB5.out.trans (HB7.out.mono HB5.out.size))
                have HV7 := hide (Reads.past HV.out HB7.out)
                have hact := gave_act w7 (HS5.out.below HB7.out) HJ7.out.hist key HK.out HE.out A3 L.length d3 L HV7.out HLb.out (by rw [HBk.out.at_]; have := HI1.out; have := HOl.out; show I.length ≤ _; omega)
                clear hw7 hwc
                by_cases hp : L <+: I.drop n2
                · have hfit : decide (L <+: I.drop n2) = true := decide_eq_true hp
                  have HP := hide hp
                  have hb0 : n2 + L.length ≤ 1048576 := by have := hp.length_le; have := HDl.out; have := HOl.out; omega
                  clear hp
                  rw [hfit]
                  go_wp2_with fail
                  refine hact.mono ?_
                  clear hact
                  rintro e w6 ⟨ht, htn⟩
                  have HB6 := hide (HB8.out.trans (HJ7.out.low HB8.out.size htn))
                  have HV6 : Hid (Reads w6 1 (.slice A3 L.length d3) L.length (u8s L)) := hide ((((HVR.out.kept (Mod.ofBelow HB7.out (fun _ => False)) (fun _ _ _ h => h)).kept htn.2 (fun k hk _ hd => by have := (HD.out k hd).2; have := hk.1; omega)).reads))
                  obtain ⟨D6, hj6⟩ := HJ7.out.turned HB8.out.size htn
                  have HJ6 := hide hj6
                  clear hj6 htn
                  obtain ⟨_, rfl⟩ : (L <+: (pastR R key).bs.drop (pastR R key).rd) ∧ e = .returned .nilIface := by
                    rcases ht with ht | ht
                    · exact ht
                    · exact (ht.1 (by rw [HBk.out.at_]; show L <+: I.drop O.length; rw [HI2.out]; exact HP.out)).elim
                  clear ht
                  go_wp2_with (first
                    | (at_builtin; refine wpList_append_row rfl _ _ 26 rfl 5 i0 (.int .u8 0) 1 1 Tryd.underlying26 hi0 hz0 hz1 hz2 rfl (by decide) rfl HJ6.out.ro rfl HV6.out (u8s_one _) (by unfold maxLen; omega) (by omega) ?_
                       intro A5 c5 w8 hr8 hm8
                       have HR8 := hide hr8
                       have HM8 := hide hm8
                       clear hr8 hm8)
                    | fail)
                  go_meet
                  case rel =>
                    have hr := HR8.out
                    rw [u8s_append] at hr
                    obtain ⟨FO8, hj8⟩ := HJ6.out.outof HB6.out.size hr HM8.out
                    exact ⟨A1, n2 + m, c1, A5, n2 + L.length, c5, cl, en, rfl, rfl, rfl, rfl, hide ⟨_, _, _, _, _, _, hj8, HBk.out.gaveR1 (by rw [HI2.out]; exact HP.out), by have := HOl.out; omega, HB6.out.trans (HM8.out.below HB6.out.size (fun k hk => (HJ6.out.o k hk).1))⟩⟩
                · have hfit : decide (L <+: I.drop n2) = false := decide_eq_false hp
                  have HP := hide hp
                  clear hp
                  rw [hfit]
                  go_wp2_with fail
                  refine hact.mono ?_
                  clear hact
                  rintro e w6 ⟨ht, htn⟩
                  have HB6 := hide (HB8.out.trans (HJ7.out.low HB8.out.size htn))
                  obtain ⟨D6, hj6⟩ := HJ7.out.turned HB8.out.size htn
                  rw [HBk.out.gaveR2 (by rw [HI2.out]; exact HP.out)] at hj6
                  have HJ6 := hide hj6
                  clear hj6 htn
                  obtain ⟨_, rfl⟩ : ¬ (L <+: (pastR R key).bs.drop (pastR R key).rd) ∧ e = .returned (errV adr 39) := by
                    rcases ht with ht | ht
                    · have := ht.1
                      rw [HBk.out.at_] at this
                      exact (HP.out (by rw [← HI2.out]; exact this)).elim
                    · exact ht
                  clear ht
                  go_wp2
                  go_meet
                  case rel => exact ⟨A1, n2 + m, c1, A2, n2, c2, cl, en, rfl, rfl, rfl, rfl, hide ⟨_, _, _, _, _, _, HJ6.out, HBk.out.later (Nat.le_succ _), by have := HOl.out; omega, HB6.out⟩⟩
            · have hd0 : (o.kind == 0) = false := beq_eq_false_iff_ne.2 hk0
              have hd1 : (o.kind == 1) = false := beq_eq_false_iff_ne.2 hk1
              have hd2 : (o.kind == 2) = false := beq_eq_false_iff_ne.2 hk2
              have hrd : (pastR R key).rd ≤ (pastR R key).bs.length := by rw [HBk.out.at_]; exact HBk.out.pre.length_le
              have hIO : (pastR R key).rd = (pastR R key).bs.length ↔ m = 0 := by
                rw [HBk.out.at_]
                have h1 := HI1.out
                have h2 := HI2.out
                show O.length = I.length ↔ m = 0
                omega
              clear hk0 hk1 hk2 k0 k4
              have hact := (ended_act w5 HS5.out HJ5.out.hist key HK.out hrd)
              have HIO := hide hIO
              clear hIO hrd
              cases cl with
              | false =>
                go_wp2_with fail
                refine hact.mono ?_
                clear hact
                rintro e w6 ⟨ht, htn⟩
                have HB6 := hide (HB5.out.trans (HJ5.out.low HB5.out.size htn))
                obtain ⟨D6, hj6⟩ := HJ5.out.turned HB5.out.size htn
                rw [HBk.out.endedR2 (by simp)] at hj6
                have HJ6 := hide hj6
                clear hj6 htn
                obtain ⟨_, rfl⟩ : ¬ ((pastR R key).cl = true ∧ (pastR R key).rd = (pastR R key).bs.length) ∧ e = .returned (errV adr 39) := by
                  rcases ht with ht | ht
                  · have := ht.1.1
                    rw [HBk.out.at_] at this
                    cases this
                  · exact ht
                clear ht
                cases en
                all_goals
                  go_wp2
                  go_meet
                  case rel => exact ⟨A1, n2 + m, c1, A2, n2, c2, false, _, rfl, rfl, rfl, rfl, hide ⟨_, _, _, _, _, _, HJ6.out, HBk.out.later (Nat.le_succ _), by have := HOl.out; omega, HB6.out⟩⟩
              | true =>
                by_cases hm0 : m = 0
                · have hz : ((m : Int) == 0) = true := beq_iff_eq.2 (by omega)
                  have HM0 := hide hm0
                  clear hm0
                  go_wp2_with fail
                  refine hact.mono ?_
                  clear hact
                  rintro e w6 ⟨ht, htn⟩
                  have HB6 := hide (HB5.out.trans (HJ5.out.low HB5.out.size htn))
                  obtain ⟨D6, hj6⟩ := HJ5.out.turned HB5.out.size htn
                  have HJ6 := hide hj6
                  clear hj6 htn
                  obtain ⟨_, rfl⟩ : ((pastR R key).cl = true ∧ (pastR R key).rd = (pastR R key).bs.length) ∧ e = .returned .nilIface := by
                    rcases ht with ht | ht
                    · exact ht
                    · exact (ht.1 ⟨by rw [HBk.out.at_], HIO.out.2 HM0.out⟩).elim
                  clear ht
                  have HBk6 := hide (HBk.out.endedR1 rfl (by have := HI1.out; have := HI2.out; have := HM0.out; omega))
                  cases en
                  all_goals
                    go_wp2
                    go_meet
                    case rel => exact ⟨A1, n2 + m, c1, A2, n2, c2, true, true, rfl, rfl, rfl, rfl, hide ⟨_, _, _, _, _, _, HJ6.out, HBk6.out, by have := HOl.out; omega, HB6.out⟩⟩
                · have hz : ((m : Int) == 0) = false := beq_eq_false_iff_ne.2 (by omega)
                  have HM0 := hide hm0
                  clear hm0
                  go_wp2_with fail
                  refine hact.mono ?_
                  clear hact
                  rintro e w6 ⟨ht, htn⟩
                  have HB6 := hide (HB5.out.trans (HJ5.out.low HB5.out.size htn))
                  obtain ⟨D6, hj6⟩ := HJ5.out.turned HB5.out.size htn
                  rw [HBk.out.endedR2 (by have := HI1.out; have := HI2.out; have := HM0.out; omega)] at hj6
                  have HJ6 := hide hj6
                  clear hj6 htn
                  obtain ⟨_, rfl⟩ : ¬ ((pastR R key).cl = true ∧ (pastR R key).rd = (pastR R key).bs.length) ∧ e = .returned (errV adr 39) := by
                    rcases ht with ht | ht
                    · exact (HM0.out (HIO.out.1 ht.1.2)).elim
                    · exact ht
                  clear ht
                  cases en
                  all_goals
                    go_wp2
                    go_meet
                    case rel => exact ⟨A1, n2 + m, c1, A2, n2, c2, true, _, rfl, rfl, rfl, rfl, hide ⟨_, _, _, _, _, _, HJ6.out, HBk.out.later (Nat.le_succ _), by have := HOl.out; omega, HB6.out⟩⟩
      case rest => as_aux_lemma =>
        obtain ⟨A1, n1, c1, A2, n2, c2, cl, en, rfl, rfl, rfl, rfl, HR⟩ := hcut
        obtain ⟨D, FI, FO, R, I, O, hj, hbk, hrem, hbel⟩ := HR.out
        clear HJ5 HB5 HO5 HRd5 HV HVR HL HBk HD HBx HU HScr
        obtain ⟨wv, hwv⟩ : ∃ wv, wc = wv := ⟨_, rfl⟩
        rw [hwv] at hj hbel
        rw [hwv]
        have HJ := hide hj
        have HBk := hide hbk
        have HB := hide hbel
        have hp : Calls Tryd.prog 16 #[ptr c, .int .i64 key] wv fun r w' => r = .returned (.tuple #[.agg #[.int .i64 n1, .int .i64 n2, .bool cl, .bool en], .bool (get Rw.k R key).isSome]) ∧ Below wv.heap.size wv w' := by
          have h := hist_past hj.hist key HK.out
          rw [hbk.at_] at h
          have h1 : I.length = n1 := hj.len1
          have h2 : O.length = n2 := hj.len2
          rw [← h1, ← h2]
          exact h
        have HI1 := hide hj.len1
        have HI2 := hide hj.len2
        have HRem := hide hrem
        clear hj hbk hrem hbel hwv HR
        go_wp2_with fail
        refine hp.mono ?_
        rintro r w8 ⟨rfl, hb8⟩
        obtain ⟨w9, hw9⟩ : ∃ w9, w8.alloc (.cells #[.int .i64 0, .int .i64 0, .bool false, .bool false] 36) = w9 := ⟨_, rfl⟩
        obtain ⟨q, hq⟩ : ∃ q, w8.heap.size = q := ⟨_, rfl⟩
        have hnew : w9.heap[q]? = some (.cells #[.int .i64 0, .int .i64 0, .bool false, .bool false] 36 (0, 0)) := by rw [← hw9, ← hq]; exact heap_alloc_new w8 _
        have hb9 : Below wv.heap.size wv w9 := by rw [← hw9]; exact hb8.alloc hb8.size _
        have hqs : wv.heap.size ≤ q := by rw [← hq]; exact hb8.size
        obtain ⟨_, f0, f1, f2, f3⟩ := box4 hnew
        have hset := box4_set hnew (.int .i64 n1) (.int .i64 n2) (.bool cl) (.bool en)
        have hb5 := below_set4 hb9 hqs (.int .i64 n1) (.int .i64 n2) (.bool cl) (.bool en)
        have HSet := hide hset
        have HBa := hide hb5
        clear hset hb5 hb9 hb8 hqs hnew hp
        go_upto_region 32 with fail
        obtain ⟨wa, hwa⟩ : ∃ wa, (((w9.setCell ⟨q, 0, none⟩ (.int .i64 n1)).setCell ⟨q, 1, none⟩ (.int .i64 n2)).setCell ⟨q, 2, none⟩ (.bool cl)).setCell ⟨q, 3, none⟩ (.bool en) = wa := ⟨_, rfl⟩
        rw [hwa] at HSet HBa
        rw [hwa]
        clear hw9 hq hwa f0 f1 f2 f3
        have HJa := hide (HJ.out.past (HBa.out.drew))
        have HBd := hide (HB.out.trans (HBa.out.drew.mono HB.out.size))
        obtain ⟨⟨k0, k1, k2, k3⟩, _⟩ := box4 (show wa.drew.heap[q]? = _ from HSet.out)
        have hOb : ∀ x ∈ O, 0 ≤ x ∧ x ≤ 255 := fun x hx => HBk.out.byte x (HBk.out.pre.subset hx)
        have HOb := hide hOb
        have HIb := hide HBk.out.byte
        have HDb : Hid (∀ x ∈ I.drop n2, 0 ≤ x ∧ x ≤ 255) := hide (fun x hx => HIb.out x (List.mem_of_mem_drop hx))
        have cvO := run_str HJa.out.ro.reads hOb
        have cvI := run_str HJa.out.ri.reads HIb.out
        have hcat : Lib.bytesOf O ++ Lib.bytesOf (I.drop n2) = Lib.bytesOf I := by
          obtain ⟨t, ht⟩ := HBk.out.pre
          have h2 := HI2.out
          subst h2
          rw [← ht, List.drop_left]
          simp [Lib.bytesOf]
        have hl1 : (Lib.bytesOf O).length + (Lib.bytesOf (I.drop n2)).length ≤ 1048576 := by
          have h1 : (Lib.bytesOf O ++ Lib.bytesOf (I.drop n2)).length = (Lib.bytesOf I).length := by rw [hcat]
          rw [List.length_append, Lib.bytesOf_length I, HI1.out] at h1
          have := HRem.out
          omega
        have hl2 : ¬ 9223372036854775807 < (Lib.bytesOf O).length + (Lib.bytesOf (I.drop n2)).length := by omega
        have hrest : Calls Tryd.prog 11 #[ptr c, .int .i64 key] wa.drew fun r w' => ∃ v, r = .returned v ∧ Fresh8 wa.drew w' v (I.drop n2) ∧ Below wa.drew.heap.size wa.drew w' := by
          have h := hist_rest HJa.out.hist key HK.out (by rw [HBk.out.at_]; have := HI1.out; have := HRem.out; show I.length ≤ _; omega)
          rw [HBk.out.at_] at h
          have h2 : (I.drop O.length) = I.drop n2 := by rw [HI2.out]
          rw [← h2]
          exact h
        clear hOb hl1
        have hcat2 : (⟨(Lib.bytesOf O).toArray⟩ : ByteArray) ++ ⟨(Lib.bytesOf (I.drop n2)).toArray⟩ = ⟨(Lib.bytesOf I).toArray⟩ := by rw [str_cat, hcat]
        clear hcat
        have hfin : en = false ∨ (en = true ∧ cl = true ∧ ((n2 : Int) != (n1 : Int)) = false) := by
          cases en with
          | false => exact .inl rfl
          | true =>
            obtain ⟨h1, h2⟩ := HBk.out.fin rfl
            refine .inr ⟨rfl, h1, bne_eq_false_iff_eq.2 ?_⟩
            have := HI1.out
            have := HI2.out
            omega
        rcases hfin with rfl | ⟨rfl, rfl, heq⟩
        · have hHeld := And.intro k0 (And.intro k1 (And.intro k2 (And.intro k3 (And.intro cvO cvI))))
          refine wp_region_held_n (n := 35) (l := #[false, false, false, false, false, false, false, false, false, false, false, false, false, false, false, false, false, false, false, false, false, false, false, false, false, false, false, false, false, false, false, false, false, false, false]) (S := (fun w' => w'.cell? ⟨q, 0, none⟩ = some (.int .i64 n1) ∧ w'.cell? ⟨q, 1, none⟩ = some (.int .i64 n2) ∧ w'.cell? ⟨q, 2, none⟩ = some (.bool cl) ∧ w'.cell? ⟨q, 3, none⟩ = some (.bool false) ∧ (convert 26 9 (.slice A2 n2 c2)).run Tryd.prog w' = .ok (.string ⟨(Lib.bytesOf O).toArray⟩) w' ∧ (convert 26 9 (.slice A1 n1 c1)).run Tryd.prog w' = .ok (.string ⟨(Lib.bytesOf I).toArray⟩) w')) rfl rfl (by kernel_rfl) ⟨k0, k1, k2, k3, cvO, cvI⟩ ?_
          refine wpAnyH_yields (i := 0) (oi := ?_) (v := ?_) ?_ (by kernel_rfl) (by kernel_rfl) (by kernel_rfl) (by assumption) ?_ ?_ ?_ ?_
          rotate_left 2
          · (simp only [List.getElem?_toArray, List.getElem?_cons_zero] <;> exact rfl)
          · rfl
          · (intro w' hSw; obtain ⟨g0, g1, g2, g3, g4, g5⟩ := hSw; go_simp <;> with_reducible rfl)
          · exact fun _ _ _ h => h
          simp only [Act.put, List.setIfInBounds_toArray, List.set]
          refine wpAnyH_yields (i := 1) (oi := ?_) (v := ?_) ?_ (by kernel_rfl) (by kernel_rfl) (by kernel_rfl) (by assumption) ?_ ?_ ?_ ?_
          rotate_left 2
          · (simp only [List.getElem?_toArray, List.getElem?_cons_succ, List.getElem?_cons_zero] <;> exact rfl)
          · rfl
          · (intro w' hSw; obtain ⟨g0, g1, g2, g3, g4, g5⟩ := hSw; go_simp <;> with_reducible rfl)
          · exact fun _ _ _ h => h
          simp only [Act.put, List.setIfInBounds_toArray, List.set]
          refine wpAnyH_yields (i := 2) (oi := ?_) (v := ?_) ?_ (by kernel_rfl) (by kernel_rfl) (by kernel_rfl) (by assumption) ?_ ?_ ?_ ?_
          rotate_left 2
          · (simp only [List.getElem?_toArray, List.getElem?_cons_succ, List.getElem?_cons_zero] <;> exact rfl)
          · rfl
          · (intro w' hSw; obtain ⟨g0, g1, g2, g3, g4, g5⟩ := hSw; go_simp <;> with_reducible rfl)
          · exact fun _ _ _ h => h
          simp only [Act.put, List.setIfInBounds_toArray, List.set]
          refine wpAnyH_yields (i := 3) (oi := ?_) (v := ?_) ?_ (by kernel_rfl) (by kernel_rfl) (by kernel_rfl) (by assumption) ?_ ?_ ?_ ?_
          rotate_left 2
          · (simp only [List.getElem?_toArray, List.getElem?_cons_succ, List.getElem?_cons_zero] <;> exact rfl)
          · rfl
          · (intro w' hSw; obtain ⟨g0, g1, g2, g3, g4, g5⟩ := hSw; go_simp <;> with_reducible rfl)
          · exact fun _ _ _ h => h
          simp only [Act.put, List.setIfInBounds_toArray, List.set]
          refine wpAnyH_yields (i := 4) (oi := ?_) (v := ?_) ?_ (by kernel_rfl) (by kernel_rfl) (by kernel_rfl) (by assumption) ?_ ?_ ?_ ?_
          rotate_left 2
          · (simp only [List.getElem?_toArray, List.getElem?_cons_succ, List.getElem?_cons_zero] <;> exact rfl)
          · rfl
          · (intro w' hSw; obtain ⟨g0, g1, g2, g3, g4, g5⟩ := hSw; go_simp <;> with_reducible rfl)
          · exact fun _ _ _ h => h
          simp only [Act.put, List.setIfInBounds_toArray, List.set]
          refine wpAnyH_yields (i := 5) (oi := ?_) (v := ?_) ?_ (by kernel_rfl) (by kernel_rfl) (by kernel_rfl) (by assumption) ?_ ?_ ?_ ?_
          rotate_left 2
          · (simp only [List.getElem?_toArray, List.getElem?_cons_succ, List.getElem?_cons_zero] <;> exact rfl)
          · rfl
          · (intro w' hSw; obtain ⟨g0, g1, g2, g3, g4, g5⟩ := hSw; go_simp <;> with_reducible rfl)
          · exact fun _ _ _ h => h
          simp only [Act.put, List.setIfInBounds_toArray, List.set]
          refine wpAnyH_yields (i := 6) (oi := ?_) (v := ?_) ?_ (by kernel_rfl) (by kernel_rfl) (by kernel_rfl) (by assumption) ?_ ?_ ?_ ?_
          rotate_left 2
          · (simp only [List.getElem?_toArray, List.getElem?_cons_succ, List.getElem?_cons_zero] <;> exact rfl)
          · rfl
          · (intro w' hSw; obtain ⟨g0, g1, g2, g3, g4, g5⟩ := hSw; go_simp <;> with_reducible rfl)
          · exact fun _ _ _ h => h
          simp only [Act.put, List.setIfInBounds_toArray, List.set]
          refine wpAnyH_yields (i := 7) (oi := ?_) (v := ?_) ?_ (by kernel_rfl) (by kernel_rfl) (by kernel_rfl) (by assumption) ?_ ?_ ?_ ?_
          rotate_left 2
          · (simp only [List.getElem?_toArray, List.getElem?_cons_succ, List.getElem?_cons_zero] <;> exact rfl)
          · rfl
          · (intro w' hSw; obtain ⟨g0, g1, g2, g3, g4, g5⟩ := hSw; go_simp <;> with_reducible rfl)
          · exact fun _ _ _ h => h
          simp only [Act.put, List.setIfInBounds_toArray, List.set]
          refine wpAnyH_yields (i := 8) (oi := ?_) (v := ?_) ?_ (by kernel_rfl) (by kernel_rfl) (by kernel_rfl) (by assumption) ?_ ?_ ?_ ?_
          rotate_left 2
          · (simp only [List.getElem?_toArray, List.getElem?_cons_succ, List.getElem?_cons_zero] <;> exact rfl)
          · rfl
          · (intro w' hSw; obtain ⟨g0, g1, g2, g3, g4, g5⟩ := hSw; go_simp <;> with_reducible rfl)
          · exact fun _ _ _ h => h
          simp only [Act.put, List.setIfInBounds_toArray, List.set]
          refine wpAnyH_yields (i := 9) (oi := ?_) (v := ?_) ?_ (by kernel_rfl) (by kernel_rfl) (by kernel_rfl) (by assumption) ?_ ?_ ?_ ?_
          rotate_left 2
          · (simp only [List.getElem?_toArray, List.getElem?_cons_succ, List.getElem?_cons_zero] <;> exact rfl)
          · rfl
          · (intro w' hSw; obtain ⟨g0, g1, g2, g3, g4, g5⟩ := hSw; go_simp <;> with_reducible rfl)
          · exact fun _ _ _ h => h
          simp only [Act.put, List.setIfInBounds_toArray, List.set]
          refine wpAnyH_yields (i := 10) (oi := ?_) (v := ?_) ?_ (by kernel_rfl) (by kernel_rfl) (by kernel_rfl) (by assumption) ?_ ?_ ?_ ?_
          rotate_left 2
          · (simp only [List.getElem?_toArray, List.getElem?_cons_succ, List.getElem?_cons_zero] <;> exact rfl)
          · rfl
          · (intro w' hSw; obtain ⟨g0, g1, g2, g3, g4, g5⟩ := hSw; go_simp <;> with_reducible rfl)
          · exact fun _ _ _ h => h
          simp only [Act.put, List.setIfInBounds_toArray, List.set]
          refine wpAnyH_yields (i := 11) (oi := ?_) (v := ?_) ?_ (by kernel_rfl) (by kernel_rfl) (by kernel_rfl) (by assumption) ?_ ?_ ?_ ?_
          rotate_left 2
          · (simp only [List.getElem?_toArray, List.getElem?_cons_succ, List.getElem?_cons_zero] <;> exact rfl)
          · rfl
          · (intro w' hSw; obtain ⟨g0, g1, g2, g3, g4, g5⟩ := hSw; go_simp <;> with_reducible rfl)
          · exact fun _ _ _ h => h
          simp only [Act.put, List.setIfInBounds_toArray, List.set]
          refine wpAnyH_yields (i := 12) (oi := ?_) (v := ?_) ?_ (by kernel_rfl) (by kernel_rfl) (by kernel_rfl) (by assumption) ?_ ?_ ?_ ?_
          rotate_left 2
          · (simp only [List.getElem?_toArray, List.getElem?_cons_succ, List.getElem?_cons_zero] <;> exact rfl)
          · rfl
          · (intro w' hSw; obtain ⟨g0, g1, g2, g3, g4, g5⟩ := hSw; go_simp <;> with_reducible rfl)
          · exact fun _ _ _ h => h
          simp only [Act.put, List.setIfInBounds_toArray, List.set]
          refine wpAnyH_yields (i := 13) (oi := ?_) (v := ?_) ?_ (by kernel_rfl) (by kernel_rfl) (by kernel_rfl) (by assumption) ?_ ?_ ?_ ?_
          rotate_left 2
          · (simp only [List.getElem?_toArray, List.getElem?_cons_succ, List.getElem?_cons_zero] <;> exact rfl)
          · rfl
          · (intro w' hSw; obtain ⟨g0, g1, g2, g3, g4, g5⟩ := hSw; go_simp <;> with_reducible rfl)
          · exact fun _ _ _ h => h
          simp only [Act.put, List.setIfInBounds_toArray, List.set]
          refine wpAnyH_yields (i := 17) (oi := ?_) (v := ?_) ?_ (by kernel_rfl) (by kernel_rfl) (by kernel_rfl) (by assumption) ?_ ?_ ?_ ?_
          rotate_left 2
          · (simp only [List.getElem?_toArray, List.getElem?_cons_succ, List.getElem?_cons_zero] <;> exact rfl)
          · rfl
          · (intro w' hSw; obtain ⟨g0, g1, g2, g3, g4, g5⟩ := hSw; go_simp <;> with_reducible rfl)
          · exact fun _ _ _ h => h
          simp only [Act.put, List.setIfInBounds_toArray, List.set]
          refine wpAnyH_yields (i := 18) (oi := ?_) (v := ?_) ?_ (by kernel_rfl) (by kernel_rfl) (by kernel_rfl) (by assumption) ?_ ?_ ?_ ?_
          rotate_left 2
          · (simp only [List.getElem?_toArray, List.getElem?_cons_succ, List.getElem?_cons_zero] <;> exact rfl)
          · rfl
          · (intro w' hSw; obtain ⟨g0, g1, g2, g3, g4, g5⟩ := hSw; go_simp <;> with_reducible rfl)
          · exact fun _ _ _ h => h
          simp only [Act.put, List.setIfInBounds_toArray, List.set]
          refine wpAnyH_ready (rs := [14]) (by kernel_rfl) (by simp) (AllReadyH.cons (o := ?_) ?_ (fun K hK => ?_) AllReadyH.nil)
          rotate_left 1
          · (simp only [List.getElem?_toArray, List.getElem?_cons_succ, List.getElem?_cons_zero] <;> exact rfl)
          go_simp
          go_at_call 11
          refine hrest.mono ?_
          rintro r wz ⟨v, rfl, hv, hbz⟩
          have cvR := run_str hv.reads HDb.out
          have HJz := hide (HJa.out.past hbz)
          have HBz := hide (HBd.out.trans (hbz.mono HBd.out.size))
          have cvO2 := run_str HJz.out.ro.reads HOb.out
          have cvI2 := run_str HJz.out.ri.reads HIb.out
          have m0 := cell_later hbz k0
          have m1 := cell_later hbz k1
          have m2 := cell_later hbz k2
          have m3 := cell_later hbz k3
          clear hv hbz k0 k1 k2 k3 cvO cvI hrest hHeld
          refine hK.out _ _ (⟨m0, m1, m2, m3, cvO2, cvI2⟩) (fun hHeld => ?_)
          clear hK K
          try simp only [List.setIfInBounds_toArray, List.set_cons_zero, List.set_cons_succ]
          refine wpAnyH_ready (rs := [15]) (by kernel_rfl) (by simp) (AllReadyH.cons (o := ?_) ?_ (fun K hK => ?_) AllReadyH.nil)
          rotate_left 1
          · (simp only [List.getElem?_toArray, List.getElem?_cons_succ, List.getElem?_cons_zero] <;> exact rfl)
          go_simp
          refine hK.out _ _ (⟨m0, m1, m2, m3, cvO2, cvI2⟩) (fun hHeld => ?_)
          clear hK K
          try simp only [List.setIfInBounds_toArray, List.set_cons_zero, List.set_cons_succ]
          refine wpAnyH_yields (i := 16) (oi := ?_) (v := ?_) ?_ (by kernel_rfl) (by kernel_rfl) (by kernel_rfl) (by assumption) ?_ ?_ ?_ ?_
          rotate_left 2
          · (simp only [List.getElem?_toArray, List.getElem?_cons_succ, List.getElem?_cons_zero] <;> exact rfl)
          · rfl
          · (intro w' hSw; obtain ⟨g0, g1, g2, g3, g4, g5⟩ := hSw; go_simp <;> with_reducible rfl)
          · exact fun _ _ _ h => h
          simp only [Act.put, List.setIfInBounds_toArray, List.set]
          refine wpAnyH_yields (i := 19) (oi := ?_) (v := ?_) ?_ (by kernel_rfl) (by kernel_rfl) (by kernel_rfl) (by assumption) ?_ ?_ ?_ ?_
          rotate_left 2
          · (simp only [List.getElem?_toArray, List.getElem?_cons_succ, List.getElem?_cons_zero] <;> exact rfl)
          · rfl
          · (intro w' hSw; obtain ⟨g0, g1, g2, g3, g4, g5⟩ := hSw; go_simp <;> with_reducible rfl)
          · exact fun _ _ _ h => h
          simp only [Act.put, List.setIfInBounds_toArray, List.set]
          refine wpAnyH_yields (i := 20) (oi := ?_) (v := ?_) ?_ (by kernel_rfl) (by kernel_rfl) (by kernel_rfl) (by assumption) ?_ ?_ ?_ ?_
          rotate_left 2
          · (simp only [List.getElem?_toArray, List.getElem?_cons_succ, List.getElem?_cons_zero] <;> exact rfl)
          · rfl
          · (intro w' hSw; obtain ⟨g0, g1, g2, g3, g4, g5⟩ := hSw; go_simp <;> with_reducible rfl)
          · exact fun _ _ _ h => h
          simp only [Act.put, List.setIfInBounds_toArray, List.set]
          refine wpAnyH_yields (i := 21) (oi := ?_) (v := ?_) ?_ (by kernel_rfl) (by kernel_rfl) (by kernel_rfl) (by assumption) ?_ ?_ ?_ ?_
          rotate_left 2
          · (simp only [List.getElem?_toArray, List.getElem?_cons_succ, List.getElem?_cons_zero] <;> exact rfl)
          · rfl
          · (intro w' hSw; obtain ⟨g0, g1, g2, g3, g4, g5⟩ := hSw; go_simp <;> with_reducible rfl)
          · exact fun _ _ _ h => h
          simp only [Act.put, List.setIfInBounds_toArray, List.set]
          refine wpAnyH_yields (i := 22) (oi := ?_) (v := ?_) ?_ (by kernel_rfl) (by kernel_rfl) (by kernel_rfl) (by assumption) ?_ ?_ ?_ ?_
          rotate_left 2
          · (simp only [List.getElem?_toArray, List.getElem?_cons_succ, List.getElem?_cons_zero] <;> exact rfl)
          · rfl
          · (intro w' hSw; obtain ⟨g0, g1, g2, g3, g4, g5⟩ := hSw; go_simp <;> with_reducible rfl)
          · exact fun _ _ _ h => h
          simp only [Act.put, List.setIfInBounds_toArray, List.set]
          refine wpAnyH_yields (i := 23) (oi := ?_) (v := ?_) ?_ (by kernel_rfl) (by kernel_rfl) (by kernel_rfl) (by assumption) ?_ ?_ ?_ ?_
          rotate_left 2
          · (simp only [List.getElem?_toArray, List.getElem?_cons_succ, List.getElem?_cons_zero] <;> exact rfl)
          · rfl
          · (intro w' hSw; obtain ⟨g0, g1, g2, g3, g4, g5⟩ := hSw; go_simp <;> with_reducible rfl)
          · exact fun _ _ _ h => h
          simp only [Act.put, List.setIfInBounds_toArray, List.set]
          refine wpAnyH_skip (i := 24) (oi := ?_) ?_ (by kernel_rfl) (by kernel_rfl) (by kernel_rfl) (by assumption) ?_ ?_ ?_
          rotate_left 1
          · (simp only [List.getElem?_toArray, List.getElem?_cons_succ, List.getElem?_cons_zero] <;> exact rfl)
          · rfl
          · exact fun _ _ _ h => h
          simp only [Act.put, List.setIfInBounds_toArray, List.set]
          refine wpAnyH_skip (i := 25) (oi := ?_) ?_ (by kernel_rfl) (by kernel_rfl) (by kernel_rfl) (by assumption) ?_ ?_ ?_
          rotate_left 1
          · (simp only [List.getElem?_toArray, List.getElem?_cons_succ, List.getElem?_cons_zero] <;> exact rfl)
          · rfl
          · exact fun _ _ _ h => h
          simp only [Act.put, List.setIfInBounds_toArray, List.set]
          refine wpAnyH_skip (i := 26) (oi := ?_) ?_ (by kernel_rfl) (by kernel_rfl) (by kernel_rfl) (by assumption) ?_ ?_ ?_
          rotate_left 1
          · (simp only [List.getElem?_toArray, List.getElem?_cons_succ, List.getElem?_cons_zero] <;> exact rfl)
          · rfl
          · exact fun _ _ _ h => h
          simp only [Act.put, List.setIfInBounds_toArray, List.set]
          refine wpAnyH_skip (i := 27) (oi := ?_) ?_ (by kernel_rfl) (by kernel_rfl) (by kernel_rfl) (by assumption) ?_ ?_ ?_
          rotate_left 1
          · (simp only [List.getElem?_toArray, List.getElem?_cons_succ, List.getElem?_cons_zero] <;> exact rfl)
          · rfl
          · exact fun _ _ _ h => h
          simp only [Act.put, List.setIfInBounds_toArray, List.set]
          refine wpAnyH_skip (i := 28) (oi := ?_) ?_ (by kernel_rfl) (by kernel_rfl) (by kernel_rfl) (by assumption) ?_ ?_ ?_
          rotate_left 1
          · (simp only [List.getElem?_toArray, List.getElem?_cons_succ, List.getElem?_cons_zero] <;> exact rfl)
          · rfl
          · exact fun _ _ _ h => h
          simp only [Act.put, List.setIfInBounds_toArray, List.set]
          refine wpAnyH_skip (i := 29) (oi := ?_) ?_ (by kernel_rfl) (by kernel_rfl) (by kernel_rfl) (by assumption) ?_ ?_ ?_
          rotate_left 1
          · (simp only [List.getElem?_toArray, List.getElem?_cons_succ, List.getElem?_cons_zero] <;> exact rfl)
          · rfl
          · exact fun _ _ _ h => h
          simp only [Act.put, List.setIfInBounds_toArray, List.set]
          refine wpAnyH_skip (i := 30) (oi := ?_) ?_ (by kernel_rfl) (by kernel_rfl) (by kernel_rfl) (by assumption) ?_ ?_ ?_
          rotate_left 1
          · (simp only [List.getElem?_toArray, List.getElem?_cons_succ, List.getElem?_cons_zero] <;> exact rfl)
          · rfl
          · exact fun _ _ _ h => h
          simp only [Act.put, List.setIfInBounds_toArray, List.set]
          refine wpAnyH_skip (i := 31) (oi := ?_) ?_ (by kernel_rfl) (by kernel_rfl) (by kernel_rfl) (by assumption) ?_ ?_ ?_
          rotate_left 1
          · (simp only [List.getElem?_toArray, List.getElem?_cons_succ, List.getElem?_cons_zero] <;> exact rfl)
          · rfl
          · exact fun _ _ _ h => h
          simp only [Act.put, List.setIfInBounds_toArray, List.set]
          refine wpAnyH_skip (i := 32) (oi := ?_) ?_ (by kernel_rfl) (by kernel_rfl) (by kernel_rfl) (by assumption) ?_ ?_ ?_
          rotate_left 1
          · (simp only [List.getElem?_toArray, List.getElem?_cons_succ, List.getElem?_cons_zero] <;> exact rfl)
          · rfl
          · exact fun _ _ _ h => h
          simp only [Act.put, List.setIfInBounds_toArray, List.set]
          refine wpAnyH_yields (i := 33) (oi := ?_) (v := ?_) ?_ (by kernel_rfl) (by kernel_rfl) (by kernel_rfl) (by assumption) ?_ ?_ ?_ ?_
          rotate_left 2
          · (simp only [List.getElem?_toArray, List.getElem?_cons_succ, List.getElem?_cons_zero] <;> exact rfl)
          · rfl
          · (intro w' hSw; obtain ⟨g0, g1, g2, g3, g4, g5⟩ := hSw; go_simp <;> with_reducible rfl)
          · exact fun _ _ _ h => h
          simp only [Act.put, List.setIfInBounds_toArray, List.set]
          refine wpAnyH_yields (i := 34) (oi := ?_) (v := ?_) ?_ (by kernel_rfl) (by kernel_rfl) (by kernel_rfl) (by assumption) ?_ ?_ ?_ ?_
          rotate_left 2
          · (simp only [List.getElem?_toArray, List.getElem?_cons_succ, List.getElem?_cons_zero] <;> exact rfl)
          · rfl
          · (intro w' hSw; obtain ⟨g0, g1, g2, g3, g4, g5⟩ := hSw; go_simp <;> with_reducible rfl)
          · exact fun _ _ _ h => h
          simp only [Act.put, List.setIfInBounds_toArray, List.set]
          refine wpAnyH_done (by kernel_rfl) ?_ _
          have hnn := HN.out
          go_wp2
          go_round
          case rel => exact ⟨i + 1, by omega, by go_num, A1, n1, c1, A2, n2, c2, cl, false, rfl, rfl, rfl, rfl, hide ⟨_, _, _, _, _, _, HJz.out, HBk.out, HRem.out, HBz.out⟩⟩
          case measure => simp [intOf]; omega
        · have hHeld := And.intro k0 (And.intro k1 (And.intro k2 (And.intro k3 (And.intro cvO cvI))))
          refine wp_region_held_n (n := 35) (l := #[false, false, false, false, false, false, false, false, false, false, false, false, false, false, false, false, false, false, false, false, false, false, false, false, false, false, false, false, false, false, false, false, false, false, false]) (S := (fun w' => w'.cell? ⟨q, 0, none⟩ = some (.int .i64 n1) ∧ w'.cell? ⟨q, 1, none⟩ = some (.int .i64 n2) ∧ w'.cell? ⟨q, 2, none⟩ = some (.bool true) ∧ w'.cell? ⟨q, 3, none⟩ = some (.bool true) ∧ (convert 26 9 (.slice A2 n2 c2)).run Tryd.prog w' = .ok (.string ⟨(Lib.bytesOf O).toArray⟩) w' ∧ (convert 26 9 (.slice A1 n1 c1)).run Tryd.prog w' = .ok (.string ⟨(Lib.bytesOf I).toArray⟩) w')) rfl rfl (by kernel_rfl) ⟨k0, k1, k2, k3, cvO, cvI⟩ ?_
          refine wpAnyH_yields (i := 0) (oi := ?_) (v := ?_) ?_ (by kernel_rfl) (by kernel_rfl) (by kernel_rfl) (by assumption) ?_ ?_ ?_ ?_
          rotate_left 2
          · (simp only [List.getElem?_toArray, List.getElem?_cons_zero] <;> exact rfl)
          · rfl
          · (intro w' hSw; obtain ⟨g0, g1, g2, g3, g4, g5⟩ := hSw; go_simp <;> with_reducible rfl)
          · exact fun _ _ _ h => h
          simp only [Act.put, List.setIfInBounds_toArray, List.set]
          refine wpAnyH_yields (i := 1) (oi := ?_) (v := ?_) ?_ (by kernel_rfl) (by kernel_rfl) (by kernel_rfl) (by assumption) ?_ ?_ ?_ ?_
          rotate_left 2
          · (simp only [List.getElem?_toArray, List.getElem?_cons_succ, List.getElem?_cons_zero] <;> exact rfl)
          · rfl
          · (intro w' hSw; obtain ⟨g0, g1, g2, g3, g4, g5⟩ := hSw; go_simp <;> with_reducible rfl)
          · exact fun _ _ _ h => h
          simp only [Act.put, List.setIfInBounds_toArray, List.set]
          refine wpAnyH_yields (i := 2) (oi := ?_) (v := ?_) ?_ (by kernel_rfl) (by kernel_rfl) (by kernel_rfl) (by assumption) ?_ ?_ ?_ ?_
          rotate_left 2
          · (simp only [List.getElem?_toArray, List.getElem?_cons_succ, List.getElem?_cons_zero] <;> exact rfl)
          · rfl
          · (intro w' hSw; obtain ⟨g0, g1, g2, g3, g4, g5⟩ := hSw; go_simp <;> with_reducible rfl)
          · exact fun _ _ _ h => h
          simp only [Act.put, List.setIfInBounds_toArray, List.set]
          refine wpAnyH_yields (i := 3) (oi := ?_) (v := ?_) ?_ (by kernel_rfl) (by kernel_rfl) (by kernel_rfl) (by assumption) ?_ ?_ ?_ ?_
          rotate_left 2
          · (simp only [List.getElem?_toArray, List.getElem?_cons_succ, List.getElem?_cons_zero] <;> exact rfl)
          · rfl
          · (intro w' hSw; obtain ⟨g0, g1, g2, g3, g4, g5⟩ := hSw; go_simp <;> with_reducible rfl)
          · exact fun _ _ _ h => h
          simp only [Act.put, List.setIfInBounds_toArray, List.set]
          refine wpAnyH_yields (i := 4) (oi := ?_) (v := ?_) ?_ (by kernel_rfl) (by kernel_rfl) (by kernel_rfl) (by assumption) ?_ ?_ ?_ ?_
          rotate_left 2
          · (simp only [List.getElem?_toArray, List.getElem?_cons_succ, List.getElem?_cons_zero] <;> exact rfl)
          · rfl
          · (intro w' hSw; obtain ⟨g0, g1, g2, g3, g4, g5⟩ := hSw; go_simp <;> with_reducible rfl)
          · exact fun _ _ _ h => h
          simp only [Act.put, List.setIfInBounds_toArray, List.set]
          refine wpAnyH_yields (i := 5) (oi := ?_) (v := ?_) ?_ (by kernel_rfl) (by kernel_rfl) (by kernel_rfl) (by assumption) ?_ ?_ ?_ ?_
          rotate_left 2
          · (simp only [List.getElem?_toArray, List.getElem?_cons_succ, List.getElem?_cons_zero] <;> exact rfl)
          · rfl
          · (intro w' hSw; obtain ⟨g0, g1, g2, g3, g4, g5⟩ := hSw; go_simp <;> with_reducible rfl)
          · exact fun _ _ _ h => h
          simp only [Act.put, List.setIfInBounds_toArray, List.set]
          refine wpAnyH_yields (i := 6) (oi := ?_) (v := ?_) ?_ (by kernel_rfl) (by kernel_rfl) (by kernel_rfl) (by assumption) ?_ ?_ ?_ ?_
          rotate_left 2
          · (simp only [List.getElem?_toArray, List.getElem?_cons_succ, List.getElem?_cons_zero] <;> exact rfl)
          · rfl
          · (intro w' hSw; obtain ⟨g0, g1, g2, g3, g4, g5⟩ := hSw; go_simp <;> with_reducible rfl)
          · exact fun _ _ _ h => h
          simp only [Act.put, List.setIfInBounds_toArray, List.set]
          refine wpAnyH_yields (i := 7) (oi := ?_) (v := ?_) ?_ (by kernel_rfl) (by kernel_rfl) (by kernel_rfl) (by assumption) ?_ ?_ ?_ ?_
          rotate_left 2
          · (simp only [List.getElem?_toArray, List.getElem?_cons_succ, List.getElem?_cons_zero] <;> exact rfl)
          · rfl
          · (intro w' hSw; obtain ⟨g0, g1, g2, g3, g4, g5⟩ := hSw; go_simp <;> with_reducible rfl)
          · exact fun _ _ _ h => h
          simp only [Act.put, List.setIfInBounds_toArray, List.set]
          refine wpAnyH_yields (i := 8) (oi := ?_) (v := ?_) ?_ (by kernel_rfl) (by kernel_rfl) (by kernel_rfl) (by assumption) ?_ ?_ ?_ ?_
          rotate_left 2
          · (simp only [List.getElem?_toArray, List.getElem?_cons_succ, List.getElem?_cons_zero] <;> exact rfl)
          · rfl
          · (intro w' hSw; obtain ⟨g0, g1, g2, g3, g4, g5⟩ := hSw; go_simp <;> with_reducible rfl)
          · exact fun _ _ _ h => h
          simp only [Act.put, List.setIfInBounds_toArray, List.set]
          refine wpAnyH_yields (i := 9) (oi := ?_) (v := ?_) ?_ (by kernel_rfl) (by kernel_rfl) (by kernel_rfl) (by assumption) ?_ ?_ ?_ ?_
          rotate_left 2
          · (simp only [List.getElem?_toArray, List.getElem?_cons_succ, List.getElem?_cons_zero] <;> exact rfl)
          · rfl
          · (intro w' hSw; obtain ⟨g0, g1, g2, g3, g4, g5⟩ := hSw; go_simp <;> with_reducible rfl)
          · exact fun _ _ _ h => h
          simp only [Act.put, List.setIfInBounds_toArray, List.set]
          refine wpAnyH_yields (i := 10) (oi := ?_) (v := ?_) ?_ (by kernel_rfl) (by kernel_rfl) (by kernel_rfl) (by assumption) ?_ ?_ ?_ ?_
          rotate_left 2
          · (simp only [List.getElem?_toArray, List.getElem?_cons_succ, List.getElem?_cons_zero] <;> exact rfl)
          · rfl
          · (intro w' hSw; obtain ⟨g0, g1, g2, g3, g4, g5⟩ := hSw; go_simp <;> with_reducible rfl)
          · exact fun _ _ _ h => h
          simp only [Act.put, List.setIfInBounds_toArray, List.set]
          refine wpAnyH_yields (i := 11) (oi := ?_) (v := ?_) ?_ (by kernel_rfl) (by kernel_rfl) (by kernel_rfl) (by assumption) ?_ ?_ ?_ ?_
          rotate_left 2
          · (simp only [List.getElem?_toArray, List.getElem?_cons_succ, List.getElem?_cons_zero] <;> exact rfl)
          · rfl
          · (intro w' hSw; obtain ⟨g0, g1, g2, g3, g4, g5⟩ := hSw; go_simp <;> with_reducible rfl)
          · exact fun _ _ _ h => h
          simp only [Act.put, List.setIfInBounds_toArray, List.set]
          refine wpAnyH_yields (i := 12) (oi := ?_) (v := ?_) ?_ (by kernel_rfl) (by kernel_rfl) (by kernel_rfl) (by assumption) ?_ ?_ ?_ ?_
          rotate_left 2
          · (simp only [List.getElem?_toArray, List.getElem?_cons_succ, List.getElem?_cons_zero] <;> exact rfl)
          · rfl
          · (intro w' hSw; obtain ⟨g0, g1, g2, g3, g4, g5⟩ := hSw; go_simp <;> with_reducible rfl)
          · exact fun _ _ _ h => h
          simp only [Act.put, List.setIfInBounds_toArray, List.set]
          refine wpAnyH_yields (i := 13) (oi := ?_) (v := ?_) ?_ (by kernel_rfl) (by kernel_rfl) (by kernel_rfl) (by assumption) ?_ ?_ ?_ ?_
          rotate_left 2
          · (simp only [List.getElem?_toArray, List.getElem?_cons_succ, List.getElem?_cons_zero] <;> exact rfl)
          · rfl
          · (intro w' hSw; obtain ⟨g0, g1, g2, g3, g4, g5⟩ := hSw; go_simp <;> with_reducible rfl)
          · exact fun _ _ _ h => h
          simp only [Act.put, List.setIfInBounds_toArray, List.set]
          refine wpAnyH_yields (i := 17) (oi := ?_) (v := ?_) ?_ (by kernel_rfl) (by kernel_rfl) (by kernel_rfl) (by assumption) ?_ ?_ ?_ ?_
          rotate_left 2
          · (simp only [List.getElem?_toArray, List.getElem?_cons_succ, List.getElem?_cons_zero] <;> exact rfl)
          · rfl
          · (intro w' hSw; obtain ⟨g0, g1, g2, g3, g4, g5⟩ := hSw; go_simp <;> with_reducible rfl)
          · exact fun _ _ _ h => h
          simp only [Act.put, List.setIfInBounds_toArray, List.set]
          refine wpAnyH_yields (i := 18) (oi := ?_) (v := ?_) ?_ (by kernel_rfl) (by kernel_rfl) (by kernel_rfl) (by assumption) ?_ ?_ ?_ ?_
          rotate_left 2
          · (simp only [List.getElem?_toArray, List.getElem?_cons_succ, List.getElem?_cons_zero] <;> exact rfl)
          · rfl
          · (intro w' hSw; obtain ⟨g0, g1, g2, g3, g4, g5⟩ := hSw; go_simp <;> with_reducible rfl)
          · exact fun _ _ _ h => h
          simp only [Act.put, List.setIfInBounds_toArray, List.set]
          refine wpAnyH_ready (rs := [14]) (by kernel_rfl) (by simp) (AllReadyH.cons (o := ?_) ?_ (fun K hK => ?_) AllReadyH.nil)
          rotate_left 1
          · (simp only [List.getElem?_toArray, List.getElem?_cons_succ, List.getElem?_cons_zero] <;> exact rfl)
          go_simp
          go_at_call 11
          refine hrest.mono ?_
          rintro r wz ⟨v, rfl, hv, hbz⟩
          have cvR := run_str hv.reads HDb.out
          have HJz := hide (HJa.out.past hbz)
          have HBz := hide (HBd.out.trans (hbz.mono HBd.out.size))
          have cvO2 := run_str HJz.out.ro.reads HOb.out
          have cvI2 := run_str HJz.out.ri.reads HIb.out
          have m0 := cell_later hbz k0
          have m1 := cell_later hbz k1
          have m2 := cell_later hbz k2
          have m3 := cell_later hbz k3
          clear hv hbz k0 k1 k2 k3 cvO cvI hrest hHeld
          refine hK.out _ _ (⟨m0, m1, m2, m3, cvO2, cvI2⟩) (fun hHeld => ?_)
          clear hK K
          try simp only [List.setIfInBounds_toArray, List.set_cons_zero, List.set_cons_succ]
          refine wpAnyH_ready (rs := [15]) (by kernel_rfl) (by simp) (AllReadyH.cons (o := ?_) ?_ (fun K hK => ?_) AllReadyH.nil)
          rotate_left 1
          · (simp only [List.getElem?_toArray, List.getElem?_cons_succ, List.getElem?_cons_zero] <;> exact rfl)
          go_simp
          refine hK.out _ _ (⟨m0, m1, m2, m3, cvO2, cvI2⟩) (fun hHeld => ?_)
          clear hK K
          try simp only [List.setIfInBounds_toArray, List.set_cons_zero, List.set_cons_succ]
          refine wpAnyH_yields (i := 16) (oi := ?_) (v := ?_) ?_ (by kernel_rfl) (by kernel_rfl) (by kernel_rfl) (by assumption) ?_ ?_ ?_ ?_
          rotate_left 2
          · (simp only [List.getElem?_toArray, List.getElem?_cons_succ, List.getElem?_cons_zero] <;> exact rfl)
          · rfl
          · (intro w' hSw; obtain ⟨g0, g1, g2, g3, g4, g5⟩ := hSw; go_simp <;> with_reducible rfl)
          · exact fun _ _ _ h => h
          simp only [Act.put, List.setIfInBounds_toArray, List.set]
          refine wpAnyH_yields (i := 19) (oi := ?_) (v := ?_) ?_ (by kernel_rfl) (by kernel_rfl) (by kernel_rfl) (by assumption) ?_ ?_ ?_ ?_
          rotate_left 2
          · (simp only [List.getElem?_toArray, List.getElem?_cons_succ, List.getElem?_cons_zero] <;> exact rfl)
          · rfl
          · (intro w' hSw; obtain ⟨g0, g1, g2, g3, g4, g5⟩ := hSw; go_simp <;> with_reducible rfl)
          · exact fun _ _ _ h => h
          simp only [Act.put, List.setIfInBounds_toArray, List.set]
          refine wpAnyH_yields (i := 20) (oi := ?_) (v := ?_) ?_ (by kernel_rfl) (by kernel_rfl) (by kernel_rfl) (by assumption) ?_ ?_ ?_ ?_
          rotate_left 2
          · (simp only [List.getElem?_toArray, List.getElem?_cons_succ, List.getElem?_cons_zero] <;> exact rfl)
          · rfl
          · (intro w' hSw; obtain ⟨g0, g1, g2, g3, g4, g5⟩ := hSw; go_simp <;> with_reducible rfl)
          · exact fun _ _ _ h => h
          simp only [Act.put, List.setIfInBounds_toArray, List.set]
          refine wpAnyH_yields (i := 21) (oi := ?_) (v := ?_) ?_ (by kernel_rfl) (by kernel_rfl) (by kernel_rfl) (by assumption) ?_ ?_ ?_ ?_
          rotate_left 2
          · (simp only [List.getElem?_toArray, List.getElem?_cons_succ, List.getElem?_cons_zero] <;> exact rfl)
          · rfl
          · (intro w' hSw; obtain ⟨g0, g1, g2, g3, g4, g5⟩ := hSw; go_simp <;> with_reducible rfl)
          · exact fun _ _ _ h => h
          simp only [Act.put, List.setIfInBounds_toArray, List.set]
          refine wpAnyH_yields (i := 22) (oi := ?_) (v := ?_) ?_ (by kernel_rfl) (by kernel_rfl) (by kernel_rfl) (by assumption) ?_ ?_ ?_ ?_
          rotate_left 2
          · (simp only [List.getElem?_toArray, List.getElem?_cons_succ, List.getElem?_cons_zero] <;> exact rfl)
          · rfl
          · (intro w' hSw; obtain ⟨g0, g1, g2, g3, g4, g5⟩ := hSw; go_simp <;> with_reducible rfl)
          · exact fun _ _ _ h => h
          simp only [Act.put, List.setIfInBounds_toArray, List.set]
          refine wpAnyH_yields (i := 23) (oi := ?_) (v := ?_) ?_ (by kernel_rfl) (by kernel_rfl) (by kernel_rfl) (by assumption) ?_ ?_ ?_ ?_
          rotate_left 2
          · (simp only [List.getElem?_toArray, List.getElem?_cons_succ, List.getElem?_cons_zero] <;> exact rfl)
          · rfl
          · (intro w' hSw; obtain ⟨g0, g1, g2, g3, g4, g5⟩ := hSw; go_simp <;> with_reducible rfl)
          · exact fun _ _ _ h => h
          simp only [Act.put, List.setIfInBounds_toArray, List.set]
          refine wpAnyH_yields (i := 24) (oi := ?_) (v := ?_) ?_ (by kernel_rfl) (by kernel_rfl) (by kernel_rfl) (by assumption) ?_ ?_ ?_ ?_
          rotate_left 2
          · (simp only [List.getElem?_toArray, List.getElem?_cons_succ, List.getElem?_cons_zero] <;> exact rfl)
          · rfl
          · (intro w' hSw; obtain ⟨g0, g1, g2, g3, g4, g5⟩ := hSw; go_simp <;> with_reducible rfl)
          · exact fun _ _ _ h => h
          simp only [Act.put, List.setIfInBounds_toArray, List.set]
          refine wpAnyH_yields (i := 25) (oi := ?_) (v := ?_) ?_ (by kernel_rfl) (by kernel_rfl) (by kernel_rfl) (by assumption) ?_ ?_ ?_ ?_
          rotate_left 2
          · (simp only [List.getElem?_toArray, List.getElem?_cons_succ, List.getElem?_cons_zero] <;> exact rfl)
          · rfl
          · (intro w' hSw; obtain ⟨g0, g1, g2, g3, g4, g5⟩ := hSw; go_simp <;> with_reducible rfl)
          · exact fun _ _ _ h => h
          simp only [Act.put, List.setIfInBounds_toArray, List.set]
          refine wpAnyH_yields (i := 26) (oi := ?_) (v := ?_) ?_ (by kernel_rfl) (by kernel_rfl) (by kernel_rfl) (by assumption) ?_ ?_ ?_ ?_
          rotate_left 2
          · (simp only [List.getElem?_toArray, List.getElem?_cons_succ, List.getElem?_cons_zero] <;> exact rfl)
          · rfl
          · (intro w' hSw; obtain ⟨g0, g1, g2, g3, g4, g5⟩ := hSw; go_simp <;> with_reducible rfl)
          · exact fun _ _ _ h => h
          simp only [Act.put, List.setIfInBounds_toArray, List.set]
          refine wpAnyH_yields (i := 27) (oi := ?_) (v := ?_) ?_ (by kernel_rfl) (by kernel_rfl) (by kernel_rfl) (by assumption) ?_ ?_ ?_ ?_
          rotate_left 2
          · (simp only [List.getElem?_toArray, List.getElem?_cons_succ, List.getElem?_cons_zero] <;> exact rfl)
          · rfl
          · (intro w' hSw; obtain ⟨g0, g1, g2, g3, g4, g5⟩ := hSw; go_simp <;> with_reducible rfl)
          · exact fun _ _ _ h => h
          simp only [Act.put, List.setIfInBounds_toArray, List.set]
          refine wpAnyH_yields (i := 28) (oi := ?_) (v := ?_) ?_ (by kernel_rfl) (by kernel_rfl) (by kernel_rfl) (by assumption) ?_ ?_ ?_ ?_
          rotate_left 2
          · (simp only [List.getElem?_toArray, List.getElem?_cons_succ, List.getElem?_cons_zero] <;> exact rfl)
          · rfl
          · (intro w' hSw; obtain ⟨g0, g1, g2, g3, g4, g5⟩ := hSw; go_simp <;> with_reducible rfl)
          · exact fun _ _ _ h => h
          simp only [Act.put, List.setIfInBounds_toArray, List.set]
          refine wpAnyH_yields (i := 29) (oi := ?_) (v := ?_) ?_ (by kernel_rfl) (by kernel_rfl) (by kernel_rfl) (by assumption) ?_ ?_ ?_ ?_
          rotate_left 2
          · (simp only [List.getElem?_toArray, List.getElem?_cons_succ, List.getElem?_cons_zero] <;> exact rfl)
          · rfl
          · (intro w' hSw; obtain ⟨g0, g1, g2, g3, g4, g5⟩ := hSw; go_simp <;> with_reducible rfl)
          · exact fun _ _ _ h => h
          simp only [Act.put, List.setIfInBounds_toArray, List.set]
          refine wpAnyH_yields (i := 30) (oi := ?_) (v := ?_) ?_ (by kernel_rfl) (by kernel_rfl) (by kernel_rfl) (by assumption) ?_ ?_ ?_ ?_
          rotate_left 2
          · (simp only [List.getElem?_toArray, List.getElem?_cons_succ, List.getElem?_cons_zero] <;> exact rfl)
          · rfl
          · (intro w' hSw; obtain ⟨g0, g1, g2, g3, g4, g5⟩ := hSw; go_simp <;> with_reducible rfl)
          · exact fun _ _ _ h => h
          simp only [Act.put, List.setIfInBounds_toArray, List.set]
          refine wpAnyH_yields (i := 31) (oi := ?_) (v := ?_) ?_ (by kernel_rfl) (by kernel_rfl) (by kernel_rfl) (by assumption) ?_ ?_ ?_ ?_
          rotate_left 2
          · (simp only [List.getElem?_toArray, List.getElem?_cons_succ, List.getElem?_cons_zero] <;> exact rfl)
          · rfl
          · (intro w' hSw; obtain ⟨g0, g1, g2, g3, g4, g5⟩ := hSw; go_simp <;> with_reducible rfl)
          · exact fun _ _ _ h => h
          simp only [Act.put, List.setIfInBounds_toArray, List.set]
          refine wpAnyH_yields (i := 32) (oi := ?_) (v := ?_) ?_ (by kernel_rfl) (by kernel_rfl) (by kernel_rfl) (by assumption) ?_ ?_ ?_ ?_
          rotate_left 2
          · (simp only [List.getElem?_toArray, List.getElem?_cons_succ, List.getElem?_cons_zero] <;> exact rfl)
          · rfl
          · (intro w' hSw; obtain ⟨g0, g1, g2, g3, g4, g5⟩ := hSw; go_simp <;> with_reducible rfl)
          · exact fun _ _ _ h => h
          simp only [Act.put, List.setIfInBounds_toArray, List.set]
          refine wpAnyH_yields (i := 33) (oi := ?_) (v := ?_) ?_ (by kernel_rfl) (by kernel_rfl) (by kernel_rfl) (by assumption) ?_ ?_ ?_ ?_
          rotate_left 2
          · (simp only [List.getElem?_toArray, List.getElem?_cons_succ, List.getElem?_cons_zero] <;> exact rfl)
          · rfl
          · (intro w' hSw; obtain ⟨g0, g1, g2, g3, g4, g5⟩ := hSw; go_simp <;> with_reducible rfl)
          · exact fun _ _ _ h => h
          simp only [Act.put, List.setIfInBounds_toArray, List.set]
          refine wpAnyH_yields (i := 34) (oi := ?_) (v := ?_) ?_ (by kernel_rfl) (by kernel_rfl) (by kernel_rfl) (by assumption) ?_ ?_ ?_ ?_
          rotate_left 2
          · (simp only [List.getElem?_toArray, List.getElem?_cons_succ, List.getElem?_cons_zero] <;> exact rfl)
          · rfl
          · (intro w' hSw; obtain ⟨g0, g1, g2, g3, g4, g5⟩ := hSw; go_simp <;> with_reducible rfl)
          · exact fun _ _ _ h => h
          simp only [Act.put, List.setIfInBounds_toArray, List.set]
          refine wpAnyH_done (by kernel_rfl) ?_ _
          have hnn := HN.out
          go_wp2
          go_round
          case rel => exact ⟨i + 1, by omega, by go_num, A1, n1, c1, A2, n2, c2, true, true, rfl, rfl, rfl, rfl, hide ⟨_, _, _, _, _, _, HJz.out, HBk.out, HRem.out, HBz.out⟩⟩
          case measure => simp [intOf]; omega
    · obtain rfl : i = ns := by omega
      go_wp2
      go_ret
      exact ⟨rfl, HR.out.below⟩
end traceJudges
end Go.Proofs.YtipfjnjjfojdgaaDoor
