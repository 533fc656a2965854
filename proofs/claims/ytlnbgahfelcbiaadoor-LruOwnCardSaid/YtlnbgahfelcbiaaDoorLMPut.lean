import Derived.Test.YtlnbgahfelcbiaaDoorLFind
import Derived.Deep.CutBlock
/- put: a Put against the rows ahead of it; weights in a map. -/
namespace Go.Proofs.YtlnbgahfelcbiaaDoor
open Go Go.RowKit Go.Cu Go.Proofs.YtlnbgahfelcbiaaDoor.errs

set_option maxRecDepth 10000 in
set_option maxHeartbeats 1000000 in
theorem alike_quiet (w : World) (A B : Option Addr) (n m c d : Nat) (hnm : n = m) (L : List LE) (hu : Reads w 3 (.slice A n c) n (trisC L)) (hv : Reads w 3 (.slice B m d) m (trisC L)) :
    Calls Tryd.prog 30 #[.slice A n c, .slice B m d] w fun e w' => e = .returned (.bool true) ∧ ∃ j, w' = w.drewN j := by
  subst hnm
  have hn := maxLen_lt hu.size
  have hL := tris_len hu
  have HL := hide hL
  have HA := hide hu
  have HB := hide hv
  clear hu hv hL
  go_enter Tryd.func30, Tryd.ntmps30
  go_wp2
  go_loopw [5] (fun t wr => ∃ i : Nat, i ≤ n ∧ t = .int .i64 i ∧ Hid (Drawn w wr)) (fun t _ => n - (intOf t).toNat)
  case atStart => exact ⟨0, Nat.zero_le _, rfl, hide (Drawn.refl _)⟩
  case round =>
    obtain ⟨i, hi, rfl, HBl⟩ := hrel
    by_cases hlt : i < n
    · obtain ⟨x, hx⟩ : ∃ x, L[i]? = some x := ⟨_, List.getElem?_eq_getElem (by have := HL.out; omega)⟩
      obtain ⟨ad, hA, q0, q1, q2⟩ := tris_cell (Reads.past HA.out HBl.out.below) hx
      obtain ⟨bd, hB, p0, p1, p2⟩ := tris_cell (Reads.past HB.out HBl.out.below) hx
      subst hA
      subst hB
      have hne := neq_tri
      clear hx
      go_wp2
      go_quiet (fail)
      go_wp2
      go_roundw
      case rel => exact ⟨i + 1, by omega, by go_num, hide (by obtain ⟨q, hq⟩ := HBl.out; exact ⟨_, by rw [hq, World.drewN_drewN]⟩)⟩
      case measure => simp [intOf]; omega
    · obtain rfl : i = n := by omega
      go_wp2
      go_ret
      exact ⟨rfl, HBl.out⟩

theorem quiet_at {P : Program} {f : FuncId} {args : Array Value} {w : World} {n : Nat} {v : Value} (h : Calls P f args (w.drewN n) fun e w' => e = .returned v ∧ ∃ j, w' = (w.drewN n).drewN j) : Calls P f args (w.drewN n) fun e w'' => e = .returned v ∧ ∃ m, w'' = w.drewN m :=
  h.mono (fun _ _ h => ⟨h.1, h.2.elim (fun _ hq => ⟨_, hq.trans (World.drewN_drewN _ _ _)⟩)⟩)
/-- what the weights' map knows -/
def Wts (f : Lit → Option Value) (L : List LE) : Prop := ∀ e ∈ L, f (.int .i64 e.k) = some (.int .i64 e.wt)
theorem Wts.sub {f : Lit → Option Value} {L M : List LE} (h : Wts f L) (hs : ∀ e ∈ M, e ∈ L) : Wts f M := fun e he => h e (hs e he)
/-- what put leaves -/
def MPost (w : World) (c m : Nat) (room : Int) (L : List LE) (sm nm : Nat) (r : Ending) (w' : World) : Prop :=
  r = .returned (.bool true) ∧ ∃ L' f' n', LCP w' c m room L' ∧ Mod (fun k => InC c m L k ∨ k = sm) w w' ∧ From w c m L L' ∧ L'.length ≤ L.length + 1 ∧ Mp w' Tryd.prog 3 sm f' n' ∧ n' ≤ nm + 1 ∧ Wts f' L'

set_option maxRecDepth 10000 in
set_option maxHeartbeats 4000000 in
theorem mput_bad (w : World) (c m : Nat) (room : Int) (L : List LE) (h : LCP w c m room L) (hn : L.length ≤ 600) (adr : Nat → Addr) (hS : Sent w adr) (A : Option Addr) (n cc : Nat) (hr : Row w (fun _ => True) 62 3 (.slice A n cc) n (trisC L)) (sm nm : Nat) (f : Lit → Option Value) (hm : Mp w Tryd.prog 3 sm f nm) (hw : Wts f L) (k v wt un : Int) (code : Nat) (hbad : Bad room wt code) :
    Calls Tryd.prog 26 #[ptr c, .slice A n cc, .map (some sm), .int .i64 room, opV ⟨1, k, v, wt, un⟩] w (MPost w c m room L sm nm) := by
  obtain ⟨w1, _, hw1, hq, hal, hb⟩ := opBox w ⟨1, k, v, wt, un⟩
  obtain ⟨o0, o1, o2, o3, o4⟩ := box5 hb
  have HL := hide (h.past hal)
  have HS := hide (hS.below hal)
  have HR := hide (hr.kept (Mod.ofBelow hal (fun _ => False)) (fun _ _ _ h => h))
  have HB := hide hal
  have HBx := hide hb
  have HM := hide hm
  have HW := hide hw
  have HN := hide (tris_len hr.reads)
  have HBad := hide hbad
  clear h hS hr hal hb hm hw
  go_enter Tryd.func26, Tryd.ntmps26
  go_wp2_with fail
  refine (putbad_n w1 c m room L HL.out adr HS.out k v wt un code HBad.out).mono ?_
  rintro r w2 ⟨rfl, hb2⟩
  have HB2 := hide (HB.out.trans (hb2.mono HB.out.size))
  have HBx2 := hide (below_at hb2 HBx.out)
  have HL2 := hide (HL.out.past hb2)
  have HR2 := hide (HR.out.kept (Mod.ofBelow hb2 (fun _ => False)) (fun _ _ _ h => h))
  have HS2 := hide (HS.out.below hb2)
  clear hb2 o0 o1 o2 o3 o4
  go_wp2_with fail
  refine (rows_any w2 c m room L HL2.out (by omega)).mono ?_
  rintro r w3 ⟨N, k3, c3, rfl, hk3, hr3, hb3⟩
  have HB3 := hide (HB2.out.trans (hb3.mono HB2.out.size))
  have HBx3 := hide (below_at hb3 HBx2.out)
  have HL3 := hide (HL2.out.past hb3)
  have HR3 := hide (HR2.out.kept (Mod.ofBelow hb3 (fun _ => False)) (fun _ _ _ h => h))
  have HS3 := hide (HS2.out.below hb3)
  have HNow := hide hr3
  have HK3 := hide (show k3 = n by rw [hk3, HN.out])
  obtain ⟨o0, o1, o2, o3, o4⟩ := box5 HBx3.out
  clear hb3 hk3 hr3
  clear hbad
  rcases HBad.out with ⟨hneg, hcode⟩ | ⟨hneg, hbig, hcode⟩
  · subst hcode
    have hd : decide (wt < 0) = true := decide_eq_true hneg
    go_wp2_with fail
    refine (code_err w3 adr HS3.out 2 (by decide) (by decide) (by decide)).mono ?_
    rintro r w4 ⟨rfl, rfl⟩
    go_wp2_with fail
    refine (alike_true w4 N A k3 n c3 cc HK3.out L HNow.out.reads HR3.out.reads).mono ?_
    rintro r w5 ⟨rfl, hb5⟩
    have HB5 := hide (HB3.out.trans (hb5.mono HB3.out.size))
    have HL5 := hide (HL3.out.past hb5)
    have HBx5 := hide (below_at hb5 HBx3.out)
    clear hb5 o0 o1 o2 o3 o4
    obtain ⟨o0, o1, o2, o3, o4⟩ := box5 HBx5.out
    go_wp2
    go_ret
    exact ⟨rfl, L, f, nm, HL5.out, Mod.ofBelow HB5.out _, From.sub (fun _ h => h), by omega, HM.out.block (HB5.out.block _ HM.out.lt), by omega, HW.out⟩
  · subst hcode
    have hd : decide (wt < 0) = false := decide_eq_false hneg
    have hd2 : decide (room < wt) = true := decide_eq_true hbig
    go_wp2_with fail
    refine (code_err w3 adr HS3.out 6 (by decide) (by decide) (by decide)).mono ?_
    rintro r w4 ⟨rfl, rfl⟩
    go_wp2_with fail
    refine (alike_true w4 N A k3 n c3 cc HK3.out L HNow.out.reads HR3.out.reads).mono ?_
    rintro r w5 ⟨rfl, hb5⟩
    have HB5 := hide (HB3.out.trans (hb5.mono HB3.out.size))
    have HL5 := hide (HL3.out.past hb5)
    have HBx5 := hide (below_at hb5 HBx3.out)
    clear hb5 o0 o1 o2 o3 o4
    obtain ⟨o0, o1, o2, o3, o4⟩ := box5 HBx5.out
    go_wp2
    go_ret
    exact ⟨rfl, L, f, nm, HL5.out, Mod.ofBelow HB5.out _, From.sub (fun _ h => h), by omega, HM.out.block (HB5.out.block _ HM.out.lt), by omega, HW.out⟩

theorem gone_get {R : List LE} {K g i : Nat} (hR : R.length = K + g) (hi : i < g) : ∃ x, R[K + g - 1 - i]? = some x ∧ (goneKeys R K)[i]? = some x.k := by
  obtain ⟨x, hx⟩ : ∃ x, R[K + g - 1 - i]? = some x := ⟨_, List.getElem?_eq_getElem (by omega)⟩
  refine ⟨x, hx, ?_⟩
  unfold goneKeys
  rw [List.getElem?_reverse (by rw [List.length_map, List.length_drop]; omega), List.getElem?_map, List.getElem?_drop, List.length_map, List.length_drop, hR, show K + (K + g - K - 1 - i) = K + g - 1 - i by omega, hx]
  rfl
theorem stayN_tight {lim : Int} {R : List LE} {K : Nat} : ∀ j, stayN lim R j = K → K < j → lim < wsum (R.take (K + 1))
  | 0, _, h => by omega
  | j + 1, h, hlt => by
    rw [stayN] at h
    split at h
    · rename_i hc
      by_cases hj : K < j
      · exact stayN_tight j h hj
      · have := stayN_le lim R j
        obtain rfl : K = j := by omega
        exact hc
    · omega
theorem stay_tight {lim : Int} {R : List LE} {K : Nat} {x : LE} (hK : (stay lim R).length = K) (hx : R[K]? = some x) : lim < wsum (stay lim R) + x.wt := by
  have hl := (List.getElem?_eq_some_iff.1 hx).1
  have hs := stayN_le lim R R.length
  have hK2 : stayN lim R R.length = K := by unfold stay at hK; rw [List.length_take] at hK; omega
  have h := stayN_tight R.length hK2 hl
  rw [wsum_take hx] at h
  unfold stay
  rw [hK2]
  exact h

theorem stay_app (lim : Int) (R : List LE) : R = stay lim R ++ R.drop (stay lim R).length := by
  unfold stay
  rw [List.length_take]
  conv => lhs; rw [← List.take_append_drop (stayN lim R R.length) R]
  congr 1
  by_cases h : stayN lim R R.length ≤ R.length
  · rw [Nat.min_eq_left h]
  · rw [Nat.min_eq_right (by omega), List.drop_of_length_le (by omega), List.drop_of_length_le (Nat.le_refl _)]

set_option maxRecDepth 10000 in
set_option maxHeartbeats 4000000 in
theorem mput_ok (w : World) (c m : Nat) (room : Int) (L : List LE) (h : LCP w c m room L) (hn : L.length ≤ 600) (A : Option Addr) (n cc : Nat) (hr : Row w (fun _ => True) 62 3 (.slice A n cc) n (trisC L)) (sm nm : Nat) (f : Lit → Option Value) (hm : Mp w Tryd.prog 3 sm f nm) (hnm : nm ≤ 600) (hns : ∀ k, InC c m L k → k ≠ sm) (hw : Wts f L) (k v wt un : Int) (hk : (Lit.int .i64 k).wf = true) (h0 : 0 ≤ wt) (hfit : wt ≤ room) :
    Calls Tryd.prog 26 #[ptr c, .slice A n cc, .map (some sm), .int .i64 room, opV ⟨1, k, v, wt, un⟩] w (MPost w c m room L sm nm) := by
  obtain ⟨w1, q, hw1, hq, hal, hb⟩ := opBox w ⟨1, k, v, wt, un⟩
  obtain ⟨o0, o1, o2, o3, o4⟩ := box5 hb
  obtain ⟨R, hR⟩ : ∃ R, without L k = R := ⟨_, rfl⟩
  obtain ⟨S, hSt⟩ : ∃ S, stay (room - wt) R = S := ⟨_, rfl⟩
  have hsplit : R = S ++ R.drop S.length := by rw [← hSt]; exact stay_app _ _
  obtain ⟨G, hG⟩ : ∃ G, R.drop S.length = G := ⟨_, rfl⟩
  rw [hG] at hsplit
  have HL := hide (h.past hal)
  have HRw := hide (hr.kept (Mod.ofBelow hal (fun _ => False)) (fun _ _ _ h => h))
  have HB := hide hal
  have HBx := hide hb
  have HM := hide (hm.block (hal.block _ hm.lt))
  have HNs := hide hns
  have hsm : sm < w.heap.size := hm.lt
  have HW := hide hw
  have HR := hide hR
  have HSt := hide hSt
  have HSp := hide hsplit
  have HG := hide hG
  have hnL := tris_len hr.reads
  have hkl : S.length + G.length ≤ 600 := by have := without_le L k; rw [hR, hsplit, List.length_append] at this; omega
  clear h hr hal hb hm hns hw hR hSt hsplit hG
  go_enter Tryd.func26, Tryd.ntmps26
  go_wp2_with fail
  refine (put_ok w1 c m room L HL.out (by omega) k v wt un hk h0 hfit).mono ?_
  rintro r w2 ⟨b, A2, n2, c2, rfl, hb2, hn2, hr2, hl2, hm2⟩
  rw [HR.out, HSt.out] at hn2 hr2 hl2
  have hgl : n2 = G.length := by rw [hn2, ← HG.out]; unfold goneKeys; simp
  subst hgl
  have HL2 := hide hl2
  have HGo2 := hide hr2
  have HR2 := hide (HL.out.row (by decide) (by decide) hm2 HRw.out)
  have HBx2 := hide (hm2.heap HBx.out (fun hk => HL.out.not_row (by decide) (by decide) _ hk ⟨_, HBx.out⟩))
  have HMd2 := hide ((Mod.ofBelow HB.out (fun k => InC c m L k ∨ k = sm)).trans (hm2.mono (fun _ _ h => Or.inl h)) (fun _ _ h => h))
  have HM2 := hide (HM.out.block (hm2.block _ HM.out.lt (fun h => HNs.out _ h rfl)))
  have hszz : w.heap.size ≤ b := by have := HB.out.size; omega
  have hf2 := (from_put (w := w) (c := c) (m := m) (room := room) (L := L) (k := k) (v := v) (wt := wt) (un := un) hszz)
  rw [HR.out, HSt.out] at hf2
  have HNs2 : Hid (∀ j, InC c m (⟨b, k, v, wt, un⟩ :: S) j → ¬ j = sm) := hide (fun j hj e => (hf2 j hj).elim (fun h => HNs.out j h e) (fun h => by omega))
  have HF2 := hide hf2
  clear hf2
  obtain ⟨K, hK⟩ : ∃ K, S.length = K := ⟨_, rfl⟩
  obtain ⟨g, hg⟩ : ∃ g, G.length = g := ⟨_, rfl⟩
  rw [hK, hg] at hkl
  rw [hK] at HGo2
  rw [hg] at HGo2 ⊢
  have HK := hide hK
  have HGl := hide hg
  clear hb2 hn2 hr2 hl2 hm2 hszz hK hg o0 o1 o2 o3 o4
  go_wp2_with fail
  refine (rows_any w2 c m room _ HL2.out (by have := HK.out; simp; omega)).mono ?_
  rintro r w3 ⟨N, k3, c3, rfl, hk3, hr3, hb3⟩
  obtain rfl : k3 = K + 1 := by rw [hk3, ← HK.out]; rfl
  have HL3 := hide (HL2.out.past hb3)
  have HNow := hide hr3
  have HGo3 := hide (HGo2.out.kept (Mod.ofBelow hb3 (fun _ => False)) (fun _ _ _ h => h))
  have HR3 := hide (HR2.out.kept (Mod.ofBelow hb3 (fun _ => False)) (fun _ _ _ h => h))
  have HBx3 := hide (below_at hb3 HBx2.out)
  have HM3 := hide (HM2.out.block (hb3.block _ HM2.out.lt))
  have HMd3 := hide (HMd2.out.trans (Mod.ofBelow hb3 (fun k => InC c m L k ∨ k = sm)) (fun _ _ h => h))
  clear hb3 hr3 hk3
  obtain ⟨o0, o1, o2, o3, o4⟩ := box5 HBx3.out
  go_wp2_with fail
  refine (without_any w3 A n cc L HR3.out.reads (by omega) k).mono ?_
  rintro r w4 ⟨B, k4, c4, rfl, hk4, hr4, hb4⟩
  obtain rfl : k4 = K + g := by rw [hk4, HR.out, HSp.out, List.length_append, HK.out, HGl.out]
  rw [HR.out] at hr4
  have HL4 := hide (HL3.out.past hb4)
  have HRest := hide hr4
  have HNow4 := hide (HNow.out.kept (Mod.ofBelow hb4 (fun _ => False)) (fun _ _ _ h => h))
  have HGo4 := hide (HGo3.out.kept (Mod.ofBelow hb4 (fun _ => False)) (fun _ _ _ h => h))
  have HBx4 := hide (below_at hb4 HBx3.out)
  have HM4 := hide (HM3.out.block (hb4.block _ HM3.out.lt))
  have HMd4 := hide (HMd3.out.trans (Mod.ofBelow hb4 (fun k => InC c m L k ∨ k = sm)) (fun _ _ h => h))
  clear hb4 hr4 hk4 o0 o1 o2 o3 o4
  obtain ⟨o0, o1, o2, o3, o4⟩ := box5 HBx4.out
  obtain ⟨nd, hN, s0, s1, s2⟩ := tris_cell (i := 0) HNow4.out.reads (x := ⟨b, k, v, wt, un⟩) rfl
  subst hN
  rw [show nd.add (0 * 3) = nd from rfl] at s0 s1 s2
  go_upto_region 10 with fail
  have hd1 : decide (wt < 0) = false := decide_eq_false (by omega)
  have hd2 : decide (room < wt) = false := decide_eq_false (by omega)
  have hd3 : decide ((K : Int) < 0) = false := decide_eq_false (by omega)
  have hd4 : (((K + 1 : Nat) : Int) != (K : Int) + 1) = false := by simp
  have e1 : IntKind.i64.wrap ((K : Int) + 1) = (K : Int) + 1 := IntWalk.i64_in _ (by omega)
  have e2 : (0 : Int) < ((K + 1 : Nat) : Int) := by omega
  have hne := neq_tri
  have hrS : Reads w4 3 (.slice B K c4) K (trisC S) := by
    have h := Reads.cut HRest.out.reads (by obtain ⟨_, _, h, hh, _⟩ := HRest.out.shape; injection h with _ _ h; omega) (lo := 0) (hi := K) (Nat.zero_le _) (by omega)
    rw [cutV_zero, Nat.zero_mul, List.drop_zero, Nat.sub_zero, HSp.out, ← trisC_app, List.take_left' (by rw [trisC_length, HK.out])] at h
    exact h
  have hs2 : ∀ w, (Instr.sliceAt 54 (.slice B (K + g) c4) none (some (.int .i64 (K : Int))) none).run Tryd.prog w = .ok (.slice B K c4) w := fun w => by
    have hr := run_sliceAt_hi (P := Tryd.prog) w 54 62 3 Tryd.underlying54 size_tri B (K + g) c4 .i64 K (by obtain ⟨_, _, h, hh, _⟩ := HRest.out.shape; injection h with _ _ h; omega)
    rw [hr]
    exact congrArg (fun v => Result.ok v w) (cutV_zero B c4 K 3)
  obtain ⟨N1, C1, hs1, hrN⟩ : ∃ N1 C1, (∀ w, (Instr.sliceAt 54 (.slice (some nd) (K + 1) c3) (some (.int .i64 1)) none none).run Tryd.prog w = .ok (.slice N1 K C1) w) ∧ Reads w4 3 (.slice N1 K C1) K (trisC S) := by
    refine ⟨_, _, fun w => run_sliceAt_lo (P := Tryd.prog) w 54 62 3 Tryd.underlying54 size_tri (some nd) (K + 1) c3 .i64 1 (by omega), ?_⟩
    have h := Reads.cut HNow4.out.reads (by obtain ⟨_, _, h, hh, _⟩ := HNow4.out.shape; injection h with _ _ h; omega) (lo := 1) (hi := K + 1) (by omega) (by omega)
    have e : ((trisC (⟨b, k, v, wt, un⟩ :: S)).drop (1 * 3)).take ((K + 1 - 1) * 3) = trisC S := by
      show (trisC S).take (K * 3) = trisC S
      exact List.take_of_length_le (by rw [trisC_length, HK.out]; omega)
    rw [e] at h
    exact h
  have HrS := hide hrS
  have HrN := hide hrN
  clear hrS hrN
  go_quiet ((go_at_call 30; exact quiet_at (alike_quiet _ N1 B K K C1 c4 rfl S (Reads.past HrN.out (below_drewN _ _)) (Reads.past HrS.out (below_drewN _ _)))))
  obtain ⟨w5, hw5⟩ : ∃ w5, w4.drewN nq = w5 := ⟨_, rfl⟩
  have hb5 : Below w4.heap.size w4 w5 := by rw [← hw5]; exact below_drewN _ _
  rw [hw5]
  have HL5 := hide (HL4.out.past hb5)
  have HM5 := hide (HM4.out.block (hb5.block _ HM4.out.lt))
  have HBx5 := hide (below_at hb5 HBx4.out)
  have HMd5 := hide (HMd4.out.trans (Mod.ofBelow hb5 (fun k => InC c m L k ∨ k = sm)) (fun _ _ h => h))
  have HNow5 := hide (HNow4.out.kept (Mod.ofBelow hb5 (fun _ => False)) (fun _ _ _ h => h))
  have HGo5 := hide (HGo4.out.kept (Mod.ofBelow hb5 (fun _ => False)) (fun _ _ _ h => h))
  have HRest5 := hide (HRest.out.kept (Mod.ofBelow hb5 (fun _ => False)) (fun _ _ _ h => h))
  have hRl : R.length = K + g := by rw [HSp.out, List.length_append, HK.out, HGl.out]
  clear hb5 hw5 hd1 hd2 hd3 hd4 e1 e2 hne hs1 hs2 s0 s1 s2 o0 o1 o2 o3 o4
  go_wp2
  go_loopw [10, 18] (fun s t wr => ∃ i : Nat, i ≤ g ∧ t = .int .i64 i ∧ s = .bool false ∧ Hid (Drawn w5 wr)) (fun _ t _ => g - (intOf t).toNat)
  case atStart => exact ⟨0, Nat.zero_le _, rfl, rfl, hide (Drawn.refl _)⟩
  case round =>
    obtain ⟨i, hi, rfl, rfl, HD⟩ := hrel
    by_cases hlt : i < g
    · obtain ⟨x, hx, hgx⟩ := gone_get hRl hlt
      obtain ⟨gd, gc, hgd, hgcell⟩ := reads_pos (Reads.past HGo5.out.reads HD.out.below) (by omega : 0 < g)
      injection hgd with hgd _ hgc
      subst hgc
      have g0 := hgcell i _ (ints_get hgx)
      obtain ⟨rd, hrd, r0, _, _⟩ := tris_cell (Reads.past HRest5.out.reads HD.out.below) hx
      obtain ⟨T, hT⟩ : ∃ T, K + g - 1 - i = T := ⟨_, rfl⟩
      rw [hT] at r0
      subst hgd
      subst hrd
      have hne : (x.k != x.k) = false := by simp
      have e1 : IntKind.i64.wrap (((K + g : Nat) : Int) - 1) = ((K + g : Nat) : Int) - 1 := IntWalk.i64_in _ (by omega)
      have e2 : IntKind.i64.wrap (((K + g : Nat) : Int) - 1 - (i : Int)) = (T : Int) := by rw [IntWalk.i64_in _ (by omega)]; omega
      have e3 : (T : Int) < ((K + g : Nat) : Int) := by omega
      have e4 : (0 : Int) ≤ (T : Int) := by omega
      clear hx hgx hgcell
      go_wp2
      go_quiet (fail)
      go_wp2
      go_roundw
      case rel => exact ⟨i + 1, by omega, by go_num, rfl, hide (by obtain ⟨q, hq⟩ := HD.out; exact ⟨_, by rw [hq, World.drewN_drewN]⟩)⟩
      case measure => simp [intOf]; omega
    · obtain rfl : g = i := by omega
      have hbr := HD.out.below
      have HL6 := hide (HL5.out.past hbr)
      have HM6 := hide (HM5.out.block (hbr.block _ HM5.out.lt))
      have HBx6 := hide (below_at hbr HBx5.out)
      have HMd6 := hide (HMd5.out.trans (Mod.ofBelow hbr (fun k => InC c m L k ∨ k = sm)) (fun _ _ h => h))
      have HNow6 := hide (HNow5.out.kept (Mod.ofBelow hbr (fun _ => False)) (fun _ _ _ h => h))
      have HGo6 := hide (HGo5.out.kept (Mod.ofBelow hbr (fun _ => False)) (fun _ _ _ h => h))
      have HWR : Hid (Wts (upd f (.int .i64 k) (some (.int .i64 wt))) R) := hide (fun e he => by
        rw [← HR.out] at he
        have hek : e.k ≠ k := of_decide_eq_true (List.mem_filter.1 he).2
        rw [upd_other (fun h => hek (by injection h))]
        exact HW.out e (List.mem_filter.1 he).1)
      have HWS : Hid (Wts (upd f (.int .i64 k) (some (.int .i64 wt))) (⟨b, k, v, wt, un⟩ :: S)) := hide (fun e he => by
        rcases List.mem_cons.1 he with rfl | he
        · exact upd_same _ _ _
        · exact HWR.out e (by rw [HSp.out]; exact List.mem_append_left _ he))
      clear hbr HD
      obtain ⟨o0, o1, o2, o3, o4⟩ := box5 HBx6.out
      go_wp2_with (first
        | (at_mapUpdate; refine wpList_store_mp rfl _ _ _ 40 rfl int_law Tryd.underlying40 rfl HM6.out (by unfold maxLen; omega) (val := .int .i64 wt) rfl rfl (key_int hk) ?_
           intro w7 hmp7 hg7
           have hmg : Mod (fun k => k = sm) wr w7 := Mod.ofGrown hg7 (fun k e => by injection e with e; exact e.symm)
           have HMp7 := hide hmp7
           have HMd7 := hide (HMd6.out.trans hmg (fun _ _ h => Or.inr h))
           have HL7 := hide (HL6.out.kept hmg HNs2.out)
           have HNow7 := hide (HNow6.out.overMap HM6.out hg7)
           have HGo7 := hide (HGo6.out.overMap HM6.out hg7)
           have HBx7 := hide (grown_heap hg7 HBx6.out (fun e => by injection e with e; exact map_ne HBx6.out HM6.out e))
           clear hmp7 hg7 hmg o0 o1 o2 o3 o4)
        | fail)
      go_loopw [19, 20] (fun s t wr => ∃ i : Nat, i ≤ K + 1 ∧ t = .int .i64 i ∧ s = .int .i64 (wsum (((⟨b, k, v, wt, un⟩ : LE) :: S).take i)) ∧ wr = w7) (fun _ t _ => K + 1 - (intOf t).toNat)
      case atStart => exact ⟨0, Nat.zero_le _, rfl, rfl, rfl⟩
      case round =>
        obtain ⟨i, hi, rfl, rfl, rfl⟩ := hrel
        by_cases hlt : i < K + 1
        · obtain ⟨y, hy⟩ : ∃ y, ((⟨b, k, v, wt, un⟩ : LE) :: S)[i]? = some y := ⟨_, List.getElem?_eq_getElem (by rw [List.length_cons, HK.out]; exact hlt)⟩
          have hym := List.mem_of_getElem? hy
          obtain ⟨nd2, hnd, q0, _, _⟩ := tris_cell HNow7.out.reads hy
          injection hnd with hnd
          subst hnd
          have hl := look40 HMp7.out (HL7.out.wf y hym)
          rw [HWS.out y hym] at hl
          simp only [Option.getD_some] at hl
          have hws := wsum_take hy
          have h1 := (wsum_take_le HL7.out.wts i).1
          have h2 := (wsum_take_le HL7.out.wts (i + 1)).2
          have h3 := HL7.out.fits
          have h4 := HL7.out.top
          have h5 := HL7.out.wts y hym
          have h6 : wsum (((⟨b, k, v, wt, un⟩ : LE) :: S).take i) + y.wt ≤ 9223372036854775807 := by omega
          have HWs := hide hws
          clear hy hym hws h2 h3 h4
          go_wp2
          go_roundw
          case rel => exact ⟨i + 1, by omega, by go_num, by rw [HWs.out], trivial⟩
          case measure => simp [intOf]; omega
        · obtain rfl : i = K + 1 := by omega
          have HTot := hide (show ((⟨b, k, v, wt, un⟩ : LE) :: S).take (K + 1) = ⟨b, k, v, wt, un⟩ :: S from List.take_of_length_le (by rw [List.length_cons, HK.out]; exact Nat.le_refl _))
          rw [HTot.out]
          obtain ⟨tot, htot⟩ : ∃ tot, wsum (((⟨b, k, v, wt, un⟩ : LE) :: S)) = tot := ⟨_, rfl⟩
          have HTo := hide htot
          have hge : 0 ≤ tot := by rw [← htot]; exact HL7.out.wsum_le.1
          have hfit2 : tot ≤ room := by rw [← htot]; exact HL7.out.fits
          have htop := HL7.out.top
          rw [htot]
          clear htot
          obtain ⟨o0, o1, o2, o3, o4⟩ := box5 HBx7.out
          have hd1 : (tot != tot) = false := by simp
          have hd2 : decide (room < tot) = false := decide_eq_false (by omega)
          go_wp2_with fail
          refine (weight_any _ c m room _ HL7.out).mono ?_
          rw [HTo.out]
          rintro r w8 ⟨rfl, rfl⟩
          go_upto_region 25 with fail
          clear hd1 hd2
          have hlk : ∀ j, (Instr.lookup 40 (.map (some sm)) (.int .i64 k) false).run Tryd.prog (wr.drewN j) = .ok (.int .i64 wt) (wr.drewN j) := fun j => by
            have h := look40 (HMp7.out.block (w' := wr.drewN j) rfl) hk
            rw [upd_same] at h
            exact h
          have hfin : ∀ j, MPost w c m room L sm nm (.returned (.bool true)) (wr.drewN j) := fun j => by
            refine ⟨rfl, ⟨b, k, v, wt, un⟩ :: S, _, _, HL7.out.past (below_drewN _ _), HMd7.out.drewN _, HF2.out, ?_, HMp7.out.block rfl, ?_, HWS.out⟩
            · have := without_le L k
              rw [HR.out] at this
              rw [List.length_cons, HK.out]
              have hs := HSp.out
              rw [hs, List.length_append, HK.out] at this
              omega
            · split <;> omega
          rcases Nat.eq_zero_or_pos g with hg0 | hg0
          · have hd1 : (((g : Nat) : Int) == 0) = true := by rw [hg0]; rfl
            go_quiet (fail)
            go_wp2
            go_ret
            exact hfin _
          · obtain ⟨h, hh⟩ : ∃ h, h = g - 1 := ⟨_, rfl⟩
            obtain ⟨y, hy, hgy⟩ := gone_get hRl (show h < g by omega)
            rw [show K + g - 1 - h = K by omega] at hy
            obtain ⟨gd, gc, hgd, hgcell⟩ := reads_pos HGo7.out.reads hg0
            injection hgd with hgd _ hgc
            subst hgc
            subst hgd
            have g0 := hgcell h _ (ints_get hgy)
            have hyR := List.mem_of_getElem? hy
            have hyL : y ∈ L := without_mem (k := k) (by rw [HR.out]; exact hyR)
            have hl2 : ∀ j, (Instr.lookup 40 (.map (some sm)) (.int .i64 y.k) false).run Tryd.prog (wr.drewN j) = .ok (.int .i64 y.wt) (wr.drewN j) := fun j => by
              have h := look40 (HMp7.out.block (w' := wr.drewN j) rfl) (HL.out.wf y hyL)
              rw [HWR.out y hyR] at h
              exact h
            have ht := stay_tight (lim := room - wt) (by rw [HSt.out, HK.out]) hy
            rw [HSt.out] at ht
            have hwt := HTo.out
            rw [show wsum ((⟨b, k, v, wt, un⟩ : LE) :: S) = wsum [(⟨b, k, v, wt, un⟩ : LE)] + wsum S from wsum_app [_] S, show wsum [(⟨b, k, v, wt, un⟩ : LE)] = wt by simp [wsum]] at hwt
            have hy0 := HL.out.wts y hyL
            have hy1 : y.wt ≤ 9223372036854775807 := by
              obtain ⟨a1, a2, ha⟩ := List.append_of_mem hyL
              have hf := HL.out.wsum_le.2
              have hn := HL.out.wts
              rw [ha] at hf hn
              rw [wsum_mid] at hf
              have := wsum_nonneg (l := a1 ++ a2) (fun e he => hn e (mem_mid he))
              omega
            have hd1 : (((g : Nat) : Int) == 0) = false := by have h : ¬ g = 0 := by omega
                                                              simp [h]
            have e1 : IntKind.i64.wrap (tot - wt) = tot - wt := IntWalk.i64_in _ (by omega)
            have e2 : IntKind.i64.wrap (room - wt) = room - wt := IntWalk.i64_in _ (by omega)
            have e3 : IntKind.i64.wrap (room - wt - y.wt) = room - wt - y.wt := IntWalk.i64_in _ (by omega)
            have e4 : IntKind.i64.wrap ((g : Int) - 1) = (h : Int) := by rw [IntWalk.i64_in _ (by omega)]; omega
            have e5 : (h : Int) < (g : Int) := by omega
            have e6 : (0 : Int) ≤ (h : Int) := by omega
            have hd3 : decide (room - wt - y.wt < tot - wt) = true := decide_eq_true (by omega)
            clear hy hgy hgcell hyR hyL ht hwt hy0 hy1 hh
            go_quiet (fail)
            go_wp2
            go_ret
            exact hfin _
end Go.Proofs.YtlnbgahfelcbiaaDoor
