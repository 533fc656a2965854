/-
  RingFlow's card (bulk of the arguments at most 1048576): for every capacity and every flows RingFlow returns true and leaves its arguments as they were. Condition: api.ErrRange reads as its initialiser lays it.
-/
import Derived.Test.YtcalamofccdldaaDoorFlowLaw
import Derived.Test.YtcalamofccdldaaDoorOpenP
import Derived.Test.YtcalamofccdldaaDoorDoor
import Derived.Test.YtcalamofccdldaaDoorBulk
import Derived.Test.YtcalamofccdldaaDoorCards
import Derived.Test.YtcalamofccdldaaDoorTie
import Derived.WalkKit
import Derived.Deep.DeepHandedRow
import Derived.Deep.DeepWitnessRowRef
namespace Go.Proofs.YtcalamofccdldaaDoor.ringFlow
open Go Go.RowKit Go.Cu Go.ChangeShapes Go.WideShapes Go.Deep Go.ChangeAt Go.Proofs.YtcalamofccdldaaDoor Go.Proofs.YtcalamofccdldaaDoor.bulks

theorem fields_flow : ∃ f0 f1 f2 : Field, Tryd.prog.underlying 31 = some (.struct #[f0, f1, f2]) ∧ f0.type = 29 ∧ f1.type = 3 ∧ f2.type = 4 ∧ oneCellFields Tryd.prog #[f0, f1, f2] = true := ⟨_, _, _, Tryd.underlying31, rfl, rfl, rfl, by kernel_rfl⟩
theorem cells_flow : Tryd.prog.cellsOf 31 = 3 := by kernel_rfl

theorem bounds_u8 {x : Int} (h : (Lit.int .u8 x).wf = true) : 0 ≤ x ∧ x < 256 := by
  simp [Lit.wf, IntKind.min, IntKind.max, IntKind.signed, IntKind.bits] at h
  omega
theorem open_bytes {H : Type} {enc : TypeId × Value → H} {W : World} {base : Nat} {sp : Nat → Bool} {held : Bool} {fuel : Nat} {v : Value} {y : DataW H × List MemPlace}
    (h : DataW.trod enc Tryd.prog W base sp held fuel 29 [v] = some y) :
    ∃ (A : Option Addr) (n c : Nat) (bs : List UInt8), v = .slice A n c ∧ n ≤ c ∧ Reads W 1 (.slice A n c) n (bytesV bs) ∧ n + 1 ≤ Rows.uptoBulk y.1 := by
  rcases open_slice1 Tryd.underlying29 (by kernel_rfl) h with ⟨hcs, rfl⟩ | ⟨a, len, cap, m, n, V, D, Pl, hcs, _, hl, hm, hmm, rfl, hx⟩
  · injection hcs with hcs
    subst hcs
    exact ⟨none, 0, 0, [], rfl, Nat.le_refl _, ⟨rfl, none, 0, rfl, Nat.zero_le _, .inl rfl⟩, by simp [Rows.uptoBulk]⟩
  · injection hcs with hcs _
    subst hcs
    have hlm : len ≤ m := by rw [hmm]; split <;> omega
    obtain ⟨bs, hl2, hbs⟩ := range_choose (R := fun i (b : UInt8) => W.cell? (a.add i) = some (.int .u8 (b.toNat : Int))) len (fun i hi => by
      obtain ⟨hc, ht⟩ := hx i (by omega)
      obtain ⟨k, e, _, hw⟩ := DataW.trod_int Tryd.underlying5 ht
      injection e with e
      refine ⟨UInt8.ofNat k.toNat, ?_⟩
      rw [hc, e]
      have hb : 0 ≤ k ∧ k < 256 := by
        exact bounds_u8 hw
      have : ((UInt8.ofNat k.toNat).toNat : Int) = k := by
        simp only [UInt8.toNat_ofNat']
        omega
      rw [this])
    refine ⟨some a, len, cap, bs, rfl, hl, ⟨by rw [bytesV_length, hl2, Nat.mul_one], _, _, rfl, by omega, .inr ⟨a, rfl, fun j u hu => ?_⟩⟩, ?_⟩
    · unfold bytesV at hu
      rw [List.getElem?_map] at hu
      cases hj : bs[j]? with
      | none => rw [hj] at hu; cases hu
      | some b =>
        rw [hj] at hu
        injection hu with hu
        rw [← hu]
        exact hbs j b hj
    · have := slice_le ((List.range len).map D) ((List.range (m - len)).map fun j => D (len + j))
      simp only [List.length_map, List.length_range] at this
      show len + 1 ≤ Rows.uptoBulk (.slice _ _)
      omega

theorem sum_le {H : Type} : ∀ (fs : List FlowD) (ds : List (DataW H)), fs.length = ds.length → (∀ (i : Nat) f d, fs[i]? = some f → ds[i]? = some d → f.n + 1 ≤ Rows.uptoBulk d) → (fs.map FlowD.n).sum + fs.length ≤ Rows.uptoBulkAll ds
  | [], [], _, _ => by simp [Rows.uptoBulkAll]
  | f :: fs, d :: ds, hl, h => by
    have h0 := h 0 f d rfl rfl
    have ih := sum_le fs ds (by simpa using hl) (fun i f d hf hd => h (i + 1) f d hf hd)
    simp only [List.map_cons, List.sum_cons, List.length_cons, Rows.uptoBulkAll]
    omega

theorem open_flows {H : Type} {enc : TypeId × Value → H} {W : World} {base : Nat} {sp : Nat → Bool} {held : Bool} {a0 : Option Addr} {len cap : Nat} {d : DataW H} {p : List MemPlace}
    (h : DataW.Trod enc Tryd.prog W base sp held 22 (.slice a0 len cap) d p) (hb : Rows.uptoBulk d ≤ 1048576) : ∃ fs, Flows W (.slice a0 len cap) len fs := by
  obtain ⟨f0, f1, f2, hf, t0, t1, t2, hone⟩ := fields_flow
  obtain ⟨fuel, hfu⟩ := h
  rcases open_slice_fields Tryd.underlying22 hf hone cells_flow hfu with ⟨hcs, _⟩ | ⟨a, len', cap', m, D, Pl, hcs, _, hl, hm, hmm, hx, hi⟩
  · simp [Value.cells] at hcs
    obtain ⟨rfl, rfl, rfl⟩ := hcs
    exact ⟨[], ⟨⟨rfl, none, 0, rfl, Nat.zero_le _, .inl rfl⟩, rfl, fun f hf => (by cases hf), by simp [total]⟩⟩
  · simp [Value.cells] at hcs
    obtain ⟨rfl, rfl, rfl⟩ := hcs
    simp only [Prod.mk.injEq] at hx
    have hlm : len ≤ m := by rw [hmm]; split <;> omega
    obtain ⟨fs, hfl, hfs⟩ := range_choose (R := fun i (f : FlowD) => (∀ (j : Nat) (u : Value), (flowCell f)[j]? = some u → W.cell? (a.add (i * 3 + j)) = some u) ∧ (Reads W 1 (.slice f.A f.n f.c) f.n (bytesV f.bs) ∧ f.n ≤ f.c ∧ (Lit.int .i64 f.out).wf = true) ∧ f.n + 1 ≤ Rows.uptoBulk (D i)) len (fun i hil => by
      obtain ⟨ys, n, hD, _, hyl, hfield⟩ := hi i (by omega)
      obtain ⟨v0, y0, c0, g0, r0⟩ := hfield 0 f0 rfl
      obtain ⟨v1, y1, c1, _, r1⟩ := hfield 1 f1 rfl
      obtain ⟨v2, y2, c2, _, r2⟩ := hfield 2 f2 rfl
      rw [t0] at r0
      rw [t1] at r1
      rw [t2] at r2
      obtain ⟨A, n0, c, bs, rfl, hnc, hrd, hbk⟩ := open_bytes r0
      obtain ⟨x1, e1, _, w1⟩ := DataW.trod_int Tryd.underlying3 r1
      obtain ⟨x2, e2, _⟩ := DataW.trod_bool Tryd.underlying4 r2
      simp at e1 e2
      subst e1
      subst e2
      refine ⟨⟨A, n0, c, bs, x1, x2⟩, fun j u hu => ?_, ⟨hrd, hnc, w1⟩, ?_⟩
      · match j, hu with
        | 0, hu => simp [flowCell] at hu; subst hu; exact c0
        | 1, hu => simp [flowCell] at hu; subst hu; exact c1
        | 2, hu => simp [flowCell] at hu; subst hu; exact c2
        | j + 3, hu => simp [flowCell] at hu
      · rw [hD]
        have := part_le (List.mem_map.2 ⟨y0, List.mem_of_getElem? g0, rfl⟩ : y0.1 ∈ ys.map (·.1))
        simp only [Rows.uptoBulk]
        show n0 + 1 ≤ _
        omega)
    have hbd : (fs.map FlowD.n).sum + fs.length ≤ Rows.uptoBulkAll ((List.range len).map D) := by
      refine sum_le fs _ (by simp [hfl]) (fun i f d hf hd => ?_)
      have hil : i < len := by rw [← hfl]; exact (List.getElem?_eq_some_iff.1 hf).1
      rw [List.getElem?_map, List.getElem?_range hil] at hd
      injection hd with hd
      exact hd ▸ (hfs i f hf).2.2
    have hbd2 := slice_elems ((List.range len).map D) ((List.range (m - len)).map fun j => D (len + j))
    rw [hx.1] at hb
    refine ⟨fs, ⟨by rw [flat_length flowCell_length, hfl], _, cap, rfl, by omega, .inr ⟨a, rfl, fun k u hk => ?_⟩⟩, hfl, fun f hf => ?_, ?_⟩
    · obtain ⟨i, j, f, rfl, _, hfi, hu⟩ := flat_at flowCell_length hk
      exact (hfs i f hfi).1 j u hu
    · obtain ⟨i, hif⟩ := List.mem_iff_getElem?.1 hf
      exact (hfs i f hif).2.1
    · unfold total
      rw [List.take_of_length_le (by omega)]
      omega

set_option maxRecDepth 100000 in
theorem lifted (os : Os) (started : os.Started) (H : Type) (enc : TypeId × Value → H) (F : Stop.Interp) :
    ReturnsInHanded {} Tryd.checked os 3 .any ((Rows.OpenSpec.upto Rows.ringFlowSpec).preRow enc Tryd.prog Tryd.f3 Rows.ringFlowUptoRow.domain false Rows.ringFlowUptoRow.laid) (((Rows.OpenSpec.upto Rows.ringFlowSpec).at F).post enc Tryd.prog Tryd.f3 false true false false) := by
  obtain ⟨places, hx⟩ : ∃ places, DataW.whole enc Tryd.prog ((door.laidWorld os).forCall (fun _ _ => 0) ⟨#[], #[.int .i64 0, .slice none 0 0], []⟩).memory Tryd.f3.params.toList Rows.ringFlowSpec.vars false #[Value.int .i64 0, .slice none 0 0].toList 8 = some ([.lit (.int .i64 0), .nil], [], places) := ⟨[], by kernel_rfl⟩
  refine returnsInHanded_of_row (C := Tryd.checked) (s := Rows.OpenSpec.upto Rows.ringFlowSpec) door.own started (by kernel_rfl) Tryd.func3
    (witness_row_atRef (enc := enc) (C := Tryd.checked) false (door.laidWorld os) #[.int .i64 0, .slice none 0 0] rfl (by kernel_rfl) (by kernel_rfl) (by kernel_rfl)
      (OpenSpec.preRow_of_cond 8 hx (by kernel_rfl) (fun k hk => by cases hk; kernel_rfl) (by kernel_rfl) (door.laid_range os _))) ?_
  intro W base args ds gs before hval0 hW _ hcond _ hL _ _
  have hval : ∀ (j : Nat) t v, Tryd.f3.params[j]? = some t → args[j]? = some v → Value.okWide Tryd.prog W .any base t v := hval0
  have hbulk := bound (hcond _ rfl)
  have hW' := hW
  obtain ⟨p, q, hA0, hV, rfl, hfz, hnd⟩ := hW
  have hA : DataW.TrodAll enc Tryd.prog W 0 (fun _ => true) true Tryd.f3.params.toList args.toList ds p := hA0
  rw [Tryd.params3] at hA hval
  obtain ⟨v0, vs0, d0, ds0, p0, q0, hargs, rfl, rfl, h0, r0⟩ := trodAll_cons hA
  obtain ⟨v1, vs1, d1, ds1, p1, q1, hargs1, rfl, rfl, h1, r1⟩ := trodAll_cons r0
  obtain ⟨rfl, rfl, rfl⟩ := trodAll_nil r1
  obtain rfl : args = #[v0, v1] := by cases args; simp_all
  obtain ⟨rfl, rfl⟩ := trodVars_none hV
  obtain ⟨a0, rfl, rfl, rfl, w0⟩ := open_int Tryd.underlying3 (hval 0 3 v0 rfl rfl) h0
  obtain ⟨a1, len1, cap1, rfl⟩ := okWide_slice Tryd.underlying22 (hval 1 22 v1 rfl rfl)
  have k1 := h1
  have lt1 : ∀ x ∈ p1, x.block < W.heap.size := by obtain ⟨m, hm⟩ := k1; exact DataW.trod_lt m _ _ _ hm
  obtain ⟨fs, hfs⟩ := open_flows h1 (by
    simp only [List.append_nil, Rows.uptoBulkAll] at hbulk
    omega)
  obtain ⟨u, x, hE⟩ := door.errRange hL
  clear hA0 hval0
  refine (walk W a0 _ len1 fs hfs u x hE).mono fun e W' ⟨he, bel⟩ => ?_
  subst he
  exact ⟨_, rfl, _, _, _, [], _, [], hW', trodAll_mk1 (shut_bool Tryd.underlying4 _), (trodAll_cons_mk (shut_int Tryd.underlying3 w0) (trodAll_cons_mk (Below.trod door.laidOut (by kernel_rfl) (of_decide_eq_true (by kernel_rfl)) k1 bel lt1) trodAll_mk0)), rfl, bel.frame _, fun h => by cases h⟩

theorem said : Rows.RingFlowUptoSaid :=
  OpenClaim.holds_of_cond 3 Tryd.f3 rfl rfl rfl rfl rfl rfl rfl ⟨rfl, rfl, rfl, rfl, rfl⟩ rfl rfl rfl rfl rfl (by kernel_rfl) Tryd.func3 (by kernel_rfl)
    (of_decide_eq_true (by kernel_rfl)) (by unfold Func.isWrapper; first | (rw [if_pos (by decide +kernel)]; kernel_rfl) | (rw [if_neg (by decide +kernel)]; exact ⟨rfl, rfl⟩))
    (fun os started H enc _ F => by rw [OpenClaim.pre_eq_preRow]; exact lifted os started H enc F)

/-- No parameter wants a stand-in; the program's own looks: what the card asks. -/
theorem plain (f : FuncId) (fn : Func) (hf : Tryd.pinned.checked.prog.funcNamed "culvert/culvertlaw02.RingFlow" = some f) (hfn : Tryd.pinned.checked.prog.funcs[f]? = some fn) :
    true = Tryd.pinned.checked.prog.looks [] ∧ ∀ (j : Nat) t, fn.params[j]? = some t → Tryd.pinned.checked.prog.wantsStandIn t = false := by
  obtain rfl : f = 3 := Option.some.inj ((show Tryd.prog.funcNamed "culvert/culvertlaw02.RingFlow" = some 3 by kernel_rfl).symm.trans hf) |>.symm
  obtain rfl : fn = Tryd.f3 := (Option.some.inj (Tryd.func3.symm.trans hfn)).symm
  refine ⟨by kernel_rfl, fun j t ht => ?_⟩
  rw [Tryd.params3] at ht
  have hm := Array.mem_of_getElem? ht
  simp only [List.mem_toArray, List.mem_cons, List.not_mem_nil, or_false] at hm
  rcases hm with rfl | rfl
  · exact (show Tryd.prog.wantsStandIn 3 = false by kernel_rfl)
  · exact (show Tryd.prog.wantsStandIn 22 = false by kernel_rfl)

theorem ringFlow_holds : Rows.RingFlowUptoCardSaid :=
  Claim7.holds_tied_plain_at .later [] _ _ _ _ said (fun _ h => by cases h) (by kernel_rfl) (fun _ h => by cases h) ringFlowUpto_row_tie rfl ⟨rfl, rfl⟩ (by kernel_rfl) rfl plain (by kernel_rfl)
end Go.Proofs.YtcalamofccdldaaDoor.ringFlow
#print axioms Go.Proofs.YtcalamofccdldaaDoor.ringFlow.ringFlow_holds
