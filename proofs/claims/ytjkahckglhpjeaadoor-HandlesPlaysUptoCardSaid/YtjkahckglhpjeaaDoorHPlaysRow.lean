/-
  HandlesPlays's card (bulk of the arguments at most 1048576): for all arguments HandlesPlays returns true and leaves its arguments as they were. Condition: the listed variables read as their initialisers lay them.
-/
import Derived.Test.YtjkahckglhpjeaaDoorHPlaysLaw
import Derived.Test.YtjkahckglhpjeaaDoorErrDoor
import Derived.Test.YtjkahckglhpjeaaDoorBulk
import Derived.Test.YtjkahckglhpjeaaDoorCards
import Derived.Test.YtjkahckglhpjeaaDoorTie
import Derived.Deep.DeepWitnessRowRef
namespace Go.Proofs.YtjkahckglhpjeaaDoor.handlesPlays
open Go Go.RowKit Go.Cu Go.ChangeShapes Go.WideShapes Go.ChangeAt Go.Proofs.YtjkahckglhpjeaaDoor Go.Proofs.YtjkahckglhpjeaaDoor.bulks

theorem laid_x (os : Os) (args : Array Value) : laidMet Tryd.prog Rows.handlesPlaysUptoRow.laid ((errdoor.laidWorld Rows.handlesPlaysUptoRow.laid os).forCall (fun _ _ => 0) ⟨#[], args, []⟩).memory :=
  laidMet_of_run' 8 (by kernel_rfl) (by kernel_rfl)

set_option maxRecDepth 100000 in
theorem lifted (os : Os) (started : os.Started) (H : Type) (enc : TypeId × Value → H) (F : Stop.Interp) :
    ReturnsInHanded {} Tryd.checked os 4 .any ((Rows.OpenSpec.upto Rows.handlesPlaysSpec).preRow enc Tryd.prog Tryd.f4 Rows.handlesPlaysUptoRow.domain false Rows.handlesPlaysUptoRow.laid) (((Rows.OpenSpec.upto Rows.handlesPlaysSpec).at F).post enc Tryd.prog Tryd.f4 false true false false) := by
  obtain ⟨places, hx⟩ : ∃ places, DataW.whole enc Tryd.prog ((errdoor.laidWorld Rows.handlesPlaysUptoRow.laid os).forCall (fun _ _ => 0) ⟨#[], #[.slice none 0 0], []⟩).memory Tryd.f4.params.toList Rows.handlesPlaysSpec.vars false (#[.slice none 0 0] : Array Value).toList 8 = some ([.nil], [], places) := ⟨[], by kernel_rfl⟩
  refine returnsInHanded_of_row (C := Tryd.checked) (s := Rows.OpenSpec.upto Rows.handlesPlaysSpec) errdoor.own started (by kernel_rfl) Tryd.func4
    (witness_row_atRef (enc := enc) (C := Tryd.checked) false (errdoor.laidWorld Rows.handlesPlaysUptoRow.laid os) #[.slice none 0 0] rfl (by kernel_rfl) (by kernel_rfl) (by kernel_rfl)
      (OpenSpec.preRow_of_cond 8 hx (by kernel_rfl) (fun k hk => by cases hk; kernel_rfl) (by kernel_rfl) (laid_x os _))) ?_
  intro W base args ds gs before hval0 hW _ hcond hsz0 hL _ _
  have hval : ∀ (j : Nat) t v, Tryd.f4.params[j]? = some t → args[j]? = some v → Value.okWide Tryd.prog W .any base t v := hval0
  have hbulk := bound (hcond _ rfl)
  have hsz := hsz0
  have hW' := hW
  obtain ⟨p, q, hA0, hV, rfl, hfz, hnd⟩ := hW
  have hA : DataW.TrodAll enc Tryd.prog W 0 (fun _ => true) true Tryd.f4.params.toList args.toList ds p := hA0
  rw [Tryd.params4] at hA hval hsz
  obtain ⟨v0, vs0, d0, ds0, p0, q0, hargs, rfl, rfl, h0, r0⟩ := trodAll_cons hA
  obtain ⟨rfl, rfl, rfl⟩ := trodAll_nil r0
  obtain rfl : args = #[v0] := by cases args; simp_all
  obtain ⟨rfl, rfl⟩ := trodVars_none hV
  obtain ⟨a0, len0, cap0, rfl⟩ := okWide_slice Tryd.underlying22 (hval 0 22 v0 rfl rfl)
  have k0 := h0
  have lt0 : ∀ x ∈ p0, x.block < W.heap.size := by obtain ⟨m, hm⟩ := k0; exact DataW.trod_lt m _ _ _ hm
  obtain ⟨ops0, hs0, n0⟩ := open_ops h0 (fun elems spare he => by
    have this : (elems.length + spare.length) * Tryd.prog.bytesOf 30 ≤ reachBytes := sized_slice hsz (j := 0) (t := 22) (e := 30) rfl (by rw [he]; rfl) Tryd.underlying22
    rw [bytes_op] at this
    exact this)
  have hb0 := ops_bulk k0
  simp only [List.append_nil, Rows.uptoBulkAll] at hbulk
  obtain ⟨adr, hS⟩ := errdoor.sents (l := Rows.handlesPlaysUptoRow.laid) (by kernel_rfl) (by kernel_rfl) hL
  clear hA0 hval0
  refine (walk W adr hS _ len0 ops0 hs0 (by omega)).mono fun e W' ⟨he, bel⟩ => ?_
  subst he
  exact ⟨_, rfl, _, _, _, [], _, [], hW', trodAll_mk1 (shut_bool Tryd.underlying4 _), (trodAll_cons_mk (Below.trod errdoor.laidOut (by kernel_rfl) (of_decide_eq_true (by kernel_rfl)) k0 bel lt0) trodAll_mk0), rfl, bel.frame _, fun h => by cases h⟩

theorem said : Rows.HandlesPlaysUptoSaid :=
  OpenClaim.holds_of_cond 4 Tryd.f4 rfl rfl rfl rfl rfl rfl rfl ⟨rfl, rfl, rfl, rfl, rfl⟩ rfl rfl rfl rfl rfl (by kernel_rfl) Tryd.func4 (by kernel_rfl)
    (of_decide_eq_true (by kernel_rfl)) (by unfold Func.isWrapper; first | (rw [if_pos (by decide +kernel)]; kernel_rfl) | (rw [if_neg (by decide +kernel)]; exact ⟨rfl, rfl⟩))
    (fun os started H enc _ F => by rw [OpenClaim.pre_eq_preRow]; exact lifted os started H enc F)

theorem plain (f : FuncId) (fn : Func) (hf : Tryd.pinned.checked.prog.funcNamed "culvert/culvertlaw22.HandlesPlays" = some f) (hfn : Tryd.pinned.checked.prog.funcs[f]? = some fn) :
    true = Tryd.pinned.checked.prog.looks [] ∧ ∀ (j : Nat) t, fn.params[j]? = some t → Tryd.pinned.checked.prog.wantsStandIn t = false := by
  obtain rfl : f = 4 := Option.some.inj ((show Tryd.prog.funcNamed "culvert/culvertlaw22.HandlesPlays" = some 4 by kernel_rfl).symm.trans hf) |>.symm
  obtain rfl : fn = Tryd.f4 := (Option.some.inj (Tryd.func4.symm.trans hfn)).symm
  refine ⟨by kernel_rfl, fun j t ht => ?_⟩
  rw [Tryd.params4] at ht
  have hm := Array.mem_of_getElem? ht
  simp only [List.mem_toArray, List.mem_cons, List.not_mem_nil, or_false] at hm
  subst hm
  exact (show Tryd.prog.wantsStandIn 22 = false by kernel_rfl)

theorem handlesPlays_holds : Rows.HandlesPlaysUptoCardSaid :=
  Claim7.holds_tied_plain_at .later [] _ _ _ _ said (fun _ h => by cases h) (by kernel_rfl) (fun _ h => by cases h) handlesPlaysUpto_row_tie rfl ⟨rfl, rfl⟩ (by kernel_rfl) rfl plain (by kernel_rfl)
end Go.Proofs.YtjkahckglhpjeaaDoor.handlesPlays
#print axioms Go.Proofs.YtjkahckglhpjeaaDoor.handlesPlays.handlesPlays_holds
