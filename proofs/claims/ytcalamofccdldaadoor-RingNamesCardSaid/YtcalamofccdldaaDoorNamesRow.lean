/-
  RingNames's card: for all arguments RingNames returns true and leaves its arguments as they were. Condition: the listed variables read as their initialisers lay them.
-/
import Derived.Test.YtcalamofccdldaaDoorNamesLaw
import Derived.Test.YtcalamofccdldaaDoorErrDoor
import Derived.Test.YtcalamofccdldaaDoorCards
import Derived.Test.YtcalamofccdldaaDoorTie
import Derived.Deep.DeepWitnessRowRef
namespace Go.Proofs.YtcalamofccdldaaDoor.ringNames
open Go Go.RowKit Go.Cu Go.ChangeShapes Go.WideShapes Go.ChangeAt Go.Proofs.YtcalamofccdldaaDoor

theorem laid_x (os : Os) (args : Array Value) : laidMet Tryd.prog Rows.ringNamesRow.laid ((errdoor.laidWorld Rows.ringNamesRow.laid os).forCall (fun _ _ => 0) ⟨#[], args, []⟩).memory :=
  laidMet_of_run' 8 (by kernel_rfl) (by kernel_rfl)

set_option maxRecDepth 100000 in
theorem lifted (os : Os) (started : os.Started) (H : Type) (enc : TypeId × Value → H) (F : Stop.Interp) :
    ReturnsInHanded {} Tryd.checked os 5 .any ((OpenSpec.ofChange Rows.ringNamesSpec).preRow enc Tryd.prog Tryd.f5 Rows.ringNamesRow.domain false Rows.ringNamesRow.laid) (((OpenSpec.ofChange Rows.ringNamesSpec).at F).post enc Tryd.prog Tryd.f5 false true false false) := by
  obtain ⟨places, hx⟩ : ∃ places, DataW.whole enc Tryd.prog ((errdoor.laidWorld Rows.ringNamesRow.laid os).forCall (fun _ _ => 0) ⟨#[], #[], []⟩).memory Tryd.f5.params.toList Rows.ringNamesSpec.vars false (#[] : Array Value).toList 8 = some ([], [], places) := ⟨[], by kernel_rfl⟩
  refine returnsInHanded_of_row (C := Tryd.checked) (s := OpenSpec.ofChange Rows.ringNamesSpec) errdoor.own started (by kernel_rfl) Tryd.func5
    (witness_row_atRef (enc := enc) (C := Tryd.checked) false (errdoor.laidWorld Rows.ringNamesRow.laid os) #[] rfl (by kernel_rfl) (by kernel_rfl) (by kernel_rfl)
      (OpenSpec.preRow_of_cond 8 hx (by kernel_rfl) (fun k hk => by cases hk) (by kernel_rfl) (laid_x os _))) ?_
  intro W base args ds gs before _ hW _ _ _ hL _ _
  have hW' := hW
  obtain ⟨p, q, hA0, hV, rfl, hfz, hnd⟩ := hW
  have hA : DataW.TrodAll enc Tryd.prog W 0 (fun _ => true) true Tryd.f5.params.toList args.toList ds p := hA0
  rw [Tryd.params5] at hA
  obtain ⟨hargs, rfl, rfl⟩ := trodAll_nil hA
  obtain rfl : args = #[] := by cases args; simp_all
  obtain ⟨rfl, rfl⟩ := trodVars_none hV
  obtain ⟨adr, hS⟩ := errdoor.sents (l := Rows.ringNamesRow.laid) (by kernel_rfl) (by kernel_rfl) hL
  clear hA0
  refine (walk W adr hS).mono fun e W' ⟨he, bel⟩ => ?_
  subst he
  exact ⟨_, rfl, _, _, _, [], _, [], hW', trodAll_mk1 (shut_bool Tryd.underlying4 _), trodAll_mk0, rfl, bel.frame _, fun h => by cases h⟩

theorem said : Rows.RingNamesSaid :=
  OpenClaim.holds_of_cond 5 Tryd.f5 rfl rfl rfl rfl rfl rfl rfl ⟨rfl, rfl, rfl, rfl, rfl⟩ rfl rfl rfl rfl rfl (by kernel_rfl) Tryd.func5 (by kernel_rfl)
    (of_decide_eq_true (by kernel_rfl)) (by unfold Func.isWrapper; first | (rw [if_pos (by decide +kernel)]; kernel_rfl) | (rw [if_neg (by decide +kernel)]; exact ⟨rfl, rfl⟩))
    (fun os started H enc _ F => by rw [OpenClaim.pre_eq_preRow]; exact lifted os started H enc F)

theorem plain (f : FuncId) (fn : Func) (hf : Tryd.pinned.checked.prog.funcNamed "culvert/culvertlaw02.RingNames" = some f) (hfn : Tryd.pinned.checked.prog.funcs[f]? = some fn) :
    true = Tryd.pinned.checked.prog.looks [] ∧ ∀ (j : Nat) t, fn.params[j]? = some t → Tryd.pinned.checked.prog.wantsStandIn t = false := by
  obtain rfl : f = 5 := Option.some.inj ((show Tryd.prog.funcNamed "culvert/culvertlaw02.RingNames" = some 5 by kernel_rfl).symm.trans hf) |>.symm
  obtain rfl : fn = Tryd.f5 := (Option.some.inj (Tryd.func5.symm.trans hfn)).symm
  refine ⟨by kernel_rfl, fun j t ht => ?_⟩
  rw [Tryd.params5] at ht
  simp at ht

theorem ringNames_holds : Rows.RingNamesCardSaid :=
  Claim7.holds_tied_plain_at .later [] _ _ _ _ said (fun _ h => by cases h) (by kernel_rfl) (fun _ h => by cases h) ringNames_row_tie rfl ⟨rfl, rfl⟩ (by kernel_rfl) rfl plain (by kernel_rfl)
end Go.Proofs.YtcalamofccdldaaDoor.ringNames
#print axioms Go.Proofs.YtcalamofccdldaaDoor.ringNames.ringNames_holds
