/-
  PingsMemory's card (bulk of the arguments at most 1048576): for all arguments PingsMemory returns true and leaves its arguments as they were. Condition: the listed variables read as their initialisers lay them.
-/
import Derived.Test.YtccojgaahoonhaaDoorPMemLaw
import Derived.Test.YtccojgaahoonhaaDoorPBulk
import Derived.Test.YtccojgaahoonhaaDoorErrDoor
import Derived.Test.YtccojgaahoonhaaDoorBulk
import Derived.Test.YtccojgaahoonhaaDoorCards
import Derived.Test.YtccojgaahoonhaaDoorTie
import Derived.Deep.DeepWitnessRowRef
namespace Go.Proofs.YtccojgaahoonhaaDoor.pingsMemory
open Go Go.RowKit Go.Cu Go.ChangeShapes Go.WideShapes Go.ChangeAt Go.Proofs.YtccojgaahoonhaaDoor Go.Proofs.YtccojgaahoonhaaDoor.bulks

theorem laid_x (os : Os) (args : Array Value) : laidMet Tryd.prog Rows.pingsMemoryUptoRow.laid ((errdoor.laidWorld Rows.pingsMemoryUptoRow.laid os).forCall (fun _ _ => 0) ⟨#[], args, []⟩).memory :=
  laidMet_of_run' 8 (by kernel_rfl) (by kernel_rfl)

set_option maxRecDepth 100000 in
theorem lifted (os : Os) (started : os.Started) (H : Type) (enc : TypeId × Value → H) (F : Stop.Interp) :
    ReturnsInHanded {} Tryd.checked os 6 .any ((Rows.OpenSpec.upto Rows.pingsMemorySpec).preRow enc Tryd.prog Tryd.f6 Rows.pingsMemoryUptoRow.domain false Rows.pingsMemoryUptoRow.laid) (((Rows.OpenSpec.upto Rows.pingsMemorySpec).at F).post enc Tryd.prog Tryd.f6 false true false false) := by
  obtain ⟨places, hx⟩ : ∃ places, DataW.whole enc Tryd.prog ((errdoor.laidWorld Rows.pingsMemoryUptoRow.laid os).forCall (fun _ _ => 0) ⟨#[], #[.int .i64 0, .slice none 0 0], []⟩).memory Tryd.f6.params.toList Rows.pingsMemorySpec.vars false (#[.int .i64 0, .slice none 0 0] : Array Value).toList 8 = some ([.lit (.int .i64 0), .nil], [], places) := ⟨[], by kernel_rfl⟩
  refine returnsInHanded_of_row (C := Tryd.checked) (s := Rows.OpenSpec.upto Rows.pingsMemorySpec) errdoor.own started (by kernel_rfl) Tryd.func6
    (witness_row_atRef (enc := enc) (C := Tryd.checked) false (errdoor.laidWorld Rows.pingsMemoryUptoRow.laid os) #[.int .i64 0, .slice none 0 0] rfl (by kernel_rfl) (by kernel_rfl) (by kernel_rfl)
      (OpenSpec.preRow_of_cond 8 hx (by kernel_rfl) (fun k hk => by cases hk; kernel_rfl) (by kernel_rfl) (laid_x os _))) ?_
  intro W base args ds gs before hval0 hW _ hcond hsz0 hL _ _
  have hval : ∀ (j : Nat) t v, Tryd.f6.params[j]? = some t → args[j]? = some v → Value.okWide Tryd.prog W .any base t v := hval0
  have hbulk := bound (hcond _ rfl)
  have hsz := hsz0
  have hW' := hW
  obtain ⟨p, q, hA0, hV, rfl, hfz, hnd⟩ := hW
  have hA : DataW.TrodAll enc Tryd.prog W 0 (fun _ => true) true Tryd.f6.params.toList args.toList ds p := hA0
  rw [Tryd.params6] at hA hval hsz
  obtain ⟨v0, vs0, d0, ds0, p0, q0, hargs, rfl, rfl, h0, r0⟩ := trodAll_cons hA
  obtain ⟨v1, vs1, d1, ds1, p1, q1, hargs1, rfl, rfl, h1, r1⟩ := trodAll_cons r0
  obtain ⟨rfl, rfl, rfl⟩ := trodAll_nil r1
  obtain rfl : args = #[v0, v1] := by cases args; simp_all
  obtain ⟨rfl, rfl⟩ := trodVars_none hV
  obtain ⟨a0, rfl, rfl, rfl, w0⟩ := open_int Tryd.underlying3 (hval 0 3 v0 rfl rfl) h0
  obtain ⟨a1, len1, cap1, rfl⟩ := okWide_slice Tryd.underlying22 (hval 1 22 v1 rfl rfl)
  have k1 := h1
  have lt1 : ∀ x ∈ p1, x.block < W.heap.size := by obtain ⟨m, hm⟩ := k1; exact DataW.trod_lt m _ _ _ hm
  obtain ⟨ops1, hs1, n1⟩ := open_ops h1 (fun elems spare he => by
    have this : (elems.length + spare.length) * Tryd.prog.bytesOf 32 ≤ reachBytes := sized_slice hsz (j := 1) (t := 22) (e := 32) rfl (by rw [he]; rfl) Tryd.underlying22
    rw [bytes_op] at this
    exact this)
  have hb1 := ops_bulk k1
  simp only [List.append_nil, Rows.uptoBulkAll] at hbulk
  obtain ⟨adr, hS⟩ := errdoor.sents (l := Rows.pingsMemoryUptoRow.laid) (by kernel_rfl) (by kernel_rfl) hL
  clear hA0 hval0
  refine (walk W adr hS _ _ len1 ops1 hs1 (by omega)).mono fun e W' ⟨he, bel⟩ => ?_
  subst he
  exact ⟨_, rfl, _, _, _, [], _, [], hW', trodAll_mk1 (shut_bool Tryd.underlying4 _), (trodAll_cons_mk (shut_int Tryd.underlying3 w0) (trodAll_cons_mk (Below.trod errdoor.laidOut (by kernel_rfl) (of_decide_eq_true (by kernel_rfl)) k1 bel lt1) trodAll_mk0)), rfl, bel.frame _, fun h => by cases h⟩

theorem said : Rows.PingsMemoryUptoSaid :=
  OpenClaim.holds_of_cond 6 Tryd.f6 rfl rfl rfl rfl rfl rfl rfl ⟨rfl, rfl, rfl, rfl, rfl⟩ rfl rfl rfl rfl rfl (by kernel_rfl) Tryd.func6 (by kernel_rfl)
    (of_decide_eq_true (by kernel_rfl)) (by unfold Func.isWrapper; first | (rw [if_pos (by decide +kernel)]; kernel_rfl) | (rw [if_neg (by decide +kernel)]; exact ⟨rfl, rfl⟩))
    (fun os started H enc _ F => by rw [OpenClaim.pre_eq_preRow]; exact lifted os started H enc F)

theorem plain (f : FuncId) (fn : Func) (hf : Tryd.pinned.checked.prog.funcNamed "culvert/culvertlaw17.PingsMemory" = some f) (hfn : Tryd.pinned.checked.prog.funcs[f]? = some fn) :
    true = Tryd.pinned.checked.prog.looks [] ∧ ∀ (j : Nat) t, fn.params[j]? = some t → Tryd.pinned.checked.prog.wantsStandIn t = false := by
  obtain rfl : f = 6 := Option.some.inj ((show Tryd.prog.funcNamed "culvert/culvertlaw17.PingsMemory" = some 6 by kernel_rfl).symm.trans hf) |>.symm
  obtain rfl : fn = Tryd.f6 := (Option.some.inj (Tryd.func6.symm.trans hfn)).symm
  refine ⟨by kernel_rfl, fun j t ht => ?_⟩
  rw [Tryd.params6] at ht
  have hm := Array.mem_of_getElem? ht
  simp only [List.mem_toArray, List.mem_cons, List.not_mem_nil, or_false] at hm
  rcases hm with rfl | rfl
  · exact (show Tryd.prog.wantsStandIn 3 = false by kernel_rfl)
  · exact (show Tryd.prog.wantsStandIn 22 = false by kernel_rfl)

theorem pingsMemory_holds : Rows.PingsMemoryUptoCardSaid :=
  Claim7.holds_tied_plain_at .later [] _ _ _ _ said (fun _ h => by cases h) (by kernel_rfl) (fun _ h => by cases h) pingsMemoryUpto_row_tie rfl ⟨rfl, rfl⟩ (by kernel_rfl) rfl plain (by kernel_rfl)
end Go.Proofs.YtccojgaahoonhaaDoor.pingsMemory
#print axioms Go.Proofs.YtccojgaahoonhaaDoor.pingsMemory.pingsMemory_holds
