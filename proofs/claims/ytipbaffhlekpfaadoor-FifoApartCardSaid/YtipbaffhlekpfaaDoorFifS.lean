import Derived.Test.YtipbaffhlekpfaaDoorFifA
/- The fixed fact that each law asks first. -/
namespace Go.Proofs.YtipbaffhlekpfaaDoor
open Go Go.RowKit Go.Cu Go.Proofs.YtipbaffhlekpfaaDoor.errs

/-- A queue whose memory is above a world. -/
structure Fq (w0 w : World) (F : Nat → Prop) (b : Nat) (things most : Int) (L : List (Int × Int)) : Prop where
  q : Fifo w F b things most L
  low : ∀ k, F k → w0.heap.size ≤ k
  below : Below w0.heap.size w0 w
section
variable {w0 w w' : World} {F : Nat → Prop} {b : Nat} {things most : Int} {L L' : List (Int × Int)}
theorem Fq.past (h : Fq w0 w F b things most L) (hb : Below w.heap.size w w') : Fq w0 w' F b things most L := ⟨h.q.below hb, h.low, h.below.trans (hb.mono h.below.size)⟩
theorem Fq.step (h : Fq w0 w F b things most L) (hq : Fifo w' F b things most L') (hm : Mod F w w') : Fq w0 w' F b things most L' := ⟨hq, h.low, h.below.trans (hm.below h.below.size h.low)⟩
theorem Fq.wide (h : Fq w0 w F b things most L) (hq : Fifo w' (Wide F w w') b things most L') (hm : Mod F w w') : Fq w0 w' (Wide F w w') b things most L' :=
  ⟨hq, fun k hk => by rcases hk with hk | hk; exact h.low k hk; have := h.below.size; omega, h.below.trans (hm.below h.below.size h.low)⟩
theorem Fq.made (hb0 : Below w0.heap.size w0 w) (hq : Fifo w' (fun j => w.heap.size ≤ j ∧ j < w'.heap.size) b things most L) (hb : Below w.heap.size w w') : Fq w0 w' (fun j => w.heap.size ≤ j ∧ j < w'.heap.size) b things most L :=
  ⟨hq, fun k hk => by have := hb0.size; omega, hb0.trans (hb.mono hb0.size)⟩
end

/-- a walk is no nil function -/
theorem walk_not_nil (w : World) (v : Value) : (binOp .eql 52 (.func (.func 40) #[] #[v]) .nilFunc).run Tryd.prog w = .ok (.bool false) w := by kernel_rfl

set_option maxRecDepth 10000 in
set_option maxHeartbeats 2000000 in
theorem wakes_true (w : World) (adr : Nat → Addr) (hS : Sent w adr) : Calls Tryd.prog 9 #[] w fun e w' => e = .returned (.bool true) ∧ Below w.heap.size w w' := by
  have HS := hide hS
  clear hS
  go_enter Tryd.func9, Tryd.ntmps9
  go_wp2_with fail
  refine (new_any w 2 5 (by decide) (by decide) (by decide)).mono ?_
  rintro e w1 ⟨b, rfl, hq, hb⟩
  have H1 := hide (Fq.made (Below.refl w.heap.size w) hq hb)
  clear hq hb
  go_wp2_with fail
  refine (all_any w1 _ b 2 5 [] H1.out.q (by simp)).mono ?_
  rintro e w2 ⟨p, A, c, rfl, _, _, _, hb⟩
  have H2 := hide (H1.out.past hb)
  clear hb
  have hnn := walk_not_nil w2 (.pointer (some ⟨p, 0, none⟩))
  go_wp2_with fail
  refine (put_ok w2 _ b 2 5 [] H2.out.q 7 3 (by decide) (by decide) (by decide) (by simp)).mono ?_
  rintro e w3 ⟨rfl, hq, hm⟩
  have H3 := hide (H2.out.wide hq hm)
  clear hq hm
  have hE3 := hide ((HS.out.below H3.out.below).cell 6 (by decide) (by decide))
  go_wp2_with fail
  refine (put_full w3 _ b 2 5 _ H3.out.q 8 3 (by decide) (.inr (by decide)) _ hE3.out).mono ?_
  rintro e w4 ⟨rfl, hb⟩
  have H4 := hide (H3.out.past hb)
  clear hb
  go_wp2_with fail
  refine (head_some w4 _ b 2 5 (7, 3) [] H4.out.q).mono ?_
  rintro e w5 ⟨rfl, hb⟩
  have H5 := hide (H4.out.past hb)
  clear hb
  go_wp2_with fail
  refine (code_err w5 adr (HS.out.below H5.out.below) 6 (by decide) (by decide) (by decide)).mono ?_
  rintro e w6 ⟨rfl, rfl⟩
  go_wp2_with fail
  refine (len_any w6 _ b 2 5 _ H5.out.q).mono ?_
  rintro e w7 ⟨rfl, rfl⟩
  go_wp2_with fail
  refine (weight_any w6 _ b 2 5 _ H5.out.q).mono ?_
  rintro e w7 ⟨rfl, rfl⟩
  go_wp2
  go_ret
  exact ⟨rfl, H5.out.below⟩
end Go.Proofs.YtipbaffhlekpfaaDoor
