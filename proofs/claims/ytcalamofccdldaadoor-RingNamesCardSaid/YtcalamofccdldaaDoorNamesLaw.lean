/-
  RingNames: the law returns true: the limit, and which capacities there are.
-/
import Derived.Test.YtcalamofccdldaaDoorFlowW
import Derived.Test.YtcalamofccdldaaDoorErrs
import Derived.Lib.SlBytesConst
namespace Go.Proofs.YtcalamofccdldaaDoor.ringNames
open Go Go.RowKit Go.Cu Go.Proofs.YtcalamofccdldaaDoor Go.Proofs.YtcalamofccdldaaDoor.errs

/-- a literal of its own, marked, lies outside a ring that was there -/
theorem lit_out {w : World} {F : Nat → Prop} (hF : ∀ k, F k → k < w.heap.size) : RdOut (w.alloc (.cells #[.int .u8 97] 5 (1, 2))) F (.slice (some ⟨w.heap.size, 0, none⟩) 1 1) 1 (bytesV [97]) := by
  refine ⟨⟨rfl, _, 1, rfl, by unfold maxLen; omega, .inr ⟨_, rfl, fun j u hj => ?_⟩⟩, fun ad c e => ?_⟩
  · rw [add_plain, Nat.zero_add, cell_of_row (w.alloc (.cells #[.int .u8 97] 5 (1, 2))) w.heap.size j _ _ _ (heap_alloc_new w _)]
    have hj' : [Value.int .u8 97][j]? = some u := hj
    simpa using hj'
  · injection e with e _ _
    injection e with e
    subst e
    exact .inr ⟨fun h => by have := hF _ h; simp at this, by simp⟩
theorem conv_lit (w : World) : (convert 29 29 (.slice (some ⟨w.heap.size, 0, none⟩) 1 1)).run Tryd.prog (w.alloc (.cells #[.int .u8 97] 5)) = .ok (.slice (some ⟨w.heap.size, 0, none⟩) 1 1) (w.alloc (.cells #[.int .u8 97] 5 (1, 2))) :=
  Lib.run_convert_bytes_const w 29 5 #[.int .u8 97] 1 1 Tryd.underlying29 Tryd.underlying5

set_option maxRecDepth 10000 in
set_option maxHeartbeats 4000000 in
theorem walk (w : World) (adr : Nat → Addr) (h : Sent w adr) : Calls Tryd.prog 5 #[] w fun e w' => e = .returned (.bool true) ∧ Below w.heap.size w w' := by
  have HS := hide h
  have hE0 : Hid (w.cell? ⟨0, 0, none⟩ = some (.iface tTP (.pointer (some (adr 2))))) := h.cell 2 (by decide) (by decide)
  clear h
  go_enter Tryd.func5, Tryd.ntmps5
  go_wp2_with fail
  refine (RB.new_bad w (-1) (.inl (by decide)) _ hE0.out).mono ?_
  rintro e w1 ⟨rfl, hb⟩
  have HB1 := hide hb
  have hE1 := hide ((hb.cell (World.block_lt_of_cell? w _ hE0.out)).trans hE0.out)
  clear hb
  go_wp2_with fail
  refine (RB.new_bad w1 2147483648 (.inr (by decide)) _ hE1.out).mono ?_
  rintro e w2 ⟨rfl, hb⟩
  have HB2 := hide (HB1.out.trans (hb.mono HB1.out.size))
  clear hb
  go_wp2_with fail
  refine (RB.new_any w2 2147483647 (by decide)).mono ?_
  rintro e w3 ⟨c, rfl, hr, hb⟩
  have HC3 := hide hr
  have HB3 := hide (HB2.out.trans (hb.mono HB2.out.size))
  clear hr hb
  go_wp2_with fail
  refine (RB.new_any w3 0 (by decide)).mono ?_
  rintro e w4 ⟨d, rfl, hr, hb⟩
  have HC4 := hide (HC3.out.below hb)
  have HD4 := hide hr
  have HB4 := hide (HB3.out.trans (hb.mono HB3.out.size))
  clear hr hb
  go_wp2_with fail
  refine (code_err w4 adr (HS.out.below HB4.out) 2 (by decide) (by decide) (by decide)).mono ?_
  rintro e w5 ⟨rfl, rfl⟩
  go_wp2_with fail
  refine (code_err w5 adr (HS.out.below HB4.out) 2 (by decide) (by decide) (by decide)).mono ?_
  rintro e w6 ⟨rfl, rfl⟩
  go_wp2_with fail
  refine (RB.free_eq w6 _ c 2147483647 [] 0 2147483647 HC4.out (by simp)).mono ?_
  rintro e w7 ⟨rfl, rfl⟩
  have hconv := conv_lit w6
  go_wp2_with fail
  have hal := (Below.refl w6.heap.size w6).alloc (Nat.le_refl _) (.cells #[.int .u8 97] 5 (1, 2))
  refine (RB.push_any _ _ c 2147483647 [] 0 _ 1 1 (bytesV [97]) 1 (HC4.out.below hal) (lit_out HC4.out.lt) (by decide) (bytesV_one _) (by simp)).mono ?_
  rintro e w8 ⟨rfl, hr, hm⟩
  have hs2 := HB2.out.size
  have hs3 := HB3.out.size
  have hs4 := HB4.out.size
  have HC8 := hide hr
  have HD8 := hide ((HD4.out.below hal).kept hm (fun k hk hf => by have := hk.1; have := hf.2; omega))
  have HB8 := hide ((HB4.out.trans (hal.mono HB4.out.size)).trans (hm.below (by simp; omega) (fun k hk => by have := hk.1; omega)))
  clear hr hm hal
  go_wp2_with fail
  refine (RB.free_eq w8 _ c 2147483647 _ 0 2147483646 HC8.out (by simp [bytesV])).mono ?_
  rintro e w9 ⟨rfl, rfl⟩
  have hconv2 := conv_lit w8
  go_wp2_with fail
  have hal := (Below.refl w8.heap.size w8).alloc (Nat.le_refl _) (.cells #[.int .u8 97] 5 (1, 2))
  refine (RB.push_any _ _ d 0 [] 0 _ 1 1 (bytesV [97]) 0 (HD8.out.below hal) (lit_out HD8.out.lt) (by decide) (bytesV_one _) (by simp)).mono ?_
  rintro e w10 ⟨rfl, hr, hm⟩
  have HD10 := hide hr
  have HB10 := hide ((HB8.out.trans (hal.mono HB8.out.size)).trans (hm.below (by have := HB8.out.size; simp; omega) (fun k hk => by have := hk.1; omega)))
  clear hr hm hal
  go_wp2_with fail
  refine (RB.cap_any w10 _ d 0 _ 0 HD10.out).mono ?_
  rintro e w11 ⟨rfl, rfl⟩
  go_wp2
  go_ret
  exact ⟨rfl, HB10.out⟩
end Go.Proofs.YtcalamofccdldaaDoor.ringNames
