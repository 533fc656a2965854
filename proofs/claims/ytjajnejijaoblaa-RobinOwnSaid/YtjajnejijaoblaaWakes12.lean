import Derived.Test.YtjajnejijaoblaaRobS
/- The document's example of the robin. -/
namespace Go.Proofs.Ytjajnejijaoblaa
open Go Go.RowKit Go.Cu

set_option maxHeartbeats 1000000 in
theorem wakes_true (w : World) : Calls Try.prog 7 #[] w fun e w' => e = .returned (.bool true) ∧ Below w.heap.size w w' := by
  have a1 : S.rAdd [] [97] = [[97]] := by decide
  have a2 : S.rAdd [[97]] [98] = [[97], [98]] := by decide
  have a3 : S.rAdd [[97], [98]] [97] = [[97], [98]] := by decide
  have A1 := hide a1
  have A2 := hide a2
  have A3 := hide a3
  clear a1 a2 a3
  go_enter Try.func7, Try.ntmps7
  go_wp2_with fail
  refine (S.new_any _).mono ?_
  rintro e w1 ⟨b, rfl, h1, hb1⟩
  have H1 := hide h1
  have HB1 := hide hb1
  clear h1 hb1
  go_wp2_with fail
  refine (S.add_any _ _ b [] [97] H1.out (by decide) (by simp)).mono ?_
  rintro e w2 ⟨rfl, h2, hm2⟩
  rw [A1.out] at h2
  have H2 := hide h2
  have HM2 := hide hm2
  clear h2 hm2
  go_wp2_with fail
  refine (S.add_any _ _ b [[97]] [98] H2.out (by decide) (by simp)).mono ?_
  rintro e w3 ⟨rfl, h3, hm3⟩
  rw [A2.out] at h3
  have H3 := hide h3
  have HM3 := hide hm3
  clear h3 hm3
  go_wp2_with fail
  refine (S.add_any _ _ b [[97], [98]] [97] H3.out (by decide) (by simp)).mono ?_
  rintro e w4 ⟨rfl, h4, hm4⟩
  rw [A3.out] at h4
  have H4 := hide h4
  have HM4 := hide hm4
  clear h4 hm4
  go_wp2_with fail
  refine (S.next_cons _ _ b [97] [[98]] H4.out (by simp)).mono ?_
  rintro e w5 ⟨rfl, h5, hm5⟩
  have H5 := hide h5
  have HM5 := hide hm5
  clear h5 hm5
  go_wp2_with fail
  refine (S.list_any _ _ b [[98], [97]] H5.out (by simp)).mono ?_
  rintro e w6 ⟨A, c, rfl, hr6, hb6⟩
  have H6 := hide (H5.out.kept (Mod.ofBelow hb6 (fun _ => False)) (fun _ _ h => h))
  obtain ⟨g, o, c', he, _, _, _, hg, hcell, _⟩ := hr6.open (by decide)
  cases he
  have k0 := hcell 0 (.string ⟨#[98]⟩) rfl
  have k1 := hcell 1 (.string ⟨#[97]⟩) rfl
  have HB6 := hide hb6
  clear hr6 hb6 hcell
  simp only [List.length_cons, List.length_nil, Nat.zero_add, Nat.reduceAdd, Nat.add_zero] at k0 k1 ⊢
  go_wp2_with fail
  refine (S.len_any _ _ b [[98], [97]] H6.out).mono ?_
  rintro e w7 ⟨rfl, rfl⟩
  go_wp2_with fail
  refine (S.has_any _ _ b [[98], [97]] [98] H6.out (by decide)).mono ?_
  rintro e w7 ⟨rfl, rfl⟩
  go_wp2
  go_ret
  have hbel : ∀ {F : Nat → Prop} {x y : World}, Mod F x y → w.heap.size ≤ x.heap.size → (∀ k, F k → w.heap.size ≤ k) → Below w.heap.size x y := fun h hs hF => h.below hs hF
  have g1 : ∀ k, Wide (fun _ => False) w w1 k → w.heap.size ≤ k := fun k h => by rcases h with h | h; exact h.elim; exact h.1
  have s1 := HB1.out.size
  have g2 : ∀ k, Wide (Wide (fun _ => False) w w1) w1 w2 k → w.heap.size ≤ k := fun k h => by rcases h with h | h; exact g1 k h; omega
  have s2 := HM2.out.size
  have g3 : ∀ k, Wide (Wide (Wide (fun _ => False) w w1) w1 w2) w2 w3 k → w.heap.size ≤ k := fun k h => by rcases h with h | h; exact g2 k h; omega
  have s3 := HM3.out.size
  have g4 : ∀ k, Wide (Wide (Wide (Wide (fun _ => False) w w1) w1 w2) w2 w3) w3 w4 k → w.heap.size ≤ k := fun k h => by rcases h with h | h; exact g3 k h; omega
  have s4 := HM4.out.size
  have s5 := HM5.out.size
  refine ⟨by simp, ?_⟩
  refine HB1.out.trans ((HM2.out.below s1 g1).trans ((HM3.out.below (by omega) g2).trans ((HM4.out.below (by omega) g3).trans ((HM5.out.below (by omega) g4).trans (HB6.out.mono (by omega))))))
end Go.Proofs.Ytjajnejijaoblaa
