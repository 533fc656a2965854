import Derived.Test.YtipfjnjjfojdgaaDoorTRef5
/- The law's sameKeys. -/
namespace Go.Proofs.YtipfjnjjfojdgaaDoor
open Go Go.RowKit Go.Cu

theorem int_cell {w : World} {A : Option Addr} {n c : Nat} {L : List Int} (hr : Reads w 1 (.slice A n c) n (ks L)) {i : Nat} {x : Int} (hx : L[i]? = some x) : ∃ ad, A = some ad ∧ w.cell? (ad.add i) = some (.int .i64 x) := by
  obtain ⟨h1, A', c', he, _, h3⟩ := hr
  injection he with he _ _
  have hi : i < L.length := (List.getElem?_eq_some_iff.1 hx).1
  rw [ks_length] at h1
  rcases h3 with h3 | ⟨ad, hA, h4⟩
  · omega
  · exact ⟨ad, by rw [he, hA], h4 i _ (ks_get hx)⟩
set_option maxRecDepth 10000 in
set_option maxHeartbeats 2000000 in
theorem same_keys (w : World) {F : Nat → Prop} {v : Value} {R : List Rw} (hd : Doc w F v R) (hn : R.length ≤ 1048577) (A2 : Option Addr) (c2 : Nat) (hr : Reads w 1 (.slice A2 R.length c2) R.length (ks (R.map Rw.k))) :
    Calls Tryd.prog 23 #[.slice A2 R.length c2, v] w fun r w' => r = .returned (.bool true) ∧ Below w.heap.size w w' := by
  obtain ⟨A, n, c, E, rfl, hrow, rfl, hsr, hby⟩ := hd.ex
  have hEl : E.length = n := drs_len hrow.reads
  have hm : (E.map DR.rw).map Rw.k = E.map DR.k := by rw [List.map_map]; rfl
  rw [hm] at hr
  rw [List.length_map] at hn hr ⊢
  rw [hEl] at hn hr ⊢
  obtain ⟨w1, p, hw1, hp, hb1, b0⟩ := one_box w A n c
  have HR := hide (Reads.past hrow.reads hb1)
  have HR2 := hide (Reads.past hr hb1)
  have HB1 := hide hb1
  have HEl := hide hEl
  obtain ⟨c0, _⟩ := box1 b0
  clear hrow hby hsr hb1 b0 hd hr hm hEl
  go_enter Tryd.func23, Tryd.ntmps23
  go_upto_region 1 with fail
  try rw [hw1]
  try rw [hp]
  clear hw1 hp
  go_wp2_with fail
  go_loopw [14] (fun t wr => ∃ i : Nat, i ≤ n ∧ t = .int .i64 i ∧ Hid (Below w1.heap.size w1 wr)) (fun t _ => n - (intOf t).toNat)
  case atStart => exact ⟨0, Nat.zero_le _, rfl, hide (Below.refl _ _)⟩
  case round =>
    obtain ⟨i, hi, rfl, HG⟩ := hrel
    by_cases hlt : i < n
    · obtain ⟨e, he⟩ : ∃ e, E[i]? = some e := ⟨_, List.getElem?_eq_getElem (by have := HEl.out; omega)⟩
      obtain ⟨ad, hA, s0, s1, s2, s3, s4⟩ := drs_cell (Reads.past HR.out HG.out) he
      obtain ⟨ad2, hA2, q2⟩ := int_cell (Reads.past HR2.out HG.out) (show (E.map DR.k)[i]? = some e.k by rw [List.getElem?_map, he]; rfl)
      have z0 := cell_later HG.out c0
      subst hA hA2
      clear he s1 s2 s3 s4
      go_upto_region 6 with fail
      go_quiet (fail)
      go_wp2
      go_round
      case rel => exact ⟨i + 1, by omega, by go_num, hide (dn_below HG.out _)⟩
      case measure => simp [intOf]; omega
    · obtain rfl : i = n := by omega
      go_wp2
      go_ret
      exact ⟨rfl, HB1.out.trans (HG.out.mono HB1.out.size)⟩
end Go.Proofs.YtipfjnjjfojdgaaDoor
