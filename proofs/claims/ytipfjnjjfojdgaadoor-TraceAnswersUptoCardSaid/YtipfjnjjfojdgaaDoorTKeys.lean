import Derived.Test.YtipfjnjjfojdgaaDoorTApp
import Derived.Test.YtipfjnjjfojdgaaDoorTShelf
import Derived.Test.YtipfjnjjfojdgaaDoorSortRow
/- The history's Keys. -/
namespace Go.Proofs.YtipfjnjjfojdgaaDoor
open Go Go.RowKit Go.Cu Go.Sort

theorem ks_length (L : List Int) : (ks L).length = L.length := by simp [ks]
theorem ks_get {L : List Int} {i : Nat} {x : Int} (h : L[i]? = some x) : (ks L)[i]? = some (.int .i64 x) := by simp [ks, h]
theorem keys_has (E : List En) (x : Int) : (∃ v, mf E (.int .i64 x) = some v) ↔ x ∈ E.map En.k := by
  rw [mf_at]
  constructor
  · rintro ⟨v, h⟩
    cases hg : get En.k E x with
    | none => rw [hg] at h; cases h
    | some e =>
      obtain ⟨he, hk⟩ := get_mem En.k hg
      exact List.mem_map.2 ⟨e, he, hk⟩
  · intro h
    obtain ⟨e, he, hk⟩ := List.mem_map.1 h
    cases hg : get En.k E x with
    | none => exact (get_none En.k hg e he hk).elim
    | some e => exact ⟨_, rfl⟩
theorem keys_rise {E : List En} (h : Srt En.k E) : (E.map En.k).Pairwise (fun x y => x < y) := List.pairwise_map.2 h
section
variable {c m : Nat} {E : List En}
/-- a new row of them, rising -/
def Rise (w : World) (L : List Int) (r : Ending) (w' : World) : Prop := ∃ A cc, r = .returned (.slice A L.length cc) ∧ Row w' (fun k => w.heap.size ≤ k) 3 1 (.slice A L.length cc) L.length (ks L) ∧ Below w.heap.size w w'
set_option maxRecDepth 10000 in
theorem sorted_any (w : World) (p : Nat) (hp : w.cell? ⟨p, 0, none⟩ = some (.map (some m))) (L : List Int) (hL : L.length ≤ 4294967296) (hrise : L.Pairwise (fun x y => x < y)) (f : Lit → Option Value) (hf : ∀ x : Int, (∃ v, f (.int .i64 x) = some v) ↔ x ∈ L) (hm : Mp w Tryd.prog 3 m f L.length) :
    Calls Tryd.prog 31 #[.func (.func 47) #[] #[ptr p]] w (Rise w L) := by
  have HC := hide (collect_any w p m hp L hL f hf hm)
  have HR := hide hrise
  have HL := hide hL
  clear hp hm hL hf hrise
  go_enter Tryd.func31, Tryd.ntmps31
  go_wp2_with fail
  refine HC.out.mono ?_
  rintro e w1 ⟨v, rfl, ys, ⟨hnd, hmem⟩, hrow, hnil, hb⟩
  have hr := Row.ofOwns hrow (fun k => w.heap.size ≤ k) (fun k hk => by
    obtain ⟨_, h⟩ := hrow
    rcases h with ⟨rfl, _⟩ | ⟨g, cap, cur, rfl, hB, _⟩
    · cases hk
    · simp [Value.ownBlock] at hk; omega)
  obtain ⟨A, cc, rfl, _, _⟩ := hr.shape
  have hperm : ys.Perm L := (List.perm_ext_iff_of_nodup hnd (HR.out.imp (fun h => by omega))).2 hmem
  have hsr := hide (sort_rising hperm HR.out)
  have hlen : ys.length = L.length := hperm.length_eq
  have HRow := hide hr
  have HB := hide hb
  have HP := hide hperm
  have HLen := hide hlen
  clear hrow hnil hb hnd hmem hr hperm hlen
  go_wp2_with fail
  rcases Nat.eq_zero_or_pos ys.length with h0 | hpos
  · obtain rfl : ys = [] := List.eq_nil_of_length_eq_zero h0
    refine (Tryd.slices_Sort_int_none A cc w1).mono ?_
    rintro r2 w' ⟨rfl, rfl⟩
    go_wp2
    go_ret
    have hL0 : L = [] := List.nil_perm.1 HP.out
    subst hL0
    exact ⟨A, cc, rfl, HRow.out, HB.out⟩
  · obtain ⟨g2, o2, rfl, hxl, hF, hlt, hh⟩ := row_holds HRow.out hpos
    have hxs : ys.length < 4611686018427387904 := by have := HLen.out; have := HL.out; omega
    have HPos := hide hpos
    have HLt := hide hlt
    clear hpos
    have hs := Tryd.slices_Sort_int g2 o2 cc ys w1 hh hlt hxs
    refine hs.mono ?_
    rintro r2 w' ⟨rfl, kk, os, rfl⟩
    rw [hsr.out]
    obtain ⟨hrow, hmod⟩ := row_sorted (k := kk) (os := os) (ys := L) HRow.out HPos.out HLen.out.symm
    obtain ⟨wS, hwS⟩ : ∃ wS, grow (putRow (Value.int .i64) (Sort.ahead w1 kk) g2 o2 L.toArray) os = wS := ⟨_, rfl⟩
    rw [hwS] at hrow hmod
    rw [hwS]
    rw [HLen.out] at hrow
    rw [HLen.out]
    have HRowS := hide hrow
    have HBS := hide (HB.out.trans (hmod.below (B := w.heap.size) HB.out.size (fun k e => by subst e; exact hF)))
    clear hs hrow hmod hwS hh hxs hlt hF
    go_wp2
    go_ret
    exact ⟨_, cc, rfl, HRowS.out, HBS.out⟩
theorem keys_any (w : World) (h : HS w c m E) (hE : E.length ≤ 4294967296) : Calls Tryd.prog 17 #[ptr c] w (Rise w (E.map En.k)) := by
  have c0 : w.cell? ⟨c, 0, none⟩ = some (.map (some m)) := by rw [cell_of_row w c 0 _ _ _ h.cell]; rfl
  have HH := hide h
  clear h
  go_enter Tryd.func17, Tryd.ntmps17
  go_wp2_with fail
  refine (keys_val w m).mono ?_
  rintro e w1 ⟨p, rfl, _, hp, hb⟩
  have HS := hide (sorted_any w1 p hp (E.map En.k) (by rw [List.length_map]; exact hE) (keys_rise HH.out.srt) (mf E) (keys_has E) (by rw [List.length_map]; exact HH.out.mp.block (hb.block _ HH.out.mp.lt)))
  have HB := hide hb
  clear hp hb
  go_wp2_with fail
  refine HS.out.mono ?_
  rintro e w2 ⟨A, cc, rfl, hr, hb2⟩
  have hs := HB.out.size
  have HR := hide (hr.mono (fun k hk _ => (Nat.le_trans hs hk : w.heap.size ≤ k)))
  have HB2 := hide (HB.out.trans (hb2.mono hs))
  clear hr hb2
  go_wp2
  go_ret
  exact ⟨A, cc, by rw [List.length_map]; rfl, HR.out, HB2.out⟩
theorem keys_nil (w : World) : Calls Tryd.prog 17 #[.pointer none] w fun r w' => r = .returned (.slice none 0 0) ∧ w = w' := by
  go_enter Tryd.func17, Tryd.ntmps17
  go_wp2
  go_ret
  exact ⟨rfl, rfl⟩
end
end Go.Proofs.YtipfjnjjfojdgaaDoor
