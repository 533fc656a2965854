import Derived.Test.YtipfjnjjfojdgaaDoorTFun4
import Derived.Test.YtipfjnjjfojdgaaDoorTShelf
/- The history's Rest. -/
namespace Go.Proofs.YtipfjnjjfojdgaaDoor
open Go Go.RowKit Go.Cu
open Go.Maps (Keyed)

/-- bytes in new memory -/
def Fresh8 (w w' : World) (v : Value) (L : List Int) : Prop := Row w' (fun k => w.heap.size ≤ k ∧ OfE w' 5 k) 5 1 v L.length (u8s L)
theorem clone_any (w : World) (A : Option Addr) (n c : Nat) (L : List Int) (hr : Reads w 1 (.slice A n c) n (u8s L)) (hn : n ≤ 140737488355328) :
    Calls Tryd.prog 29 #[.slice A n c] w fun r w' => ∃ v, r = .returned v ∧ Fresh8 w w' v L ∧ Below w.heap.size w w' := by
  obtain ⟨h1, A', c', he, _, h3⟩ := hr
  injection he with he _ _
  subst he
  rw [u8s_length] at h1
  have h1 : L.length = n := by omega
  cases A with
  | none =>
    have hn : n = 0 := by
      rcases h3 with h | ⟨_, h, _⟩
      · omega
      · cases h
    subst hn
    obtain rfl : L = [] := List.length_eq_zero_iff.1 h1
    refine (Tryd.bytes_Clone_nil 0 c w).mono ?_
    rintro r w' ⟨rfl, rfl⟩
    exact ⟨_, rfl, Row.nil _ _ _ _, Below.refl _ _⟩
  | some a =>
    refine (Tryd.bytes_Clone_at a n c L w h1 hn (fun i hi => ?_)).mono ?_
    · rcases h3 with h | ⟨ad, h, h4⟩
      · omega
      · injection h with h
        subst h
        exact h4 i _ (u8s_get (by rw [List.getD_eq_getElem?_getD, List.getElem?_eq_getElem (by omega)]; rfl))
    · rintro r w' ⟨v, rfl, ho, _, hb⟩
      refine ⟨v, rfl, ?_, hb⟩
      have h := Row.ofOwns ho (fun k => w.heap.size ≤ k) (fun k hk => ?_)
      · unfold Fresh8
        rw [h1]
        exact h.narrow.mono (fun k hk _ => hk)
      · obtain ⟨_, h⟩ := ho
        rcases h with ⟨rfl, _⟩ | ⟨g, cap, cur, rfl, hB, _⟩
        · cases hk
        · simp [Value.ownBlock] at hk; omega
section
variable {c m : Nat} {E : List En}
set_option maxRecDepth 10000 in
set_option maxHeartbeats 1000000 in
theorem rest_at (w : World) (h : HS w c m E) (k : Int) (hk : (Lit.int .i64 k).wf = true) (hn : (pastR (E.map En.rw) k).bs.length ≤ 140737488355328) :
    Calls Tryd.prog 11 #[ptr c, .int .i64 k] w fun r w' => ∃ v, r = .returned v ∧ Fresh8 w w' v ((pastR (E.map En.rw) k).bs.drop (pastR (E.map En.rw) k).rd) ∧ Below w.heap.size w w' := by
  have HN := hide hn
  have HK := hide hk
  have HH := hide h
  clear h hk hn
  go_enter Tryd.func11, Tryd.ntmps11
  go_wp2_with fail
  refine (of_any w HH.out k HK.out).mono ?_
  rintro r w1 ⟨⟨ek, b, A, cap, bs, rd, cl, en, F⟩, rfl, ha, hrw, hb, _, _⟩
  obtain ⟨h1, h2⟩ : (pastR (E.map En.rw) k).bs = bs ∧ (pastR (E.map En.rw) k).rd = rd := ⟨(congrArg Rw.bs hrw).symm, (congrArg Rw.rd hrw).symm⟩
  rw [h1] at HN
  have H12 := hide (And.intro h1 h2)
  have hblk : w1.heap[b]? = some (.cells #[.slice A bs.length cap, .int .i64 rd, .bool cl, .bool en] 70 (0, 0)) := ha.blk
  obtain ⟨⟨k0, k1, k2, k3⟩, _⟩ := box4 hblk
  obtain ⟨B, d, hs, hrd, _⟩ := cut_rest ha.row.reads (row_cap ha.row) rd ha.rd
  have HRd := hide hrd
  have HB := hide hb
  clear ha hrw hb hblk hrd h1 h2
  go_upto_region 2 with fail
  go_still_tail 9, (by kernel_rfl)
  change wpList _ _ _ _ _ w1.drew
  obtain ⟨w2, hw2⟩ : ∃ w2, w1.drew = w2 := ⟨_, rfl⟩
  have hrd2 : Reads w2 1 (.slice B (bs.length - rd) d) (bs.length - rd) (u8s (bs.drop rd)) := by rw [← hw2]; exact HRd.out
  have HRd2 := hide hrd2
  have HB2 : Hid (Below w.heap.size w w2) := hide (by rw [← hw2]; exact HB.out.drew)
  rw [hw2]
  clear hw2 hrd2
  go_wp2_with (first
    | (go_at_call 29; refine (clone_any w2 B (bs.length - rd) d (bs.drop rd) HRd2.out (by have := HN.out; omega)).mono ?_; rintro r w3 ⟨v, rfl, hv, hb3⟩
       have HV := hide hv
       have HB3 := hide hb3
       clear hv hb3)
    | fail)
  go_ret
  rw [H12.out.1, H12.out.2]
  have hs2 := HB2.out.size
  exact ⟨v, rfl, HV.out.mono (fun k hk _ => ⟨Nat.le_trans hs2 hk.1, hk.2⟩), HB2.out.trans (HB3.out.mono hs2)⟩
set_option maxRecDepth 10000 in
set_option maxHeartbeats 1000000 in
theorem rest_nil (w : World) (k : Int) :
    Calls Tryd.prog 11 #[.pointer none, .int .i64 k] w fun r w' => r = .returned (.slice none 0 0) ∧ Below w.heap.size w w' := by
  have hs : ∀ w, (Instr.sliceAt 26 (.slice none 0 0) (some (.int .i64 0)) none none).run Tryd.prog w = .ok (.slice none 0 0) w := fun w => run_sliceAt_lo (P := Tryd.prog) w 26 5 1 Tryd.underlying26 size_byte none 0 0 .i64 0 (Nat.le_refl _)
  go_enter Tryd.func11, Tryd.ntmps11
  go_wp2_with fail
  refine (of_nil w k).mono ?_
  rintro r w' ⟨rfl, hw⟩
  have hb : Below w.heap.size w w' := by rw [hw]; exact (Below.refl _ _).alloc (Nat.le_refl _) _
  have hblk : w'.heap[w.heap.size]? = some (.cells newP 70 (0, 0)) := by rw [hw]; exact heap_alloc_new w _
  obtain ⟨q, hq⟩ : ∃ q, w.heap.size = q := ⟨_, rfl⟩
  rw [hq] at hblk
  obtain ⟨⟨k0, k1, k2, k3⟩, _⟩ := box4 hblk
  rw [hq]
  have HB := hide hb
  have HQ := hide hq
  clear hw hblk hb hq
  go_upto_region 2 with fail
  go_still_tail 9, (by kernel_rfl)
  change wpList _ _ _ _ _ w'.drew
  obtain ⟨w2, hw2⟩ : ∃ w2, w'.drew = w2 := ⟨_, rfl⟩
  have HB2 : Hid (Below w.heap.size w w2) := hide (by rw [← hw2]; exact HB.out.drew)
  rw [hw2]
  clear hw2
  go_wp2_with (first
    | (go_at_call 29; refine (Tryd.bytes_Clone_nil 0 0 w2).mono ?_; rintro r w3 ⟨rfl, rfl⟩)
    | fail)
  go_ret
  exact ⟨rfl, HQ.out ▸ HB2.out⟩
end
end Go.Proofs.YtipfjnjjfojdgaaDoor
