import Derived.Test.YtipfjnjjfojdgaaDoorTFun3
/- The history's Past. -/
namespace Go.Proofs.YtipfjnjjfojdgaaDoor
open Go Go.RowKit Go.Cu
open Go.Maps (Keyed)

section
variable {c m : Nat} {E : List En}
theorem HS.mapc {w : World} (h : HS w c m E) : w.cell? ⟨c, 0, none⟩ = some (.map (some m)) := by rw [cell_of_row w c 0 _ _ _ h.cell]; rfl
theorem box4_set {w : World} {p : Nat} {x y z u : Value} {t : TypeId} (h : w.heap[p]? = some (.cells #[x, y, z, u] t (0, 0))) (a b c d : Value) :
    ((((w.setCell ⟨p, 0, none⟩ a).setCell ⟨p, 1, none⟩ b).setCell ⟨p, 2, none⟩ c).setCell ⟨p, 3, none⟩ d).heap[p]? = some (.cells #[a, b, c, d] t (0, 0)) := by
  have h1 := heap_setCell_same _ p 0 _ t a h
  have h2 := heap_setCell_same _ p 1 _ t b h1
  have h3 := heap_setCell_same _ p 2 _ t c h2
  have h4 := heap_setCell_same _ p 3 _ t d h3
  simpa using h4
theorem below_set4 {B : Nat} {w0 w : World} (hb : Below B w0 w) {p : Nat} (hp : B ≤ p) (a b c d : Value) :
    Below B w0 ((((w.setCell ⟨p, 0, none⟩ a).setCell ⟨p, 1, none⟩ b).setCell ⟨p, 2, none⟩ c).setCell ⟨p, 3, none⟩ d) :=
  (((hb.setCell (p := ⟨p, 0, none⟩) hp a).setCell (p := ⟨p, 1, none⟩) hp b).setCell (p := ⟨p, 2, none⟩) hp c).setCell (p := ⟨p, 3, none⟩) hp d
theorem past_box (w : World) : ∃ w1 q0, w1 = w.alloc (.cells #[.int .i64 0, .int .i64 0, .bool false, .bool false] 36) ∧ q0 = w.heap.size ∧ Below w.heap.size w w1 ∧ w1.heap[q0]? = some (.cells #[.int .i64 0, .int .i64 0, .bool false, .bool false] 36 (0, 0)) :=
  ⟨_, _, rfl, rfl, (Below.refl _ _).alloc (Nat.le_refl _) _, heap_alloc_new w _⟩
set_option maxRecDepth 10000 in
set_option maxHeartbeats 1000000 in
theorem past_some (w : World) (h : HS w c m E) (k : Int) (hk : (Lit.int .i64 k).wf = true) (e : En) (hg : get En.k E k = some e) :
    Calls Tryd.prog 16 #[ptr c, .int .i64 k] w fun r w' => r = .returned (.tuple #[.agg #[.int .i64 e.bs.length, .int .i64 e.rd, .bool e.cl, .bool e.en], .bool true]) ∧ Below w.heap.size w w' := by
  have he := (get_mem En.k hg).1
  obtain ⟨ek, b, A, cap, bs, rd, cl, en, F⟩ := e
  obtain ⟨w1, q0, hw1, hq, hb, hnew⟩ := past_box w
  have h1 := h.past hb
  have hl := h1.mp.look (t := 63) law_int Tryd.underlying63 (zero_past _) (key_int hk)
  rw [mf_at, hg] at hl
  simp only [Option.map_some, Option.getD_some] at hl
  have c0 := h1.mapc
  have hblk : w1.heap[b]? = some (.cells #[.slice A bs.length cap, .int .i64 rd, .bool cl, .bool en] 70 (0, 0)) := h1.blk _ he
  obtain ⟨⟨k0, k1, k2, k3⟩, _⟩ := box4 hblk
  obtain ⟨_, f0, f1, f2, f3⟩ := box4 hnew
  have HB := hide hb
  have HN := hide hnew
  have HQ := hide hq
  have HBl := hide hblk
  clear h h1 hk hg he hb hblk hnew
  go_enter Tryd.func16, Tryd.ntmps16
  go_upto_region 1 with fail
  rw [← hw1, ← hq]
  clear hw1 hq
  go_upto_region 4 with fail
  go_still_tail 18, (by kernel_rfl)
  change wpList _ _ _ _ _ w1.drew
  obtain ⟨w2, hw2⟩ : ∃ w2, w1.drew = w2 := ⟨_, rfl⟩
  have hn2 : w2.heap[q0]? = some (.cells #[.int .i64 0, .int .i64 0, .bool false, .bool false] 36 (0, 0)) := by rw [← hw2]; exact HN.out
  have HN2 := hide hn2
  have HB2 : Hid (Below w.heap.size w w2) := hide (by rw [← hw2]; exact HB.out.drew)
  rw [hw2]
  obtain ⟨_, f0, f1, f2, f3⟩ := box4 hn2
  clear hw2 hn2
  go_wp2
  obtain ⟨⟨m0, m1, m2, m3⟩, _⟩ := box4 (box4_set HN2.out (.int .i64 bs.length) (.int .i64 rd) (.bool cl) (.bool en))
  refine bodyPost_ret (by simp [results, Tryd.results16, go_sem, m0, m1, m2, m3]; rfl) rfl ?_
  exact ⟨rfl, below_set4 HB2.out (Nat.le_of_eq HQ.out.symm) _ _ _ _⟩
set_option maxRecDepth 10000 in
set_option maxHeartbeats 1000000 in
theorem past_none (w : World) (h : HS w c m E) (k : Int) (hk : (Lit.int .i64 k).wf = true) (hg : get En.k E k = none) :
    Calls Tryd.prog 16 #[ptr c, .int .i64 k] w fun r w' => r = .returned (.tuple #[.agg #[.int .i64 0, .int .i64 0, .bool false, .bool false], .bool false]) ∧ Below w.heap.size w w' := by
  obtain ⟨w1, q0, hw1, hq, hb, hnew⟩ := past_box w
  have h1 := h.past hb
  have hl := h1.mp.look (t := 63) law_int Tryd.underlying63 (zero_past _) (key_int hk)
  rw [mf_at, hg] at hl
  simp only [Option.map_none, Option.getD_none] at hl
  have c0 := h1.mapc
  obtain ⟨_, f0, f1, f2, f3⟩ := box4 hnew
  have HB := hide hb
  have HN := hide hnew
  have HQ := hide hq
  clear h h1 hk hg hb hnew
  go_enter Tryd.func16, Tryd.ntmps16
  go_upto_region 1 with fail
  rw [← hw1, ← hq]
  clear hw1 hq
  go_wp2
  obtain ⟨⟨m0, m1, m2, m3⟩, _⟩ := box4 (box4_set HN.out (.int .i64 0) (.int .i64 0) (.bool false) (.bool false))
  refine bodyPost_ret (by simp [results, Tryd.results16, go_sem, m0, m1, m2, m3]; rfl) rfl ?_
  exact ⟨rfl, below_set4 HB.out (Nat.le_of_eq HQ.out.symm) _ _ _ _⟩
theorem past_nil (w : World) (k : Int) :
    Calls Tryd.prog 16 #[.pointer none, .int .i64 k] w fun r w' => r = .returned (.tuple #[.agg #[.int .i64 0, .int .i64 0, .bool false, .bool false], .bool false]) ∧ Below w.heap.size w w' := by
  obtain ⟨w1, q0, hw1, hq, hb, hnew⟩ := past_box w
  obtain ⟨_, f0, f1, f2, f3⟩ := box4 hnew
  have HB := hide hb
  have HN := hide hnew
  have HQ := hide hq
  clear hb hnew
  go_enter Tryd.func16, Tryd.ntmps16
  go_upto_region 1 with fail
  rw [← hw1, ← hq]
  clear hw1 hq
  go_wp2
  obtain ⟨⟨m0, m1, m2, m3⟩, _⟩ := box4 (box4_set HN.out (.int .i64 0) (.int .i64 0) (.bool false) (.bool false))
  refine bodyPost_ret (by simp [results, Tryd.results16, go_sem, m0, m1, m2, m3]; rfl) rfl ?_
  exact ⟨rfl, below_set4 HB.out (Nat.le_of_eq HQ.out.symm) _ _ _ _⟩
end
end Go.Proofs.YtipfjnjjfojdgaaDoor
