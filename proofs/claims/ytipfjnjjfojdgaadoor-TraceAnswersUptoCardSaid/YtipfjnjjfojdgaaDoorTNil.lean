import Derived.Test.YtipfjnjjfojdgaaDoorTStep
/- A history, or none. -/
namespace Go.Proofs.YtipfjnjjfojdgaaDoor
open Go Go.RowKit Go.Cu Go.Proofs.YtipfjnjjfojdgaaDoor.errs

set_option maxRecDepth 10000 in
set_option maxHeartbeats 4000000 in
theorem text_nil (w : World) : Calls Tryd.prog 25 #[.pointer none] w fun r w' => r = .returned (.string ⟨(textL []).toArray⟩) ∧ Below w.heap.size w w' := by
  have hfr := Lib.fresh_isBuilder 82 5 w
  have hal : Below w.heap.size w (w.alloc (.cells #[.pointer none, .slice none 0 0] 82)) := (Below.refl _ _).alloc (Nat.le_refl _) _
  obtain ⟨b, hb⟩ : ∃ b, b = w.heap.size := ⟨_, rfl⟩
  obtain ⟨w1, hw1⟩ : ∃ w1, w1 = w.alloc (.cells #[.pointer none, .slice none 0 0] 82) := ⟨_, rfl⟩
  rw [← hw1] at hfr hal
  have hfr2 : Bd w.heap.size b [] w1 := by rw [hb]; exact hfr
  have HFr := hide hfr2
  have HA := hide hal
  clear hfr hfr2 hal
  go_enter Tryd.func25, Tryd.ntmps25
  go_upto_region 2 with fail
  rw [← hw1, ← hb]
  clear hw1
  have HBeq := hide hb
  clear hb
  go_wp2_with fail
  refine (keys_nil w1).mono ?_
  rintro r w2 ⟨rfl, rfl⟩
  go_wp2_with fail
  go_loopw [13] (fun s wr => s = .int .i64 0 ∧ w1 = wr) (fun _ _ => 0)
  case atStart => exact ⟨rfl, rfl⟩
  case round =>
    obtain ⟨rfl, rfl⟩ := hrel
    go_wp2_with fail
    refine (Tryd.Builder_String_any w.heap.size b (textL []) w1 HFr.out HA.out.size).mono ?_
    rintro r w6 ⟨rfl, h6⟩
    have H6 := hide h6
    clear h6
    go_wp2
    go_ret
    exact ⟨rfl, HA.out.trans H6.out⟩
/-- a history that knows R, or none -/
structure HN (w : World) (pv : Value) (D : Nat → Prop) (R : List Rw) : Prop where
  ex : (∃ c, pv = ptr c ∧ Hist w c D R) ∨ (pv = .pointer none ∧ R = [])
section
variable {w w' : World} {pv : Value} {D G : Nat → Prop} {R : List Rw}
theorem HN.past (h : HN w pv D R) (hb : Below w.heap.size w w') : HN w' pv D R := ⟨h.ex.imp (fun ⟨c, h1, h2⟩ => ⟨c, h1, h2.past hb⟩) id⟩
theorem hn_past (h : HN w pv D R) (k : Int) (hk : wfi k) :
    Calls Tryd.prog 16 #[pv, .int .i64 k] w fun r w' => r = .returned (.tuple #[.agg #[.int .i64 (pastR R k).bs.length, .int .i64 (pastR R k).rd, .bool (pastR R k).cl, .bool (pastR R k).en], .bool (get Rw.k R k).isSome]) ∧ Below w.heap.size w w' := by
  rcases h.ex with ⟨c, rfl, h1⟩ | ⟨rfl, rfl⟩
  · exact hist_past h1 k hk
  · exact past_nil w k
theorem hn_rest {N i : Nat} (h : HN w pv D R) (hw : Wl R N i) (hN : N ≤ 1048576) (k : Int) (hk : wfi k) :
    Calls Tryd.prog 11 #[pv, .int .i64 k] w fun r w' => ∃ A d, r = .returned (.slice A (restR R k).length d) ∧ (restR R k).length ≤ d ∧ Fresh8 w w' (.slice A (restR R k).length d) (restR R k) ∧ Below w.heap.size w w' := by
  rcases h.ex with ⟨c, rfl, h1⟩ | ⟨rfl, rfl⟩
  · exact rest_ok h1 hw hN k hk
  · refine (rest_nil w k).mono ?_
    rintro r w' ⟨rfl, hb⟩
    exact ⟨none, 0, rfl, Nat.le_refl _, Row.nil _ _ _ _, hb⟩
theorem hn_keys (h : HN w pv D R) (hE : R.length ≤ 4294967296) : Calls Tryd.prog 17 #[pv] w (Rise w (R.map Rw.k)) := by
  rcases h.ex with ⟨c, rfl, h1⟩ | ⟨rfl, rfl⟩
  · exact hist_keys h1 hE
  · refine (keys_nil w).mono ?_
    rintro r w' ⟨rfl, rfl⟩
    exact ⟨none, 0, rfl, Row.nil _ _ _ _, Below.refl _ _⟩
theorem hn_text (h : HN w pv D R) (hT : Tab w) (hE : R.length ≤ 2097152) (hTo : Told R) :
    Calls Tryd.prog 25 #[pv] w fun r w' => r = .returned (.string ⟨(textL R).toArray⟩) ∧ Below w.heap.size w w' := by
  rcases h.ex with ⟨c, rfl, h1⟩ | ⟨rfl, rfl⟩
  · exact hist_text h1 hT hE hTo
  · exact text_nil w
end
end Go.Proofs.YtipfjnjjfojdgaaDoor
