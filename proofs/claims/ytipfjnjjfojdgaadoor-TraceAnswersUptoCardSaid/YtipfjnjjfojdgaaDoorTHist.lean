import Derived.Test.YtipfjnjjfojdgaaDoorTText
import Derived.Test.YtipfjnjjfojdgaaDoorTFun6
/- A history as the laws see it: what it knows, over rows. -/
namespace Go.Proofs.YtipfjnjjfojdgaaDoor
open Go Go.RowKit Go.Cu

/-- Block c holds a history that knows R; its memory lies in D. -/
structure Hist (w : World) (c : Nat) (D : Nat → Prop) (R : List Rw) : Prop where
  ex : ∃ m E, HS w c m E ∧ E.map En.rw = R ∧ ∀ k, HF c m E k → D k
theorem new_hist (w : World) : Calls Tryd.prog 9 #[] w fun r w' => ∃ c, r = .returned (ptr c) ∧ Hist w' c (fun k => w.heap.size ≤ k ∧ k < w'.heap.size) [] ∧ Below w.heap.size w w' := by
  have HM1 := hide (Mp.made w Tryd.prog 3)
  have hmm := @run_makeMap Tryd.prog
  go_enter Tryd.func9, Tryd.ntmps9
  go_wp2
  go_ret
  have hb : Below w.heap.size w ((w.alloc (.map #[] 0)).alloc (.cells #[.map (some w.heap.size)] 65)) := ((Below.refl _ w).alloc (Nat.le_refl _) _).alloc (by simp) _
  refine ⟨w.heap.size + 1, rfl, ⟨w.heap.size, [], ⟨?_, ?_, fun e he => (List.not_mem_nil he).elim, fun e he => (List.not_mem_nil he).elim, fun e he => (List.not_mem_nil he).elim, List.Pairwise.nil, fun e he => (List.not_mem_nil he).elim, fun e he => (List.not_mem_nil he).elim, fun e he => (List.not_mem_nil he).elim⟩, rfl, ?_⟩, hb⟩
  · have := heap_alloc_new (w.alloc (.map #[] 0)) (.cells #[.map (some w.heap.size)] 65)
    rw [World.size_alloc] at this
    exact this
  · refine (HM1.out.block ?_).ext (fun l => by unfold mf; split <;> rfl)
    rw [Below.heap_alloc _ _ _ (by simp)]
  · rintro k (rfl | rfl | ⟨e, he, _⟩)
    · simp
    · simp; omega
    · exact (List.not_mem_nil he).elim
section
variable {w w' : World} {c : Nat} {D G : Nat → Prop} {R : List Rw}
theorem Hist.mono (h : Hist w c D R) (hD : ∀ k, D k → k < w.heap.size → G k) : Hist w c G R := by
  obtain ⟨m, E, h1, h2, h3⟩ := h.ex
  exact ⟨m, E, h1, h2, fun k hk => hD k (h3 k hk) (h1.low k hk)⟩
theorem Hist.kept (h : Hist w c D R) (hm : Mod G w w') (hn : ∀ k, D k → k < w.heap.size → ¬ G k) : Hist w' c D R := by
  obtain ⟨m, E, h1, h2, h3⟩ := h.ex
  exact ⟨m, E, h1.kept hm (fun k hk => hn k (h3 k hk) (h1.low k hk)), h2, h3⟩
theorem Hist.past (h : Hist w c D R) (hb : Below w.heap.size w w') : Hist w' c D R := h.kept (Mod.ofBelow hb (fun _ => False)) (fun _ _ _ h => h)
/-- a history turned: what a step leaves -/
def Turned (w w' : World) (c : Nat) (D : Nat → Prop) (R : List Rw) : Prop := Hist w' c (fun k => D k ∨ (w.heap.size ≤ k ∧ k < w'.heap.size)) R ∧ Mod D w w'
theorem turned_of {m : Nat} {E : List En} (h3 : ∀ k, HF c m E k → D k) {r : Rw} (h : Step1 w w' c m E r) : Turned w w' c D (put Rw.k (E.map En.rw) r) := by
  obtain ⟨e', h4, rfl, h5, h6⟩ := h
  refine ⟨⟨m, put En.k E e', h4, put_rw E e', fun k hk => ?_⟩, h5.mono (fun k _ hk => h3 k hk)⟩
  rcases h6 k hk with h | h
  · exact .inl (h3 k h)
  · exact .inr ⟨h, h4.low k hk⟩
theorem hist_closed (h : Hist w c D R) (k : Int) (hk : wfi k) (hE : R.length ≤ 2097152) (hcl : (pastR R k).cl = false) :
    Calls Tryd.prog 13 #[ptr c, .int .i64 k] w fun r w' => r = .returned .nilIface ∧ Turned w w' c D (put Rw.k R { pastR R k with cl := true }) := by
  obtain ⟨m, E, h1, rfl, h3⟩ := h.ex
  rw [List.length_map] at hE
  exact (closed_ok w h1 k hk hE hcl).mono (fun r w' h => ⟨h.1, turned_of h3 h.2⟩)
theorem hist_closed2 (h : Hist w c D R) (k : Int) (hk : wfi k) (hcl : (pastR R k).cl = true) (ev : Value) (hE : w.cell? ⟨1, 0, none⟩ = some ev) :
    Calls Tryd.prog 13 #[ptr c, .int .i64 k] w fun r w' => r = .returned ev ∧ Below w.heap.size w w' := by
  obtain ⟨m, E, h1, rfl, h3⟩ := h.ex
  exact closed_closed w h1 k hk hcl ev hE
theorem hist_wrote (h : Hist w c D R) (k : Int) (hk : wfi k) (hE : R.length ≤ 2097152) (hcl : (pastR R k).cl = false) (A2 : Option Addr) (n2 c2 : Nat) (L : List Int) (hr : Reads w 1 (.slice A2 n2 c2) n2 (u8s L)) (hL : ∀ x ∈ L, 0 ≤ x ∧ x ≤ 255) (hn : (pastR R k).bs.length + n2 ≤ 1099511627776) :
    Calls Tryd.prog 12 #[ptr c, .int .i64 k, .slice A2 n2 c2] w fun r w' => r = .returned .nilIface ∧ Turned w w' c D (put Rw.k R { pastR R k with bs := (pastR R k).bs ++ L }) := by
  obtain ⟨m, E, h1, rfl, h3⟩ := h.ex
  rw [List.length_map] at hE
  exact (wrote_ok w h1 k hk hE hcl A2 n2 c2 L hr hL hn).mono (fun r w' h => ⟨h.1, turned_of h3 h.2⟩)
theorem hist_wrote2 (h : Hist w c D R) (k : Int) (hk : wfi k) (v : Value) (hcl : (pastR R k).cl = true) (ev : Value) (hE : w.cell? ⟨1, 0, none⟩ = some ev) :
    Calls Tryd.prog 12 #[ptr c, .int .i64 k, v] w fun r w' => r = .returned ev ∧ Below w.heap.size w w' := by
  obtain ⟨m, E, h1, rfl, h3⟩ := h.ex
  exact wrote_closed w h1 k hk v hcl ev hE
theorem hist_gave (h : Hist w c D R) (k : Int) (hk : wfi k) (hE : R.length ≤ 2097152) (A2 : Option Addr) (n2 c2 : Nat) (L : List Int) (hr : Reads w 1 (.slice A2 n2 c2) n2 (u8s L)) (hL : ∀ x ∈ L, 0 ≤ x ∧ x ≤ 255) (hyes : L <+: (pastR R k).bs.drop (pastR R k).rd) (hn : (pastR R k).bs.length ≤ 140737488355328) :
    Calls Tryd.prog 14 #[ptr c, .int .i64 k, .slice A2 n2 c2] w fun r w' => r = .returned .nilIface ∧ Turned w w' c D (put Rw.k R { pastR R k with rd := (pastR R k).rd + L.length }) := by
  obtain ⟨m, E, h1, rfl, h3⟩ := h.ex
  rw [List.length_map] at hE
  exact (gave_ok w h1 k hk hE A2 n2 c2 L hr hL hyes hn).mono (fun r w' h => ⟨h.1, turned_of h3 h.2⟩)
theorem hist_gave2 (h : Hist w c D R) (k : Int) (hk : wfi k) (A2 : Option Addr) (n2 c2 : Nat) (L : List Int) (hr : Reads w 1 (.slice A2 n2 c2) n2 (u8s L)) (hL : ∀ x ∈ L, 0 ≤ x ∧ x ≤ 255) (hno : ¬ L <+: (pastR R k).bs.drop (pastR R k).rd) (ev : Value) (hE : w.cell? ⟨2, 0, none⟩ = some ev) :
    Calls Tryd.prog 14 #[ptr c, .int .i64 k, .slice A2 n2 c2] w fun r w' => r = .returned ev ∧ Below w.heap.size w w' := by
  obtain ⟨m, E, h1, rfl, h3⟩ := h.ex
  exact gave_bad w h1 k hk A2 n2 c2 L hr hL hno ev hE
theorem hist_ended (h : Hist w c D R) (k : Int) (hk : wfi k) (hcl : (pastR R k).cl = true) (hrd : (pastR R k).rd = (pastR R k).bs.length) :
    Calls Tryd.prog 15 #[ptr c, .int .i64 k] w fun r w' => r = .returned .nilIface ∧ Turned w w' c D (put Rw.k R { pastR R k with en := true }) := by
  obtain ⟨m, E, h1, rfl, h3⟩ := h.ex
  exact (ended_ok w h1 k hk hcl hrd).mono (fun r w' h => ⟨h.1, turned_of h3 h.2⟩)
theorem hist_ended2 (h : Hist w c D R) (k : Int) (hk : wfi k) (hno : ¬ ((pastR R k).cl = true ∧ (pastR R k).rd = (pastR R k).bs.length)) (hrd : (pastR R k).rd ≤ (pastR R k).bs.length) (ev : Value) (hE : w.cell? ⟨2, 0, none⟩ = some ev) :
    Calls Tryd.prog 15 #[ptr c, .int .i64 k] w fun r w' => r = .returned ev ∧ Below w.heap.size w w' := by
  obtain ⟨m, E, h1, rfl, h3⟩ := h.ex
  by_cases hcl : (pastR (E.map En.rw) k).cl = true
  · exact ended_less w h1 k hk hcl (by have : ¬ (pastR (E.map En.rw) k).rd = (pastR (E.map En.rw) k).bs.length := fun e => hno ⟨hcl, e⟩; omega) ev hE
  · exact ended_open w h1 k hk (by simpa using hcl) ev hE
theorem hist_past (h : Hist w c D R) (k : Int) (hk : wfi k) :
    Calls Tryd.prog 16 #[ptr c, .int .i64 k] w fun r w' => r = .returned (.tuple #[.agg #[.int .i64 (pastR R k).bs.length, .int .i64 (pastR R k).rd, .bool (pastR R k).cl, .bool (pastR R k).en], .bool (get Rw.k R k).isSome]) ∧ Below w.heap.size w w' := by
  obtain ⟨m, E, h1, rfl, h3⟩ := h.ex
  unfold pastR
  rw [get_rw]
  cases hg : get En.k E k with
  | none => exact past_none w h1 k hk hg
  | some e => exact past_some w h1 k hk e hg
theorem hist_rest (h : Hist w c D R) (k : Int) (hk : wfi k) (hn : (pastR R k).bs.length ≤ 140737488355328) :
    Calls Tryd.prog 11 #[ptr c, .int .i64 k] w fun r w' => ∃ v, r = .returned v ∧ Fresh8 w w' v ((pastR R k).bs.drop (pastR R k).rd) ∧ Below w.heap.size w w' := by
  obtain ⟨m, E, h1, rfl, h3⟩ := h.ex
  exact rest_at w h1 k hk hn
theorem hist_keys (h : Hist w c D R) (hE : R.length ≤ 4294967296) : Calls Tryd.prog 17 #[ptr c] w (Rise w (R.map Rw.k)) := by
  obtain ⟨m, E, h1, rfl, h3⟩ := h.ex
  rw [List.length_map] at hE
  rw [List.map_map]
  exact keys_any w h1 hE
theorem hist_text (h : Hist w c D R) (hT : Tab w) (hE : R.length ≤ 2097152) (hTo : Told R) :
    Calls Tryd.prog 25 #[ptr c] w fun r w' => r = .returned (.string ⟨(textL R).toArray⟩) ∧ Below w.heap.size w w' := by
  obtain ⟨m, E, h1, rfl, h3⟩ := h.ex
  rw [List.length_map] at hE
  exact text_any w h1 hT hE hTo
end
end Go.Proofs.YtipfjnjjfojdgaaDoor
