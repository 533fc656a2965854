import Derived.Test.YtlnbgahfelcbiaaDoorLRem
/- The cache's methods: New, Len, Weight, Peek, Drop, Get. -/
namespace Go.Proofs.YtlnbgahfelcbiaaDoor
open Go Go.RowKit Go.Cu
open Go.Maps (Keyed)

theorem below_drewN (w : World) (n : Nat) : Below w.heap.size w (w.drewN n) := ((Mod.refl (fun _ => False) w).drewN n).below (Nat.le_refl _) (fun _ h => h.elim)
theorem new_bad (w : World) (room : Int) (hr : room < 0) (v : Value) (hE : w.cell? ⟨0, 0, none⟩ = some v) :
    Calls Tryd.prog 12 #[.int .i64 room] w fun r w' => r = .returned (.tuple #[.pointer none, v]) ∧ Below w.heap.size w w' := by
  go_enter Tryd.func12, Tryd.ntmps12
  go_wp2
  go_quiet (fail)
  go_wp2
  go_ret2
  exact ⟨rfl, below_drewN _ _⟩

theorem new_ok (w : World) (room : Int) (hr : 0 ≤ room) (ht : room ≤ 9223372036854775807) :
    Calls Tryd.prog 12 #[.int .i64 room] w fun r w' => ∃ c, r = .returned (.tuple #[ptr c, .nilIface]) ∧ ∃ m, LCP w' c m room [] ∧ w.heap.size ≤ m ∧ w.heap.size ≤ c ∧ Below w.heap.size w w' := by
  have h1 : ¬ room < 0 := by omega
  have hm0 := Mp.made w Tryd.prog 3
  have HM := hide hm0
  clear hm0
  have hmm := @run_makeMap Tryd.prog
  go_enter Tryd.func12, Tryd.ntmps12
  go_wp2
  go_ret2
  have hb : Below w.heap.size w ((w.alloc (.map #[] 0)).alloc (.cells #[.int .i64 room, .int .i64 0, .map (some w.heap.size), .pointer none, .pointer none] 96)) := ((Below.refl _ w).alloc (Nat.le_refl _) _).alloc (by simp) _
  refine ⟨w.heap.size + 1, rfl, w.heap.size, ⟨⟨?_, trivial, ⟨List.Pairwise.nil, fun e he => (List.not_mem_nil he).elim⟩⟩, ?_, List.Pairwise.nil, fun e he => (List.not_mem_nil he).elim, fun e he => (List.not_mem_nil he).elim, hr, ht⟩, Nat.le_refl _, Nat.le_succ _, hb⟩
  · have := heap_alloc_new (w.alloc (.map #[] 0)) (.cells #[.int .i64 room, .int .i64 0, .map (some w.heap.size), .pointer none, .pointer none] 96)
    rw [World.size_alloc] at this
    exact this
  · refine (HM.out.block ?_).ext (fun l => rfl)
    rw [Below.heap_alloc _ _ _ (by simp)]

theorem len_any (w : World) (c m : Nat) (room : Int) (L : List LE) (h : LCP w c m room L) :
    Calls Tryd.prog 19 #[ptr c] w fun r w' => r = .returned (.int .i64 L.length) ∧ w = w' := by
  obtain ⟨y0, y1, y2, g3, g4, fc⟩ := cFacts h.ord.cells
  have hl := h.map.len (t := 93) (e := 94) Tryd.underlying93
  clear h y0 y1 g3 g4 fc
  go_enter Tryd.func19, Tryd.ntmps19
  go_wp2
  go_ret
  exact ⟨rfl, rfl⟩
theorem len_nil (w : World) : Calls Tryd.prog 19 #[.pointer none] w fun r w' => r = .returned (.int .i64 0) ∧ w = w' := by
  go_enter Tryd.func19, Tryd.ntmps19
  go_wp2
  go_ret
  exact ⟨rfl, rfl⟩
theorem weight_any (w : World) (c m : Nat) (room : Int) (L : List LE) (h : LCP w c m room L) :
    Calls Tryd.prog 31 #[ptr c] w fun r w' => r = .returned (.int .i64 (wsum L)) ∧ w = w' := by
  obtain ⟨y0, y1, y2, g3, g4, fc⟩ := cFacts h.ord.cells
  clear h y0 y2 g3 g4 fc
  go_enter Tryd.func31, Tryd.ntmps31
  go_wp2
  go_ret
  exact ⟨rfl, rfl⟩
theorem weight_nil (w : World) : Calls Tryd.prog 31 #[.pointer none] w fun r w' => r = .returned (.int .i64 0) ∧ w = w' := by
  go_enter Tryd.func31, Tryd.ntmps31
  go_wp2
  go_ret
  exact ⟨rfl, rfl⟩

theorem LC.look {tC tE : TypeId} {w : World} {c m : Nat} {room : Int} {L : List LE} (h : LC tC tE 3 Tryd.prog w c m room L) {k : Int} (hk : (Lit.int .i64 k).wf = true) :
    (Instr.lookup 93 (.map (some m)) (.int .i64 k) false).run Tryd.prog w = .ok ((lk L (.int .i64 k)).getD (.pointer none)) w :=
  h.map.look (t := 93) (e := 94) int_law Tryd.underlying93 (zero_ptr w) (key_int hk)

theorem peek_none (w : World) (c m : Nat) (room : Int) (L : List LE) (h : LCP w c m room L) (k : Int) (hk : (Lit.int .i64 k).wf = true) (hn : ∀ e ∈ L, e.k ≠ k) :
    Calls Tryd.prog 18 #[ptr c, .int .i64 k] w fun r w' => r = .returned (.tuple #[.int .i64 0, .int .i64 0, .bool false]) ∧ Below w.heap.size w w' := by
  obtain ⟨y0, y1, y2, g3, g4, fc⟩ := cFacts h.ord.cells
  have hl := h.look hk
  rw [lk_none hn] at hl
  simp only [Option.getD_none] at hl
  clear h y0 y1 g3 g4 fc hn
  go_enter Tryd.func18, Tryd.ntmps18
  go_wp2
  go_ret3
  exact ⟨rfl, Below.refl _ _⟩
theorem peek_nil (w : World) (k : Int) :
    Calls Tryd.prog 18 #[.pointer none, .int .i64 k] w fun r w' => r = .returned (.tuple #[.int .i64 0, .int .i64 0, .bool false]) ∧ Below w.heap.size w w' := by
  go_enter Tryd.func18, Tryd.ntmps18
  go_wp2
  go_ret3
  exact ⟨rfl, Below.refl _ _⟩
theorem peek_some (w : World) (c m : Nat) (room : Int) (a b : List LE) (e : LE) (h : LCP w c m room (a ++ e :: b)) :
    Calls Tryd.prog 18 #[ptr c, .int .i64 e.k] w fun r w' => r = .returned (.tuple #[.int .i64 e.v, .int .i64 e.un, .bool true]) ∧ Below w.heap.size w w' := by
  obtain ⟨y0, y1, y2, g3, g4, fc⟩ := cFacts h.ord.cells
  obtain ⟨x0, x1, x2, x3, k4, k5, fe⟩ := eFacts h.ord.seg.mid
  have hl := h.look (h.wf e (by simp))
  rw [lk_mid (fun x hx => (sub_keys h.keys).2 x (List.mem_append_left _ hx))] at hl
  simp only [Option.getD_some, pt, Option.map_some] at hl
  clear h y0 y1 g3 g4 fc fe x0 x2 k4 k5
  go_enter Tryd.func18, Tryd.ntmps18
  go_wp2
  go_quiet (fail)
  go_wp2
  go_ret3
  exact ⟨rfl, below_drewN _ _⟩

theorem drop_nil (w : World) (k : Int) : Calls Tryd.prog 29 #[.pointer none, .int .i64 k] w fun r w' => r = .returned (.bool false) ∧ w = w' := by
  go_enter Tryd.func29, Tryd.ntmps29
  go_wp2
  go_ret
  exact ⟨rfl, rfl⟩
theorem drop_none (w : World) (c m : Nat) (room : Int) (L : List LE) (h : LCP w c m room L) (k : Int) (hk : (Lit.int .i64 k).wf = true) (hn : ∀ e ∈ L, e.k ≠ k) :
    Calls Tryd.prog 29 #[ptr c, .int .i64 k] w fun r w' => r = .returned (.bool false) ∧ w = w' := by
  obtain ⟨y0, y1, y2, g3, g4, fc⟩ := cFacts h.ord.cells
  have hl := h.look hk
  rw [lk_none hn] at hl
  simp only [Option.getD_none] at hl
  clear h y0 y1 g3 g4 fc hn
  go_enter Tryd.func29, Tryd.ntmps29
  go_wp2
  go_ret
  exact ⟨rfl, rfl⟩
theorem drop_some (w : World) (c m : Nat) (room : Int) (a b : List LE) (e : LE) (h : LCP w c m room (a ++ e :: b)) :
    Calls Tryd.prog 29 #[ptr c, .int .i64 e.k] w fun r w' => r = .returned (.bool true) ∧ LCP w' c m room (a ++ b) ∧ Mod (InC c m (a ++ e :: b)) w w' := by
  obtain ⟨y0, y1, y2, g3, g4, fc⟩ := cFacts h.ord.cells
  have hl := h.look (h.wf e (by simp))
  rw [lk_mid (fun x hx => (sub_keys h.keys).2 x (List.mem_append_left _ hx))] at hl
  simp only [Option.getD_some, pt, Option.map_some] at hl
  have HL := hide h
  clear h y0 y1 g3 g4 fc
  go_enter Tryd.func29, Tryd.ntmps29
  go_wp2_with fail
  refine (remove_any w c m room a b e HL.out).mono ?_
  rintro r w1 ⟨rfl, h1, _, h2⟩
  have H1 := hide h1
  clear h1
  go_wp2
  go_ret
  exact ⟨rfl, H1.out, h2⟩

theorem get_nil (w : World) (k now : Int) : Calls Tryd.prog 27 #[.pointer none, .int .i64 k, .int .i64 now] w fun r w' => r = .returned (.tuple #[.int .i64 0, .bool false]) ∧ w = w' := by
  go_enter Tryd.func27, Tryd.ntmps27
  go_wp2
  go_ret2
  exact ⟨rfl, rfl⟩
theorem get_none (w : World) (c m : Nat) (room : Int) (L : List LE) (h : LCP w c m room L) (k now : Int) (hk : (Lit.int .i64 k).wf = true) (hn : ∀ e ∈ L, e.k ≠ k) :
    Calls Tryd.prog 27 #[ptr c, .int .i64 k, .int .i64 now] w fun r w' => r = .returned (.tuple #[.int .i64 0, .bool false]) ∧ w = w' := by
  obtain ⟨y0, y1, y2, g3, g4, fc⟩ := cFacts h.ord.cells
  have hl := h.look hk
  rw [lk_none hn] at hl
  simp only [Option.getD_none] at hl
  clear h y0 y1 g3 g4 fc hn
  go_enter Tryd.func27, Tryd.ntmps27
  go_wp2
  go_ret2
  exact ⟨rfl, rfl⟩
theorem get_old (w : World) (c m : Nat) (room : Int) (a b : List LE) (e : LE) (h : LCP w c m room (a ++ e :: b)) (now : Int) (hold : e.un ≤ now) :
    Calls Tryd.prog 27 #[ptr c, .int .i64 e.k, .int .i64 now] w fun r w' => r = .returned (.tuple #[.int .i64 0, .bool false]) ∧ LCP w' c m room (a ++ b) ∧ Mod (InC c m (a ++ e :: b)) w w' := by
  obtain ⟨y0, y1, y2, g3, g4, fc⟩ := cFacts h.ord.cells
  obtain ⟨x0, x1, x2, x3, k4, k5, fe⟩ := eFacts h.ord.seg.mid
  have hl := h.look (h.wf e (by simp))
  rw [lk_mid (fun x hx => (sub_keys h.keys).2 x (List.mem_append_left _ hx))] at hl
  simp only [Option.getD_some, pt, Option.map_some] at hl
  have HL := hide h
  clear h y0 y1 g3 g4 fc x0 x1 x2 k4 k5 fe
  go_enter Tryd.func27, Tryd.ntmps27
  go_wp2_with fail
  refine (remove_any w c m room a b e HL.out).mono ?_
  rintro r w1 ⟨rfl, h1, _, h2⟩
  have H1 := hide h1
  clear h1
  go_wp2
  go_ret2
  exact ⟨rfl, H1.out, h2⟩
theorem get_good (w : World) (c m : Nat) (room : Int) (a b : List LE) (e : LE) (h : LCP w c m room (a ++ e :: b)) (now : Int) (hgood : now < e.un) :
    Calls Tryd.prog 27 #[ptr c, .int .i64 e.k, .int .i64 now] w fun r w' => r = .returned (.tuple #[.int .i64 e.v, .bool true]) ∧ LCP w' c m room (e :: (a ++ b)) ∧ Mod (InC c m (a ++ e :: b)) w w' := by
  obtain ⟨y0, y1, y2, g3, g4, fc⟩ := cFacts h.ord.cells
  obtain ⟨x0, x1, x2, x3, k4, k5, fe⟩ := eFacts h.ord.seg.mid
  have hl := h.look (h.wf e (by simp))
  rw [lk_mid (fun x hx => (sub_keys h.keys).2 x (List.mem_append_left _ hx))] at hl
  simp only [Option.getD_some, pt, Option.map_some] at hl
  have HL := hide h
  have hng : ¬ e.un ≤ now := by omega
  clear h y0 y1 g3 g4 fc x0 x1 x2 k4 k5 fe
  go_enter Tryd.func27, Tryd.ntmps27
  go_wp2_with fail
  refine (unlink_any w c m room _ a b e HL.out.ord).mono ?_
  rintro r w4 ⟨rfl, ho, he, hm4⟩
  have HO := hide ho
  have HE := hide he
  have HM4 := hide hm4
  clear ho he hm4
  obtain ⟨d1, d2, _, _, d5⟩ := HL.out.ord.apart.mid
  have HD : Hid (∀ x ∈ a ++ b, x.b ≠ e.b) := hide (fun x hx => (List.mem_append.1 hx).elim (d1 x) (d2 x))
  clear d1 d2
  go_wp2_with fail
  refine (lead_any w4 c m room _ (a ++ b) e HO.out HE.out HD.out d5).mono ?_
  rintro r w7 ⟨rfl, ho7, hm7⟩
  obtain ⟨r1, r2⟩ := HL.out.led HM4.out ho7 hm7
  obtain ⟨_, z1, _, _, _, _, _⟩ := eFacts (Seg.mid (a := []) (b := a ++ b) (e := e) ho7.seg)
  have R1 := hide r1
  have R2 := hide r2
  clear r1 r2 ho7 hm7
  go_wp2
  go_ret2
  exact ⟨rfl, R1.out, R2.out⟩
end Go.Proofs.YtlnbgahfelcbiaaDoor
