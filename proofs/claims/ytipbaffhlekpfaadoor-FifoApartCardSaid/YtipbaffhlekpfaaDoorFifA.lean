import Derived.Test.YtipbaffhlekpfaaDoorFifW
/- The queue's walk: All. -/
namespace Go.Proofs.YtipbaffhlekpfaaDoor
open Go Go.RowKit Go.Cu Go.Proofs.YtipbaffhlekpfaaDoor.errs

/-- an empty literal -/
theorem Row.empty (w : World) (F : Nat → Prop) (e : TypeId) (sz : Nat) (A : Option Addr) : Row w F e sz (.slice A 0 0) 0 [] :=
  ⟨by simp, A, 0, rfl, Nat.le_refl _, Nat.zero_le _, .inl rfl⟩

/-- rows == nil -/
theorem eql_nil (w : World) (A : Option Addr) (n c : Nat) : (binOp .eql 80 (.slice A n c) (.slice none 0 0)).run Tryd.prog w = .ok (.bool A.isNone) w := by
  simp [binOp, run_equal_slice_nil (P := Tryd.prog) w 80 86 A n c Tryd.underlying80]

set_option maxRecDepth 10000 in
theorem clone_any (w : World) (A : Option Addr) (n c : Nat) (L : List (Int × Int)) (hr : Reads w 2 (.slice A n c) n (pairs L)) (hs : n ≤ 4398046511104) :
    Calls Tryd.prog 39 #[.slice A n c] w fun e w' => ∃ A' c', e = .returned (.slice A' n c') ∧ Row w' (fun k => w.heap.size ≤ k) 86 2 (.slice A' n c') n (pairs L) ∧ Below w.heap.size w w' := by
  obtain ⟨i0, hi0, hz0, hz1, hz2⟩ := info_parts info_e
  cases A with
  | none =>
    have hn : n = 0 := by
      obtain ⟨_, A', c', he, _, h3⟩ := hr
      rcases h3 with h3 | ⟨ad, h3, _⟩
      · omega
      · injection he with he _ _
        rw [h3] at he
        cases he
    subst hn
    have hL : L = [] := by have := hr.1; rw [pairs_length] at this; exact List.eq_nil_of_length_eq_zero (by omega)
    subst hL
    clear hr
    have hq : (binOp .eql 80 (.slice none 0 c) (.slice none 0 0)).run Tryd.prog w = .ok (.bool true) w := eql_nil w none 0 c
    go_enter Tryd.func39, Tryd.ntmps39
    go_wp2
    go_ret
    exact ⟨none, 0, rfl, Row.nil _ _ _ _, Below.refl _ _⟩
  | some ad =>
    have hal : Below w.heap.size w (w.alloc (.cells #[] 86)) := (Below.refl _ _).alloc (Nat.le_refl _) _
    have HR : Hid (Reads (w.alloc (.cells #[] 86)) 2 (.slice (some ad) n c) n (pairs L)) := Reads.kept hr (fun a _ hc => (hal.cell (World.block_lt_of_cell? w a hc)).trans hc)
    clear hr
    have hq : (binOp .eql 80 (.slice (some ad) n c) (.slice none 0 0)).run Tryd.prog w = .ok (.bool false) w := eql_nil w (some ad) n c
    go_enter Tryd.func39, Tryd.ntmps39
    go_wp2_with (first
      | (at_builtin; refine wpList_append_row rfl _ _ 80 rfl 86 i0 (.agg #[.int .i64 0, .int .i64 0]) 2 16 Tryd.underlying80 hi0 hz0 hz1 hz2 rfl (by decide) rfl (Row.empty _ (fun _ => False) 86 2 _) (news := pairs L) rfl HR.out (pairs_one _) (by unfold maxLen; omega) (by omega) ?_
         intro A' c' w3 hr3 hm3
         rw [Nat.zero_add, List.nil_append] at hr3
         rw [Nat.zero_add]))
    go_ret
    refine ⟨A', c', rfl, hr3.mono (fun k hk _ => ?_), hal.trans (hm3.below (by simp) (fun _ h => h.elim))⟩
    rcases hk with hk | hk
    · exact hk.elim
    · rw [hk]; simp

set_option maxRecDepth 10000 in
theorem all_any (w : World) (F : Nat → Prop) (b : Nat) (things most : Int) (L : List (Int × Int)) (h : Fifo w F b things most L) (hs : L.length ≤ 4398046511104) :
    Calls Tryd.prog 20 #[.pointer (some ⟨b, 0, none⟩)] w fun e w' => ∃ p A c, e = .returned (.func (.func 40) #[] #[.pointer (some ⟨p, 0, none⟩)]) ∧ w'.cell? ⟨p, 0, none⟩ = some (.slice A L.length c) ∧ Reads w' 2 (.slice A L.length c) L.length (pairs L) ∧ w.heap.size ≤ p ∧ Below w.heap.size w w' := by
  obtain ⟨h1, h2, h3, h4, h5, h6, A, c, hb, hr⟩ := h
  have hlt := h2 b h1
  have hal : Below w.heap.size w (w.alloc (.cells #[.slice none 0 0] 80)) := (Below.refl _ _).alloc (Nat.le_refl _) _
  have c2 : (w.alloc (.cells #[.slice none 0 0] 80)).cell? ⟨b, 2, none⟩ = some (.slice A L.length c) := by rw [cell_of_row _ b 2 _ _ _ (by rw [Below.heap_alloc _ _ _ hlt]; exact hb)]; rfl
  have HR : Hid (Reads (w.alloc (.cells #[.slice none 0 0] 80)) 2 (.slice A L.length c) L.length (pairs L)) := Reads.kept hr.reads (fun a _ hc => (hal.cell (World.block_lt_of_cell? w a hc)).trans hc)
  clear hb hr h4 h2
  go_enter Tryd.func20, Tryd.ntmps20
  go_wp2_with fail
  refine (clone_any _ A L.length c L HR.out hs).mono ?_
  rintro e w2 ⟨A2, ccc, rfl, hr2, hb2⟩
  have hp : w2.heap[w.heap.size]? = some (.cells #[.slice none 0 0] 80 (0, 0)) := by rw [hb2.block _ (by simp)]; exact heap_alloc_new w _
  have d0 : w2.cell? ⟨w.heap.size, 0, none⟩ = some (.slice none 0 0) := by rw [cell_of_row w2 _ 0 _ _ _ hp]; rfl
  have f0 := frozen_of_row w2 w.heap.size 0 _ _ hp
  go_wp2_with fail
  go_ret
  have b5 := heap_setCell_same _ w.heap.size 0 _ 80 (.slice A2 L.length ccc) hp
  have hs0 : w.heap.size < w2.heap.size := (Array.getElem?_eq_some_iff.1 hp).1
  have hbel : Below w.heap.size w w2 := hal.trans (hb2.mono (by simp))
  refine ⟨w.heap.size, A2, ccc, rfl, by rw [cell_of_row _ _ 0 _ _ _ b5]; rfl, (hr2.farE (p := ⟨w.heap.size, 0, none⟩) hp (by decide) _).reads, Nat.le_refl _, ?_⟩
  exact ((Mod.ofBelow hbel (fun k => w.heap.size ≤ k)).setCell (p := ⟨w.heap.size, 0, none⟩) (fun _ => Nat.le_refl _) _).below (Nat.le_refl _) (fun i h => h)
end Go.Proofs.YtipbaffhlekpfaaDoor
