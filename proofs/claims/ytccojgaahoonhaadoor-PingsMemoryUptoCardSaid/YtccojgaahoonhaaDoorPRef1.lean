import Derived.Test.YtccojgaahoonhaaDoorPgApp
import Derived.RegionTactic
import Derived.BigRegion
/- The document's pings: New, behind, Ask, Asked, Replied. -/
namespace Go.Cu
open Go Go.RowKit
/-- an empty literal -/
theorem Row.empty (w : World) (F : Nat → Prop) (e : TypeId) (sz : Nat) (A : Option Addr) : Row w F e sz (.slice A 0 0) 0 [] :=
  ⟨by simp, A, 0, rfl, Nat.le_refl _, Nat.zero_le _, .inl rfl⟩
theorem Reads.later {w w' : World} {sz n : Nat} {v : Value} {xs : List Value} (h : Reads w sz v n xs) (hb : Below w.heap.size w w') : Reads w' sz v n xs := h.kept (fun a _ hc => (hb.cell (World.block_lt_of_cell? w a hc)).trans hc)
end Go.Cu
namespace Go.Proofs.YtccojgaahoonhaaDoor
open Go Go.RowKit Go.Cu Go.Proofs.YtccojgaahoonhaaDoor.errs

/-- a document's pings: the most, the last token, three lists -/
abbrev pv (most last : Int) (A1 : Option Addr) (n1 c1 : Nat) (A2 : Option Addr) (n2 c2 : Nat) (A3 : Option Addr) (n3 c3 : Nat) : Value := .agg #[.int .i64 most, .int .i64 last, .slice A1 n1 c1, .slice A2 n2 c2, .slice A3 n3 c3]
theorem box5 {w : World} {p : Nat} {a b c d e : Value} {t : TypeId} (h : w.heap[p]? = some (.cells #[a, b, c, d, e] t (0, 0))) :
    (w.cell? ⟨p, 0, none⟩ = some a ∧ w.cell? ⟨p, 1, none⟩ = some b ∧ w.cell? ⟨p, 2, none⟩ = some c ∧ w.cell? ⟨p, 3, none⟩ = some d ∧ w.cell? ⟨p, 4, none⟩ = some e) ∧ (w.frozen? ⟨p, 0, none⟩ = false ∧ w.frozen? ⟨p, 1, none⟩ = false ∧ w.frozen? ⟨p, 2, none⟩ = false ∧ w.frozen? ⟨p, 3, none⟩ = false ∧ w.frozen? ⟨p, 4, none⟩ = false) :=
  ⟨⟨by rw [cell_of_row w p 0 _ _ _ h]; rfl, by rw [cell_of_row w p 1 _ _ _ h]; rfl, by rw [cell_of_row w p 2 _ _ _ h]; rfl, by rw [cell_of_row w p 3 _ _ _ h]; rfl, by rw [cell_of_row w p 4 _ _ _ h]; rfl⟩, frozen_of_row w p 0 _ _ h, frozen_of_row w p 1 _ _ h, frozen_of_row w p 2 _ _ h, frozen_of_row w p 3 _ _ h, frozen_of_row w p 4 _ _ h⟩
theorem box5_set {w : World} {p : Nat} {x y z u v : Value} {t : TypeId} (h : w.heap[p]? = some (.cells #[x, y, z, u, v] t (0, 0))) (a b c d e : Value) :
    (((((w.setCell ⟨p, 0, none⟩ a).setCell ⟨p, 1, none⟩ b).setCell ⟨p, 2, none⟩ c).setCell ⟨p, 3, none⟩ d).setCell ⟨p, 4, none⟩ e).heap[p]? = some (.cells #[a, b, c, d, e] t (0, 0)) := by
  have h1 := heap_setCell_same _ p 0 _ t a h
  have h2 := heap_setCell_same _ p 1 _ t b h1
  have h3 := heap_setCell_same _ p 2 _ t c h2
  have h4 := heap_setCell_same _ p 3 _ t d h3
  have h5 := heap_setCell_same _ p 4 _ t e h4
  simpa using h5
theorem row_set5 {w : World} {F : Nat → Prop} {e : TypeId} {sz n : Nat} {v : Value} {xs : List Value} (hr : Row w F e sz v n xs) {p : Nat} {x1 x2 x3 x4 x5 : Value} {t : TypeId} (h : w.heap[p]? = some (.cells #[x1, x2, x3, x4, x5] t (0, 0))) (hne : t ≠ e) (a b c d f : Value) :
    Row (((((w.setCell ⟨p, 0, none⟩ a).setCell ⟨p, 1, none⟩ b).setCell ⟨p, 2, none⟩ c).setCell ⟨p, 3, none⟩ d).setCell ⟨p, 4, none⟩ f) F e sz v n xs := by
  have h1 := heap_setCell_same _ p 0 _ t a h
  have h2 := heap_setCell_same _ p 1 _ t b h1
  have h3 := heap_setCell_same _ p 2 _ t c h2
  have h4 := heap_setCell_same _ p 3 _ t d h3
  exact ((((hr.farE (p := ⟨p, 0, none⟩) h hne a).farE (p := ⟨p, 1, none⟩) h1 hne b).farE (p := ⟨p, 2, none⟩) h2 hne c).farE (p := ⟨p, 3, none⟩) h3 hne d).farE (p := ⟨p, 4, none⟩) h4 hne f
theorem below_set5 {B : Nat} {w w' : World} {p : Nat} (h : Below B w w') (hp : B ≤ p) (a b c d e : Value) : Below B w (((((w'.setCell ⟨p, 0, none⟩ a).setCell ⟨p, 1, none⟩ b).setCell ⟨p, 2, none⟩ c).setCell ⟨p, 3, none⟩ d).setCell ⟨p, 4, none⟩ e) :=
  ((((h.setCell (p := ⟨p, 0, none⟩) hp _).setCell (p := ⟨p, 1, none⟩) hp _).setCell (p := ⟨p, 2, none⟩) hp _).setCell (p := ⟨p, 3, none⟩) hp _).setCell (p := ⟨p, 4, none⟩) hp _
theorem below_a2 (w : World) (o1 o2 : Obj) : Below w.heap.size w ((w.alloc o1).alloc o2) := ((Below.refl _ _).alloc (Nat.le_refl _) _).alloc (by simp) _
theorem alloc_at (w : World) (o : Obj) (k : Nat) : (w.alloc o).heap[k]? = if k = w.heap.size then some o else w.heap[k]? := by
  split
  · subst_vars; exact heap_alloc_new w o
  · rename_i h
    by_cases hl : k < w.heap.size
    · exact Below.heap_alloc _ _ _ hl
    · rw [Array.getElem?_eq_none (by simp; omega), Array.getElem?_eq_none (by omega)]
theorem size_us : (Tryd.prog.info? 30).map (·.size) = some 1 := by kernel_rfl
theorem reads_pos' {w : World} {v : Value} {n : Nat} {xs : List Value} (h : Reads w 1 v n xs) (hn : 0 < n) : ∃ ad c, v = .slice (some ad) n c ∧ ∀ j u, xs[j]? = some u → w.cell? (ad.add j) = some u := by
  obtain ⟨_, A, c, rfl, _, h3⟩ := h
  rcases h3 with h3 | ⟨ad, rfl, h4⟩
  · omega
  · exact ⟨ad, c, rfl, h4⟩
/-- what a function of the document's makes -/
def New (w : World) (k : Nat) : Prop := w.heap.size ≤ k
set_option maxRecDepth 10000 in
theorem refnew_bad (w : World) (most : Int) (hn : most < 1 ∨ 1024 < most) : Calls Tryd.prog 14 #[.int .i64 most] w fun e w' => e = .returned (.tuple #[pv 0 0 none 0 0 none 0 0 none 0 0, .int .i64 2]) ∧ Below w.heap.size w w' := by
  have hcs : most < 1 ∨ (¬ most < 1 ∧ 1024 < most) := by omega
  clear hn
  rcases hcs with h1 | ⟨h1, h2⟩
  all_goals
    go_enter Tryd.func14, Tryd.ntmps14
    go_wp2
    go_returns
    exact ⟨rfl, (Below.refl _ _).alloc (Nat.le_refl _) _⟩
set_option maxRecDepth 10000 in
theorem refnew_ok (w : World) (most : Nat) (h1 : 1 ≤ most) (h2 : most ≤ 1024) : Calls Tryd.prog 14 #[.int .i64 most] w fun e w' => e = .returned (.tuple #[pv most 0 none 0 0 none 0 0 none 0 0, .int .i64 0]) ∧ Below w.heap.size w w' := by
  have hi1 : ¬ ((most : Int) < 1) := by omega
  have hi2 : ¬ ((1024 : Int) < (most : Int)) := by omega
  go_enter Tryd.func14, Tryd.ntmps14
  go_wp2
  go_returns
  exact ⟨rfl, (Below.refl _ _).alloc (Nat.le_refl _) _⟩
set_option maxRecDepth 10000 in
theorem behind_any (w : World) (A : Option Addr) (n c : Nat) (L : List Int) (hr : Reads w 1 (.slice A n c) n (us L)) (v : Int) (hn : n ≤ 17592186044416) :
    Calls Tryd.prog 40 #[.slice A n c, .int .u32 v] w fun e w' => ∃ A' c', e = .returned (.slice A' (n + 1) c') ∧ Row w' (New w) 30 1 (.slice A' (n + 1) c') (n + 1) (us (L ++ [v])) ∧ Below w.heap.size w w' := by
  obtain ⟨i0, hi0, hz0, hz1, hz2⟩ := info_parts info_u
  have HR : Hid (Reads (w.alloc (.cells #[] 30)) 1 (.slice A n c) n (us L)) := hide (hr.later ((Below.refl _ _).alloc (Nat.le_refl _) _))
  clear hr
  go_enter Tryd.func40, Tryd.ntmps40
  go_upto_region 2 with (first
    | (at_builtin; refine wpList_append_row rfl _ _ 29 rfl 30 i0 (.int .u32 0) 1 4 Tryd.underlying29 hi0 hz0 hz1 hz2 rfl (by decide) rfl (Row.empty _ (fun _ => False) 30 1 _) rfl HR.out (us_one _) (by unfold maxLen; omega) (by omega) ?_
       intro A4 c4 w4 hr4 hm4
       rw [Nat.zero_add, List.nil_append] at hr4
       rw [Nat.zero_add]
       have HR4 := hide hr4
       have HM4 := hide hm4
       clear hr4 hm4))
  go_wp2_with (first
    | (at_builtin; refine wpList_append_row rfl _ _ 29 rfl 30 i0 (.int .u32 0) 1 4 Tryd.underlying29 hi0 hz0 hz1 hz2 rfl (by decide) rfl (HR4.out.alloc _) rfl (reads_one w4 (.int .u32 v) 30 1) (us_one [v]) (by unfold maxLen; omega) (by omega) ?_
       intro A5 c5 w5 hr5 hm5
       have HR5 := hide hr5
       have HM5 := hide hm5
       clear hr5 hm5))
  go_ret
  have h4 := HM4.out.size
  rw [World.size_alloc] at h4
  have hF : ∀ b, (False ∨ b = (w.alloc (.cells #[] 30)).heap.size) ∨ b = (w4.alloc (.cells #[.int .u32 v] 30)).heap.size → w.heap.size ≤ b := by
    intro b hb
    rcases hb with (hb | hb) | hb
    · exact hb.elim
    · rw [World.size_alloc] at hb; omega
    · rw [World.size_alloc] at hb; omega
  refine ⟨A5, c5, rfl, ?_, ?_⟩
  · have h := HR5.out
    rw [show us L ++ [Value.int .u32 v] = us (L ++ [v]) from us_append L [v]] at h
    exact h.mono (fun b hb _ => hF b hb)
  · have hb4 : Below w.heap.size w w4 := ((Below.refl _ _).alloc (Nat.le_refl _) _).trans (HM4.out.below (by simp) (fun b h => h.elim))
    exact (hb4.alloc hb4.size _).trans (HM5.out.below (by rw [World.size_alloc]; omega) (fun b h => hF b (.inl h)))
end Go.Proofs.YtccojgaahoonhaaDoor
