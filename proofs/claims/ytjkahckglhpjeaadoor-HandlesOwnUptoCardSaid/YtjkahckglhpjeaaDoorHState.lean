import Derived.Test.YtjkahckglhpjeaaDoorHPure
import Derived.Test.YtjkahckglhpjeaaDoorRows
import Derived.WalkLawsBesides
import Derived.WalkSpells
import Derived.StillTailTactics
import Derived.Deep.QuietTactic
import Derived.BigQuiet
/- Handles: what their memory holds. -/
namespace Go.Proofs.YtjkahckglhpjeaaDoor
open Go Go.RowKit Go.Cu
open Go.Maps (Keyed)

/-- new memory -/
abbrev New (w : World) : Nat → Prop := fun k => w.heap.size ≤ k
abbrev ptr (c : Nat) : Value := .pointer (some ⟨c, 0, none⟩)
theorem law_int : Keyed Tryd.prog 3 := Maps.int_keyed Tryd.underlying3
theorem key_int {x : Int} (h : (Lit.int .i64 x).wf = true) : keyOf Tryd.prog 3 (.int .i64 x) = some (.int .i64 x) := Maps.keyOf_int_mk Tryd.underlying3 h
theorem laidOutH : laidOutB Tryd.prog = true := by kernel_rfl
theorem rowPl : 28 < Tryd.prog.types.size := of_decide_eq_true (by kernel_rfl)
theorem law_pl : Keyed Tryd.prog 28 := Keyed.of_law (deep_law_laid laidOutH (m := 2) (by omega) rowPl (by kernel_rfl) (by kernel_rfl))
theorem keyType_pl : Tryd.prog.keyType 28 = true := by kernel_rfl
theorem cells_pl : Tryd.prog.cellsOf 28 = 3 := by kernel_rfl
theorem cells_int : Tryd.prog.cellsOf 3 = 1 := by kernel_rfl
theorem cells_u32 : Tryd.prog.cellsOf 26 = 1 := by kernel_rfl
theorem lits_pl {p : Pl} (h : p.wf) (d : Nat) : Tryd.prog.keyLits (d + 2) 28 p.cells = some [.int .i64 p.conn, .int .i64 p.life, .int .u32 p.id] := by
  obtain ⟨h1, h2, h3⟩ := h
  unfold Program.keyLits
  simp [Tryd.underlying28, cells_pl, Pl.cells, Program.keyLits, cells_int, cells_u32, Tryd.underlying3, Tryd.underlying26, h1, h2, h3]
theorem types_size : ∃ d, Tryd.prog.types.size = d + 1 := ⟨Tryd.prog.types.size - 1, by have : 0 < Tryd.prog.types.size := of_decide_eq_true (by kernel_rfl); omega⟩
theorem key_pl {p : Pl} (h : p.wf) : keyOf Tryd.prog 28 p.v = some (plit p) := by
  obtain ⟨d, hd⟩ := types_size
  have hl := lits_pl h d
  unfold keyOf
  simp only [Tryd.underlying28, keyType_pl, Value.formed, Pl.v, cells_pl, hd]
  simp only [Pl.cells] at hl
  simp [Value.cells, hl, plit]
theorem plit_inj {p q : Pl} (hp : p.wf) (hq : q.wf) (h : plit p = plit q) : p = q := Pl.ext (law_pl.inj (key_pl hp) (h ▸ key_pl hq))

def hCells (g m1 m2 : Nat) : Array Value := #[.int .i64 (g : Int), .map (some m1), .map (some m2)]
abbrev k1 (e : HE) : Lit := .int .i64 e.h
abbrev v1 (e : HE) : Value := e.p.v
abbrev k2 (e : HE) : Lit := plit e.p
abbrev v2 (e : HE) : Value := .int .i64 e.h
structure HS (w : World) (c m1 m2 g : Nat) (L : List HE) : Prop where
  cells : w.heap[c]? = some (.cells (hCells g m1 m2) 62 (0, 0))
  pm : Mp w Tryd.prog 3 m1 (mf k1 v1 L) L.length
  om : Mp w Tryd.prog 28 m2 (mf k2 v2 L) L.length
  ne : m1 ≠ m2
  rise : L.Pairwise (fun x y => x.h < y.h)
  rng : ∀ e ∈ L, 1 ≤ e.h ∧ e.h ≤ g
  apart : L.Pairwise (fun x y => x.p ≠ y.p)
  wf : ∀ e ∈ L, e.p.wf
  top : g ≤ 2147483648
def InH (c m1 m2 k : Nat) : Prop := k = c ∨ k = m1 ∨ k = m2
section
variable {w w' : World} {c m1 m2 g : Nat} {L : List HE}
theorem HS.ltc (h : HS w c m1 m2 g L) : c < w.heap.size := (Array.getElem?_eq_some_iff.1 h.cells).1
theorem HS.lt (h : HS w c m1 m2 g L) : ∀ k, InH c m1 m2 k → k < w.heap.size := by
  rintro k (rfl | rfl | rfl)
  · exact h.ltc
  · exact h.pm.lt
  · exact h.om.lt
theorem HS.kept {G : Nat → Prop} (h : HS w c m1 m2 g L) (hm : Mod G w w') (hn : ∀ k, InH c m1 m2 k → ¬ G k) : HS w' c m1 m2 g L :=
  ⟨hm.heap h.cells (hn _ (.inl rfl)), h.pm.block (hm.block _ h.pm.lt (hn _ (.inr (.inl rfl)))), h.om.block (hm.block _ h.om.lt (hn _ (.inr (.inr rfl)))), h.ne, h.rise, h.rng, h.apart, h.wf, h.top⟩
theorem HS.past (h : HS w c m1 m2 g L) (hb : Below w.heap.size w w') : HS w' c m1 m2 g L := h.kept (Mod.ofBelow hb (fun _ => False)) (fun _ _ h => h)
/-- not a row of another element type -/
theorem HS.not_row (h : HS w c m1 m2 g L) {e : TypeId} (he : 62 ≠ e) : ∀ k, InH c m1 m2 k → ¬ OfE w e k := by
  rintro k (rfl | rfl | rfl)
  · exact not_ofE h.cells he
  · exact not_ofE_mp h.pm
  · exact not_ofE_mp h.om
theorem HS.far {e : TypeId} {G : Nat → Prop} (h : HS w c m1 m2 g L) (he : 62 ≠ e) (hm : Mod (fun k => G k ∧ OfE w e k) w w') : HS w' c m1 m2 g L := h.kept hm (fun k hk hg => h.not_row he k hk hg.2)
theorem HS.row {e : TypeId} {G : Nat → Prop} {sz n : Nat} {v : Value} {xs : List Value} (h : HS w c m1 m2 g L) (he : 62 ≠ e) (hm : Mod (InH c m1 m2) w w') (hr : Row w G e sz v n xs) : Row w' G e sz v n xs :=
  (hr.narrow.kept hm (fun k hk _ hg => h.not_row he k hg hk.2)).mono (fun _ hk _ => hk.1)
theorem HS.c_ne1 (h : HS w c m1 m2 g L) : c ≠ m1 := map_ne h.cells h.pm
theorem HS.c_ne2 (h : HS w c m1 m2 g L) : c ≠ m2 := map_ne h.cells h.om
theorem HS.hne (h : HS w c m1 m2 g L) : L.Pairwise (fun x y => x.h ≠ y.h) := h.rise.imp (fun h => by omega)
theorem HS.facts (h : HS w c m1 m2 g L) : w.cell? ⟨c, 0, none⟩ = some (.int .i64 g) ∧ w.cell? ⟨c, 1, none⟩ = some (.map (some m1)) ∧ w.cell? ⟨c, 2, none⟩ = some (.map (some m2)) ∧ ∀ j, w.frozen? ⟨c, j, none⟩ = false :=
  ⟨by rw [cell_of_row w c 0 _ _ _ h.cells]; rfl, by rw [cell_of_row w c 1 _ _ _ h.cells]; rfl, by rw [cell_of_row w c 2 _ _ _ h.cells]; rfl, fun j => frozen_of_row w c j _ _ h.cells⟩
theorem HS.len_le (h : HS w c m1 m2 g L) : L.length ≤ g := by
  have key : ∀ (L : List HE) (lo : Int), lo ≤ (g : Int) + 1 → L.Pairwise (fun x y => x.h < y.h) → (∀ e ∈ L, lo ≤ e.h ∧ e.h ≤ g) → (L.length : Int) ≤ g - lo + 1 := by
    intro L
    induction L with
    | nil => intro lo h _ _; simp; omega
    | cons e r ih =>
      intro lo hlo hp hr
      rw [List.pairwise_cons] at hp
      have he := hr e (List.mem_cons_self ..)
      have := ih (e.h + 1) (by omega) hp.2 (fun x hx => ⟨by have := hp.1 x hx; omega, (hr x (List.mem_cons_of_mem _ hx)).2⟩)
      simp only [List.length_cons]
      omega
  have := key L 1 (by omega) h.rise h.rng
  omega
/-- by handle -/
theorem splitH (L : List HE) (x : Int) : (∀ e ∈ L, e.h ≠ x) ∨ ∃ a e b, L = a ++ e :: b ∧ e.h = x ∧ ∀ y ∈ a, y.h ≠ x := by
  induction L with
  | nil => exact .inl (fun e he => (List.not_mem_nil he).elim)
  | cons e r ih =>
    by_cases h : e.h = x
    · exact .inr ⟨[], e, r, rfl, h, fun y hy => (List.not_mem_nil hy).elim⟩
    · rcases ih with ih | ⟨a, e', b, rfl, he, ha⟩
      · exact .inl (fun y hy => by rcases List.mem_cons.1 hy with rfl | hy; exact h; exact ih y hy)
      · exact .inr ⟨e :: a, e', b, rfl, he, fun y hy => by rcases List.mem_cons.1 hy with rfl | hy; exact h; exact ha y hy⟩
/-- by place -/
theorem splitP (L : List HE) (p : Pl) : (∀ e ∈ L, e.p ≠ p) ∨ ∃ a e b, L = a ++ e :: b ∧ e.p = p ∧ ∀ y ∈ a, y.p ≠ p := by
  induction L with
  | nil => exact .inl (fun e he => (List.not_mem_nil he).elim)
  | cons e r ih =>
    by_cases h : e.p = p
    · exact .inr ⟨[], e, r, rfl, h, fun y hy => (List.not_mem_nil hy).elim⟩
    · rcases ih with ih | ⟨a, e', b, rfl, he, ha⟩
      · exact .inl (fun y hy => by rcases List.mem_cons.1 hy with rfl | hy; exact h; exact ih y hy)
      · exact .inr ⟨e :: a, e', b, rfl, he, fun y hy => by rcases List.mem_cons.1 hy with rfl | hy; exact h; exact ha y hy⟩
theorem mid_ne {α : Type} {R : α → α → Prop} {a b : List α} {e : α} (h : (a ++ e :: b).Pairwise R) : (∀ x ∈ a, R x e) ∧ (∀ x ∈ b, R e x) ∧ (a ++ b).Pairwise R := by
  rw [List.pairwise_append, List.pairwise_cons] at h
  obtain ⟨h1, ⟨h2, h3⟩, h4⟩ := h
  exact ⟨fun x hx => h4 x hx e (List.mem_cons_self ..), h2, List.pairwise_append.2 ⟨h1, h3, fun x hx y hy => h4 x hx y (List.mem_cons_of_mem _ hy)⟩⟩
theorem pm_none {x : Int} (hn : ∀ e ∈ L, e.h ≠ x) : mf k1 v1 L (.int .i64 x) = none := mf_none (fun e he hk => hn e he (by injection hk))
theorem HS.om_none (h : HS w c m1 m2 g L) {p : Pl} (hp : p.wf) (hn : ∀ e ∈ L, e.p ≠ p) : mf k2 v2 L (plit p) = none := mf_none (fun e he hk => hn e he (plit_inj (h.wf e he) hp hk))
theorem pm_mid {a b : List HE} {e : HE} (h : HS w c m1 m2 g (a ++ e :: b)) : mf k1 v1 (a ++ e :: b) (.int .i64 e.h) = some e.p.v :=
  mf_mid (κ := k1) (fun x hx hk => (mid_ne h.hne).1 x hx (by injection hk))
theorem om_mid {a b : List HE} {e : HE} (h : HS w c m1 m2 g (a ++ e :: b)) : mf k2 v2 (a ++ e :: b) (plit e.p) = some (.int .i64 e.h) :=
  mf_mid (κ := k2) (fun x hx hk => (mid_ne h.apart).1 x hx (plit_inj (h.wf x (List.mem_append_left _ hx)) (h.wf e (List.mem_append_right _ (List.mem_cons_self ..))) hk))
/-- a place bound -/
theorem HS.bound {p : Pl} (h : HS w c m1 m2 g L) (hp : p.wf) (hno : ∀ e ∈ L, e.p ≠ p) (hg : g < 2147483648) (hc : w'.heap[c]? = some (.cells (hCells (g + 1) m1 m2) 62 (0, 0)))
    (h1 : Mp w' Tryd.prog 3 m1 (upd (mf k1 v1 L) (.int .i64 ((g + 1 : Nat) : Int)) (some p.v)) (L.length + 1)) (h2 : Mp w' Tryd.prog 28 m2 (upd (mf k2 v2 L) (plit p) (some (.int .i64 ((g + 1 : Nat) : Int)))) (L.length + 1)) :
    HS w' c m1 m2 (g + 1) (L ++ [⟨((g + 1 : Nat) : Int), p⟩]) := by
  refine ⟨hc, ?_, ?_, h.ne, ?_, fun e he => ?_, ?_, fun e he => ?_, by omega⟩
  · rw [List.length_append]
    exact h1.ext (fun l => mf_add (κ := k1) (e := ⟨((g + 1 : Nat) : Int), p⟩) (fun x hx hk => by have := h.rng x hx; injection hk with _ hk; have hk : x.h = ((g + 1 : Nat) : Int) := hk; omega) l)
  · rw [List.length_append]
    exact h2.ext (fun l => mf_add (κ := k2) (e := ⟨((g + 1 : Nat) : Int), p⟩) (fun x hx hk => hno x hx (plit_inj (h.wf x hx) hp hk)) l)
  · exact List.pairwise_append.2 ⟨h.rise, List.pairwise_singleton _ _, fun x hx y hy => by rw [List.mem_singleton] at hy; subst hy; have := h.rng x hx; show x.h < ((g + 1 : Nat) : Int); omega⟩
  · rcases List.mem_append.1 he with he | he
    · have := h.rng e he; exact ⟨this.1, by omega⟩
    · rw [List.mem_singleton] at he
      subst he
      show (1 : Int) ≤ ((g + 1 : Nat) : Int) ∧ _
      exact ⟨by omega, Int.le_refl _⟩
  · exact List.pairwise_append.2 ⟨h.apart, List.pairwise_singleton _ _, fun x hx y hy => by rw [List.mem_singleton] at hy; subst hy; exact hno x hx⟩
  · rcases List.mem_append.1 he with he | he
    · exact h.wf e he
    · rw [List.mem_singleton] at he
      subst he
      exact hp
/-- a handle dropped -/
theorem HS.dropped {a b : List HE} {e : HE} (h : HS w c m1 m2 g (a ++ e :: b)) (hc : w'.heap[c]? = some (.cells (hCells g m1 m2) 62 (0, 0)))
    (h1 : Mp w' Tryd.prog 3 m1 (upd (mf k1 v1 (a ++ e :: b)) (.int .i64 e.h) none) ((a ++ e :: b).length - 1)) (h2 : Mp w' Tryd.prog 28 m2 (upd (mf k2 v2 (a ++ e :: b)) (plit e.p) none) ((a ++ e :: b).length - 1)) :
    HS w' c m1 m2 g (a ++ b) := by
  have hsub : ∀ x ∈ a ++ b, x ∈ a ++ e :: b := fun x hx => by
    rcases List.mem_append.1 hx with hx | hx
    · exact List.mem_append_left _ hx
    · exact List.mem_append_right _ (List.mem_cons_of_mem _ hx)
  have hl : (a ++ b).length = (a ++ e :: b).length - 1 := by simp
  obtain ⟨n1, n2, n3⟩ := mid_ne h.rise
  obtain ⟨q1, q2, q3⟩ := mid_ne h.apart
  refine ⟨hc, ?_, ?_, h.ne, n3, fun x hx => h.rng x (hsub x hx), q3, fun x hx => h.wf x (hsub x hx), h.top⟩
  · rw [hl]
    exact h1.ext (fun l => mf_del (κ := k1) (fun x hx hk => by
      injection hk with _ hk
      rcases List.mem_append.1 hx with hx | hx
      · have := n1 x hx; omega
      · have := n2 x hx; omega) l)
  · rw [hl]
    exact h2.ext (fun l => mf_del (κ := k2) (fun x hx hk => by
      have he := plit_inj (h.wf x (hsub x hx)) (h.wf e (List.mem_append_right _ (List.mem_cons_self ..))) hk
      rcases List.mem_append.1 hx with hx | hx
      · exact q1 x hx he
      · exact q2 x hx he.symm) l)
end
end Go.Proofs.YtjkahckglhpjeaaDoor
