import Derived.Test.YtjkahckglhpjeaaDoorLib
import Derived.DeepKeys4
/- Handles and places: a list of pairs as two maps. -/
namespace Go.Proofs.YtjkahckglhpjeaaDoor
open Go Go.RowKit Go.Cu
open Go.Maps (Keyed)

structure Pl where
  conn : Int
  life : Int
  id : Int
structure HE where
  h : Int
  p : Pl
def Pl.cells (p : Pl) : List Value := [.int .i64 p.conn, .int .i64 p.life, .int .u32 p.id]
def Pl.v (p : Pl) : Value := .agg #[.int .i64 p.conn, .int .i64 p.life, .int .u32 p.id]
def Pl.wf (p : Pl) : Prop := (Lit.int .i64 p.conn).wf = true ∧ (Lit.int .i64 p.life).wf = true ∧ (Lit.int .u32 p.id).wf = true
theorem Pl.ext {p q : Pl} (h : p.v = q.v) : p = q := by
  obtain ⟨a, b, c⟩ := p
  obtain ⟨d, e, f⟩ := q
  simp only [Pl.v] at h
  injection h with h
  simp at h
  obtain ⟨rfl, rfl, rfl⟩ := h
  rfl
def plit (p : Pl) : Lit := .string (keyBytes [.int .i64 p.conn, .int .i64 p.life, .int .u32 p.id])

section
variable {α : Type}
open Classical in
/-- a list as a map -/
noncomputable def mf (κ : α → Lit) (ν : α → Value) (L : List α) (l : Lit) : Option Value := (L.find? (fun e => decide (l = κ e))).map ν
variable {κ : α → Lit} {ν : α → Value}
theorem mf_nil : ∀ l, mf κ ν [] l = none := fun _ => rfl
theorem mf_none {L : List α} {l : Lit} (h : ∀ e ∈ L, κ e ≠ l) : mf κ ν L l = none := by
  unfold mf
  rw [List.find?_eq_none.2 (fun e he => by simpa using fun hl => h e he hl.symm)]
  rfl
theorem mf_cons_same (e : α) (b : List α) : mf κ ν (e :: b) (κ e) = some (ν e) := by
  unfold mf
  rw [List.find?_cons_of_pos (by simp)]
  rfl
theorem mf_cons_other {e : α} {b : List α} {l : Lit} (h : κ e ≠ l) : mf κ ν (e :: b) l = mf κ ν b l := by
  unfold mf
  rw [List.find?_cons_of_neg (by simpa using fun hl => h hl.symm)]
theorem mf_skip {a b : List α} {l : Lit} (h : ∀ x ∈ a, κ x ≠ l) : mf κ ν (a ++ b) l = mf κ ν b l := by
  induction a with
  | nil => rfl
  | cons x r ih =>
    rw [List.cons_append, mf_cons_other (h x (List.mem_cons_self ..))]
    exact ih (fun y hy => h y (List.mem_cons_of_mem _ hy))
theorem mf_mid {a b : List α} {e : α} (h : ∀ x ∈ a, κ x ≠ κ e) : mf κ ν (a ++ e :: b) (κ e) = some (ν e) := by
  rw [mf_skip h, mf_cons_same]
theorem mf_app_other {a b : List α} {e : α} {l : Lit} (h : κ e ≠ l) : mf κ ν (a ++ e :: b) l = mf κ ν (a ++ b) l := by
  induction a with
  | nil => exact mf_cons_other h
  | cons x r ih =>
    by_cases hx : κ x = l
    · subst hx
      rw [List.cons_append, List.cons_append, mf_cons_same, mf_cons_same]
    · rw [List.cons_append, List.cons_append, mf_cons_other hx, mf_cons_other hx, ih]
theorem mf_add {L : List α} {e : α} (h : ∀ x ∈ L, κ x ≠ κ e) (l : Lit) : mf κ ν (L ++ [e]) l = upd (mf κ ν L) (κ e) (some (ν e)) l := by
  by_cases hl : l = κ e
  · subst hl
    rw [upd_same]
    exact mf_mid h
  · rw [upd_other hl, mf_app_other (fun hk => hl hk.symm), List.append_nil]
theorem mf_del {a b : List α} {e : α} (h : ∀ x ∈ a ++ b, κ x ≠ κ e) (l : Lit) : mf κ ν (a ++ b) l = upd (mf κ ν (a ++ e :: b)) (κ e) none l := by
  by_cases hl : l = κ e
  · subst hl
    rw [upd_same]
    exact mf_none h
  · rw [upd_other hl, mf_app_other (fun hk => hl hk.symm)]
end
end Go.Proofs.YtjkahckglhpjeaaDoor
