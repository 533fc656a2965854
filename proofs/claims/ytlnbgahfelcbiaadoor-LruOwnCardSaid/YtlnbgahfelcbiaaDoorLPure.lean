import Derived.Test.YtlnbgahfelcbiaaDoorLSeg
/- Lists of entries: what the map holds, what they weigh, who goes to make room. -/
namespace Go.Proofs.YtlnbgahfelcbiaaDoor
open Go Go.RowKit Go.Cu

open Classical in
/-- what the map holds -/
noncomputable def lk : List LE → Lit → Option Value
  | [], _ => none
  | e :: r, l => if l = .int .i64 e.k then some (pt (some e.b)) else lk r l
def wsum : List LE → Int
  | [] => 0
  | e :: r => e.wt + wsum r
theorem wsum_app (a b : List LE) : wsum (a ++ b) = wsum a + wsum b := by
  induction a with
  | nil => simp [wsum]
  | cons e r ih => simp only [List.cons_append, wsum, ih]; omega
theorem wsum_nonneg {l : List LE} (h : ∀ e ∈ l, 0 ≤ e.wt) : 0 ≤ wsum l := by
  induction l with
  | nil => exact Int.le_refl _
  | cons e r ih =>
    have h1 := h e List.mem_cons_self
    have h2 := ih (fun x hx => h x (List.mem_cons_of_mem _ hx))
    simp only [wsum]
    omega
theorem lk_none {l : List LE} {k : Int} (h : ∀ e ∈ l, e.k ≠ k) : lk l (.int .i64 k) = none := by
  induction l with
  | nil => rfl
  | cons e r ih =>
    have h1 := h e List.mem_cons_self
    rw [lk, if_neg (fun he => h1 (by injection he with _ he; exact he.symm))]
    exact ih (fun x hx => h x (List.mem_cons_of_mem _ hx))
theorem lk_mid {a b : List LE} {e : LE} (h : ∀ x ∈ a, x.k ≠ e.k) : lk (a ++ e :: b) (.int .i64 e.k) = some (pt (some e.b)) := by
  induction a with
  | nil => rw [List.nil_append, lk, if_pos rfl]
  | cons x r ih =>
    have h1 := h x List.mem_cons_self
    rw [List.cons_append, lk, if_neg (fun he => h1 (by injection he with _ he; exact he.symm))]
    exact ih (fun y hy => h y (List.mem_cons_of_mem _ hy))
theorem lk_other {a b : List LE} {e : LE} {l : Lit} (h : l ≠ .int .i64 e.k) : lk (a ++ e :: b) l = lk (a ++ b) l := by
  induction a with
  | nil => rw [List.nil_append, lk, if_neg h]; rfl
  | cons x r ih =>
    rw [List.cons_append, List.cons_append, lk, lk]
    split
    · rfl
    · exact ih
/-- a key taken out -/
theorem lk_remove {a b : List LE} {e : LE} (h : ∀ x ∈ a ++ b, x.k ≠ e.k) (l : Lit) : lk (a ++ b) l = upd (lk (a ++ e :: b)) (.int .i64 e.k) none l := by
  by_cases hl : l = .int .i64 e.k
  · subst hl
    rw [Cu.upd_same, lk_none h]
  · rw [Cu.upd_other hl, lk_other hl]
theorem lk_add {b : List LE} {e : LE} (l : Lit) : lk (e :: b) l = upd (lk b) (.int .i64 e.k) (some (pt (some e.b))) l := by
  by_cases hl : l = .int .i64 e.k
  · subst hl
    rw [Cu.upd_same, lk, if_pos rfl]
  · rw [Cu.upd_other hl, lk, if_neg hl]
theorem lk_front {a b : List LE} {e : LE} (h : ∀ x ∈ a, x.k ≠ e.k) (l : Lit) : lk (e :: (a ++ b)) l = lk (a ++ e :: b) l := by
  by_cases hl : l = .int .i64 e.k
  · subst hl
    rw [lk_mid h, lk, if_pos rfl]
  · rw [lk_other hl, lk, if_neg hl]
/-- a key is there or not -/
theorem find_key (l : List LE) (k : Int) : (∀ e ∈ l, e.k ≠ k) ∨ ∃ a e b, l = a ++ e :: b ∧ e.k = k ∧ ∀ x ∈ a, x.k ≠ k := by
  induction l with
  | nil => exact .inl (fun e he => by cases he)
  | cons x r ih =>
    by_cases hx : x.k = k
    · exact .inr ⟨[], x, r, rfl, hx, fun y hy => by cases hy⟩
    · rcases ih with h | ⟨a, e, b, rfl, he, ha⟩
      · exact .inl (fun y hy => by rcases List.mem_cons.1 hy with rfl | hy; exact hx; exact h y hy)
      · exact .inr ⟨x :: a, e, b, rfl, he, fun y hy => by rcases List.mem_cons.1 hy with rfl | hy; exact hx; exact ha y hy⟩
/-- but for a key -/
def without (l : List LE) (k : Int) : List LE := l.filter (fun e => decide (e.k ≠ k))
theorem without_none {l : List LE} {k : Int} (h : ∀ e ∈ l, e.k ≠ k) : without l k = l := by
  unfold without
  rw [List.filter_eq_self]
  exact fun e he => decide_eq_true (h e he)
theorem without_mid {a b : List LE} {e : LE} (h : ∀ x ∈ a ++ b, x.k ≠ e.k) : without (a ++ e :: b) e.k = a ++ b := by
  unfold without
  have h1 : (e :: b).filter (fun x => decide (x.k ≠ e.k)) = b := by
    rw [List.filter_cons_of_neg (by simp)]
    rw [List.filter_eq_self]
    exact fun x hx => decide_eq_true (h x (List.mem_append_right _ hx))
  have h2 : a.filter (fun x => decide (x.k ≠ e.k)) = a := by
    rw [List.filter_eq_self]
    exact fun x hx => decide_eq_true (h x (List.mem_append_left _ hx))
  rw [List.filter_append, h1, h2]
/-- how many stay where no more than lim may be left -/
def stayN (lim : Int) (l : List LE) : Nat → Nat
  | 0 => 0
  | j + 1 => if wsum (l.take (j + 1)) > lim then stayN lim l j else j + 1
theorem stayN_le (lim : Int) (l : List LE) (n : Nat) : stayN lim l n ≤ n := by
  induction n with
  | zero => exact Nat.le_refl _
  | succ j ih => unfold stayN; split; omega; omega
theorem stayN_fits (lim : Int) (l : List LE) (n : Nat) (h0 : 0 ≤ lim) : wsum (l.take (stayN lim l n)) ≤ lim := by
  induction n with
  | zero => simpa [stayN, wsum] using h0
  | succ j ih => unfold stayN; split; exact ih; omega
/-- who stays, and the keys of those who go, the last first -/
def stay (lim : Int) (l : List LE) : List LE := l.take (stayN lim l l.length)
def goneKeys (l : List LE) (n : Nat) : List Int := ((l.drop n).map (·.k)).reverse
end Go.Proofs.YtlnbgahfelcbiaaDoor
