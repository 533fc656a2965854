import Derived.Test.YtipfjnjjfojdgaaDoorLib
/- What a history knows: rows, rising by key. -/
namespace Go.Proofs.YtipfjnjjfojdgaaDoor
open Go Go.RowKit Go.Cu

/- rows by their keys -/
section
variable {α : Type} (key : α → Int)
def Srt (E : List α) : Prop := E.Pairwise (fun x y => key x < key y)
def get (E : List α) (k : Int) : Option α := E.find? (fun e => decide (key e = k))
def put : List α → α → List α
  | [], e => [e]
  | x :: r, e => if key x < key e then x :: put r e else if key x = key e then e :: r else e :: x :: r
theorem put_cons (x : α) (r : List α) (e : α) : put key (x :: r) e = if key x < key e then x :: put key r e else if key x = key e then e :: r else e :: x :: r := rfl
theorem get_mem {E : List α} {k : Int} {e : α} (h : get key E k = some e) : e ∈ E ∧ key e = k :=
  ⟨List.mem_of_find?_eq_some h, by have := List.find?_some h; simpa using this⟩
theorem get_none {E : List α} {k : Int} (h : get key E k = none) : ∀ e ∈ E, key e ≠ k := fun e he => by
  have := List.find?_eq_none.1 h e he
  simpa using this
theorem get_cons (x : α) (r : List α) (k : Int) : get key (x :: r) k = if key x = k then some x else get key r k := by
  unfold get
  rw [List.find?_cons]
  by_cases h : key x = k
  · simp [h]
  · simp [h]
theorem srt_cons {x : α} {r : List α} : Srt key (x :: r) ↔ (∀ y ∈ r, key x < key y) ∧ Srt key r := List.pairwise_cons
theorem get_of {E : List α} (hs : Srt key E) {e : α} (he : e ∈ E) : get key E (key e) = some e := by
  induction E with
  | nil => cases he
  | cons x r ih =>
    rw [srt_cons key] at hs
    rw [get_cons key]
    rcases List.mem_cons.1 he with rfl | he
    · rw [if_pos rfl]
    · have := hs.1 e he
      rw [if_neg (by omega)]
      exact ih hs.2 he
theorem put_mem {E : List α} (hs : Srt key E) (e x : α) : x ∈ put key E e ↔ x = e ∨ (x ∈ E ∧ key x ≠ key e) := by
  induction E with
  | nil => simp [put]
  | cons y r ih =>
    rw [srt_cons key] at hs
    have ih := ih hs.2
    rw [put_cons]
    split
    · rw [List.mem_cons, ih, List.mem_cons]
      constructor
      · rintro (rfl | h | h)
        · exact .inr ⟨.inl rfl, by omega⟩
        · exact .inl h
        · exact .inr ⟨.inr h.1, h.2⟩
      · rintro (h | ⟨h | h, h2⟩)
        · exact .inr (.inl h)
        · exact .inl h
        · exact .inr (.inr ⟨h, h2⟩)
    · split
      · rename_i h1 h2
        rw [List.mem_cons, List.mem_cons]
        constructor
        · rintro (rfl | h)
          · exact .inl rfl
          · exact .inr ⟨.inr h, by have := hs.1 x h; omega⟩
        · rintro (h | ⟨h | h, h3⟩)
          · exact .inl h
          · subst h; exact (h3 h2).elim
          · exact .inr h
      · rename_i h1 h2
        rw [List.mem_cons]
        constructor
        · rintro (rfl | h)
          · exact .inl rfl
          · refine .inr ⟨h, ?_⟩
            rcases List.mem_cons.1 h with rfl | h
            · exact h2
            · have := hs.1 x h; omega
        · rintro (h | h)
          · exact .inl h
          · exact .inr h.1
theorem put_srt {E : List α} (hs : Srt key E) (e : α) : Srt key (put key E e) := by
  induction E with
  | nil => simp [put, Srt]
  | cons y r ih =>
    have hs0 := hs
    rw [srt_cons key] at hs
    rw [put_cons]
    split
    · rename_i h
      rw [srt_cons key]
      refine ⟨fun z hz => ?_, ih hs.2⟩
      rw [put_mem key hs.2] at hz
      rcases hz with rfl | hz
      · exact h
      · exact hs.1 z hz.1
    · split
      · rename_i h1 h2
        rw [srt_cons key]
        exact ⟨fun z hz => by have := hs.1 z hz; omega, hs.2⟩
      · rename_i h1 h2
        rw [srt_cons key]
        refine ⟨fun z hz => ?_, hs0⟩
        rcases List.mem_cons.1 hz with rfl | hz
        · omega
        · have := hs.1 z hz; omega
theorem get_put_same {E : List α} (hs : Srt key E) (e : α) : get key (put key E e) (key e) = some e := get_of key (put_srt key hs e) ((put_mem key hs e e).2 (.inl rfl))
theorem get_put_other {E : List α} (hs : Srt key E) (e : α) {k : Int} (hk : k ≠ key e) : get key (put key E e) k = get key E k := by
  cases h : get key E k with
  | none =>
    cases h2 : get key (put key E e) k with
    | none => rfl
    | some x =>
      obtain ⟨hx, hxk⟩ := get_mem key h2
      rcases (put_mem key hs e x).1 hx with rfl | hx
      · exact (hk hxk.symm).elim
      · exact (get_none key h x hx.1 hxk).elim
  | some x =>
    obtain ⟨hx, hxk⟩ := get_mem key h
    subst hxk
    exact get_of key (put_srt key hs e) ((put_mem key hs e x).2 (.inr ⟨hx, hk⟩))
theorem put_len (E : List α) (e : α) : Srt key E → (put key E e).length = if (get key E (key e)).isSome then E.length else E.length + 1 := by
  induction E with
  | nil => intro _; simp [put, get]
  | cons y r ih =>
    intro hs
    rw [srt_cons key] at hs
    rw [put_cons]
    rw [get_cons key]
    split
    · rename_i h
      rw [if_neg (show ¬ key y = key e by omega), List.length_cons, ih hs.2]
      split <;> simp
    · split
      · simp
      · rename_i h1 h2
        have : get key r (key e) = none := by
          cases h : get key r (key e) with
          | none => rfl
          | some x =>
            obtain ⟨hx, hk⟩ := get_mem key h
            have := hs.1 x hx
            omega
        simp [this]
theorem put_same {E : List α} (hs : Srt key E) {e : α} (he : get key E (key e) = some e) : put key E e = E := by
  induction E with
  | nil => simp [get] at he
  | cons y r ih =>
    rw [srt_cons key] at hs
    rw [get_cons key] at he
    rw [put_cons]
    by_cases hy : key y = key e
    · rw [if_pos hy] at he
      injection he with he
      subst he
      rw [if_neg (by omega), if_pos rfl]
    · rw [if_neg hy] at he
      have hlt := hs.1 e (get_mem key he).1
      rw [if_pos hlt, ih hs.2 he]
theorem put_keys_same {E : List α} (hs : Srt key E) {e x : α} (hx : get key E (key e) = some x) : (put key E e).map key = E.map key := by
  induction E with
  | nil => simp [get] at hx
  | cons y r ih =>
    rw [srt_cons key] at hs
    rw [get_cons key] at hx
    rw [put_cons]
    by_cases hy : key y = key e
    · rw [if_neg (by omega), if_pos hy]
      simp [hy]
    · rw [if_neg hy] at hx
      have hlt := hs.1 x (get_mem key hx).1
      have hk := (get_mem key hx).2
      rw [if_pos (by omega)]
      simp [ih hs.2 hx]
end
/-- of a key: the block of its past; where its bytes lie; the bytes; how many were read; closed; ended; the bytes' memory -/
structure En where
  k : Int
  b : Nat
  A : Option Addr
  cap : Nat
  bs : List Int
  rd : Nat
  cl : Bool
  en : Bool
  F : Nat → Prop
/-- of a key: the bytes; how many were read; closed; ended -/
structure Rw where
  k : Int
  bs : List Int
  rd : Nat
  cl : Bool
  en : Bool
def En.rw (e : En) : Rw := ⟨e.k, e.bs, e.rd, e.cl, e.en⟩
theorem key_of (e : En) : Rw.k e.rw = En.k e := rfl
theorem put_rw (E : List En) (e : En) : (put En.k E e).map En.rw = put Rw.k (E.map En.rw) e.rw := by
  induction E with
  | nil => rfl
  | cons y r ih =>
    rw [List.map_cons]
    rw [put_cons, put_cons, key_of, key_of]
    split
    · rw [List.map_cons, ih]
    · split <;> simp
theorem get_rw (E : List En) (k : Int) : get Rw.k (E.map En.rw) k = (get En.k E k).map En.rw := by
  induction E with
  | nil => rfl
  | cons y r ih =>
    rw [List.map_cons, get_cons, get_cons, key_of, ih]
    split <;> rfl
abbrev ptr (c : Nat) : Value := .pointer (some ⟨c, 0, none⟩)
/-- where each past lies -/
def mf (E : List En) : Lit → Option Value
  | .int .i64 k => (get En.k E k).map fun e => ptr e.b
  | _ => none
theorem mf_at (E : List En) (k : Int) : mf E (.int .i64 k) = (get En.k E k).map fun e => ptr e.b := rfl
theorem mf_put {E : List En} (hs : Srt En.k E) (e : En) (l : Lit) : mf (put En.k E e) l = upd (mf E) (.int .i64 e.k) (some (ptr e.b)) l := by
  by_cases h : l = .int .i64 e.k
  · subst h
    rw [upd_same, mf_at, get_put_same En.k hs]
    rfl
  · rw [upd_other h]
    unfold mf
    split
    · rename_i k
      rw [get_put_other En.k hs e (by intro e; subst e; exact h rfl)]
    · rfl
end Go.Proofs.YtipfjnjjfojdgaaDoor
