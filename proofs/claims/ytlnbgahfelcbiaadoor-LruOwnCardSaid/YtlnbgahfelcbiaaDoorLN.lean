import Derived.Test.YtlnbgahfelcbiaaDoorLRef5
/- A cache, or none: its methods; the document's beside it, in the same words. -/
namespace Go.Proofs.YtlnbgahfelcbiaaDoor
open Go Go.RowKit Go.Cu

/-- a cache or none -/
def CN (w : World) (p : Option Nat) (c m : Nat) (room : Int) (L : List LE) : Prop := (p = some c ∧ LCP w c m room L) ∨ (p = none ∧ L = [] ∧ room = 0)
section
variable {w w' : World} {G : Nat → Prop} {p : Option Nat} {c m : Nat} {room : Int} {L : List LE}
theorem CN.past (h : CN w p c m room L) (hb : Below w.heap.size w w') : CN w' p c m room L := h.imp (fun h => ⟨h.1, h.2.past hb⟩) id
theorem CN.kept (h : CN w p c m room L) (hm : Mod G w w') (hn : ∀ k, InC c m L k → ¬ G k) : CN w' p c m room L := h.imp (fun h => ⟨h.1, h.2.kept hm hn⟩) id
theorem CN.far {e : TypeId} (h : CN w p c m room L) (h1 : 96 ≠ e) (h2 : 99 ≠ e) (hm : Mod (fun k => G k ∧ OfE w e k) w w') : CN w' p c m room L := h.imp (fun h => ⟨h.1, h.2.far h1 h2 hm⟩) id
theorem CN.wsum_le (h : CN w p c m room L) : 0 ≤ wsum L ∧ wsum L ≤ 9223372036854775807 := by
  rcases h with ⟨_, h⟩ | ⟨_, rfl, _⟩
  · exact h.wsum_le
  · exact ⟨Int.le_refl _, by decide⟩
theorem CN.wts (h : CN w p c m room L) : ∀ e ∈ L, 0 ≤ e.wt := by
  rcases h with ⟨_, h⟩ | ⟨_, rfl, _⟩
  · exact h.wts
  · intro e he; cases he
theorem CN.wf (h : CN w p c m room L) : ∀ e ∈ L, (Lit.int .i64 e.k).wf = true := by
  rcases h with ⟨_, h⟩ | ⟨_, rfl, _⟩
  · exact h.wf
  · intro e he; cases he
theorem CN.keys (h : CN w p c m room L) : L.Pairwise (fun x y => x.k ≠ y.k) := by
  rcases h with ⟨_, h⟩ | ⟨_, rfl, _⟩
  · exact h.keys
  · exact List.Pairwise.nil
/-- its memory -/
def InN (p : Option Nat) (c m : Nat) (L : List LE) (k : Nat) : Prop := p = some c ∧ InC c m L k
theorem InN.sub {p : Option Nat} {c m : Nat} {L M : List LE} (h : ∀ e ∈ M, e ∈ L) : ∀ k, InN p c m M k → InN p c m L k := fun k hk => ⟨hk.1, InC.sub h k hk.2⟩
theorem CN.lt (h : CN w p c m room L) : ∀ k, InN p c m L k → k < w.heap.size := by
  rintro k ⟨hp, hk⟩
  rcases h with ⟨_, h⟩ | ⟨rfl, _⟩
  · exact h.lt k hk
  · cases hp
theorem CN.not_row (h : CN w p c m room L) {e : TypeId} (h1 : 96 ≠ e) (h2 : 99 ≠ e) : ∀ k, InN p c m L k → ¬ OfE w e k := by
  rintro k ⟨hp, hk⟩
  rcases h with ⟨_, h⟩ | ⟨rfl, _⟩
  · exact h.not_row h1 h2 k hk
  · cases hp
theorem CN.row (h : CN w p c m room L) {e : TypeId} (h1 : 96 ≠ e) (h2 : 99 ≠ e) (hm : Mod (InN p c m L) w w') {G : Nat → Prop} {sz n : Nat} {v : Value} {xs : List Value} (hr : Row w G e sz v n xs) : Row w' G e sz v n xs :=
  (hr.narrow.kept (G := InN p c m L) hm (fun k hk _ hc => h.not_row h1 h2 k hc hk.2)).mono (fun _ hk _ => hk.1)
theorem CN.heap (h : CN w p c m room L) {b : Nat} {cs : Array Value} {e : TypeId} (h1 : 96 ≠ e) (h2 : 99 ≠ e) (hm : Mod (InN p c m L) w w') (hb : w.heap[b]? = some (.cells cs e (0, 0))) : w'.heap[b]? = some (.cells cs e (0, 0)) :=
  hm.heap hb (fun hk => h.not_row h1 h2 b hk ⟨cs, hb⟩)
theorem CN.own (h : CN w p c m room L) (hm : Mod G w w') (hn : ∀ k, InN p c m L k → ¬ G k) : CN w' p c m room L := by
  rcases h with ⟨rfl, h⟩ | h
  · exact .inl ⟨rfl, h.kept hm (fun k hk => hn k ⟨rfl, hk⟩)⟩
  · exact .inr h
theorem len_n (h : CN w p c m room L) : Calls Tryd.prog 19 #[pt p] w fun r w' => r = .returned (.int .i64 L.length) ∧ w = w' := by
  rcases h with ⟨rfl, h⟩ | ⟨rfl, rfl, _⟩
  · exact len_any w c m room L h
  · exact len_nil w
theorem weight_n (h : CN w p c m room L) : Calls Tryd.prog 31 #[pt p] w fun r w' => r = .returned (.int .i64 (wsum L)) ∧ w = w' := by
  rcases h with ⟨rfl, h⟩ | ⟨rfl, rfl, _⟩
  · exact weight_any w c m room L h
  · exact weight_nil w
theorem keys_n (h : CN w p c m room L) (hn : L.length ≤ 17592186044415) : Calls Tryd.prog 16 #[pt p] w fun r w' => ∃ A n cc, r = .returned (.slice A n cc) ∧ n = L.length ∧ Row w' (New w) 3 1 (.slice A n cc) n (ints (keysOf L)) ∧ Below w.heap.size w w' := by
  rcases h with ⟨rfl, h⟩ | ⟨rfl, rfl, _⟩
  · exact keys_any w c m room L h hn
  · refine (keys_nil w).mono ?_
    rintro r w' ⟨rfl, rfl⟩
    exact ⟨none, 0, 0, rfl, rfl, Row.nil _ _ _ _, Below.refl _ _⟩

/-! ### Peek and At -/
inductive PeekR (L : List LE) (k : Int) : Int → Int → Bool → Int → Prop
  | no : (∀ e ∈ L, e.k ≠ k) → PeekR L k 0 0 false (-1)
  | yes (a b : List LE) (e : LE) : L = a ++ e :: b → e.k = k → PeekR L k e.v e.un true a.length
theorem peekR_ex (hk : L.Pairwise (fun x y => x.k ≠ y.k)) (k : Int) : ∃ v un ok i, PeekR L k v un ok i := by
  rcases find_key L k with h | ⟨a, e, b, rfl, rfl, ha⟩
  · exact ⟨_, _, _, _, .no h⟩
  · exact ⟨_, _, _, _, .yes a b e rfl rfl⟩
theorem peek_n (h : CN w p c m room L) {k v un i : Int} {ok : Bool} (hk : (Lit.int .i64 k).wf = true) (hp : PeekR L k v un ok i) :
    Calls Tryd.prog 18 #[pt p, .int .i64 k] w fun r w' => r = .returned (.tuple #[.int .i64 v, .int .i64 un, .bool ok]) ∧ Below w.heap.size w w' := by
  rcases h with ⟨rfl, h⟩ | ⟨rfl, rfl, _⟩
  · cases hp with
    | no hn => exact peek_none w c m room L h k hk hn
    | yes a b e hL hek => subst hL; subst hek; exact peek_some w c m room a b e h
  · cases hp with
    | no hn => exact peek_nil w k
    | yes a b e hL hek => simp at hL
theorem at_r {A : Option Addr} {n cc : Nat} (hr : Row w (fun _ => True) 105 4 (.slice A n cc) n (rowsC L)) (hks : L.Pairwise (fun x y => x.k ≠ y.k)) {k v un i : Int} {ok : Bool} (hp : PeekR L k v un ok i) :
    Calls Tryd.prog 54 #[cvv room A n cc, .int .i64 k] w fun r w' => r = .returned (.int .i64 i) ∧ Below w.heap.size w w' := by
  cases hp with
  | no hn => exact refat_none w room A n cc L hr.reads k hn
  | yes a b e hL hek => subst hL; subst hek; exact refat_mid w room A n cc a b e hr.reads (fun x hx => (sub_keys hks).2 x (List.mem_append_left _ hx))

/-! ### what the document's calls leave -/
def RefOut (w : World) (room : Int) (L : List LE) (v : Value) (w' : World) : Prop :=
  ∃ A n c, v = cvv room A n c ∧ n = L.length ∧ Row w' (fun _ => True) 105 4 (.slice A n c) n (rowsC L) ∧ Below w.heap.size w w'
theorem RefOut.of {v : Value} (h : RefIs w room L v w') : RefOut w room L v w' := by
  obtain ⟨A, n, c, h1, h2, h3, h4⟩ := h
  exact ⟨A, n, c, h1, h2, h3.mono (fun _ _ _ => trivial), h4⟩
theorem RefOut.same {A : Option Addr} {n cc : Nat} (hr : Row w (fun _ => True) 105 4 (.slice A n cc) n (rowsC L)) (hb : Below w.heap.size w w') : RefOut w room L (cvv room A n cc) w' :=
  ⟨A, n, cc, rfl, (rows_len hr.reads).symm, hr.kept (Mod.ofBelow hb (fun _ => False)) (fun _ _ _ h => h), hb⟩

/-! ### Get -/
inductive GetR (L : List LE) (k now : Int) : List LE → Int → Bool → Prop
  | no : (∀ e ∈ L, e.k ≠ k) → GetR L k now L 0 false
  | old (a b : List LE) (e : LE) : L = a ++ e :: b → e.k = k → e.un ≤ now → GetR L k now (a ++ b) 0 false
  | good (a b : List LE) (e : LE) : L = a ++ e :: b → e.k = k → now < e.un → GetR L k now (e :: (a ++ b)) e.v true
theorem getR_ex (L : List LE) (k now : Int) : ∃ L' v ok, GetR L k now L' v ok := by
  rcases find_key L k with h | ⟨a, e, b, rfl, rfl, ha⟩
  · exact ⟨_, _, _, .no h⟩
  · by_cases hl : e.un ≤ now
    · exact ⟨_, _, _, .old a b e rfl rfl hl⟩
    · exact ⟨_, _, _, .good a b e rfl rfl (by omega)⟩
theorem GetR.le {L L' : List LE} {k now v : Int} {ok : Bool} (h : GetR L k now L' v ok) : L'.length ≤ L.length ∧ ∀ e ∈ L', e ∈ L := by
  cases h with
  | no _ => exact ⟨Nat.le_refl _, fun _ h => h⟩
  | old a b e hL _ _ => subst hL; exact ⟨by simp, fun x hx => mem_mid hx⟩
  | good a b e hL _ _ => subst hL; exact ⟨by simp; omega, fun x hx => by rcases List.mem_cons.1 hx with rfl | hx; simp; exact mem_mid hx⟩
theorem get_n (h : CN w p c m room L) {k now v : Int} {ok : Bool} {L' : List LE} (hk : (Lit.int .i64 k).wf = true) (hg : GetR L k now L' v ok) :
    Calls Tryd.prog 27 #[pt p, .int .i64 k, .int .i64 now] w fun r w' => r = .returned (.tuple #[.int .i64 v, .bool ok]) ∧ CN w' p c m room L' ∧ Mod (InN p c m L) w w' := by
  rcases h with ⟨rfl, h⟩ | ⟨rfl, rfl, hr⟩
  · cases hg with
    | no hn =>
      refine (get_none w c m room L h k now hk hn).mono ?_
      rintro r w' ⟨rfl, rfl⟩
      exact ⟨rfl, .inl ⟨rfl, h⟩, Mod.refl _ _⟩
    | old a b e hL hek hl =>
      subst hL; subst hek
      refine (get_old w c m room a b e h now hl).mono ?_
      rintro r w' ⟨rfl, h1, h2⟩
      exact ⟨rfl, .inl ⟨rfl, h1⟩, h2.mono (fun _ _ hk => ⟨rfl, hk⟩)⟩
    | good a b e hL hek hl =>
      subst hL; subst hek
      refine (get_good w c m room a b e h now hl).mono ?_
      rintro r w' ⟨rfl, h1, h2⟩
      exact ⟨rfl, .inl ⟨rfl, h1⟩, h2.mono (fun _ _ hk => ⟨rfl, hk⟩)⟩
  · cases hg with
    | no hn =>
      refine (get_nil w k now).mono ?_
      rintro r w' ⟨rfl, rfl⟩
      exact ⟨rfl, .inr ⟨rfl, rfl, hr⟩, Mod.refl _ _⟩
    | old a b e hL hek hl => simp at hL
    | good a b e hL hek hl => simp at hL
theorem get_r {A : Option Addr} {n cc : Nat} (hr : Row w (fun _ => True) 105 4 (.slice A n cc) n (rowsC L)) (hks : L.Pairwise (fun x y => x.k ≠ y.k)) (hn : n ≤ 4398046511103) {k now v : Int} {ok : Bool} {L' : List LE} (hg : GetR L k now L' v ok) :
    Calls Tryd.prog 53 #[cvv room A n cc, .int .i64 k, .int .i64 now] w fun r w' => ∃ x, r = .returned (.tuple #[x, .int .i64 v, .bool ok]) ∧ RefOut w room L' x w' := by
  cases hg with
  | no hno =>
    refine (refget_none w room A n cc L hr.reads k now hno).mono ?_
    rintro r w' ⟨rfl, hb⟩
    exact ⟨_, rfl, RefOut.same hr hb⟩
  | old a b e hL hek hl =>
    subst hL; subst hek
    refine (refget_old w room A n cc (row_le hr) a b e hr.reads (fun x hx => (sub_keys hks).2 x (List.mem_append_left _ hx)) hn now hl).mono ?_
    rintro r w' ⟨x, rfl, h⟩
    exact ⟨x, rfl, RefOut.of h⟩
  | good a b e hL hek hl =>
    subst hL; subst hek
    refine (refget_good w room A n cc (row_le hr) a b e hr.reads (fun x hx => (sub_keys hks).2 x (List.mem_append_left _ hx)) hn now hl).mono ?_
    rintro r w' ⟨x, rfl, h⟩
    exact ⟨x, rfl, RefOut.of h⟩

/-! ### Drop -/
inductive DropR (L : List LE) (k : Int) : List LE → Bool → Prop
  | no : (∀ e ∈ L, e.k ≠ k) → DropR L k L false
  | yes (a b : List LE) (e : LE) : L = a ++ e :: b → e.k = k → DropR L k (a ++ b) true
theorem dropR_ex (L : List LE) (k : Int) : ∃ L' ok, DropR L k L' ok := by
  rcases find_key L k with h | ⟨a, e, b, rfl, rfl, ha⟩
  · exact ⟨_, _, .no h⟩
  · exact ⟨_, _, .yes a b e rfl rfl⟩
theorem DropR.le {L L' : List LE} {k : Int} {ok : Bool} (h : DropR L k L' ok) : L'.length ≤ L.length ∧ ∀ e ∈ L', e ∈ L := by
  cases h with
  | no _ => exact ⟨Nat.le_refl _, fun _ h => h⟩
  | yes a b e hL _ => subst hL; exact ⟨by simp, fun x hx => mem_mid hx⟩
theorem drop_n (h : CN w p c m room L) {k : Int} {ok : Bool} {L' : List LE} (hk : (Lit.int .i64 k).wf = true) (hg : DropR L k L' ok) :
    Calls Tryd.prog 29 #[pt p, .int .i64 k] w fun r w' => r = .returned (.bool ok) ∧ CN w' p c m room L' ∧ Mod (InN p c m L) w w' := by
  rcases h with ⟨rfl, h⟩ | ⟨rfl, rfl, hr⟩
  · cases hg with
    | no hn =>
      refine (drop_none w c m room L h k hk hn).mono ?_
      rintro r w' ⟨rfl, rfl⟩
      exact ⟨rfl, .inl ⟨rfl, h⟩, Mod.refl _ _⟩
    | yes a b e hL hek =>
      subst hL; subst hek
      refine (drop_some w c m room a b e h).mono ?_
      rintro r w' ⟨rfl, h1, h2⟩
      exact ⟨rfl, .inl ⟨rfl, h1⟩, h2.mono (fun _ _ hk => ⟨rfl, hk⟩)⟩
  · cases hg with
    | no hn =>
      refine (drop_nil w k).mono ?_
      rintro r w' ⟨rfl, rfl⟩
      exact ⟨rfl, .inr ⟨rfl, rfl, hr⟩, Mod.refl _ _⟩
    | yes a b e hL hek => simp at hL
theorem drop_r {A : Option Addr} {n cc : Nat} (hr : Row w (fun _ => True) 105 4 (.slice A n cc) n (rowsC L)) (hks : L.Pairwise (fun x y => x.k ≠ y.k)) (hn : n ≤ 4398046511103) {k : Int} {ok : Bool} {L' : List LE} (hg : DropR L k L' ok) :
    Calls Tryd.prog 55 #[cvv room A n cc, .int .i64 k] w fun r w' => ∃ x, r = .returned (.tuple #[x, .bool ok]) ∧ RefOut w room L' x w' := by
  cases hg with
  | no hno =>
    refine (refdrop_none w room A n cc L hr.reads k hno).mono ?_
    rintro r w' ⟨rfl, hb⟩
    exact ⟨_, rfl, RefOut.same hr hb⟩
  | yes a b e hL hek =>
    subst hL; subst hek
    refine (refdrop_mid w room A n cc (row_le hr) a b e hr.reads (fun x hx => (sub_keys hks).2 x (List.mem_append_left _ hx)) (by omega)).mono ?_
    rintro r w' ⟨x, rfl, h⟩
    exact ⟨x, rfl, RefOut.of h⟩

/-! ### Expire -/
theorem expire_n (h : CN w p c m room L) (hn : L.length ≤ 17592186044415) (now : Int) :
    Calls Tryd.prog 14 #[pt p, .int .i64 now] w fun r w' => ∃ A n cc, r = .returned (.slice A n cc) ∧ n = (goneT now L).length ∧ Row w' (New w) 3 1 (.slice A n cc) n (ints (keysOf (goneT now L))) ∧ CN w' p c m room (keepT now L) ∧ Mod (InN p c m L) w w' := by
  rcases h with ⟨rfl, h⟩ | ⟨rfl, rfl, hr⟩
  · refine (expire_any w c m room L h hn now).mono ?_
    rintro r w' ⟨A, n, cc, rfl, h1, h2, h3, h4⟩
    exact ⟨A, n, cc, rfl, h1, h2, .inl ⟨rfl, h3⟩, h4.mono (fun _ _ hk => ⟨rfl, hk⟩)⟩
  · refine (expire_nil w now).mono ?_
    rintro r w' ⟨rfl, rfl⟩
    exact ⟨none, 0, 0, rfl, rfl, Row.nil _ _ _ _, .inr ⟨rfl, rfl, hr⟩, Mod.refl _ _⟩
end
end Go.Proofs.YtlnbgahfelcbiaaDoor
