namespace Go.Cu.Fair

/-- The key that a script's number names. -/
def fk (k : Int) : Int := if k < 0 then -(k + 1) else k

def rAdd (L : List Int) (k : Int) : List Int := if L.contains k then L else L ++ [k]
def rNext : List Int → List Int
  | [] => []
  | x :: r => r ++ [x]

/-- one step of the law's loop: the order, what was told, the most there were -/
structure St where
  L : List Int
  told : List Int
  most : Nat

def step (s : St) (o : Int × Int) : St :=
  if o.1 = 1 then ⟨rAdd s.L (fk o.2), s.told, max s.most (rAdd s.L (fk o.2)).length⟩
  else if o.1 = 2 then ⟨s.L.erase (fk o.2), s.told, max s.most (s.L.erase (fk o.2)).length⟩
  else ⟨rNext s.L, s.told ++ s.L.head?.toList, max s.most (rNext s.L).length⟩

def init (stay : Nat) : List Int := (List.range stay).map fun (k : Nat) => (-1 - (k : Int))
def run (stay : Nat) (l : List (Int × Int)) : St := l.foldl step ⟨init stay, [], stay⟩

/-- the two checks of 'fair', from a place on -/
def gaps (most : Nat) (x : Int) : Nat → List Int → Bool
  | d, [] => decide (d < most)
  | d, t :: ts => if t = x then decide (d + 1 ≤ most) && gaps most x 0 ts else gaps most x (d + 1) ts
def betw (a b : Int) : Nat → List Int → Bool
  | _, [] => true
  | n, t :: ts =>
    let n1 := if t = b then 0 else n
    let n2 := if t = a then n1 + 1 else n1
    decide (n2 ≤ 1) && betw a b n2 ts

/-- what is told from an order on -/
def tells (L : List Int) : List (Int × Int) → List Int
  | [] => []
  | o :: r => if o.1 = 1 then tells (rAdd L (fk o.2)) r else if o.1 = 2 then tells (L.erase (fk o.2)) r else L.head?.toList ++ tells (rNext L) r
def lens (L : List Int) : List (Int × Int) → Nat
  | [] => 0
  | o :: r => if o.1 = 1 then max (rAdd L (fk o.2)).length (lens (rAdd L (fk o.2)) r) else if o.1 = 2 then max (L.erase (fk o.2)).length (lens (L.erase (fk o.2)) r) else max (rNext L).length (lens (rNext L) r)

theorem tells_cons (L : List Int) (o : Int × Int) (r : List (Int × Int)) : tells L (o :: r) = if o.1 = 1 then tells (rAdd L (fk o.2)) r else if o.1 = 2 then tells (L.erase (fk o.2)) r else L.head?.toList ++ tells (rNext L) r := rfl
theorem lens_cons (L : List Int) (o : Int × Int) (r : List (Int × Int)) : lens L (o :: r) = if o.1 = 1 then max (rAdd L (fk o.2)).length (lens (rAdd L (fk o.2)) r) else if o.1 = 2 then max (L.erase (fk o.2)).length (lens (L.erase (fk o.2)) r) else max (rNext L).length (lens (rNext L) r) := rfl
theorem idx_cons (a x : Int) (r : List Int) : (x :: r).idxOf a = if x = a then 0 else r.idxOf a + 1 := by
  rw [List.idxOf_cons]
  by_cases h : x = a
  · simp [h]
  · have hb : (x == a) = false := by simpa using h
    rw [hb, if_neg h]; rfl

theorem fold_told : ∀ (l : List (Int × Int)) (s : St), (l.foldl step s).told = s.told ++ tells s.L l
  | [], s => by simp [tells]
  | o :: r, s => by
    rw [List.foldl_cons, fold_told r]
    rw [tells_cons]
    unfold step
    by_cases h1 : o.1 = 1
    · simp [h1]
    · by_cases h2 : o.1 = 2
      · simp [h2]
      · simp [h1, h2]
theorem fold_most : ∀ (l : List (Int × Int)) (s : St), (l.foldl step s).most = max s.most (lens s.L l)
  | [], s => by simp [lens]
  | o :: r, s => by
    rw [List.foldl_cons, fold_most r]
    rw [lens_cons]
    unfold step
    by_cases h1 : o.1 = 1
    · simp [h1, Nat.max_assoc]
    · by_cases h2 : o.1 = 2
      · simp [h2, Nat.max_assoc]
      · simp [h1, h2, Nat.max_assoc]

/-! ### places -/
theorem nodup_rNext {L : List Int} (h : L.Nodup) : (rNext L).Nodup := by
  cases L with
  | nil => exact h
  | cons x r =>
    obtain ⟨h1, h2⟩ := List.nodup_cons.1 h
    unfold rNext
    rw [List.nodup_append]
    refine ⟨h2, by simp, ?_⟩
    intro a ha b hb
    simp at hb
    subst hb
    intro e
    subst e
    exact h1 ha
theorem nodup_rAdd {L : List Int} (h : L.Nodup) (k : Int) : (rAdd L k).Nodup := by
  unfold rAdd
  split
  · exact h
  · rename_i hk
    rw [List.nodup_append]
    refine ⟨h, by simp, ?_⟩
    intro a ha b hb
    simp at hb
    subst hb
    intro e
    subst e
    exact hk (by simpa using ha)
theorem mem_rNext {L : List Int} {a : Int} : a ∈ rNext L ↔ a ∈ L := by
  cases L with
  | nil => rfl
  | cons x r => simp [rNext, or_comm]
theorem mem_rAdd {L : List Int} {a : Int} (k : Int) (h : a ∈ L) : a ∈ rAdd L k := by
  unfold rAdd
  split
  · exact h
  · simp [h]

theorem idx_rAdd {L : List Int} {a : Int} (k : Int) (h : a ∈ L) : (rAdd L k).idxOf a = L.idxOf a := by
  unfold rAdd
  split
  · rfl
  · rw [List.idxOf_append, if_pos h]
theorem idx_erase_le (a k : Int) (hne : a ≠ k) : ∀ L : List Int, a ∈ L → (L.erase k).idxOf a ≤ L.idxOf a
  | [], h => by cases h
  | x :: r, h => by
    by_cases hx : x = k
    · subst hx
      rw [List.erase_cons_head, idx_cons, if_neg (fun e => hne e.symm)]
      omega
    · rw [List.erase_cons_tail (by simpa using hx), idx_cons, idx_cons]
      by_cases hxa : x = a
      · simp [hxa]
      · have hm : a ∈ r := by
          rcases List.mem_cons.1 h with e | e
          · exact absurd e.symm hxa
          · exact e
        have := idx_erase_le a k hne r hm
        rw [if_neg hxa, if_neg hxa]
        omega
theorem idx_erase_lt (a b k : Int) (ha : a ≠ k) (hb : b ≠ k) : ∀ L : List Int, a ∈ L → b ∈ L → L.idxOf b < L.idxOf a → (L.erase k).idxOf b < (L.erase k).idxOf a
  | [], h, _, _ => by cases h
  | x :: r, h, h', hlt => by
    rw [idx_cons, idx_cons] at hlt
    by_cases hx : x = k
    · subst hx
      rw [List.erase_cons_head]
      rw [if_neg (fun e => hb e.symm), if_neg (fun e => ha e.symm)] at hlt
      omega
    · rw [List.erase_cons_tail (by simpa using hx), idx_cons, idx_cons]
      by_cases hxb : x = b
      · by_cases hxa : x = a
        · rw [if_pos hxa, if_pos hxb] at hlt
          omega
        · rw [if_pos hxb, if_neg hxa]
          omega
      · by_cases hxa : x = a
        · rw [if_pos hxa, if_neg hxb] at hlt
          omega
        · rw [if_neg hxb, if_neg hxa] at hlt ⊢
          have hma : a ∈ r := by
            rcases List.mem_cons.1 h with e | e
            · exact absurd e.symm hxa
            · exact e
          have hmb : b ∈ r := by
            rcases List.mem_cons.1 h' with e | e
            · exact absurd e.symm hxb
            · exact e
          have := idx_erase_lt a b k ha hb r hma hmb (by omega)
          omega
theorem idx_rNext_last {x : Int} {r : List Int} (h : x ∉ r) : (rNext (x :: r)).idxOf x = r.length := by
  unfold rNext
  rw [List.idxOf_append, if_neg h]
  simp
theorem idx_rNext_other {x a : Int} {r : List Int} (h : a ∈ r) (hne : x ≠ a) : (rNext (x :: r)).idxOf a + 1 = (x :: r).idxOf a := by
  unfold rNext
  rw [List.idxOf_append, if_pos h, idx_cons, if_neg hne]

/-! ### the two laws -/
theorem fk_nonneg (k : Int) : 0 ≤ fk k := by
  unfold fk
  split <;> omega

theorem gaps_ok (most : Nat) (a : Int) (ha : a < 0) : ∀ (l : List (Int × Int)) (L : List Int) (d : Nat), L.Nodup → a ∈ L → d + L.idxOf a + 1 ≤ most → lens L l ≤ most → gaps most a d (tells L l) = true
  | [], L, d, _, hm, hd, _ => by
    simp only [tells, gaps, decide_eq_true_eq]
    omega
  | o :: r, L, d, hn, hm, hd, hl => by
    unfold lens at hl
    unfold tells
    have hk := fk_nonneg o.2
    by_cases h1 : o.1 = 1
    · rw [if_pos h1] at hl ⊢
      exact gaps_ok most a ha r _ d (nodup_rAdd hn _) (mem_rAdd _ hm) (by rw [idx_rAdd _ hm]; exact hd) (by omega)
    · by_cases h2 : o.1 = 2
      · rw [if_neg h1, if_pos h2] at hl ⊢
        have := idx_erase_le a (fk o.2) (by omega) L hm
        exact gaps_ok most a ha r _ d (hn.erase _) ((List.mem_erase_of_ne (by omega)).2 hm) (by omega) (by omega)
      · rw [if_neg h1, if_neg h2] at hl ⊢
        cases L with
        | nil => cases hm
        | cons x t =>
          obtain ⟨hx, ht⟩ := List.nodup_cons.1 hn
          simp only [List.head?_cons, Option.toList_some, List.singleton_append, gaps]
          by_cases hxa : x = a
          · subst hxa
            rw [if_pos rfl]
            have h0 : (x :: t).idxOf x = 0 := by simp
            rw [h0] at hd
            simp only [Bool.and_eq_true, decide_eq_true_eq]
            refine ⟨by omega, gaps_ok most x ha r _ 0 (nodup_rNext hn) (mem_rNext.2 hm) ?_ (by omega)⟩
            rw [idx_rNext_last hx]
            have : (rNext (x :: t)).length = t.length + 1 := by simp [rNext]
            omega
          · rw [if_neg hxa]
            have hma : a ∈ t := by
              rcases List.mem_cons.1 hm with e | e
              · exact absurd e.symm hxa
              · exact e
            have := idx_rNext_other hma hxa
            exact gaps_ok most a ha r _ (d + 1) (nodup_rNext hn) (mem_rNext.2 hm) (by omega) (by omega)

theorem betw_ok (a b : Int) (ha : a < 0) (hb : b < 0) (hab : a ≠ b) : ∀ (l : List (Int × Int)) (L : List Int) (n : Nat), L.Nodup → a ∈ L → b ∈ L → n ≤ 1 → (n = 1 → L.idxOf b < L.idxOf a) → betw a b n (tells L l) = true
  | [], L, n, _, _, _, _, _ => rfl
  | o :: r, L, n, hn, hma, hmb, hle, hord => by
    unfold tells
    have hk := fk_nonneg o.2
    by_cases h1 : o.1 = 1
    · rw [if_pos h1]
      exact betw_ok a b ha hb hab r _ n (nodup_rAdd hn _) (mem_rAdd _ hma) (mem_rAdd _ hmb) hle (fun e => by rw [idx_rAdd _ hma, idx_rAdd _ hmb]; exact hord e)
    · by_cases h2 : o.1 = 2
      · rw [if_neg h1, if_pos h2]
        exact betw_ok a b ha hb hab r _ n (hn.erase _) ((List.mem_erase_of_ne (by omega)).2 hma) ((List.mem_erase_of_ne (by omega)).2 hmb) hle
          (fun e => idx_erase_lt a b (fk o.2) (by omega) (by omega) L hma hmb (hord e))
      · rw [if_neg h1, if_neg h2]
        cases L with
        | nil => cases hma
        | cons x t =>
          obtain ⟨hx, ht⟩ := List.nodup_cons.1 hn
          have tail : ∀ c : Int, c ∈ x :: t → x ≠ c → c ∈ t := fun c hc hne => by
            rcases List.mem_cons.1 hc with e | e
            · exact absurd e.symm hne
            · exact e
          simp only [List.head?_cons, Option.toList_some, List.singleton_append, betw]
          by_cases hxb : x = b
          · have hxa : x ≠ a := fun e => hab (e.symm.trans hxb)
            rw [if_pos hxb, if_neg hxa]
            simp only [Bool.and_eq_true, decide_eq_true_eq]
            exact ⟨by omega, betw_ok a b ha hb hab r _ 0 (nodup_rNext hn) (mem_rNext.2 hma) (mem_rNext.2 hmb) (by omega) (by omega)⟩
          · rw [if_neg hxb]
            by_cases hxa : x = a
            · rw [if_pos hxa]
              have hn0 : n = 0 := by
                rcases Nat.eq_zero_or_pos n with h | h
                · exact h
                · have := hord (by omega)
                  rw [hxa, idx_cons, idx_cons, if_pos rfl] at this
                  omega
              subst hn0
              simp only [Bool.and_eq_true, decide_eq_true_eq]
              refine ⟨by omega, betw_ok a b ha hb hab r _ 1 (nodup_rNext hn) (mem_rNext.2 hma) (mem_rNext.2 hmb) (by omega) (fun _ => ?_)⟩
              have h3 := idx_rNext_other (tail b hmb hxb) hxb
              have h4 : (rNext (x :: t)).idxOf a = t.length := by rw [← hxa]; exact idx_rNext_last hx
              have h5 : (x :: t).idxOf b < (x :: t).length := List.idxOf_lt_length_of_mem hmb
              simp only [List.length_cons] at h5
              omega
            · rw [if_neg hxa]
              simp only [Bool.and_eq_true, decide_eq_true_eq]
              refine ⟨hle, betw_ok a b ha hb hab r _ n (nodup_rNext hn) (mem_rNext.2 hma) (mem_rNext.2 hmb) hle (fun e => ?_)⟩
              have := hord e
              have h3 := idx_rNext_other (tail b hmb hxb) hxb
              have h4 := idx_rNext_other (tail a hma hxa) hxa
              omega

theorem mem_init {stay k : Nat} (h : k < stay) : (-1 - (k : Int)) ∈ init stay := List.mem_map.2 ⟨k, List.mem_range.2 h, rfl⟩
theorem nodup_init (stay : Nat) : (init stay).Nodup := by
  unfold init
  refine List.Pairwise.map _ ?_ (List.nodup_range (n := stay))
  intro a b h e
  omega
theorem idx_init {stay k : Nat} (h : k < stay) : (init stay).idxOf (-1 - (k : Int)) < stay := by
  have := List.idxOf_lt_length_of_mem (mem_init h)
  simpa [init] using this

theorem run_gaps (stay : Nat) (l : List (Int × Int)) {k : Nat} (hk : k < stay) : gaps (run stay l).most (-1 - (k : Int)) 0 (run stay l).told = true := by
  unfold run
  rw [fold_told, fold_most]
  have := idx_init hk
  exact gaps_ok _ _ (by omega) l (init stay) 0 (nodup_init stay) (mem_init hk) (by simp only [Nat.zero_add]; omega) (by simp only []; omega)
theorem run_betw (stay : Nat) (l : List (Int × Int)) {k : Nat} (hk : k < stay) (h1 : 1 < stay) : betw (-1 - (k : Int)) (-1 - (((k + 1) % stay : Nat) : Int)) 0 (run stay l).told = true := by
  unfold run
  rw [fold_told]
  have hlt : (k + 1) % stay < stay := Nat.mod_lt _ (by omega)
  have hne : (k + 1) % stay ≠ k := by
    by_cases h : k + 1 = stay
    · rw [h, Nat.mod_self]; omega
    · rw [Nat.mod_eq_of_lt (by omega)]; omega
  exact betw_ok _ _ (by omega) (by omega) (by omega) l (init stay) 0 (nodup_init stay) (mem_init hk) (mem_init hlt) (by omega) (by omega)

end Go.Cu.Fair
