import Derived.Test.YtipfjnjjfojdgaaDoorLib
/- copy into a part of an own row; make of a slice; a slice of what can be read. -/
namespace Go.Cu
open Go Go.RowKit
section
variable {P : Program} (w : World)

theorem Reads.firstN {w : World} {sz : Nat} {x : Value} {m : Nat} {news : List Value} (h : Reads w sz x m news) {k : Nat} (hk : k ≤ m) : (Builtin.firstCells sz k x).run P w = .ok (news.take (k * sz)).toArray w := by
  obtain ⟨h1, A, c, rfl, h2, h3⟩ := h
  have hle : k * sz ≤ m * sz := Nat.mul_le_mul_right _ hk
  have hlen : (news.take (k * sz)).length = k * sz := by rw [List.length_take]; omega
  rcases h3 with h3 | ⟨ad, rfl, h4⟩
  · have hn : news.take (k * sz) = [] := List.eq_nil_of_length_eq_zero (by omega)
    rw [hn]
    cases A with
    | none => exact run_firstCells_none w sz k m c
    | some ad => exact run_firstCells_some w sz k ad m c [] (by simp; omega) (by simp)
  · refine run_firstCells_some w sz k ad m c _ hlen (fun j u hj => h4 j u ?_)
    have hjl := (List.getElem?_eq_some_iff.1 hj).1
    rw [List.getElem?_take_of_lt (by omega)] at hj
    exact hj

/-- x[lo:hi] of what can be read -/
def cutV (A : Option Addr) (c lo hi sz : Nat) : Value := .slice (if c = lo then A else A.map (·.add (lo * sz))) (hi - lo) (c - lo)

theorem run_copy_into (t t2 ty e : TypeId) (i : TypeInfo) (sz : Nat) (ht : P.underlying t = some (.slice e)) (hi : P.info? e = some i) (hsize : i.size = sz)
    {F : Nat → Prop} {A : Option Addr} {m c : Nat} {xs : List Value} (h : Row w F e sz (.slice A m c) m xs) {lo hh : Nat} (hlo : lo ≤ hh) (hhi : hh ≤ m)
    {x : Value} {n : Nat} {news : List Value} (hx : Reads w sz x n news) (h1 : ∀ u ∈ news, u.oneCell' = true) :
    ∃ w', (Builtin.copy_ #[t, t2] ty #[cutV A c lo hh sz, x]).run P w = .ok (.int .i64 (min n (hh - lo) : Nat)) w' ∧
      Row w' F e sz (.slice A m c) m (xs.take (lo * sz) ++ news.take (min n (hh - lo) * sz) ++ xs.drop (lo * sz + min n (hh - lo) * sz)) ∧ Mod F w w' := by
  subst hsize
  obtain ⟨k, hk⟩ : ∃ k, min n (hh - lo) = k := ⟨_, rfl⟩
  have hkn : k ≤ n := by omega
  have hkh : lo + k ≤ hh := by omega
  have hkm : (lo + k) * i.size ≤ m * i.size := Nat.mul_le_mul_right _ (by omega)
  rw [Nat.add_mul] at hkm
  have hkn' : k * i.size ≤ n * i.size := Nat.mul_le_mul_right _ hkn
  have hlx := hx.1
  have hlk : (news.take (k * i.size)).length = k * i.size := by rw [List.length_take]; omega
  have hf : (Builtin.firstCells i.size k x).run P w = .ok (news.take (k * i.size)).toArray w := hx.firstN hkn
  have hxs := h.1
  have hlen : (xs.take (lo * i.size) ++ news.take (k * i.size) ++ xs.drop (lo * i.size + k * i.size)).length = m * i.size := by
    simp only [List.length_append, List.length_take, List.length_drop]
    omega
  obtain ⟨_, B, c', rfl, _⟩ := hx
  have hmin : Nat.min n (hh - lo) = k := hk
  rw [hk]
  by_cases hz : k * i.size = 0
  · have hn0 : news.take (k * i.size) = [] := by rw [hz]; rfl
    have hrun : (Builtin.copy_ #[t, t2] ty #[cutV A c lo hh i.size, .slice B n c']).run P w = .ok (.int .i64 (k : Int)) w := by
      rw [hn0] at hf
      unfold cutV
      generalize (if c = lo then A else A.map (·.add (lo * i.size))) = base
      cases base <;> simp [Builtin.copy_, run_underlying ht, Builtin.lenOf, sizeOf, typeInfo, hi, hmin, hf, storeCells, goInt]
    refine ⟨w, hrun, ?_, Mod.refl _ _⟩
    rw [hn0, hz]
    simpa using h
  · obtain ⟨_, A', c2, he, h2, h3, h4⟩ := h
    cases he
    rcases h4 with h4 | ⟨b, o, cur, rfl, hF, hb, h5, h6⟩
    · have : k = 0 := by omega
      rw [this] at hz; simp at hz
    · have hcl : c ≠ lo := by
        intro e
        have : k = 0 := by omega
        rw [this] at hz; simp at hz
      have hcm : m * i.size ≤ c * i.size := Nat.mul_le_mul_right _ h2
      have hst := run_storeCells_at P b (o + lo * i.size) e (news.take (k * i.size)) 0 cur w hb (by rw [hlk]; omega) (fun u hu => h1 u (List.mem_of_mem_take hu))
      simp only [Nat.add_zero, hlk] at hst
      refine ⟨w.setRow b (cur.toList.take (o + lo * i.size) ++ news.take (k * i.size) ++ cur.toList.drop (o + lo * i.size + k * i.size)).toArray, ?_, ⟨hlen, _, c, rfl, h2, h3, .inr ⟨b, o, _, rfl, hF, setRow_heap w b cur _ e _ hb, ?_, ?_⟩⟩, ⟨rfl, rfl, rfl, by simp, fun j _ hj => setRow_other w b j _ (fun e => hj (by subst e; exact hF))⟩⟩
      · unfold cutV
        rw [if_neg hcl]
        simp [Builtin.copy_, run_underlying ht, Builtin.lenOf, sizeOf, typeInfo, hi, hmin, hf, add_plain, hst, goInt]
      · simp only [List.size_toArray, List.length_append, List.length_take, List.length_drop, Array.length_toList]
        omega
      · intro j hj
        have hlt : (cur.toList.take (o + lo * i.size)).length = o + lo * i.size := by rw [List.length_take, Array.length_toList]; omega
        have hlt2 : (xs.take (lo * i.size)).length = lo * i.size := by rw [List.length_take]; omega
        rw [List.getElem?_toArray, List.append_assoc, List.append_assoc]
        by_cases hj1 : j < lo * i.size
        · rw [List.getElem?_append_left (by omega), List.getElem?_take_of_lt (by omega), List.getElem?_append_left (by omega), List.getElem?_take_of_lt hj1, ← h6 j hj, Array.getElem?_toList]
        · have e1 : ∀ r : List Value, (cur.toList.take (o + lo * i.size) ++ r)[o + j]? = r[j - lo * i.size]? := fun r => by
            rw [List.getElem?_append_right (by omega), hlt]
            congr 1
            omega
          have e2 : ∀ r : List Value, (xs.take (lo * i.size) ++ r)[j]? = r[j - lo * i.size]? := fun r => by
            rw [List.getElem?_append_right (by omega), hlt2]
          rw [e1, e2]
          by_cases hj2 : j < lo * i.size + k * i.size
          · rw [List.getElem?_append_left (by omega), List.getElem?_append_left (by omega)]
          · have e3 : ∀ r : List Value, (news.take (k * i.size) ++ r)[j - lo * i.size]? = r[j - lo * i.size - k * i.size]? := fun r => by
              rw [List.getElem?_append_right (by omega), hlk]
            rw [e3, e3, List.getElem?_drop, List.getElem?_drop, Array.getElem?_toList]
            rw [show lo * i.size + k * i.size + (j - lo * i.size - k * i.size) = j by omega, ← h6 j hj]
            congr 1
            omega

theorem addr_zero (a : Addr) : a.add 0 = a := by unfold Addr.add; simp
theorem cutV_zero (A : Option Addr) (c k sz : Nat) : cutV A c 0 k sz = .slice A k c := by
  have e : A.map (·.add (0 * sz)) = A := by cases A <;> simp [addr_zero]
  unfold cutV
  rw [e]
  simp

/-- xs with ys laid in from lo on -/
def ins (xs : List Value) (lo : Nat) (ys : List Value) : List Value := xs.take lo ++ ys ++ xs.drop (lo + ys.length)
theorem ins_length {xs : List Value} {lo : Nat} {ys : List Value} (h : lo + ys.length ≤ xs.length) : (ins xs lo ys).length = xs.length := by
  simp only [ins, List.length_append, List.length_take, List.length_drop]
  omega
theorem ins_get {xs : List Value} {lo : Nat} {ys : List Value} (h : lo + ys.length ≤ xs.length) (j : Nat) : (ins xs lo ys)[j]? = if lo ≤ j ∧ j < lo + ys.length then ys[j - lo]? else xs[j]? := by
  have h1 : (xs.take lo).length = lo := by rw [List.length_take]; omega
  unfold ins
  rw [List.append_assoc]
  by_cases hj : j < lo
  · rw [List.getElem?_append_left (by omega), List.getElem?_take_of_lt hj, if_neg (by omega)]
  · rw [List.getElem?_append_right (by omega), h1]
    by_cases hj2 : j < lo + ys.length
    · rw [List.getElem?_append_left (by omega), if_pos ⟨by omega, hj2⟩]
    · rw [List.getElem?_append_right (by omega), List.getElem?_drop, if_neg (by omega)]
      congr 1
      omega
theorem ins_mem {xs : List Value} {lo : Nat} {ys : List Value} {u : Value} (h : u ∈ ins xs lo ys) : u ∈ xs ∨ u ∈ ys := by
  unfold ins at h
  simp only [List.mem_append] at h
  rcases h with (h | h) | h
  · exact .inl (List.mem_of_mem_take h)
  · exact .inr h
  · exact .inl (List.mem_of_mem_drop h)
end

section
variable {P : Program} {w : World} {ops : Array Oper} {rest : List Oper} {o : Oper} {a : Act} {Q : Exit → Act → World → Prop}

theorem wpList_copy_into (hg : o.guard = none) (x y : Operand) (t t2 e : TypeId) (ho : o.op = .call { callee := .builtin .copy, args := #[x, y], argTypes := #[t, t2] }) (ht : P.underlying t = some (.slice e)) (hsz : (P.info? e).map (·.size) = some 1)
    {F : Nat → Prop} {A : Option Addr} {m c : Nat} {xs : List Value} (h : Row w F e 1 (.slice A m c) m xs) {lo hh : Nat} (hlo : lo ≤ hh) (hhi : hh ≤ m) (hv : a.eval x = cutV A c lo hh 1)
    {xv : Value} {n : Nat} {news : List Value} (hxv : a.eval y = xv) (hx : Reads w 1 xv n news) (h1 : ∀ u ∈ news, u.oneCell' = true)
    (hK : ∀ w', Row w' F e 1 (.slice A m c) m (ins xs lo (news.take (min n (hh - lo)))) → Mod F w w' → wpList P ops Q rest (a.put o.dst (.int .i64 (min n (hh - lo) : Nat))) w') : wpList P ops Q (o :: rest) a w := by
  cases hq : P.info? e with
  | none => simp [hq] at hsz
  | some i =>
    have hi : i.size = 1 := by simpa [hq] using hsz
    obtain ⟨w', hr, h2, h3⟩ := run_copy_into (P := P) w t t2 o.type e i 1 ht hq hi h hlo hhi hx h1
    have hlen : (news.take (min n (hh - lo))).length = min n (hh - lo) := by rw [List.length_take, hx.1]; omega
    simp only [Nat.mul_one] at h2
    have h2' : Row w' F e 1 (.slice A m c) m (ins xs lo (news.take (min n (hh - lo)))) := by unfold ins; rw [hlen]; exact h2
    refine wpList_run hg (v := .int .i64 (min n (hh - lo) : Nat)) (w' := w') ?_ (hK w' h2' h3)
    simp only [execOp, ho, resolve, invoke, builtin, Sem.run_bind, Sem.run_pure, Result.andThen_ok, List.map_toArray, List.map_cons, List.map_nil, hv, hxv, hr]

/-- x[lo:], x[:hi], x[lo:hi]: the values -/
theorem wpList_cut_lo (hg : o.guard = none) (x lo : Operand) (t e : TypeId) (ho : o.op = .slice t x (some lo) none none) {sz : Nat} (ht : P.underlying t = some (.slice e)) (hsz : (P.info? e).map (·.size) = some sz)
    {A : Option Addr} {n c : Nat} (hx : a.eval x = .slice A n c) {q : IntKind} {li : Int} {l : Nat} (hlo : a.eval lo = .int q li) (hli : li = (l : Int)) (hl : l ≤ n)
    (hK : wpList P ops Q rest (a.put o.dst (cutV A c l n sz)) w) : wpList P ops Q (o :: rest) a w := by
  subst hli
  have hr := run_sliceAt_lo (P := P) w t e sz ht hsz A n c q l hl
  refine wpList_run hg (v := cutV A c l n sz) (w' := w) ?_ hK
  simp only [execOp, ho, hx, hlo, Option.map_some, Option.map_none, Sem.run_bind, hr, Result.andThen_ok, Sem.run_pure, cutV]
theorem wpList_cut_hi (hg : o.guard = none) (x hi : Operand) (t e : TypeId) (ho : o.op = .slice t x none (some hi) none) {sz : Nat} (ht : P.underlying t = some (.slice e)) (hsz : (P.info? e).map (·.size) = some sz)
    {A : Option Addr} {n c : Nat} (hx : a.eval x = .slice A n c) {q : IntKind} {hi' : Int} {k : Nat} (hhi : a.eval hi = .int q hi') (hki : hi' = (k : Int)) (hk : k ≤ c)
    (hK : wpList P ops Q rest (a.put o.dst (.slice A k c)) w) : wpList P ops Q (o :: rest) a w := by
  subst hki
  have hr := run_sliceAt_hi (P := P) w t e sz ht hsz A n c q k hk
  have e : (Value.slice (if c = 0 then A else A.map (·.add (0 * sz))) (k - 0) (c - 0)) = .slice A k c := cutV_zero A c k sz
  rw [e] at hr
  refine wpList_run hg (v := .slice A k c) (w' := w) ?_ hK
  simp only [execOp, ho, hx, hhi, Option.map_some, Option.map_none, Sem.run_bind, hr, Result.andThen_ok, Sem.run_pure]
theorem wpList_cut_both (hg : o.guard = none) (x lo hi : Operand) (t e : TypeId) (ho : o.op = .slice t x (some lo) (some hi) none) {sz : Nat} (ht : P.underlying t = some (.slice e)) (hsz : (P.info? e).map (·.size) = some sz)
    {A : Option Addr} {n c : Nat} (hx : a.eval x = .slice A n c) {q q' : IntKind} {li hi' : Int} {l k : Nat} (hlo : a.eval lo = .int q li) (hli : li = (l : Int)) (hhi : a.eval hi = .int q' hi') (hki : hi' = (k : Int)) (hl : l ≤ k) (hk : k ≤ c)
    (hK : wpList P ops Q rest (a.put o.dst (cutV A c l k sz)) w) : wpList P ops Q (o :: rest) a w := by
  subst hli
  subst hki
  have hr := run_sliceAt_both (P := P) w t e sz ht hsz A n c q q' l k hl hk
  refine wpList_run hg (v := cutV A c l k sz) (w' := w) ?_ hK
  simp only [execOp, ho, hx, hlo, hhi, Option.map_some, Option.map_none, Sem.run_bind, hr, Result.andThen_ok, Sem.run_pure, cutV]

theorem Reads.cut {sz : Nat} {A : Option Addr} {n c : Nat} {news : List Value} (h : Reads w sz (.slice A n c) n news) (hnc : n ≤ c) {lo hi : Nat} (hl : lo ≤ hi) (hh : hi ≤ n) :
    Reads w sz (cutV A c lo hi sz) (hi - lo) ((news.drop (lo * sz)).take ((hi - lo) * sz)) := by
  obtain ⟨h1, A', c', he, h2, h3⟩ := h
  cases he
  have hm1 : lo * sz + (hi - lo) * sz = hi * sz := by rw [← Nat.add_mul]; congr 1; omega
  have hm2 : hi * sz ≤ n * sz := Nat.mul_le_mul_right _ hh
  refine ⟨by simp only [List.length_take, List.length_drop]; omega, _, _, rfl, by omega, ?_⟩
  by_cases hc : c = lo
  · left
    have : hi - lo = 0 := by omega
    rw [this, Nat.zero_mul]
  · rcases h3 with h3 | ⟨ad, rfl, h4⟩
    · left; omega
    · refine .inr ⟨ad.add (lo * sz), by simp [hc], fun j u hj => ?_⟩
      have hjl := (List.getElem?_eq_some_iff.1 hj).1
      simp only [List.length_take, List.length_drop] at hjl
      rw [List.getElem?_take_of_lt (by omega), List.getElem?_drop] at hj
      have hadd : (ad.add (lo * sz)).add j = ad.add (lo * sz + j) := by
        unfold Addr.add
        by_cases h1 : lo * sz = 0 <;> by_cases h2 : j = 0 <;> simp [h1, h2, Nat.add_assoc]
      rw [hadd]
      exact h4 _ _ hj

theorem madeCells_one (z : Value) (n : Nat) : (madeCells #[z] (n * 1)).toList = List.replicate n z := by
  unfold madeCells
  apply List.ext_getElem?
  intro j
  rw [Array.getElem?_toList]
  simp only [Nat.mul_one, List.getElem?_replicate, Array.getElem?_map, Array.getElem?_range]
  by_cases hj : j < n <;> simp [hj, Nat.mod_one]

/-- 'make([]T, n)', the elements of one cell -/
theorem wpList_make_row (hg : o.guard = none) (l c : Operand) (t e : TypeId) (ho : o.op = .makeSlice t l c) (ht : P.underlying t = some (.slice e)) (i : TypeInfo) (z : Value) (bytes : Nat) (hi : P.info? e = some i) (hz : i.zero = some z) (hsz : i.size = 1) (hby : i.bytes = bytes) (hz1 : z.cells = #[z])
    {kl kc : IntKind} {L C : Int} {n : Nat} (hl : a.eval l = .int kl L) (hc : a.eval c = .int kc C) (hL : L = (n : Int)) (hC : C = (n : Int)) (b2 : bytes * n ≤ 281474976710656) (b3 : n ≤ maxLen)
    (hK : ∀ w', Row w' (fun k => k = w.heap.size) e 1 (.slice (some ⟨w.heap.size, 0, none⟩) n n) n (List.replicate n z) → Mod (fun _ => False) w w' → wpList P ops Q rest (a.put o.dst (.slice (some ⟨w.heap.size, 0, none⟩) n n)) w') : wpList P ops Q (o :: rest) a w := by
  subst hby
  refine wpList_make_full w hg l c t ho 0 e i z 1 ht hi hz hsz kl kc L C n hl hc hL hC b2 b3 (Nat.zero_le _) fun w' ho' hg' => hK w' ?_ (Mod.ofGrown hg' (fun _ h => by cases h))
  rw [hz1, madeCells_one] at ho'
  exact Row.ofOwns ho' _ (fun k hk => by simp [Value.ownBlock] at hk; exact hk.symm)
/-- the same where the number is not spelt as a Nat -/
theorem wpList_make_rowI (hg : o.guard = none) (l c : Operand) (t e : TypeId) (ho : o.op = .makeSlice t l c) (ht : P.underlying t = some (.slice e)) (i : TypeInfo) (z : Value) (bytes : Nat) (hi : P.info? e = some i) (hz : i.zero = some z) (hsz : i.size = 1) (hby : i.bytes = bytes) (hz1 : z.cells = #[z])
    {kl kc : IntKind} {L C : Int} (hl : a.eval l = .int kl L) (hc : a.eval c = .int kc C) (hLC : C = L) (h0 : 0 ≤ L) (hle : L ≤ 17592186044416) (hby2 : bytes ≤ 16)
    (hK : ∀ n : Nat, (n : Int) = L → ∀ w', Row w' (fun k => k = w.heap.size) e 1 (.slice (some ⟨w.heap.size, 0, none⟩) n n) n (List.replicate n z) → Mod (fun _ => False) w w' → wpList P ops Q rest (a.put o.dst (.slice (some ⟨w.heap.size, 0, none⟩) n n)) w') : wpList P ops Q (o :: rest) a w := by
  obtain ⟨n, rfl⟩ : ∃ n : Nat, L = (n : Int) := ⟨L.toNat, by omega⟩
  have hb : bytes * n ≤ 281474976710656 := Nat.le_trans (Nat.mul_le_mul hby2 (show n ≤ 17592186044416 by omega)) (by omega)
  exact wpList_make_row hg l c t e ho ht i z bytes hi hz hsz hby hz1 hl hc rfl hLC hb (by unfold maxLen; omega) (hK n rfl)
end
end Go.Cu
