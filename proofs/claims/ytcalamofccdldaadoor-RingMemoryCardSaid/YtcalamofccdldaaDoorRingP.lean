import Derived.Test.YtcalamofccdldaaDoorCpy
/- The plain laws of a ring: a list that lies in a row from a head on, round its end. -/
namespace Go.Cu
open Go Go.RowKit

theorem wrap {m a j : Nat} (hm : 0 < m) (hj : j ≤ m) : (a + j) % m = if a % m + j < m then a % m + j else a % m + j - m := by
  have h0 : a % m < m := Nat.mod_lt _ hm
  have h1 : (a + j) % m = (a % m + j) % m := by rw [Nat.add_mod, Nat.add_mod (a % m) j, Nat.mod_mod]
  rw [h1]
  split
  · exact Nat.mod_eq_of_lt ‹_›
  · rw [Nat.mod_eq_sub_mod (by omega)]
    by_cases h2 : a % m + j - m < m
    · exact Nat.mod_eq_of_lt h2
    · omega

/-- the list lies in the row of m from place h on -/
def Holds (xs : List Value) (m h : Nat) (L : List Value) : Prop := ∀ i x, L[i]? = some x → xs[(h + i) % m]? = some x

theorem copied {xs os L : List Value} {m h i k a : Nat} (hm : xs.length = m) (hk0 : 0 < k) (hik : i + k ≤ L.length) (hLm : L.length ≤ m) (hH : Holds xs m h L) (hat : (h + i) % m = a) (hkos : k ≤ os.length) :
    ins (ins os 0 (((xs.drop a).take (m - a)).take (min (m - a) (k - 0)))) (min (m - a) (k - 0)) (xs.take (min m (k - min (m - a) (k - 0)))) = (L.drop i).take k ++ os.drop k := by
  have ha : a < m := by rw [← hat]; exact Nat.mod_lt _ (by omega)
  obtain ⟨n1, hn1⟩ : ∃ n1, min (m - a) (k - 0) = n1 := ⟨_, rfl⟩
  have hn2 : min m (k - n1) = k - n1 := by omega
  rw [hn1, hn2]
  have e1 : ((xs.drop a).take (m - a)).take n1 = (xs.drop a).take n1 := by rw [List.take_take]; congr 1; omega
  rw [e1]
  have l1 : ((xs.drop a).take n1).length = n1 := by simp only [List.length_take, List.length_drop]; omega
  have l2 : (xs.take (k - n1)).length = k - n1 := by simp only [List.length_take]; omega
  have l3 : (ins os 0 ((xs.drop a).take n1)).length = os.length := ins_length (by omega)
  have l4 : ((L.drop i).take k).length = k := by simp only [List.length_take, List.length_drop]; omega
  apply List.ext_getElem?
  intro j
  rw [ins_get (by omega), ins_get (by omega), l1, l2]
  by_cases hjk : j < k
  · rw [List.getElem?_append_left (by omega), List.getElem?_take_of_lt hjk, List.getElem?_drop]
    have hx := hH (i + j) (L[i + j]'(by omega)) (List.getElem?_eq_getElem (by omega))
    rw [List.getElem?_eq_getElem (l := L) (i := i + j) (by omega), ← hx, ← Nat.add_assoc, wrap (by omega) (show j ≤ m by omega), hat]
    by_cases hj1 : j < n1
    · rw [if_neg (by omega), if_pos ⟨by omega, by omega⟩, if_pos (by omega), Nat.sub_zero, List.getElem?_take_of_lt hj1, List.getElem?_drop]
    · rw [if_pos ⟨by omega, by omega⟩, if_neg (by omega), List.getElem?_take_of_lt (by omega)]
      congr 1
      omega
  · rw [if_neg (by omega), if_neg (by omega), List.getElem?_append_right (by omega), l4, List.getElem?_drop]
    congr 1
    omega

theorem pushed {xs L news : List Value} {m h n k a c : Nat} (hm : xs.length = m) (hm0 : 0 < m) (hn : L.length = n) (hnm : n + k ≤ m) (hk : k ≤ news.length) (hH : Holds xs m h L) (hat : (h + n) % m = a) (hc : c = min k (m - a)) :
    Holds (ins (ins xs a ((news.take k).take c)) 0 (((news.drop c).take (k - c)).take (min (k - c) (m - 0)))) m h (L ++ news.take k) := by
  have ha : a < m := by rw [← hat]; exact Nat.mod_lt _ hm0
  have hck : c ≤ k := by omega
  have e1 : (news.take k).take c = news.take c := by rw [List.take_take]; congr 1; omega
  have e2 : ((news.drop c).take (k - c)).take (min (k - c) (m - 0)) = (news.drop c).take (k - c) := by rw [List.take_take]; congr 1; omega
  rw [e1, e2]
  have l1 : (news.take c).length = c := by rw [List.length_take]; omega
  have l2 : ((news.drop c).take (k - c)).length = k - c := by simp only [List.length_take, List.length_drop]; omega
  have l3 : (ins xs a (news.take c)).length = m := by rw [ins_length (by omega), hm]
  intro i x hi
  rw [ins_get (by omega), ins_get (by omega), l1, l2]
  by_cases hin : i < n
  · rw [List.getElem?_append_left (by omega)] at hi
    have hx := hH i x hi
    have hne : ∀ d, d < k → (h + i) % m ≠ (h + n + d) % m := by
      intro d hd e
      rw [wrap hm0 (show d ≤ m by omega), hat] at e
      have e3 := wrap (a := h + i) hm0 (show n - i ≤ m by omega)
      rw [show h + i + (n - i) = h + n by omega, hat] at e3
      have hb : (h + i) % m < m := Nat.mod_lt _ hm0
      split at e <;> split at e3 <;> omega
    have hb : (h + i) % m < m := Nat.mod_lt _ hm0
    rw [if_neg, if_neg]
    · exact hx
    · rintro ⟨h1, h2⟩
      refine hne ((h + i) % m - a) (by omega) ?_
      rw [wrap hm0 (show (h + i) % m - a ≤ m by omega), hat, if_pos (by omega)]
      omega
    · rintro ⟨_, h2⟩
      have hca : c = m - a := by omega
      refine hne ((h + i) % m + c) (by omega) ?_
      rw [wrap hm0 (show (h + i) % m + c ≤ m by omega), hat, if_neg (by omega)]
      omega
  · have hi2 := hi
    rw [List.getElem?_append_right (by omega), hn] at hi
    have hil : i - n < k := by
      have := (List.getElem?_eq_some_iff.1 hi).1
      rw [List.length_take] at this
      omega
    rw [List.getElem?_take_of_lt hil] at hi
    have e : (h + i) % m = if a + (i - n) < m then a + (i - n) else a + (i - n) - m := by
      rw [show h + i = h + n + (i - n) by omega, wrap hm0 (by omega), hat]
    rw [e]
    by_cases h1 : i - n < c
    · rw [if_pos (show a + (i - n) < m by omega), if_neg (by omega), if_pos ⟨by omega, by omega⟩, List.getElem?_take_of_lt (by omega), ← hi]
      congr 1
      omega
    · rw [if_neg (show ¬ a + (i - n) < m by omega), if_pos ⟨by omega, by omega⟩, List.getElem?_take_of_lt (by omega), List.getElem?_drop, ← hi]
      congr 1
      omega

theorem dropped {xs L : List Value} {m h k : Nat} (hH : Holds xs m h L) : Holds xs m ((h + k) % m) (L.drop k) := by
  intro i x hi
  rw [List.getElem?_drop] at hi
  have := hH (k + i) x hi
  rw [← Nat.add_assoc] at this
  rw [Nat.add_mod, Nat.mod_mod, ← Nat.add_mod]
  exact this

/-- what can be read and lies outside F -/
structure RdOut (w : World) (F : Nat → Prop) (x : Value) (n : Nat) (news : List Value) : Prop where
  reads : Reads w 1 x n news
  out : ∀ ad c, x = .slice (some ad) n c → n = 0 ∨ (¬ F ad.block ∧ ad.block < w.heap.size)
theorem RdOut.kept {w w' : World} {F : Nat → Prop} {x : Value} {n : Nat} {news : List Value} (h : RdOut w F x n news) (hm : Mod F w w') : RdOut w' (Wide F w w') x n news := by
  obtain ⟨⟨h1, A, c, rfl, h2, h3⟩, h4⟩ := h
  constructor
  · refine ⟨h1, A, c, rfl, h2, ?_⟩
    rcases h3 with h3 | ⟨ad, rfl, hc⟩
    · exact .inl h3
    · rcases h4 ad c rfl with h0 | h0
      · left; omega
      · refine .inr ⟨ad, rfl, fun j u hj => hm.cell (hc j u hj) ?_⟩
        have : (ad.add j).block = ad.block := by unfold Addr.add; split <;> rfl
        rw [this]
        exact h0.1
  · intro ad c' he
    rcases h4 ad c' he with h0 | ⟨h0, h5⟩
    · exact .inl h0
    · refine .inr ⟨?_, Nat.lt_of_lt_of_le h5 hm.size⟩
      rintro (h | h)
      · exact h0 h
      · omega
end Go.Cu
