import Derived.Test.YtipfjnjjfojdgaaDoorTPure
import Derived.Test.YtipfjnjjfojdgaaDoorProg
/- What a history's memory holds. -/
namespace Go.Proofs.YtipfjnjjfojdgaaDoor
open Go Go.RowKit Go.Cu
open Go.Maps (Keyed)

def u8s (L : List Int) : List Value := L.map (Value.int .u8)
theorem u8s_length (L : List Int) : (u8s L).length = L.length := by simp [u8s]
theorem u8s_append (L M : List Int) : u8s L ++ u8s M = u8s (L ++ M) := by simp [u8s]
theorem u8s_drop (L : List Int) (k : Nat) : (u8s L).drop k = u8s (L.drop k) := by simp [u8s, List.map_drop]
theorem u8s_take (L : List Int) (k : Nat) : (u8s L).take k = u8s (L.take k) := by simp [u8s, List.map_take]
theorem u8s_get {L : List Int} {i : Nat} {x : Int} (h : L[i]? = some x) : (u8s L)[i]? = some (.int .u8 x) := by simp [u8s, h]
theorem u8s_one (L : List Int) : ∀ u ∈ u8s L, u.oneCell' = true := by
  intro u hu
  obtain ⟨x, _, rfl⟩ := List.mem_map.1 hu
  rfl
abbrev cellsP (e : En) : Array Value := #[.slice e.A e.bs.length e.cap, .int .i64 e.rd, .bool e.cl, .bool e.en]
/-- Block c holds a history whose map is block m: it knows E. -/
structure HS (w : World) (c m : Nat) (E : List En) : Prop where
  cell : w.heap[c]? = some (.cells #[.map (some m)] 65 (0, 0))
  mp : Mp w Tryd.prog 3 m (mf E) E.length
  blk : ∀ e ∈ E, w.heap[e.b]? = some (.cells (cellsP e) 70 (0, 0))
  row : ∀ e ∈ E, Row w e.F 5 1 (.slice e.A e.bs.length e.cap) e.bs.length (u8s e.bs)
  of : ∀ e ∈ E, ∀ k, e.F k → OfE w 5 k
  srt : Srt En.k E
  sep : ∀ x ∈ E, ∀ y ∈ E, x.k ≠ y.k → x.b ≠ y.b ∧ ∀ k, x.F k → ¬ y.F k
  rd : ∀ e ∈ E, e.rd ≤ e.bs.length
  byte : ∀ e ∈ E, ∀ x ∈ e.bs, 0 ≤ x ∧ x ≤ 255
/-- all of its memory -/
def HF (c m : Nat) (E : List En) (k : Nat) : Prop := k = c ∨ k = m ∨ ∃ e ∈ E, k = e.b ∨ e.F k
theorem ofE_lt {w : World} {e : TypeId} {k : Nat} (h : OfE w e k) : k < w.heap.size := by
  obtain ⟨_, h⟩ := h
  exact (Array.getElem?_eq_some_iff.1 h).1
theorem ofE_kept {G : Nat → Prop} {w w' : World} {e : TypeId} {k : Nat} (h : OfE w e k) (hm : Mod G w w') (hn : ¬ G k) : OfE w' e k := by
  obtain ⟨cs, h⟩ := h
  exact ⟨cs, hm.heap h hn⟩
section
variable {w w' : World} {c m : Nat} {E : List En} {G : Nat → Prop}
theorem HS.low (h : HS w c m E) : ∀ k, HF c m E k → k < w.heap.size := by
  rintro k (rfl | rfl | ⟨e, he, rfl | hk⟩)
  · exact (Array.getElem?_eq_some_iff.1 h.cell).1
  · exact h.mp.lt
  · exact (Array.getElem?_eq_some_iff.1 (h.blk e he)).1
  · exact ofE_lt (h.of e he k hk)
theorem HS.kept (h : HS w c m E) (hm : Mod G w w') (hn : ∀ k, HF c m E k → ¬ G k) : HS w' c m E :=
  ⟨hm.heap h.cell (hn c (.inl rfl)), h.mp.block (hm.block m h.mp.lt (hn m (.inr (.inl rfl)))), fun e he => hm.heap (h.blk e he) (hn _ (.inr (.inr ⟨e, he, .inl rfl⟩))), fun e he => (h.row e he).kept hm (fun k hk _ => hn k (.inr (.inr ⟨e, he, .inr hk⟩))), fun e he k hk => ofE_kept (h.of e he k hk) hm (hn k (.inr (.inr ⟨e, he, .inr hk⟩))), h.srt, h.sep, h.rd, h.byte⟩
theorem HS.past (h : HS w c m E) (hb : Below w.heap.size w w') : HS w' c m E := h.kept (Mod.ofBelow hb (fun _ => False)) (fun _ _ h => h)
/-- a step at one key -/
theorem HS.step (h : HS w c m E) (e : En) (hm : Mod G w w') (hc : ¬ G c) (hG : ∀ x ∈ E, x.k ≠ e.k → ¬ G x.b ∧ ∀ k, x.F k → ¬ G k) (hmp : Mp w' Tryd.prog 3 m (mf (put En.k E e)) (put En.k E e).length)
    (hb : w'.heap[e.b]? = some (.cells (cellsP e) 70 (0, 0))) (hr : Row w' e.F 5 1 (.slice e.A e.bs.length e.cap) e.bs.length (u8s e.bs)) (ho : ∀ k, e.F k → OfE w' 5 k)
    (hs : ∀ x ∈ E, x.k ≠ e.k → x.b ≠ e.b ∧ ∀ k, x.F k → ¬ e.F k) (hrd : e.rd ≤ e.bs.length) (hby : ∀ x ∈ e.bs, 0 ≤ x ∧ x ≤ 255) : HS w' c m (put En.k E e) := by
  have hp := put_mem En.k h.srt e
  refine ⟨hm.heap h.cell hc, hmp, fun x hx => ?_, fun x hx => ?_, fun x hx k hk => ?_, put_srt En.k h.srt e, fun x hx y hy hne => ?_, fun x hx => ?_, fun x hx => ?_⟩
  · rcases (hp x).1 hx with rfl | ⟨hx, hk⟩
    · exact hb
    · exact hm.heap (h.blk x hx) (hG x hx hk).1
  · rcases (hp x).1 hx with rfl | ⟨hx, hk⟩
    · exact hr
    · exact (h.row x hx).kept hm (fun k hf _ => (hG x hx hk).2 k hf)
  · rcases (hp x).1 hx with rfl | ⟨hx, hxk⟩
    · exact ho k hk
    · exact ofE_kept (h.of x hx k hk) hm ((hG x hx hxk).2 k hk)
  · rcases (hp x).1 hx with rfl | ⟨hx1, hxk⟩
    · rcases (hp y).1 hy with rfl | ⟨hy, hyk⟩
      · exact (hne rfl).elim
      · obtain ⟨h1, h2⟩ := hs y hy hyk
        exact ⟨fun e => h1 e.symm, fun k hk hk2 => h2 k hk2 hk⟩
    · rcases (hp y).1 hy with rfl | ⟨hy, hyk⟩
      · exact hs x hx1 hxk
      · exact h.sep x hx1 y hy hne
  · rcases (hp x).1 hx with rfl | ⟨hx, _⟩
    · exact hrd
    · exact h.rd x hx
  · rcases (hp x).1 hx with rfl | ⟨hx, _⟩
    · exact hby
    · exact h.byte x hx
/-- the blocks are of other types than the bytes -/
theorem HS.blk_ne (h : HS w c m E) {x y : En} (hx : x ∈ E) (hy : y ∈ E) : ¬ y.F x.b := fun hk => not_ofE (h.blk x hx) (by decide) (h.of y hy _ hk)
theorem HS.c_ne (h : HS w c m E) {y : En} (hy : y ∈ E) : ¬ y.F c := fun hk => not_ofE h.cell (by decide) (h.of y hy _ hk)
theorem HS.m_ne (h : HS w c m E) {y : En} (hy : y ∈ E) : ¬ y.F m := fun hk => not_ofE_mp h.mp (h.of y hy _ hk)
theorem HS.cm (h : HS w c m E) : c ≠ m := map_ne h.cell h.mp
theorem HS.bm (h : HS w c m E) {x : En} (hx : x ∈ E) : x.b ≠ m := map_ne (h.blk x hx) h.mp
theorem HS.bc (h : HS w c m E) {x : En} (hx : x ∈ E) : x.b ≠ c := fun e => by
  have h1 := h.blk x hx
  rw [e, h.cell] at h1
  injection h1 with h1
  injection h1 with _ h1
  cases h1
end
end Go.Proofs.YtipfjnjjfojdgaaDoor
