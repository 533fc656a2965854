import Derived.Test.YtipfjnjjfojdgaaDoorTState
import Derived.WalkLawsBesides
import Derived.WalkSpells
import Derived.StillTailTactics
import Derived.Deep.QuietTactic
import Derived.BigQuiet
import Derived.Deep.RegionHeld3
/- The history's methods but Gave, Rest, Keys and Text. -/
namespace Go.Proofs.YtipfjnjjfojdgaaDoor
open Go Go.RowKit Go.Cu
open Go.Maps (Keyed)

theorem law_int : Keyed Tryd.prog 3 := Maps.int_keyed Tryd.underlying3
theorem key_int {x : Int} (h : (Lit.int .i64 x).wf = true) : keyOf Tryd.prog 3 (.int .i64 x) = some (.int .i64 x) := Maps.keyOf_int_mk Tryd.underlying3 h
theorem zero_past (w : World) : (zeroValue 66).run Tryd.prog w = .ok (.pointer none) w := by kernel_rfl
theorem info_byte : (Tryd.prog.info? 5).map (fun i => (i.zero, i.size, i.bytes)) = some (some (.int .u8 0), 1, 1) := by kernel_rfl
abbrev newP : Array Value := #[.slice none 0 0, .int .i64 0, .bool false, .bool false]
/-- what is known of a key -/
def pastR (R : List Rw) (k : Int) : Rw := (get Rw.k R k).getD ⟨k, [], 0, false, false⟩
theorem pastR_k (R : List Rw) (k : Int) : (pastR R k).k = k := by
  unfold pastR
  cases hg : get Rw.k R k with
  | none => rfl
  | some x => exact (get_mem Rw.k hg).2
/-- a past at hand, known or not -/
structure At1 (w : World) (c m : Nat) (E : List En) (e : En) : Prop where
  hs : HS w c m E
  blk : w.heap[e.b]? = some (.cells (cellsP e) 70 (0, 0))
  row : Row w e.F 5 1 (.slice e.A e.bs.length e.cap) e.bs.length (u8s e.bs)
  of : ∀ k, e.F k → OfE w 5 k
  sep : ∀ x ∈ E, x.k ≠ e.k → x.b ≠ e.b ∧ ∀ k, x.F k → ¬ e.F k
  rd : e.rd ≤ e.bs.length
  byte : ∀ x ∈ e.bs, 0 ≤ x ∧ x ≤ 255
section
variable {w w' : World} {c m : Nat} {E : List En} {e : En} {G : Nat → Prop}
theorem HS.at1 (h : HS w c m E) (he : e ∈ E) : At1 w c m E e :=
  ⟨h, h.blk e he, h.row e he, h.of e he, fun x hx hk => h.sep x hx e he hk, h.rd e he, h.byte e he⟩
theorem At1.past (h : At1 w c m E e) (hb : Below w.heap.size w w') : At1 w' c m E e := by
  have hm : Mod (fun _ => False) w w' := Mod.ofBelow hb _
  exact ⟨h.hs.past hb, hm.heap h.blk (fun h => h), h.row.kept hm (fun _ _ _ h => h), fun k hk => ofE_kept (h.of k hk) hm (fun h => h), h.sep, h.rd, h.byte⟩
theorem At1.bm (h : At1 w c m E e) : e.b ≠ m := map_ne h.blk h.hs.mp
theorem At1.bc (h : At1 w c m E e) : e.b ≠ c := fun e1 => by
  have h1 := h.blk
  rw [e1, h.hs.cell] at h1
  injection h1 with h1
  injection h1 with _ h1
  cases h1
theorem At1.fb (h : At1 w c m E e) : ¬ e.F e.b := fun hk => not_ofE h.blk (by decide) (h.of _ hk)
theorem At1.fm (h : At1 w c m E e) : ¬ e.F m := fun hk => not_ofE_mp h.hs.mp (h.of _ hk)
theorem At1.fc (h : At1 w c m E e) : ¬ e.F c := fun hk => not_ofE h.hs.cell (by decide) (h.of _ hk)
/-- the past is put -/
theorem At1.laid (h : At1 w c m E e) (e' : En) (hk : e'.k = e.k) (hb : e'.b = e.b) (hm : Mod G w w') (hG : ∀ k, G k → k = m ∨ k = e.b ∨ e.F k)
    (hmp : Mp w' Tryd.prog 3 m (upd (mf E) (.int .i64 e.k) (some (ptr e.b))) (if (mf E (.int .i64 e.k)).isSome then E.length else E.length + 1)) (hblk : w'.heap[e'.b]? = some (.cells (cellsP e') 70 (0, 0)))
    (hrow : Row w' e'.F 5 1 (.slice e'.A e'.bs.length e'.cap) e'.bs.length (u8s e'.bs)) (hof : ∀ k, e'.F k → OfE w' 5 k) (hF : ∀ k, e'.F k → e.F k ∨ w.heap.size ≤ k) (hrd : e'.rd ≤ e'.bs.length) (hby : ∀ x ∈ e'.bs, 0 ≤ x ∧ x ≤ 255) :
    HS w' c m (put En.k E e') := by
  have hs := h.hs
  refine hs.step e' hm (fun hg => ?_) (fun x hx hxk => ?_) ?_ hblk hrow hof (fun x hx hxk => ?_) hrd hby
  · rcases hG c hg with h1 | h1 | h1
    · exact hs.cm h1
    · exact h.bc h1.symm
    · exact h.fc h1
  · rw [hk] at hxk
    obtain ⟨h1, h2⟩ := h.sep x hx hxk
    refine ⟨fun hg => ?_, fun k hf hg => ?_⟩
    · rcases hG _ hg with h3 | h3 | h3
      · exact hs.bm hx h3
      · exact h1 h3
      · exact not_ofE (hs.blk x hx) (by decide) (h.of _ h3)
    · rcases hG _ hg with h3 | h3 | h3
      · subst h3; exact hs.m_ne hx hf
      · subst h3; exact not_ofE h.blk (by decide) (hs.of x hx _ hf)
      · exact h2 k hf h3
  · have h1 : put En.k E e' = put En.k E e' := rfl
    rw [put_len En.k E e' hs.srt]
    have h2 : (mf E (.int .i64 e.k)).isSome = (get En.k E e'.k).isSome := by rw [mf_at, hk]; cases get En.k E e.k <;> rfl
    rw [← h2]
    exact Mp.ext hmp (fun l => by rw [mf_put hs.srt e' l, hk, hb])
  · rw [hk] at hxk
    obtain ⟨h1, h2⟩ := h.sep x hx hxk
    refine ⟨by rw [hb]; exact h1, fun k hf hg => ?_⟩
    rcases hF k hg with h3 | h3
    · exact h2 k hf h3
    · have := ofE_lt (hs.of x hx k hf); omega
theorem put_foot (h : At1 w c m E e) {e' : En} {S : Nat} (hS : S ≤ w.heap.size) (hb : e'.b = e.b) (hF : ∀ k, e'.F k → e.F k ∨ w.heap.size ≤ k) (he : ∀ k, k = e.b ∨ e.F k → HF c m E k ∨ S ≤ k) : ∀ k, HF c m (put En.k E e') k → HF c m E k ∨ S ≤ k := by
  rintro k (rfl | rfl | ⟨x, hx, hk⟩)
  · exact .inl (.inl rfl)
  · exact .inl (.inr (.inl rfl))
  · rcases (put_mem En.k h.hs.srt e' x).1 hx with rfl | ⟨hx, _⟩
    · rcases hk with rfl | hk
      · exact he _ (.inl hb)
      · exact (hF k hk).elim (fun h => he k (.inr h)) (fun h => .inr (Nat.le_trans hS h))
    · exact .inl (.inr (.inr ⟨x, hx, hk⟩))
end
section
variable {c m : Nat} {E : List En}
theorem of_any (w : World) (h : HS w c m E) (k : Int) (hk : (Lit.int .i64 k).wf = true) : Calls Tryd.prog 28 #[ptr c, .int .i64 k] w fun r w' =>
    ∃ e, r = .returned (ptr e.b) ∧ At1 w' c m E e ∧ e.rw = pastR (E.map En.rw) k ∧ Below w.heap.size w w' ∧ (∀ j, j = e.b ∨ e.F j → HF c m E j ∨ w.heap.size ≤ j) ∧ ((get En.k E k = none ∧ e.b = w.heap.size) ∨ get En.k E k = some e) := by
  have c0 : w.cell? ⟨c, 0, none⟩ = some (.map (some m)) := by rw [cell_of_row w c 0 _ _ _ h.cell]; rfl
  have hl := h.mp.look (t := 63) law_int Tryd.underlying63 (zero_past w) (key_int hk)
  rw [mf_at] at hl
  cases hg : get En.k E k with
  | none =>
    rw [hg] at hl
    simp only [Option.map_none, Option.getD_none] at hl
    have HH := hide h
    have HG := hide hg
    clear h hk hg
    go_enter Tryd.func28, Tryd.ntmps28
    go_wp2
    go_ret
    have hb : Below w.heap.size w (w.alloc (.cells newP 70)) := (Below.refl _ _).alloc (Nat.le_refl _) _
    refine ⟨⟨k, w.heap.size, none, 0, [], 0, false, false, fun _ => False⟩, rfl, ⟨HH.out.past hb, heap_alloc_new w _, Row.nil _ _ _ _, fun _ h => h.elim, fun x hx _ => ⟨fun e => by have := (Array.getElem?_eq_some_iff.1 (HH.out.blk x hx)).1; have e : x.b = w.heap.size := e; omega, fun _ _ h => h⟩, Nat.le_refl _, fun _ h => (by cases h)⟩, ?_, hb, fun j hj => ?_, .inl ⟨trivial, rfl⟩⟩
    · unfold pastR
      rw [get_rw, HG.out]
      rfl
    · rcases hj with hj | hj
      · exact .inr (Nat.le_of_eq hj.symm)
      · exact hj.elim
  | some e =>
    rw [hg] at hl
    simp only [Option.map_some, Option.getD_some] at hl
    have HH := hide h
    have HG := hide hg
    clear h hk hg
    go_enter Tryd.func28, Tryd.ntmps28
    go_wp2
    go_ret
    refine ⟨e, rfl, HH.out.at1 (get_mem En.k HG.out).1, ?_, Below.refl _ _, fun j hj => .inl (.inr (.inr ⟨e, (get_mem En.k HG.out).1, hj⟩)), .inr rfl⟩
    unfold pastR
    rw [get_rw, HG.out]
    rfl
theorem of_nil (w : World) (k : Int) : Calls Tryd.prog 28 #[.pointer none, .int .i64 k] w fun r w' => r = .returned (ptr w.heap.size) ∧ w' = w.alloc (.cells newP 70) := by
  go_enter Tryd.func28, Tryd.ntmps28
  go_wp2
  go_ret
  exact ⟨rfl, rfl⟩
end
end Go.Proofs.YtipfjnjjfojdgaaDoor
