import Derived.Test.YtjajnejijaoblaaLib
import Derived.Test.YtjajnejijaoblaaSli
import Derived.Test.YtjajnejijaoblaaRows
import Derived.WalkLawsBesides
import Derived.WalkSpells
import Derived.StillTailTactics
/- The robin of texts: what its memory holds; the contracts of its methods. -/
namespace Go.Proofs.Ytjajnejijaoblaa.S
open Go Go.RowKit Go.Cu Go.Proofs.Ytjajnejijaoblaa
open Go.Maps (Keyed)

theorem str_law : Keyed Try.prog 9 := Maps.string_keyed Try.underlying9
theorem zero_str (w : World) : (zeroValue 9).run Try.prog w = .ok (.string ⟨#[]⟩) w := by kernel_rfl
theorem info_str : (Try.prog.info? 9).map (fun i => (i.zero, i.size, i.bytes)) = some (some (.string ⟨#[]⟩), 1, 16) := by kernel_rfl
theorem size_str : (Try.prog.info? 9).map (·.size) = some 1 := by kernel_rfl
theorem agg_str (w : World) : (isAgg 9).run Try.prog w = .ok false w := by kernel_rfl
def strs (L : List (List UInt8)) : List Value := L.map fun x => .string ⟨x.toArray⟩
theorem strs_length (L : List (List UInt8)) : (strs L).length = L.length := by simp [strs]
theorem strs_append (L M : List (List UInt8)) : strs (L ++ M) = strs L ++ strs M := by simp [strs]
theorem strs_one (L : List (List UInt8)) : ∀ u ∈ strs L, u.oneCell' = true := by
  intro u hu
  obtain ⟨x, _, rfl⟩ := List.mem_map.1 hu
  rfl
theorem key_str {k : List UInt8} (hk : k.length ≤ maxLen) : keyOf Try.prog 9 (.string ⟨k.toArray⟩) = some (.string k) := by
  have := WideMaps.keyOf_string_mk Try.underlying9 (s := ⟨k.toArray⟩) (by simpa [ByteArray.size] using hk)
  simpa using this
def rAdd (L : List (List UInt8)) (k : List UInt8) : List (List UInt8) := if k ∈ L then L else L ++ [k]

/-- slices.Clone. -/
theorem clone_any (w : World) (v : Value) (n : Nat) (L : List (List UInt8)) (h : Reads w 1 v n (strs L)) (hroom : n ≤ 8796093022208) :
    Calls Try.prog 33 #[v] w fun e w' => ∃ A c, e = .returned (.slice A n c) ∧ Row w' (New w) 9 1 (.slice A n c) n (strs L) ∧ Below w.heap.size w w' := by
  obtain ⟨i0, hi, hz0, hz1, hz2⟩ := info_parts info_str
  obtain ⟨A, c, rfl⟩ := h.shape
  have hq := fun W : World => Lib.run_eql_slice_nil (P := Try.prog) W 47 9 A n c 0 0 Try.underlying47
  have HR := hide h
  cases A with
  | none =>
    have h0 : n = 0 := by
      obtain ⟨_, A, c', he, _, hx⟩ := h
      cases he
      rcases hx with hx | ⟨_, hx, _⟩
      · omega
      · cases hx
    subst h0
    have hL : L = [] := by have := h.1; rw [strs_length] at this; exact List.eq_nil_of_length_eq_zero (by omega)
    subst hL
    clear h
    go_enter Try.func33, Try.ntmps33
    go_wp2
    go_ret
    exact ⟨none, 0, rfl, Row.nil _ _ _ _, Below.refl _ _⟩
  | some ad =>
    have H2 := hide (h.kept (w' := w.alloc (.cells #[] 9)) (fun a v hc => by rw [World.cell?_alloc_lt _ _ _ (World.block_lt_of_cell? w a hc)]; exact hc))
    have H1 : Hid (Row (w.alloc (.cells #[] 9)) (New w) 9 1 (.slice (some ⟨w.heap.size, 0, none⟩) 0 0) 0 []) := ⟨rfl, _, 0, rfl, Nat.le_refl _, Nat.zero_le _, .inl rfl⟩
    clear h
    go_enter Try.func33, Try.ntmps33
    go_wp2_with (at_builtin; refine wpList_append_row rfl _ _ 47 rfl 9 i0 (.string ⟨#[]⟩) 1 16 Try.underlying47 hi hz0 hz1 hz2 rfl (by decide) rfl H1.out rfl H2.out (strs_one L) (by unfold maxLen; omega) (by omega) ?_; intro A1 c1 w1 hrow1 hmod1; have HR1 := hide hrow1; have HM1 := hide hmod1; clear hrow1 hmod1)
    go_ret
    have hr := HR1.out
    rw [Nat.zero_add, List.nil_append] at hr
    refine ⟨A1, c1, by simp, hr.mono (fun k hk _ => ?_), (((Mod.refl (New w) w).alloc _).trans HM1.out (fun _ _ h => h)).below (Nat.le_refl _) (fun _ h => h)⟩
    rcases hk with hk | hk
    · exact hk
    · show w.heap.size ≤ k
      rw [hk]; simp


open Classical in
/-- The keys that are there. -/
noncomputable def there (L : List (List UInt8)) (l : Lit) : Option Value := if ∃ k : List UInt8, k ∈ L ∧ l = .string k then some (.int .i64 1) else none
theorem there_mem {L : List (List UInt8)} {k : List UInt8} : (there L (.string k)).isSome = decide (k ∈ L) := by
  unfold there
  by_cases h : k ∈ L
  · rw [if_pos ⟨k, h, rfl⟩]; simp [h]
  · rw [if_neg (by rintro ⟨j, hj, e⟩; injection e with e; subst e; exact h hj)]; simp [h]

/-- Block b is a robin of the keys L, in their order; all of its memory lies in F. -/
def Rob (w : World) (F : Nat → Prop) (b : Nat) (L : List (List UInt8)) : Prop :=
  F b ∧ (∀ k, F k → k < w.heap.size) ∧ L.Nodup ∧ (∀ k ∈ L, k.length ≤ maxLen) ∧
    ∃ ov m, w.heap[b]? = some (.cells #[ov, .map (some m)] 60 (0, 0)) ∧ F m ∧ Row w F 9 1 ov L.length (strs L) ∧ Mp w Try.prog 9 m (there L) L.length

theorem has_any (w : World) (F : Nat → Prop) (b : Nat) (L : List (List UInt8)) (k : List UInt8) (h : Rob w F b L) (hk : k.length ≤ maxLen) :
    Calls Try.prog 25 #[.pointer (some ⟨b, 0, none⟩), .string ⟨k.toArray⟩] w fun e w' => e = .returned (.bool (decide (k ∈ L))) ∧ w = w' := by
  obtain ⟨hFb, hlt, hnd, hwf, ov, m, hb, hFm, hrow, hmp⟩ := h
  have c1 : w.cell? ⟨b, 1, none⟩ = some (.map (some m)) := by rw [cell_of_row w b 1 _ _ _ hb]; rfl
  have hl := hmp.lookOk (t := 58) str_law Try.underlying58 (zero_int w) (key_str hk)
  rw [there_mem] at hl
  clear hb hrow hmp hwf hlt
  go_enter Try.func25, Try.ntmps25
  go_wp2
  go_ret
  exact ⟨rfl, rfl⟩


theorem there_add {L : List (List UInt8)} {k : List UInt8} : ∀ l, there (L ++ [k]) l = upd (there L) (.string k) (some (.int .i64 1)) l := by
  intro l
  by_cases hl : l = .string k
  · subst hl
    rw [upd_same]
    unfold there
    rw [if_pos ⟨k, by simp, rfl⟩]
  · rw [upd_other hl]
    unfold there
    have : (∃ j, j ∈ L ++ [k] ∧ l = .string j) ↔ ∃ j, j ∈ L ∧ l = .string j := by
      constructor
      · rintro ⟨j, hj, rfl⟩
        refine ⟨j, ?_, rfl⟩
        rcases List.mem_append.1 hj with hj | hj
        · exact hj
        · simp at hj; subst hj; exact absurd rfl hl
      · rintro ⟨j, hj, rfl⟩
        exact ⟨j, by simp [hj], rfl⟩
    by_cases hex : ∃ j, j ∈ L ∧ l = .string j
    · rw [if_pos (this.2 hex), if_pos hex]
    · rw [if_neg (fun h => hex (this.1 h)), if_neg hex]

/-- What the memory holds behind 'r.order = append(r.order, k); r.there[k] = 1'. -/
theorem rob_added {w w1 w2 : World} {F : Nat → Prop} {b m : Nat} {L : List (List UInt8)} {k : List UInt8} {ov : Value} {A1 : Option Addr} {c1 : Nat} (h : Rob w F b L) (hk : k.length ≤ maxLen) (hnew : decide (k ∈ L) = false)
    (hFm : F m) (hbm : b ≠ m)
    (hrow1 : Row w1 (fun j => (F j ∧ OfE w 9 j) ∨ j = (w.alloc (.cells #[.string ⟨k.toArray⟩] 9)).heap.size) 9 1 (.slice A1 (L.length + 1) c1) (L.length + 1) (strs L ++ [.string ⟨k.toArray⟩]))
    (hmod1 : Mod (fun j => F j ∧ OfE w 9 j) (w.alloc (.cells #[.string ⟨k.toArray⟩] 9)) w1) (hb1 : w1.heap[b]? = some (.cells #[ov, .map (some m)] 60 (0, 0)))
    (hmp1 : Mp (w1.setCell ⟨b, 0, none⟩ (.slice A1 (L.length + 1) c1)) Try.prog 9 m (there L) L.length)
    (hmp2 : Mp w2 Try.prog 9 m (upd (there L) (.string k) (some (.int .i64 1))) (if (there L (.string k)).isSome = true then L.length else L.length + 1)) (hg2 : (w1.setCell ⟨b, 0, none⟩ (.slice A1 (L.length + 1) c1)).grownBy w2 (some m)) :
    Rob w2 (Wide F w w2) b (L ++ [k]) ∧ Mod F w w2 := by
  obtain ⟨hFb, hlt, hnd, hwf, ov', m', hb', _⟩ := h
  have hmod : Mod F w w2 := ((((Mod.refl F w).alloc (.cells #[.string ⟨k.toArray⟩] 9)).trans hmod1 (fun i _ hi => hi.1)).setCell (p := ⟨b, 0, none⟩) (fun _ => hFb) _).grown hg2 (fun _ => hFm)
  have hs1 : (w.alloc (.cells #[.string ⟨k.toArray⟩] 9)).heap.size = w.heap.size + 1 := by simp
  have hr2 : Row (w1.setCell ⟨b, 0, none⟩ (.slice A1 (L.length + 1) c1)) (fun j => (F j ∧ OfE w 9 j) ∨ j = w.heap.size + 1) 9 1 (.slice A1 (L.length + 1) c1) (L.length + 1) (strs L ++ [.string ⟨k.toArray⟩]) :=
    (hrow1.mono (fun j hj _ => hj.imp id (fun e => by omega))).farE (p := ⟨b, 0, none⟩) hb1 (by decide) _
  have hb2 := grown_heap hg2 (heap_setCell_same w1 b 0 _ 60 (.slice A1 (L.length + 1) c1) hb1) (by intro e; injection e with e; exact hbm e)
  have hr3 := hr2.overMap hmp1 hg2
  rw [there_mem, hnew] at hmp2
  simp only [decide_eq_false_iff_not] at hnew
  refine ⟨⟨.inl hFb, Wide.lt hlt hmod.size, ?_, ?_, _, m, hb2, .inl hFm, ?_, ?_⟩, hmod⟩
  · rw [List.nodup_append]
    refine ⟨hnd, by simp, fun a ha b hb e => ?_⟩
    simp at hb
    subst hb
    subst e
    exact hnew ha
  · intro j hj
    rcases List.mem_append.1 hj with hj | hj
    · exact hwf j hj
    · simp at hj; subst hj; exact hk
  · rw [strs_append, List.length_append]
    exact hr3.mono (fun j hj hl => hj.elim (fun h => .inl h.1) (fun e => .inr ⟨by omega, hl⟩))
  · rw [List.length_append]
    exact hmp2.ext there_add

set_option maxHeartbeats 400000 in
theorem add_new (w : World) (F : Nat → Prop) (b : Nat) (L : List (List UInt8)) (k : List UInt8) (h : Rob w F b L) (hk : k.length ≤ maxLen) (hnew : decide (k ∈ L) = false) (hroom : L.length + 1 ≤ 8796093022208) :
    Calls Try.prog 21 #[.pointer (some ⟨b, 0, none⟩), .string ⟨k.toArray⟩] w fun e w' => e = .returned (.bool true) ∧ Rob w' (Wide F w w') b (L ++ [k]) ∧ Mod F w w' := by
  have h' := h
  obtain ⟨hFb, hlt, hnd, hwf, ov, m, hb, hFm, hrow, hmp⟩ := h
  obtain ⟨i0, hi, hz0, hz1, hz2⟩ := info_parts info_str
  have c0 : w.cell? ⟨b, 0, none⟩ = some ov := by rw [cell_of_row w b 0 _ _ _ hb]; rfl
  have hbl := hlt b hFb
  have hml := hlt m hFm
  have hbm := map_ne hb hmp
  have H := hide hb
  have HM := hide hmp
  have HR := hide (hrow.narrow.alloc (.cells #[.string ⟨k.toArray⟩] 9))
  have HH := hide h'
  clear hb hmp hrow hwf hlt h'
  go_enter Try.func21, Try.ntmps21
  go_wp2_with (first
    | (go_at_call 25; refine (has_any _ F b L k HH.out hk).mono ?_; rintro e w' ⟨rfl, rfl⟩)
    | (at_builtin; refine wpList_append_row rfl _ _ 47 rfl 9 i0 (.string ⟨#[]⟩) 1 16 Try.underlying47 hi hz0 hz1 hz2 rfl (by decide) rfl HR.out rfl (reads_one _ _ _ _) (by simp [Value.oneCell']) (by unfold maxLen; omega) (by omega) ?_; intro A1 c1 w1 hrow1 hmod1
       have hb1 : w1.heap[b]? = some (.cells #[ov, .map (some m)] 60 (0, 0)) := hmod1.heap (by rw [Below.heap_alloc _ _ _ hbl]; exact H.out) (fun hh => not_ofE H.out (by decide) hh.2)
       have hmp1 : Mp (w1.setCell ⟨b, 0, none⟩ (.slice A1 (L.length + 1) c1)) Try.prog 9 m (there L) L.length := HM.out.block (by rw [Below.heap_setCell _ _ _ _ hbm.symm, hmod1.block m (by simp; omega) (fun hh => not_ofE_mp HM.out hh.2), Below.heap_alloc _ _ _ hml])
       have d0 : w1.cell? ⟨b, 0, none⟩ = some ov := by rw [cell_of_row w1 b 0 _ _ _ hb1]; rfl
       have d1 : w1.cell? ⟨b, 1, none⟩ = some (.map (some m)) := by rw [cell_of_row w1 b 1 _ _ _ hb1]; rfl
       have f0 := frozen_of_row w1 b 0 _ _ hb1
       have HB1 := hide hb1
       have HR1 := hide hrow1
       have HM1 := hide hmod1
       have HMP1 := hide hmp1
       clear hb1 hrow1 hmod1 hmp1)
    | (at_mapUpdate; refine wpList_store_mp rfl _ _ _ 58 rfl str_law Try.underlying58 rfl HMP1.out (by unfold maxLen; omega) rfl rfl (key_str hk) ?_; intro w2 hmp2 hg2
       have HE := hide (rob_added HH.out hk hnew hFm hbm HR1.out HM1.out HB1.out HMP1.out hmp2 hg2)
       clear hmp2 hg2))
  go_ret
  exact ⟨rfl, HE.out⟩


theorem add_old (w : World) (F : Nat → Prop) (b : Nat) (L : List (List UInt8)) (k : List UInt8) (h : Rob w F b L) (hk : k.length ≤ maxLen) (hold : decide (k ∈ L) = true) :
    Calls Try.prog 21 #[.pointer (some ⟨b, 0, none⟩), .string ⟨k.toArray⟩] w fun e w' => e = .returned (.bool false) ∧ w = w' := by
  have HH := hide h
  clear h
  go_enter Try.func21, Try.ntmps21
  go_wp2_with (go_at_call 25; refine (has_any _ F b L k HH.out hk).mono ?_; rintro e w' ⟨rfl, rfl⟩)
  go_ret
  exact ⟨rfl, rfl⟩

theorem Rob.wide {w w' : World} {F : Nat → Prop} {b : Nat} {L : List (List UInt8)} (h : Rob w' F b L) : Rob w' (Wide F w w') b L := by
  obtain ⟨hFb, hlt, hnd, hwf, ov, m, hb, hFm, hrow, hmp⟩ := h
  refine ⟨.inl hFb, ?_, hnd, hwf, ov, m, hb, .inl hFm, hrow.mono (fun _ hk _ => .inl hk), hmp⟩
  rintro k (hk | hk)
  · exact hlt k hk
  · exact hk.2

/-- Behind a step that does not touch it. -/
theorem Rob.kept {w w' : World} {F G : Nat → Prop} {b : Nat} {L : List (List UInt8)} (h : Rob w F b L) (hm : Mod G w w') (hn : ∀ k, F k → ¬ G k) : Rob w' F b L := by
  obtain ⟨hFb, hlt, hnd, hwf, ov, m, hb, hFm, hrow, hmp⟩ := h
  refine ⟨hFb, fun k hk => Nat.lt_of_lt_of_le (hlt k hk) hm.size, hnd, hwf, ov, m, hm.heap hb (hn b hFb), hFm, hrow.kept hm (fun k hk _ => hn k hk), hmp.block (hm.block m (hlt m hFm) (hn m hFm))⟩

/-- Add, whatever the key. -/
theorem add_any (w : World) (F : Nat → Prop) (b : Nat) (L : List (List UInt8)) (k : List UInt8) (h : Rob w F b L) (hk : k.length ≤ maxLen) (hroom : L.length + 1 ≤ 8796093022208) :
    Calls Try.prog 21 #[.pointer (some ⟨b, 0, none⟩), .string ⟨k.toArray⟩] w fun e w' => e = .returned (.bool (!decide (k ∈ L))) ∧ Rob w' (Wide F w w') b (rAdd L k) ∧ Mod F w w' := by
  cases hd : decide (k ∈ L) with
  | true =>
    refine (add_old w F b L k h hk hd).mono ?_
    rintro e w' ⟨rfl, rfl⟩
    have : rAdd L k = L := by unfold rAdd; rw [if_pos (by simpa using hd)]
    rw [this]
    exact ⟨rfl, h.wide, Mod.refl _ _⟩
  | false =>
    refine (add_new w F b L k h hk hd hroom).mono ?_
    rintro e w' ⟨rfl, h1, h2⟩
    have : rAdd L k = L ++ [k] := by unfold rAdd; rw [if_neg (by simpa using hd)]
    rw [this]
    exact ⟨rfl, h1, h2⟩

theorem len_any (w : World) (F : Nat → Prop) (b : Nat) (L : List (List UInt8)) (h : Rob w F b L) :
    Calls Try.prog 24 #[.pointer (some ⟨b, 0, none⟩)] w fun e w' => e = .returned (.int .i64 L.length) ∧ w = w' := by
  obtain ⟨hFb, hlt, hnd, hwf, ov, m, hb, hFm, hrow, hmp⟩ := h
  obtain ⟨A, c, rfl, _⟩ := hrow.shape
  have c0 : w.cell? ⟨b, 0, none⟩ = some (.slice A L.length c) := by rw [cell_of_row w b 0 _ _ _ hb]; rfl
  clear hb hrow hmp hwf hlt
  go_enter Try.func24, Try.ntmps24
  go_wp2
  go_ret
  exact ⟨rfl, rfl⟩

theorem list_any (w : World) (F : Nat → Prop) (b : Nat) (L : List (List UInt8)) (h : Rob w F b L) (hroom : L.length ≤ 8796093022208) :
    Calls Try.prog 23 #[.pointer (some ⟨b, 0, none⟩)] w fun e w' => ∃ A c, e = .returned (.slice A L.length c) ∧ Row w' (New w) 9 1 (.slice A L.length c) L.length (strs L) ∧ Below w.heap.size w w' := by
  obtain ⟨hFb, hlt, hnd, hwf, ov, m, hb, hFm, hrow, hmp⟩ := h
  have c0 : w.cell? ⟨b, 0, none⟩ = some ov := by rw [cell_of_row w b 0 _ _ _ hb]; rfl
  have HS := hide hrow.reads
  clear hb hrow hmp hwf hlt
  go_enter Try.func23, Try.ntmps23
  go_wp2_with (go_at_call 33; refine (clone_any _ _ _ L HS.out hroom).mono ?_; rintro e w' ⟨A, c, rfl, hrow, hbel⟩; have HR1 := hide hrow; have HB1 := hide hbel; clear hrow hbel)
  go_ret
  exact ⟨A, c, rfl, HR1.out, HB1.out⟩

theorem next_nil (w : World) (F : Nat → Prop) (b : Nat) (h : Rob w F b []) :
    Calls Try.prog 22 #[.pointer (some ⟨b, 0, none⟩)] w fun e w' => e = .returned (.tuple #[.string ⟨#[]⟩, .bool false]) ∧ w = w' := by
  have HH := hide h
  clear h
  go_enter Try.func22, Try.ntmps22
  go_wp2_with (go_at_call 24; refine (len_any _ F b [] HH.out).mono ?_; rintro e w' ⟨rfl, rfl⟩)
  go_ret2
  exact ⟨rfl, rfl⟩

theorem there_perm {L M : List (List UInt8)} (h : ∀ k, k ∈ L ↔ k ∈ M) : ∀ l, there L l = there M l := by
  intro l
  unfold there
  by_cases hex : ∃ k, k ∈ L ∧ l = .string k
  · obtain ⟨k, hk, e⟩ := hex
    rw [if_pos ⟨k, hk, e⟩, if_pos ⟨k, (h k).1 hk, e⟩]
  · rw [if_neg hex, if_neg (fun ⟨k, hk, e⟩ => hex ⟨k, (h k).2 hk, e⟩)]

/-- What the memory holds behind 'r.order = v'. -/
theorem rob_stored {w w1 : World} {F G : Nat → Prop} {b m : Nat} {L M : List (List UInt8)} {ov v : Value} (h : Rob w F b L) (hFm : F m) (hM : M.Nodup) (hML : ∀ k, k ∈ L ↔ k ∈ M) (hlen : L.length = M.length)
    (hb1 : w1.heap[b]? = some (.cells #[ov, .map (some m)] 60 (0, 0))) (hmp1 : Mp w1 Try.prog 9 m (there L) L.length) (hmod : Mod F w w1) (hrow1 : Row w1 G 9 1 v M.length (strs M)) (hG : ∀ k, k < w1.heap.size → G k → F k ∨ w.heap.size ≤ k) :
    Rob (w1.setCell ⟨b, 0, none⟩ v) (Wide F w (w1.setCell ⟨b, 0, none⟩ v)) b M ∧ Mod F w (w1.setCell ⟨b, 0, none⟩ v) := by
  obtain ⟨hFb, hlt, hnd, hwf, _⟩ := h
  have hmod2 : Mod F w (w1.setCell ⟨b, 0, none⟩ v) := hmod.setCell (p := ⟨b, 0, none⟩) (fun _ => hFb) v
  have hsz : (w1.setCell ⟨b, 0, none⟩ v).heap.size = w1.heap.size := by simp
  refine ⟨⟨.inl hFb, Wide.lt hlt hmod2.size, hM, fun k hk => hwf k ((hML k).2 hk), v, m, heap_setCell_same w1 b 0 _ 60 v hb1, .inl hFm, ?_, ?_⟩, hmod2⟩
  · refine (hrow1.farE (p := ⟨b, 0, none⟩) hb1 (by decide) v).mono (fun k hk hl => ?_)
    exact (hG k (by omega) hk).imp id (fun h => ⟨h, hl⟩)
  · rw [← hlen]
    exact (hmp1.block (Below.heap_setCell _ _ _ _ (map_ne hb1 hmp1).symm)).ext (there_perm (fun k => (hML k).symm))

set_option maxHeartbeats 400000 in
theorem next_cons (w : World) (F : Nat → Prop) (b : Nat) (x : List UInt8) (r : List (List UInt8)) (h : Rob w F b (x :: r)) (hroom : r.length + 1 ≤ 8796093022208) :
    Calls Try.prog 22 #[.pointer (some ⟨b, 0, none⟩)] w fun e w' => e = .returned (.tuple #[.string ⟨x.toArray⟩, .bool true]) ∧ Rob w' (Wide F w w') b (r ++ [x]) ∧ Mod F w w' := by
  have HH := hide h
  obtain ⟨hFb, hlt, hnd, hwf, ov, m, hb, hFm, hrow, hmp⟩ := h
  obtain ⟨i0, hi, hz0, hz1, hz2⟩ := info_parts info_str
  rw [List.length_cons] at hrow
  obtain ⟨A, c, rfl, _⟩ := hrow.shape
  have c0 : w.cell? ⟨b, 0, none⟩ = some (.slice A (r.length + 1) c) := by rw [cell_of_row w b 0 _ _ _ hb]; rfl
  have H0 : Hid ((strs (x :: r))[(0 : Int).toNat]? = some (.string ⟨x.toArray⟩)) := by show _ = _; simp [strs]
  have hne : ((r.length : Int) + 1 == 0) = false := by rw [beq_eq_false_iff_ne]; omega
  have hbl := hlt b hFb
  have hml := hlt m hFm
  have HB := hide hb
  have HS := hide hrow.reads
  have HR := hide hrow.narrow
  have HND : Hid (r ++ [x]).Nodup := by
    obtain ⟨h1, h2⟩ := List.nodup_cons.1 hnd
    show List.Nodup _
    rw [List.nodup_append]
    refine ⟨h2, by simp, fun a ha b hb e => ?_⟩
    simp at hb
    subst hb
    subst e
    exact h1 ha
  have HMP := hide hmp
  clear hb hrow hmp hwf hlt
  go_enter Try.func22, Try.ntmps22
  go_wp2_with (first
    | (go_at_call 24; refine (len_any _ F b (x :: r) HH.out).mono ?_; rintro e w' ⟨rfl, rfl⟩)
    | ((with_reducible refine at_index rfl ?_); refine wpList_at1 rfl rfl _ _ 47 9 _ rfl rfl rfl (by simp) Try.underlying47 size_str agg_str rfl HS.out rfl (by omega) (by omega) H0.out ?_; intro p)
    | ((with_reducible refine at_slice rfl ?_); refine wpList_slice_lo rfl _ _ 47 9 rfl Try.underlying47 size_str rfl HR.out (l := 1) rfl rfl (by omega) ?_; intro A1 c1 hrow1 _; have hrow1' : Row w (fun k => F k ∧ OfE w 9 k) 9 1 (.slice A1 r.length c1) r.length (strs r) := hrow1; have HR1 := hide (hrow1'.alloc (.cells #[.string ⟨x.toArray⟩] 9)); clear hrow1 hrow1')
    | (at_builtin; refine wpList_append_row rfl _ _ 47 rfl 9 i0 (.string ⟨#[]⟩) 1 16 Try.underlying47 hi hz0 hz1 hz2 rfl (by decide) rfl HR1.out rfl (reads_one _ _ _ _) (by simp [Value.oneCell']) (by unfold maxLen; omega) (by omega) ?_; intro A2 c2 w1 hrow1 hmod1
       have hb1 : w1.heap[b]? = some (.cells #[.slice A (r.length + 1) c, .map (some m)] 60 (0, 0)) := hmod1.heap (by rw [Below.heap_alloc _ _ _ hbl]; exact HB.out) (fun hh => not_ofE HB.out (by decide) hh.2)
       have hmp1 : Mp w1 Try.prog 9 m (there (x :: r)) (x :: r).length := HMP.out.block (by rw [hmod1.block m (by simp; omega) (fun hh => not_ofE_mp HMP.out hh.2), Below.heap_alloc _ _ _ hml])
       have d0 : w1.cell? ⟨b, 0, none⟩ = some (.slice A (r.length + 1) c) := by rw [cell_of_row w1 b 0 _ _ _ hb1]; rfl
       have f0 := frozen_of_row w1 b 0 _ _ hb1
       have HE := hide (rob_stored (G := fun k => (F k ∧ OfE w 9 k) ∨ k = (w.alloc (.cells #[.string ⟨x.toArray⟩] 9)).heap.size) (M := r ++ [x]) HH.out hFm HND.out (fun k => by simp [or_comm]) (by simp) hb1 hmp1 (((Mod.refl F w).alloc _).trans hmod1 (fun _ _ h => h.1)) (by rw [strs_append, List.length_append]; exact hrow1) (fun k _ hk => hk.elim (fun h => Or.inl h.1) (fun e => Or.inr (by rw [e]; simp))))
       clear hb1 hrow1 hmod1 hmp1))
  go_ret2
  exact ⟨rfl, HE.out⟩

theorem new_any (w : World) :
    Calls Try.prog 20 #[] w fun e w' => ∃ b, e = .returned (.pointer (some ⟨b, 0, none⟩)) ∧ Rob w' (Wide (fun _ => False) w w') b [] ∧ Below w.heap.size w w' := by
  have hmm := @run_makeMap Try.prog
  go_enter Try.func20, Try.ntmps20
  go_wp2
  go_ret
  refine ⟨_, rfl, ⟨.inr ⟨by simp, by simp⟩, Wide.lt (fun _ h => h.elim) (by simp; omega), List.nodup_nil, fun k hk => (by cases hk), .slice none 0 0, w.heap.size, ?_, .inr ⟨Nat.le_refl _, by simp; omega⟩, Row.nil _ _ _ _, ?_⟩,
    ((Below.refl _ _).alloc (Nat.le_refl _) _).alloc (by simp) _⟩
  · have := heap_alloc_new (w.alloc (.map #[] 0)) (.cells #[.slice none 0 0, .map (some w.heap.size)] 60)
    simpa using this
  · exact ((Mp.made w Try.prog 9).block (Below.heap_alloc _ _ _ (by simp))).ext (fun l => by unfold there; rw [if_neg]; rintro ⟨k, hk, _⟩; cases hk)

end Go.Proofs.Ytjajnejijaoblaa.S
