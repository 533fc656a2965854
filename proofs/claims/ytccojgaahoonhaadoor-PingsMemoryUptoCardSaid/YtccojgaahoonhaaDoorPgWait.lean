import Derived.Test.YtccojgaahoonhaaDoorPgApp
import Derived.Test.YtccojgaahoonhaaDoorPgShelf
import Derived.Sort.Grow
/- Waiting: the tokens, rising. -/
namespace Go.Proofs.YtccojgaahoonhaaDoor
open Go Go.RowKit Go.Shelf Go.Cu Go.Sort Go.Proofs.YtccojgaahoonhaaDoor.errs
open Go.Maps (Keyed has)
attribute [local go_sem] Oper.semAt_some

/-- a number of 32 bits -/
structure Tok where
  v : Int
  h0 : 0 ≤ v
  h1 : v ≤ 4294967295
instance : Inhabited Tok := ⟨⟨0, by decide, by decide⟩⟩
def tokE (t : Tok) : Value := .int .u32 t.v
theorem tokE_one : OneCell tokE := fun _ => rfl
/-- what the map holds at it -/
noncomputable def rank (W : List Int) (t : Tok) : Int := open Classical in if t.v ∈ W then t.v else 0
noncomputable def cf (W : List Int) (a b : Tok) : Int := Lib.compareInt (rank W a) (rank W b)
theorem cf_lt (W : List Int) (a b : Tok) : ltOf (cf W) a b = decide (rank W a < rank W b) := by
  unfold ltOf cf Lib.compareInt
  by_cases h1 : rank W a < rank W b
  · simp [h1]
  · by_cases h2 : rank W b < rank W a <;> simp [h1, h2]
theorem cf_swo (W : List Int) : SWO (ltOf (cf W)) where
  irrefl x := by rw [cf_lt]; simp
  trans x y z h1 h2 := by rw [cf_lt] at *; simp at *; omega
  ntrans x y z h1 h2 := by rw [cf_lt] at *; simp at *; omega
theorem rank_run {w : World} {m : Nat} {W : List Int} (hm : Mp w Tryd.prog 30 m (mf W) W.length) (t : Tok) :
    (Instr.lookup 54 (.map (some m)) (.int .u32 t.v) false).run Tryd.prog w = .ok (.int .i64 (rank W t)) w := by
  have h := hm.look (t := 54) law_u32 Tryd.underlying54 (zero_int w) (key_u (wf_u t.h0 t.h1))
  rw [mf_at] at h
  unfold rank
  by_cases hx : t.v ∈ W
  · rw [if_pos hx] at h ⊢; exact h
  · rw [if_neg hx] at h ⊢; exact h
set_option maxRecDepth 100000 in
theorem cmp_any (w : World) (b c m : Nat) (W : List Int) (hb : w.cell? ⟨b, 0, none⟩ = some (ptr c)) (hc : w.cell? ⟨c, 2, none⟩ = some (.map (some m))) (hm : Mp w Tryd.prog 30 m (mf W) W.length) (x y : Tok) :
    Calls Tryd.prog 23 #[tokE x, tokE y, ptr b] w fun e w' => e = .returned (.int .i64 (cf W x y)) ∧ ∃ q, w' = w.drewN q := by
  have hx : ∀ j, (Instr.lookup 54 (.map (some m)) (.int .u32 x.v) false).run Tryd.prog (w.drewN j) = .ok (.int .i64 (rank W x)) (w.drewN j) := fun j => rank_run (hm.block ((dn_below w j).block _ hm.lt)) x
  have hy : ∀ j, (Instr.lookup 54 (.map (some m)) (.int .u32 y.v) false).run Tryd.prog (w.drewN j) = .ok (.int .i64 (rank W y)) (w.drewN j) := fun j => rank_run (hm.block ((dn_below w j).block _ hm.lt)) y
  have HC : ∀ j, Hid (Calls Tryd.prog 24 #[.int .i64 (rank W x), .int .i64 (rank W y)] (w.drewN j) fun e w' => e = .returned (.int .i64 (cf W x y)) ∧ w' = w.drewN j) := fun j => hide (Tryd.cmp_Compare_int _ _ _)
  generalize cf W x y = r at HC ⊢
  generalize rank W x = rx at HC hx
  generalize rank W y = ry at HC hy
  obtain ⟨x, _, _⟩ := x
  obtain ⟨y, _, _⟩ := y
  unfold tokE
  simp only at hx hy ⊢
  clear hm
  go_enter Tryd.func23, Tryd.ntmps23
  go_wp2_with fail
  go_quiet ((go_at_call 24; exact Calls.quiet_of_same (HC _).out))
  go_wp2
  go_ret
  exact ⟨rfl, _, rfl⟩

theorem mod_sort {α : Type} [Inhabited α] (enc : α → Value) (w : World) (g o k : Nat) (d : Array α) (os : Array Obj) : Mod (fun j => j = g) w (sortWorld enc w g o k d os) := by
  refine ⟨rfl, rfl, rfl, by simp [sortWorld], fun j hj hne => ?_⟩
  unfold sortWorld
  rw [heap_grow_old _ _ (by simpa using hj)]
  have : g ≠ j := fun e => hne e.symm
  simp [putRow, mapBlock, Sort.ahead, Array.getElem?_modify, this]
/-- a row of a block of the call's own, as one that can be sorted -/
theorem own_holds {α : Type} [Inhabited α] {enc : α → Value} {w : World} {B : Nat} {e : TypeId} {v : Value} {n : Nat} {xs : List α} (h : w.ownsRow B e 1 v n (xs.map enc)) (hn : 0 < n) (hl : xs.length = n) :
    ∃ g cap cur, v = .slice (some ⟨g, 0, none⟩) n cap ∧ B ≤ g ∧ w.heap[g]? = some (.cells cur e (0, 0)) ∧ n ≤ cap ∧ cap ≤ maxLen ∧ cur.size = cap ∧ Holds enc w g 0 xs.toArray := by
  rcases h.2 with ⟨_, h0⟩ | ⟨g, cap, cur, rfl, hb, hg, h1, h2, h3, h4⟩
  · omega
  refine ⟨g, cap, cur, rfl, hb, hg, h1, h2, by simpa using h3, fun j hj => ?_⟩
  have hj' : j < xs.length := by simpa using hj
  have hc : cur[j]? = some (enc xs.toArray[j]!) := by
    have h5 : (cur.toList.take (n * 1))[j]? = (xs.map enc)[j]? := by rw [h4]
    rw [List.getElem?_take, if_pos (by omega), List.getElem?_map, List.getElem?_eq_getElem hj'] at h5
    simpa [hj'] using h5
  constructor
  · rw [cell_of_row _ g (0 + j) _ _ _ hg]
    simpa using hc
  · exact frozen_of_row _ _ _ _ _ hg
/-- behind the sort -/
theorem own_sorted {α : Type} [Inhabited α] {enc : α → Value} {w : World} {F : Nat → Prop} {e : TypeId} {g n cap k : Nat} {cur : Array Value} {os : Array Obj} (hF : F g) (hg : w.heap[g]? = some (.cells cur e (0, 0))) (h1 : n ≤ cap) (h2 : cap ≤ maxLen) (h3 : cur.size = cap) (d : Array α) (hd : d.size = n) :
    Row (sortWorld enc w g 0 k d os) F e 1 (.slice (some ⟨g, 0, none⟩) n cap) n (d.toList.map enc) := by
  refine ⟨by simp [hd], _, cap, rfl, h1, h2, .inr ⟨g, 0, putCells enc 0 d cur, rfl, hF, ?_, by simp [putCells, h3], fun j hj => ?_⟩⟩
  · have hlt : g < w.heap.size := (Array.getElem?_eq_some_iff.1 hg).1
    unfold sortWorld
    rw [heap_grow_old _ _ (by simpa using hlt)]
    simp [putRow, mapBlock, Sort.ahead, Array.getElem?_modify, hg, onCells]
  · have hjl : j < d.size := by omega
    have hjc : j < cur.size := by omega
    rw [List.getElem?_map]
    simp [putCells, hjc, hjl]
theorem toks (L : List Int) (h : ∀ t ∈ L, 0 ≤ t ∧ t ≤ 4294967295) : ∃ T : List Tok, T.map (·.v) = L := by
  induction L with
  | nil => exact ⟨[], rfl⟩
  | cons x r ih =>
    obtain ⟨T, hT⟩ := ih fun t ht => h t (by simp [ht])
    have hx := h x (by simp)
    exact ⟨⟨x, hx.1, hx.2⟩ :: T, by simp [hT]⟩
/-- the members of a rising list, sorted, are it -/
theorem sorted_is (W : List Int) (hW : W.Pairwise (· < ·)) (d d' : Array Tok) (hn : (d.toList.map (·.v)).Nodup) (hm : ∀ x, x ∈ d.toList.map (·.v) ↔ x ∈ W) (hp : PermIn 0 d.size d d') (hs : SortedIn (ltOf (cf W)) 0 d.size d') : d'.toList.map (·.v) = W := by
  obtain ⟨p1, _, p3⟩ := hp
  have e1 : (d'.extract 0 d.size) = d' := by rw [← p1]; simp
  rw [e1, Array.extract_size] at p3
  have p4 : (d'.toList.map (·.v)).Perm (d.toList.map (·.v)) := p3.map _
  have hn' : (d'.toList.map (·.v)).Nodup := p4.nodup_iff.2 hn
  have hWn : W.Nodup := hW.imp fun h e => by omega
  have hp2 : (d'.toList.map (·.v)).Perm W := by
    rw [List.perm_iff_count]
    intro a
    rw [hn'.count, hWn.count]
    have : a ∈ d'.toList.map (·.v) ↔ a ∈ W := by rw [p4.mem_iff]; exact hm a
    by_cases ha : a ∈ W <;> simp [ha, this.2, mt this.1]
  refine hp2.eq_of_pairwise (le := fun a b => a ≤ b) (fun a b _ _ h1 h2 => by omega) ?_ (hW.imp fun h => by omega)
  rw [List.pairwise_iff_getElem]
  intro i j hi hj hij
  have hi' : i < d'.size := by simpa using hi
  have hj' : j < d'.size := by simpa using hj
  have h := hs i j (Nat.zero_le _) hij (by omega)
  rw [cf_lt] at h
  have r1 : ∀ i, i < d'.size → rank W d'[i]! = d'[i]!.v := fun i hi => by
    unfold rank
    rw [if_pos]
    refine (hm _).1 (p4.mem_iff.1 (List.mem_map.2 ⟨_, ?_, rfl⟩))
    rw [getElem!_pos _ i hi]
    simp
  rw [r1 i hi', r1 j hj'] at h
  rw [getElem!_pos _ i hi', getElem!_pos _ j hj'] at h
  simp only [List.getElem_map, Array.getElem_toList]
  simp at h
  omega
/-- of nothing -/
theorem isort_none (w : World) (cv : Value) : Calls Tryd.prog 45 #[.slice none 0 0, .int .i64 0, .int .i64 0, cv] w fun e w' => (∃ v, e = .returned v) ∧ w' = w := by
  go_enter Tryd.func45, Tryd.ntmps45
  go_wp2
  refine wp_loop_rounds 1 ?_
  rw [rounds_succ]
  go_wp2
  go_end0
  exact ⟨⟨_, rfl⟩, rfl⟩
set_option maxRecDepth 100000 in
theorem len64_zero (w : World) : Calls Tryd.prog 54 #[.int .u64 0] w fun e w' => (∃ v, e = .returned v) ∧ w' = w := by
  go_enter Tryd.func54, Tryd.ntmps54
  go_wp2
  go_ret
  exact ⟨⟨_, rfl⟩, rfl⟩
theorem len_zero (w : World) : Calls Tryd.prog 44 #[.int .u64 0] w fun e w' => (∃ v, e = .returned v) ∧ w' = w := by
  go_enter Tryd.func44, Tryd.ntmps44
  go_wp2_with fail
  refine (len64_zero w).mono ?_
  rintro e w1 ⟨⟨v, rfl⟩, rfl⟩
  go_wp2
  go_ret
  exact ⟨⟨_, rfl⟩, rfl⟩
theorem pdq_none (w : World) (lv cv : Value) : Calls Tryd.prog 43 #[.slice none 0 0, .int .i64 0, .int .i64 0, lv, cv] w fun e w' => (∃ v, e = .returned v) ∧ w' = w := by
  go_enter Tryd.func43, Tryd.ntmps43
  go_wp2
  refine wp_loop_rounds 1 ?_
  rw [rounds_succ]
  go_wp2_with fail
  refine (isort_none w cv).mono ?_
  rintro e w1 ⟨⟨v, rfl⟩, rfl⟩
  go_wp2
  refine bodyPost_ret (results_none rfl _ _ _) rfl ?_
  exact ⟨⟨_, rfl⟩, rfl⟩
theorem sortfunc_none (w : World) (cv : Value) : Calls Tryd.prog 35 #[.slice none 0 0, cv] w fun e w' => (∃ v, e = .returned v) ∧ w' = w := by
  go_enter Tryd.func35, Tryd.ntmps35
  go_wp2_with fail
  refine (len_zero w).mono ?_
  rintro e w1 ⟨⟨lv, rfl⟩, rfl⟩
  go_wp2_with fail
  refine (pdq_none w1 lv cv).mono ?_
  rintro e w2 ⟨⟨v, rfl⟩, rfl⟩
  go_wp2
  go_end0
  exact ⟨⟨_, rfl⟩, rfl⟩
/-- slices.SortFunc of what was collected -/
theorem sort_got (w0 w : World) (b c m : Nat) (W : List Int) (v : Value) (hG : Got w0 W v w) (hW : W.Pairwise (· < ·)) (hW1 : ∀ t ∈ W, 0 ≤ t ∧ t ≤ 4294967295) (hW2 : W.length ≤ 4294967296)
    (hb : w.cell? ⟨b, 0, none⟩ = some (ptr c)) (hc : w.cell? ⟨c, 2, none⟩ = some (.map (some m))) (hm : Mp w Tryd.prog 30 m (mf W) W.length) (lb : b < w0.heap.size) (lc : c < w0.heap.size) (lm : m < w0.heap.size) :
    Calls Tryd.prog 35 #[v, .func (.func 23) #[] #[ptr b]] w fun e w' => (∃ u, e = .returned u) ∧ Row w' (fun k => w0.heap.size ≤ k) 30 1 v W.length (us W) ∧ (v = .slice none 0 0 ↔ W = []) ∧ Below w0.heap.size w0 w' := by
  obtain ⟨ys, ⟨hn, hmem⟩, hrow, hnil, hB⟩ := hG
  by_cases h0 : ys = []
  · have hv := hnil.2 h0
    subst h0
    have hW0 : W = [] := by
      cases W with
      | nil => rfl
      | cons x r => exact absurd ((hmem x).2 (by simp)) (by simp)
    subst hW0
    subst hv
    refine (sortfunc_none w _).mono ?_
    rintro e w' ⟨⟨u, rfl⟩, rfl⟩
    exact ⟨⟨u, rfl⟩, Row.nil _ _ _ _, by simp, hB⟩
  · obtain ⟨T, hT⟩ := toks ys fun t ht => hW1 t ((hmem t).1 ht)
    have hTl : T.length = ys.length := by rw [← hT]; simp
    have hu : us ys = T.map tokE := by rw [← hT]; simp [us, tokE, List.map_map, Function.comp_def]
    rw [hu] at hrow
    have hpos : 0 < ys.length := List.length_pos_iff.2 h0
    obtain ⟨g, cap, cur, rfl, hge, hg, h1, h2, h3, hH⟩ := own_holds hrow hpos hTl
    have hlen : ys.length = W.length := by
      have hp : ys.Perm W := by
        have hWn : W.Nodup := hW.imp fun h e => by omega
        rw [List.perm_iff_count]
        intro a
        rw [hn.count, hWn.count]
        by_cases ha : a ∈ W <;> simp [ha, (hmem a).2, mt (hmem a).1]
      exact hp.length_eq
    have hgl : g < w.heap.size := (Array.getElem?_eq_some_iff.1 hg).1
    have eg : ∀ args w, (callFunc 23 args).run Tryd.prog w = .ok (.enter 23 args) w := enters_of Tryd.func23 (by kernel_rfl) rfl
    have hcmp : CmpReads Tryd.prog 23 #[ptr b] tokE (cf W) g 0 T.toArray.size w := fun n os dk _ x y => by
      have hmod := mod_sort tokE w g 0 n dk os
      refine cmp_any _ b c m W ?_ ?_ (hm.block (hmod.block m hm.lt (by omega))) x y
      · exact (World.cell?_of_block (w := w) (hmod.block b (World.block_lt_of_cell? w _ hb) (by omega))).trans hb
      · exact (World.cell?_of_block (w := w) (hmod.block c (World.block_lt_of_cell? w _ hc) (by omega))).trans hc
    have hcon := Tryd.slices_SortFunc tokE tokE_one (cf W) (cf_swo W) 23 #[ptr b] g 0 cap T.toArray w eg hcmp.lays hH hgl (by simp; omega)
    rw [List.size_toArray, hTl] at hcon
    refine hcon.mono ?_
    rintro e w' ⟨rfl, d', n, os, hp, hs, rfl⟩
    have hd : d'.size = ys.length := by rw [hp.1]; simp [hTl]
    have hs' := sorted_is W hW T.toArray d' (by simpa [hT] using hn) (by simpa [hT] using hmem) (by simpa [hTl] using hp) (by simpa [hTl] using hs)
    refine ⟨⟨_, rfl⟩, ?_, ⟨fun h => by simp at h, fun h => ?_⟩, hB.trans ((mod_sort tokE w g 0 n d' os).below hB.size (fun k hk => by subst hk; exact hge))⟩
    · have := own_sorted (enc := tokE) (F := fun k => w0.heap.size ≤ k) (k := n) (os := os) hge hg h1 h2 h3 d' hd
      rw [show d'.toList.map tokE = us W by rw [← hs']; simp [us, tokE, List.map_map, Function.comp_def]] at this
      rwa [hlen] at this ⊢
    · rw [h] at hlen
      exact absurd (List.eq_nil_of_length_eq_zero hlen) h0
/-- what Waiting hands back -/
def Rising (w : World) (W : List Int) (v : Value) (w' : World) : Prop := Row w' (fun k => w.heap.size ≤ k) 30 1 v W.length (us W) ∧ (v = .slice none 0 0 ↔ W = []) ∧ Below w.heap.size w w'
theorem sorted_any (w : World) (p b c m : Nat) (W : List Int) (hp : w.cell? ⟨p, 0, none⟩ = some (.map (some m))) (hW : W.Pairwise (· < ·)) (hW1 : ∀ t ∈ W, 0 ≤ t ∧ t ≤ 4294967295) (hW2 : W.length ≤ 4294967296)
    (hb : w.cell? ⟨b, 0, none⟩ = some (ptr c)) (hc : w.cell? ⟨c, 2, none⟩ = some (.map (some m))) (hm : Mp w Tryd.prog 30 m (mf W) W.length) :
    Calls Tryd.prog 21 #[.func (.func 36) #[] #[ptr p], .func (.func 23) #[] #[ptr b]] w fun e w' => ∃ v, e = .returned v ∧ Rising w W v w' := by
  have HO := hide (collect_any w p m hp W hW2 hm)
  have lb := World.block_lt_of_cell? w _ hb
  have lc := World.block_lt_of_cell? w _ hc
  have lm := hm.lt
  have HS : ∀ v w1, Got w W v w1 → Hid (Calls Tryd.prog 35 #[v, .func (.func 23) #[] #[ptr b]] w1 fun e w' => (∃ u, e = .returned u) ∧ Rising w W v w') := fun v w1 hG => by
    have hB := hG.choose_spec.2.2.2
    exact hide (sort_got w w1 b c m W v hG hW hW1 hW2 ((hB.cell lb).trans hb) ((hB.cell lc).trans hc) (hm.block (hB.block _ lm)) lb lc lm)
  clear hp hm hb hc
  go_enter Tryd.func21, Tryd.ntmps21
  go_wp2_with fail
  refine HO.out.mono ?_
  rintro e w1 ⟨v, rfl, hG⟩
  have HS1 := HS v w1 hG
  clear hG HS
  go_wp2_with fail
  refine HS1.out.mono ?_
  rintro e w2 ⟨⟨u, rfl⟩, hR⟩
  have HR := hide hR
  clear hR
  go_wp2
  go_ret
  exact ⟨v, rfl, HR.out⟩
variable {c m q : Nat} {FT FO : Nat → Prop} {most n : Nat} {W T O : List Int}
theorem waiting_any (w : World) (h : PG w c m q FT FO most n W T O) : Calls Tryd.prog 13 #[ptr c] w fun e w' => ∃ v, e = .returned v ∧ Rising w W v w' := by
  have hal : Below w.heap.size w (w.alloc (.cells #[ptr c] 24)) := (Below.refl _ _).alloc (Nat.le_refl _) _
  have h1 := h.past hal
  obtain ⟨A, d, hcc, _⟩ := h1.cells
  have HH := hide h1
  have HAl := hide hal
  have c2 : (w.alloc (.cells #[ptr c] 24)).cell? ⟨c, 2, none⟩ = some (.map (some m)) := by rw [cell_of_row _ c 2 _ _ _ hcc]; rfl
  have HC := hide c2
  have hbx : (w.alloc (.cells #[ptr c] 24)).cell? ⟨w.heap.size, 0, none⟩ = some (ptr c) := by rw [cell_of_row _ w.heap.size 0 _ _ _ (heap_alloc_new w _)]; rfl
  have HBx := hide hbx
  have HI := hide h.inc
  have HR := hide (Nat.le_trans h.room h.m2)
  have HN := hide h.nn
  clear h h1 hal hcc hbx
  go_enter Tryd.func13, Tryd.ntmps13
  go_wp2_with fail
  refine (keys_val _ m).mono ?_
  rintro e w1 ⟨p, rfl, _, hp, hb⟩
  have HB := hide (HAl.out.trans (hb.mono HAl.out.size))
  have HS := hide (sorted_any w1 p w.heap.size c m W hp HI.out.up (fun t ht => by have := HI.out.bd t ht; have := HN.out; omega) (by have := HR.out; omega) ((hb.cell (World.block_lt_of_cell? _ _ HBx.out)).trans HBx.out) ((hb.cell (World.block_lt_of_cell? _ _ HC.out)).trans HC.out) (HH.out.past hb).mp)
  clear hp hb c2
  go_wp2_with fail
  refine HS.out.mono ?_
  rintro e w2 ⟨v, rfl, hr, hnil, hb⟩
  have HF := hide (⟨Row.mono hr (fun k hk _ => Nat.le_trans HB.out.size hk), hnil, HB.out.trans (hb.mono HB.out.size)⟩ : Rising w W v w2)
  clear hr hb hnil
  go_wp2
  go_ret
  exact ⟨v, rfl, HF.out⟩
end Go.Proofs.YtccojgaahoonhaaDoor
