import Derived.Test.YtjkahckglhpjeaaDoorHDrop
import Derived.Test.YtjkahckglhpjeaaDoorSortRow
import Derived.Test.YtjkahckglhpjeaaDoorHShelf
import Derived.Maps.RangeWalk
import Derived.Deep.CutRange
import Derived.Deep.LoopGhost
/- On: the handles of a connection's life. -/
namespace Go.Proofs.YtjkahckglhpjeaaDoor
open Go Go.RowKit Go.Cu Go.Sort
open Go.Maps (Keyed)

def sel (conn life : Int) (e : HE) : Bool := decide (e.p.conn = conn) && decide (e.p.life = life)
def onF (L : List HE) (conn life : Int) : List Int := (L.filter (sel conn life)).map (·.h)
def ints (L : List Int) : List Value := L.map (Value.int .i64)
theorem ints_length (L : List Int) : (ints L).length = L.length := by simp [ints]
theorem ints_get {L : List Int} {i : Nat} {x : Int} (h : L[i]? = some x) : (ints L)[i]? = some (.int .i64 x) := by simp [ints, h]
theorem ints_append (L M : List Int) : ints L ++ ints M = ints (L ++ M) := by simp [ints]
theorem ints_one (L : List Int) : ∀ u ∈ ints L, u.oneCell' = true := by
  intro u hu
  obtain ⟨x, _, rfl⟩ := List.mem_map.1 hu
  rfl
theorem info_int : (Tryd.prog.info? 3).map (fun i => (i.zero, i.size, i.bytes)) = some (some (.int .i64 0), 1, 8) := by kernel_rfl
theorem size_int : (Tryd.prog.info? 3).map (·.size) = some 1 := by kernel_rfl
theorem agg_int (w : World) : (isAgg 3).run Tryd.prog w = .ok false w := by kernel_rfl
theorem onF_rise {L : List HE} (h : L.Pairwise (fun x y => x.h < y.h)) (conn life : Int) : (onF L conn life).Pairwise (fun x y => x < y) := (h.filter _).map _ (fun _ _ h => h)
theorem onF_len (L : List HE) (conn life : Int) : (onF L conn life).length ≤ L.length := by
  unfold onF
  rw [List.length_map]
  exact List.length_filter_le _ _
/-- what has been met of it -/
structure Coll (L : List HE) (conn life : Int) (left : Lit → Bool) (xs : List Int) : Prop where
  nodup : xs.Nodup
  mem : ∀ x, x ∈ xs ↔ ∃ e ∈ L, e.h = x ∧ sel conn life e = true ∧ left (k1 e) = false
theorem strike (left : Lit → Bool) (e e' : HE) : ((left (k1 e') && !(k1 e').sameKey (k1 e)) = false) ↔ (left (k1 e') = false ∨ e'.h = e.h) := by
  cases hl : left (k1 e')
  · simp
  · cases hs : (k1 e').sameKey (k1 e)
    · have hne : e'.h ≠ e.h := fun he => by
        have h2 := WideAt.sameKey_self (a := k1 e) trivial
        have h3 : k1 e' = k1 e := by unfold k1; rw [he]
        rw [h3, h2] at hs
        cases hs
      simp [hne]
    · have h2 := WideAt.sameKey_eq hs
      injection h2 with _ h2
      simp [h2]
theorem mf_has {α : Type} {κ : α → Lit} {ν : α → Value} {L : List α} {e : α} (he : e ∈ L) : ∃ v, mf κ ν L (κ e) = some v := by
  induction L with
  | nil => exact (List.not_mem_nil he).elim
  | cons x r ih =>
    by_cases hx : κ x = κ e
    · rw [← hx]
      exact ⟨_, mf_cons_same x r⟩
    · rcases List.mem_cons.1 he with rfl | he
      · exact absurd rfl hx
      · rw [mf_cons_other hx]
        exact ih he
theorem Coll.start {L : List HE} {conn life : Int} {D : DataW Value} (hL : ∀ l, (mf k1 v1 L l = none → Maps.has D l = false) ∧ ∀ v, mf k1 v1 L l = some v → Maps.has D l = true ∧ ∀ z, D.atKey l z = .held v) : Coll L conn life (Maps.has D) [] := by
  refine ⟨List.nodup_nil, fun x => ⟨fun h => (List.not_mem_nil h).elim, ?_⟩⟩
  rintro ⟨e, he, _, _, h4⟩
  obtain ⟨v, hv⟩ := mf_has (κ := k1) (ν := v1) he
  rw [((hL _).2 v hv).1] at h4
  cases h4
theorem Coll.step {L : List HE} {conn life : Int} {left : Lit → Bool} {xs : List Int} (h : Coll L conn life left xs) {e : HE} (he : e ∈ L) (hl : left (k1 e) = true) (hs : sel conn life e = true) : Coll L conn life (fun z => left z && !z.sameKey (k1 e)) (xs ++ [e.h]) := by
  refine ⟨?_, fun x => ?_⟩
  · rw [List.nodup_append]
    refine ⟨h.nodup, by simp, fun a ha b hb hab => ?_⟩
    rw [List.mem_singleton] at hb
    obtain ⟨e', _, he', _, hl'⟩ := (h.mem a).1 ha
    have h3 : k1 e' = k1 e := by unfold k1; rw [he', hab, hb]
    rw [h3, hl] at hl'
    cases hl'
  · rw [List.mem_append, List.mem_singleton, h.mem]
    constructor
    · rintro (⟨e', h1, h2, h3, h4⟩ | rfl)
      · exact ⟨e', h1, h2, h3, (strike left e e').2 (.inl h4)⟩
      · exact ⟨e, he, rfl, hs, (strike left e e).2 (.inr rfl)⟩
    · rintro ⟨e', h1, h2, h3, h4⟩
      rcases (strike left e e').1 h4 with h4 | h4
      · exact .inl ⟨e', h1, h2, h3, h4⟩
      · exact .inr (h2 ▸ h4)
theorem Coll.pass {L : List HE} {conn life : Int} {left : Lit → Bool} {xs : List Int} (h : Coll L conn life left xs) (hr : L.Pairwise (fun x y => x.h ≠ y.h)) {e : HE} (he : e ∈ L) (hs : sel conn life e = false) : Coll L conn life (fun z => left z && !z.sameKey (k1 e)) xs := by
  have huniq : ∀ e' ∈ L, e'.h = e.h → e' = e := by
    intro e' he' hh
    obtain ⟨i, hi⟩ := List.mem_iff_getElem?.1 he'
    obtain ⟨j, hj⟩ := List.mem_iff_getElem?.1 he
    obtain ⟨hi1, hi2⟩ := List.getElem?_eq_some_iff.1 hi
    obtain ⟨hj1, hj2⟩ := List.getElem?_eq_some_iff.1 hj
    rcases Nat.lt_trichotomy i j with h | h | h
    · exact absurd hh (by have := List.pairwise_iff_getElem.1 hr i j hi1 hj1 h; rwa [hi2, hj2] at this)
    · subst h
      rw [← hi2, ← hj2]
    · exact absurd hh.symm (by have := List.pairwise_iff_getElem.1 hr j i hj1 hi1 h; rwa [hi2, hj2] at this)
  refine ⟨h.nodup, fun x => ?_⟩
  rw [h.mem]
  constructor
  · rintro ⟨e', h1, h2, h3, h4⟩
    exact ⟨e', h1, h2, h3, (strike left e e').2 (.inl h4)⟩
  · rintro ⟨e', h1, h2, h3, h4⟩
    rcases (strike left e e').1 h4 with h4 | h4
    · exact ⟨e', h1, h2, h3, h4⟩
    · rw [huniq e' h1 h4, hs] at h3
      cases h3
theorem Coll.done {L : List HE} {conn life : Int} {left : Lit → Bool} {xs : List Int} (h : Coll L conn life left xs) (hr : L.Pairwise (fun x y => x.h < y.h)) (hl : ∀ kl, left kl = false) : xs.Perm (onF L conn life) := by
  have hn : (onF L conn life).Nodup := (onF_rise hr conn life).imp (fun h => by omega)
  rw [List.perm_ext_iff_of_nodup h.nodup hn]
  intro x
  rw [h.mem]
  unfold onF
  rw [List.mem_map]
  constructor
  · rintro ⟨e, h1, h2, h3, _⟩
    exact ⟨e, List.mem_filter.2 ⟨h1, h3⟩, h2⟩
  · rintro ⟨e, h1, h2⟩
    obtain ⟨h1, h3⟩ := List.mem_filter.1 h1
    exact ⟨e, h1, h2, h3, hl _⟩
open Classical in
theorem mf_some {α : Type} {κ : α → Lit} {ν : α → Value} {L : List α} {l : Lit} {v : Value} (h : mf κ ν L l = some v) : ∃ e ∈ L, κ e = l ∧ ν e = v := by
  unfold mf at h
  obtain ⟨e, hf, hv⟩ := Option.map_eq_some_iff.1 h
  have h1 := List.find?_some hf
  exact ⟨e, List.mem_of_find?_eq_some hf, (of_decide_eq_true h1).symm, hv⟩
theorem ranges_mod {H : Type} {P : Program} {k : TypeId} {R : Value → Option (DataW H × List MemPlace)} {w w' : World} {b r n : Nat} {D : DataW H} {left : Lit → Bool} {cnt : Nat} {G : Nat → Prop}
    (h : w.ranges P k R b r n D left cnt) (hm : Mod G w w') (hb : ¬ G b) (hr : ¬ G r) : w'.ranges P k R b r n D left cnt := by
  obtain ⟨es, clock, since, seen, c0, h1, F, hs, hD, h2, rest⟩ := h
  exact ⟨es, clock, since, seen, c0, hm.heap h1 hb, F, hs, hD, hm.heap h2 hr, rest⟩
theorem ranges_row {H : Type} {P : Program} {k : TypeId} {R : Value → Option (DataW H × List MemPlace)} {w : World} {b r n : Nat} {D : DataW H} {left : Lit → Bool} {cnt : Nat} (h : w.ranges P k R b r n D left cnt) (e : TypeId) : ¬ OfE w e b ∧ ¬ OfE w e r := by
  obtain ⟨es, clock, since, seen, c0, h1, F, hs, hD, h2, rest⟩ := h
  refine ⟨not_ofE_map h1, ?_⟩
  rintro ⟨cur, h⟩
  rw [h2] at h
  cases h
section
variable {w : World} {ops : Array Oper} {rest : List Oper} {o : Oper} {a : Act} {Q : Exit → Act → World → Prop}
/-- one step over the places -/
theorem wpList_next_h (hg : o.guard = none) (it : Operand) (hop : o.op = Op.next it false) {L : List HE} {m1 r n : Nat} {D : DataW Value} {left : Lit → Bool} {cnt : Nat}
    (hit : a.eval it = .pointer (some ⟨r, 0, none⟩)) (h : w.ranges Tryd.prog 3 heldR m1 r n D left cnt)
    (hL : ∀ l, (mf k1 v1 L l = none → Maps.has D l = false) ∧ ∀ v, mf k1 v1 L l = some v → Maps.has D l = true ∧ ∀ z, D.atKey l z = .held v)
    (hDone : (∀ kl, left kl = false) → wpList Tryd.prog ops Q rest (a.put o.dst (.tuple #[.bool false])) w)
    (hMore : ∀ e ∈ L, ∀ (w' : World) (cnt' : Nat), left (k1 e) = true → w'.ranges Tryd.prog 3 heldR m1 r n D (fun z => left z && !z.sameKey (k1 e)) cnt' → cnt' < cnt → w.grownBy w' (some r) → w'.heap.size = w.heap.size →
      (Instr.entry (.pointer (some ⟨r, 0, none⟩))).run Tryd.prog w' = .ok (.tuple #[.int .i64 e.h, .agg #[.int .i64 e.p.conn, .int .i64 e.p.life, .int .u32 e.p.id]]) w' → wpList Tryd.prog ops Q rest (a.put o.dst (.tuple #[.bool true, .int .i64 e.h, .agg #[.int .i64 e.p.conn, .int .i64 e.p.life, .int .u32 e.p.id]])) w') :
    wpList Tryd.prog ops Q (o :: rest) a w := by
  refine wpList_next_ranges w hg it hop 3 law_int heldR (Value.int .i64) (fun v : Value => v) (fun key kl hkey => by obtain ⟨x, rfl, _⟩ := Maps.keyOf_int_inv Tryd.underlying3 hkey; exact ⟨x, rfl⟩) (fun v y hv => ⟨v, rfl⟩)
    m1 r n D left cnt hit h (fun _ hl => hDone hl) (fun x c kl y w' cnt' hkey hlk hv hat hrg hlt hgr hsz hen => ?_)
  obtain ⟨x', ex, rfl, hwx⟩ := Maps.keyOf_int_inv Tryd.underlying3 hkey
  cases ex
  have hy : y = (.held c, []) := by simpa [heldR] using hv.symm
  subst hy
  have hex : ∃ e ∈ L, k1 e = .int .i64 x ∧ v1 e = c := by
    cases hm : mf k1 v1 L (.int .i64 x) with
    | none =>
      have h1 := (hL _).1 hm
      have h2 := hat .nil
      rw [Maps.atKey_of_not_has h1] at h2
      cases h2
    | some v =>
      have h1 := ((hL _).2 v hm).2 .nil
      rw [hat] at h1
      injection h1 with h1
      subst h1
      exact mf_some hm
  obtain ⟨e, he, h1, h2⟩ := hex
  injection h1 with _ h1
  subst h1
  subst h2
  exact hMore e he w' cnt' hlk hrg hlt hgr hsz hen
end
theorem on_nil (w : World) (conn life : Int) : Calls Tryd.prog 12 #[.pointer none, .int .i64 conn, .int .i64 life] w fun r w' => r = .returned (.slice none 0 0) ∧ w = w' := by
  go_enter Tryd.func12, Tryd.ntmps12
  go_wp2
  go_ret
  exact ⟨rfl, rfl⟩
theorem Mp.sizes {w : World} {P : Program} {k : TypeId} {b n : Nat} {m : Lit → Option Value} (h : Mp w P k b m n) : ∃ D : DataW Value, w.ownsMap P k heldR b n D ∧ Maps.size D = n ∧ ∀ l, (m l = none → Maps.has D l = false) ∧ ∀ v, m l = some v → Maps.has D l = true ∧ ∀ z, D.atKey l z = .held v := h
set_option maxRecDepth 10000 in
set_option maxHeartbeats 1000000 in
theorem on_any (w : World) (c m1 m2 g : Nat) (L : List HE) (h : HS w c m1 m2 g L) (conn life : Int) :
    Calls Tryd.prog 12 #[ptr c, .int .i64 conn, .int .i64 life] w fun r w' => ∃ A n cc, r = .returned (.slice A n cc) ∧ n = (onF L conn life).length ∧ Row w' (New w) 3 1 (.slice A n cc) n (ints (onF L conn life)) ∧ Below w.heap.size w w' := by
  obtain ⟨c0, c1, c2, _⟩ := h.facts
  obtain ⟨D, hD, hs, hL⟩ := Mp.sizes h.pm
  obtain ⟨i0, hi0, hz0, hz1, hz2⟩ := info_parts info_int
  have HH := hide h
  have HD := hide hD
  have HL := hide hL
  have hlen : L.length ≤ 2147483648 := Nat.le_trans h.len_le h.top
  have HLen := hide hlen
  have HS0 := hide hs
  have hm1 := h.pm.lt
  clear h hD hL hs hlen c0 c2
  go_enter Tryd.func12, Tryd.ntmps12
  go_wp2_with (first
    | (at_range; refine wpList_range_own _ rfl _ 59 rfl 3 28 law_int Tryd.underlying59 heldR m1 L.length D rfl HD.out ?_
       intro w0 hrg0 hg0 hs0
       have HR0 := hide hrg0
       have HG0 := hide hg0
       clear hrg0 hg0 hs0)
    | fail)
  go_frame
  obtain ⟨r, hr⟩ : ∃ r, w.heap.size = r := ⟨_, rfl⟩
  have HRr := hide hr
  have HRg : Hid (w0.ranges Tryd.prog 3 heldR m1 r L.length D (Maps.has D) (Maps.size D)) := hide (hr ▸ HR0.out)
  have HBl : Hid (Below w.heap.size w w0) := hide ⟨HG0.out.os, HG0.out.tape, HG0.out.output, HG0.out.size, fun i hi => HG0.out.block i hi (fun e => by cases e)⟩
  rw [hr]
  clear hr HR0 HG0
  go_loopw [7] (fun v wr => ∃ left cnt A n cc xs, v = .slice A n cc ∧ n + cnt ≤ L.length ∧ Hid (wr.ranges Tryd.prog 3 heldR m1 r L.length D left cnt) ∧ Hid (Row wr (New w) 3 1 (.slice A n cc) n (ints xs)) ∧ Hid (Coll L conn life left xs) ∧ Hid (Below w.heap.size w wr)) (fun _ wr => wr.rangeLeft m1 r)
  case atStart => exact ⟨_, _, none, 0, 0, [], rfl, by have := HS0.out; omega, HRg, hide (Row.nil _ _ _ _), hide (Coll.start HL.out), HBl⟩
  case round =>
    obtain ⟨left, cnt, A, n, cc, xs, rfl, hnc, HRg, HRow, HC, HB⟩ := hrel
    go_wp2_with (first
      | (at_next; refine wpList_next_h rfl _ rfl (L := L) rfl HRg.out HL.out ?_ ?_)
      | fail)
    · intro hl0
      have HP := hide (HC.out.done HH.out.rise hl0)
      go_wp2_with fail
      rcases Nat.eq_zero_or_pos n with rfl | hpos
      · obtain rfl : xs = [] := List.eq_nil_of_length_eq_zero (by have := HRow.out.1; rw [ints_length] at this; omega)
        refine (Tryd.slices_Sort_int_none A cc wr).mono ?_
        rintro r2 w' ⟨rfl, rfl⟩
        go_wp2
        go_ret
        have h0 : onF L conn life = [] := List.nil_perm.1 HP.out
        rw [h0]
        exact ⟨A, _, cc, rfl, rfl, HRow.out, HB.out⟩
      · obtain ⟨g2, o2, rfl, hxl, hF, hlt, hh⟩ := row_holds HRow.out hpos
        subst hxl
        have HRow2 := HRow
        have HPos := hide hpos
        have hxs : xs.length < 4611686018427387904 := by have := HLen.out; omega
        clear hpos
        refine (Tryd.slices_Sort_int g2 o2 cc xs wr hh hlt hxs).mono ?_
        rintro r2 w' ⟨rfl, kk, os, rfl⟩
        have hsr := sort_rising HP.out (onF_rise HH.out.rise conn life)
        rw [hsr]
        have hl := HP.out.length_eq
        obtain ⟨hrow, hmod⟩ := row_sorted (k := kk) (os := os) (ys := onF L conn life) HRow2.out HPos.out hl.symm
        have HRowS := hide hrow
        have HBS := hide (HB.out.trans (hmod.below (B := w.heap.size) HB.out.size (fun k e => by subst e; exact hF)))
        have HL2 := hide hl
        obtain ⟨wS, hwS⟩ : ∃ wS, grow (putRow (Value.int .i64) (Sort.ahead wr kk) g2 o2 (onF L conn life).toArray) os = wS := ⟨_, rfl⟩
        rw [hwS] at HRowS HBS
        rw [hwS]
        clear hsr hl hrow hmod hwS hh hxs
        go_wp2
        go_ret
        exact ⟨_, _, cc, rfl, HL2.out, HRowS.out, HBS.out⟩
    · intro e he w1 cnt1 hlk hrg1 hlt hg1 hs1 hen
      have HE := hide he
      have HR1 := hide hrg1
      have HLk := hide hlk
      have hal : Below w1.heap.size w1 (w1.alloc (.cells #[.int .i64 e.p.conn, .int .i64 e.p.life, .int .u32 e.p.id] 28)) := (Below.refl _ _).alloc (Nat.le_refl _) _
      have hmr : Mod (fun k => k = r) wr w1 := Mod.ofGrown hg1 (fun k e => by injection e with e; exact e.symm)
      have hrow1 : Row w1 (New w) 3 1 (.slice A n cc) n (ints xs) := (HRow.out.narrow.kept hmr (fun b hb _ e => (ranges_row HRg.out 3).2 (e ▸ hb.2))).mono (fun _ hk _ => hk.1)
      have hb1 : Below w.heap.size w w1 := HB.out.trans (hmr.below (B := w.heap.size) HB.out.size (fun k e => by have := HRr.out; omega))
      have HRow1 := hide hrow1
      have HB1 := hide (hb1.trans (hal.mono hb1.size))
      have HR2 := hide (HR1.out.alloc (.cells #[.int .i64 e.p.conn, .int .i64 e.p.life, .int .u32 e.p.id] 28))
      have hnl : n + 1 ≤ 2147483648 := by have := HLen.out; omega
      have hcl := hlt
      have HCnt := hide hcl
      clear he hg1 hrg1 hlk hs1 hal hmr hrow1 hb1 hcl hlt
      by_cases hsel : sel conn life e = true
      · have hse := hsel
        unfold sel at hse
        rw [Bool.and_eq_true] at hse
        have e1 : (e.p.conn == conn) = true := by simpa using hse.1
        have e2 : (e.p.life == life) = true := by simpa using hse.2
        have HSel := hide hsel
        have HR3 := hide (HR2.out.alloc (.cells #[.int .i64 e.h] 3))
        have HRow3 := hide ((HRow1.out.alloc (.cells #[.int .i64 e.p.conn, .int .i64 e.p.life, .int .u32 e.p.id] 28)).alloc (.cells #[.int .i64 e.h] 3)).narrow
        have HB3 := hide (HB1.out.trans (((Below.refl _ _).alloc (Nat.le_refl _) (.cells #[.int .i64 e.h] 3)).mono HB1.out.size))
        have hone := reads_one (w1.alloc (.cells #[.int .i64 e.p.conn, .int .i64 e.p.life, .int .u32 e.p.id] 28)) (.int .i64 e.h) 3 1
        rw [World.size_alloc] at hone
        have HOne := hide hone
        clear hsel hse hone
        go_wp2_with (first
          | (at_builtin; refine wpList_append_row rfl _ _ 36 rfl 3 i0 (.int .i64 0) 1 8 Tryd.underlying36 hi0 hz0 hz1 hz2 rfl (by decide) rfl HRow3.out rfl HOne.out (by simp [Value.oneCell']) (by unfold maxLen; omega) (by omega) ?_
             intro A4 c4 w4 hr4 hm4
             have HR4 := hide (ranges_mod HR3.out hm4 (fun h => (ranges_row HR3.out 3).1 h.2) (fun h => (ranges_row HR3.out 3).2 h.2))
             have HB4 := hide (HB3.out.trans (hm4.below (B := w.heap.size) HB3.out.size (fun k hk => hk.1)))
             have HRow4 := hide (hr4.mono (G := New w) (fun k hk _ => hk.elim (fun h => h.1) (fun h => by rw [h]; exact HB3.out.size)))
             clear hr4 hm4)
          | fail)
        go_roundw
        case rel => exact ⟨_, cnt1, A4, n + 1, c4, xs ++ [e.h], rfl, by have := HCnt.out; omega, HR4, hide (by rw [← ints_append]; exact HRow4.out), hide (HC.out.step HE.out HLk.out HSel.out), HB4⟩
        case measure => rw [HR4.out.left_eq, HRg.out.left_eq]; exact HCnt.out
      · have hsf : sel conn life e = false := by simpa using hsel
        have HSel := hide hsf
        have HRow2 := hide (HRow1.out.alloc (.cells #[.int .i64 e.p.conn, .int .i64 e.p.life, .int .u32 e.p.id] 28))
        have hcs : (e.p.conn == conn) = false ∨ ((e.p.conn == conn) = true ∧ (e.p.life == life) = false) := by
          unfold sel at hsf
          rw [Bool.and_eq_false_iff] at hsf
          rcases hsf with hsf | hsf
          · exact .inl (by simpa using hsf)
          · by_cases h1 : e.p.conn = conn
            · exact .inr ⟨by simpa using h1, by simpa using hsf⟩
            · exact .inl (by simpa using h1)
        clear hsel hsf
        rcases hcs with e1 | ⟨e1, e2⟩
        all_goals
          go_wp2
          go_roundw
          case rel => exact ⟨_, cnt1, A, n, cc, xs, rfl, by have := HCnt.out; omega, HR2, HRow2, hide (HC.out.pass HH.out.hne HE.out HSel.out), HB1⟩
          case measure => rw [HR2.out.left_eq, HRg.out.left_eq]; exact HCnt.out
end Go.Proofs.YtjkahckglhpjeaaDoor
