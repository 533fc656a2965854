import Derived.Test.YtlnbgahfelcbiaaDoorLMPut
import Derived.Test.YtlnbgahfelcbiaaDoorFam
import Derived.Test.YtlnbgahfelcbiaaDoorAppTwo
/- Lists told and kept. -/
namespace Go.Proofs.YtlnbgahfelcbiaaDoor
open Go Go.RowKit Go.Cu Go.Proofs.YtlnbgahfelcbiaaDoor.errs

set_option maxRecDepth 10000 in
set_option maxHeartbeats 1000000 in
theorem same_quiet (w : World) (u v : Value) (n m : Nat) (hnm : n = m) (L : List Int) (hu : Reads w 1 u n (ints L)) (hv : Reads w 1 v m (ints L)) :
    Calls Tryd.prog 17 #[u, v] w fun e w' => e = .returned (.bool true) ∧ ∃ j, w' = w.drewN j := by
  subst hnm
  have hn := maxLen_lt hu.size
  have hL : L.length = n := by have := hu.1; rw [ints_length] at this; omega
  rcases Nat.eq_zero_or_pos n with rfl | hpos
  · obtain ⟨A, c, rfl⟩ := hu.shape
    obtain ⟨B, d, rfl⟩ := hv.shape
    clear hu hv hL
    go_enter Tryd.func17, Tryd.ntmps17
    go_wp2
    refine wp_loop_rounds 1 ?_
    rw [rounds_succ]
    go_wp2
    go_ret
    exact ⟨rfl, 0, rfl⟩
  · obtain ⟨a, c, rfl, ha⟩ := reads_pos hu hpos
    obtain ⟨b, d, rfl, hb⟩ := reads_pos hv hpos
    have HL := hide hL
    have HA := hide ha
    have HB := hide hb
    clear hu hv hL ha hb
    go_enter Tryd.func17, Tryd.ntmps17
    go_wp2
    go_loopw [5] (fun t wr => ∃ i : Nat, i ≤ n ∧ t = .int .i64 i ∧ Hid (Drawn w wr)) (fun t _ => n - (intOf t).toNat)
    case atStart => exact ⟨0, Nat.zero_le _, rfl, Drawn.refl _⟩
    case round =>
      obtain ⟨i, hi, rfl, hdr⟩ := hrel
      obtain ⟨q, hq⟩ := hdr.out
      by_cases hlt : i < n
      · obtain ⟨x, hx⟩ : ∃ x, L[i]? = some x := ⟨_, List.getElem?_eq_getElem (by have := HL.out; omega)⟩
        have h1 : wr.cell? (a.add i) = some (.int .i64 x) := by rw [hq]; exact HA.out i _ (ints_get hx)
        have h2 : wr.cell? (b.add i) = some (.int .i64 x) := by rw [hq]; exact HB.out i _ (ints_get hx)
        have hne : (x != x) = false := by simp
        have HQ := hide hq
        clear hx hq
        go_wp2
        go_quiet (fail)
        go_wp2
        go_roundw
        case rel => exact ⟨i + 1, by omega, by go_num, ⟨_, by rw [HQ.out, World.drewN_drewN]⟩⟩
        case measure => simp [intOf]; omega
      · obtain rfl : i = n := by omega
        have HQ := hide hq
        clear hq
        go_wp2
        go_ret
        exact ⟨rfl, hdr.out⟩


/-- a list told: its value, its length, what it holds -/
structure Lst where
  v : Value
  n : Nat
  xs : List Int
def Lst.views (x : Lst) : List (Value × Nat × List Value) := [(x.v, x.n, ints x.xs)]
/-- a row of lists: each in memory of its own, and the row over them -/
structure Rows2 (w : World) (F : Nat → Prop) (v : Value) (n : Nat) (P : List Ent) (K : List Lst) : Prop where
  row : Row w F 32 1 v n (K.map (·.v))
  fam : Fam 3 1 w P
  views : P.map (·.vs) = K.map Lst.views
theorem Rows2.reads {w : World} {F : Nat → Prop} {v : Value} {n : Nat} {P : List Ent} {K : List Lst} (h : Rows2 w F v n P K) {i : Nat} {x : Lst} (hx : K[i]? = some x) : Reads w 1 x.v x.n (ints x.xs) := by
  have h1 : (P.map (·.vs))[i]? = some x.views := by rw [h.views, List.getElem?_map, hx]; rfl
  rw [List.getElem?_map] at h1
  cases hp : P[i]? with
  | none => rw [hp] at h1; cases h1
  | some p =>
    rw [hp] at h1
    injection h1 with h1
    have h2 : p.vs = [(x.v, x.n, ints x.xs)] := h1
    exact (h.fam.each p (List.mem_of_getElem? hp) (x.v, x.n, ints x.xs) (by rw [h2]; exact List.mem_singleton.2 rfl)).reads
theorem Rows2.len {w : World} {F : Nat → Prop} {v : Value} {n : Nat} {P : List Ent} {K : List Lst} (h : Rows2 w F v n P K) : K.length = n := by
  have := h.row.1
  rw [List.length_map, Nat.mul_one] at this
  exact this
theorem size_list : (Tryd.prog.info? 32).map (·.size) = some 1 := by kernel_rfl
theorem agg_list (w : World) : (isAgg 32).run Tryd.prog w = .ok false w := by kernel_rfl
theorem info_list : (Tryd.prog.info? 32).map (fun i => (i.zero, i.size, i.bytes)) = some (some (.slice none 0 0), 1, 24) := by kernel_rfl
/-- a step that writes no list and not this row -/
theorem Rows2.kept {w w' : World} {F G : Nat → Prop} {v : Value} {n : Nat} {P : List Ent} {K : List Lst} (h : Rows2 w F v n P K) (hm : Mod G w w') (hF : ∀ k, F k → k < w.heap.size → ¬ G k) (hn : ∀ p ∈ P, ∀ k, p.F k → ¬ G k) : Rows2 w' F v n P K :=
  ⟨h.row.kept hm hF, h.fam.kept hm hn, h.views⟩
theorem Rows2.past {w w' : World} {F : Nat → Prop} {v : Value} {n : Nat} {P : List Ent} {K : List Lst} (h : Rows2 w F v n P K) (hb : Below w.heap.size w w') : Rows2 w' F v n P K :=
  h.kept (Mod.ofBelow hb (fun _ => False)) (fun _ _ _ h => h) (fun _ _ _ _ h => h)
/-- the cache's own steps touch neither -/
theorem Rows2.cache {w w' : World} {c m : Nat} {room : Int} {L : List LE} {F : Nat → Prop} {v : Value} {n : Nat} {P : List Ent} {K : List Lst} (h : Rows2 w F v n P K) (hc : LCP w c m room L) (hm : Mod (InC c m L) w w') : Rows2 w' F v n P K :=
  ⟨hc.row (by decide) (by decide) hm h.row, ⟨fun p hp x hx => hc.row (by decide) (by decide) hm (h.fam.each p hp x hx), h.fam.apart, fun p hp k hk => Nat.lt_of_lt_of_le (h.fam.low p hp k hk) hm.size⟩, h.views⟩
/-- a list made anew in the step from w to w1; then the row takes it in -/
theorem Rows2.add {w w1 w2 w3 : World} {F F2 : Nat → Prop} {v v2 u : Value} {n m : Nat} {P : List Ent} {K : List Lst} {xs : List Int} (h : Rows2 w F v n P K) (h1 : Rows2 w1 F v n P K) (hl : Row w1 (fun k => w.heap.size ≤ k) 3 1 u m (ints xs)) (hb : Below w1.heap.size w1 w2) (hm : Mod (fun k => F k ∧ OfE w2 32 k) w2 w3) (hr : Row w3 F2 32 1 v2 (n + 1) (K.map (·.v) ++ [u])) :
    Rows2 w3 F2 v2 (n + 1) (P ++ [⟨fun k => w.heap.size ≤ k ∧ k < w1.heap.size, [(u, m, ints xs)]⟩]) (K ++ [⟨u, m, xs⟩]) :=
  ⟨by rw [List.map_append]; exact hr, ((h.fam.add h1.fam hl).past hb).other hm (by decide), by rw [List.map_append, List.map_append, h.views]; rfl⟩
end Go.Proofs.YtlnbgahfelcbiaaDoor
