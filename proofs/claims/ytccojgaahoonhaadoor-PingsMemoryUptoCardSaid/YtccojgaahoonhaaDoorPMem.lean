import Derived.Test.YtccojgaahoonhaaDoorPCR
import Derived.Test.YtccojgaahoonhaaDoorApart2
import Derived.Test.YtccojgaahoonhaaDoorPut
/- PingsMemory: the pings and the document's, a row of lists beside them. -/
namespace Go.Proofs.YtccojgaahoonhaaDoor
open Go Go.RowKit Go.Cu Go.Proofs.YtccojgaahoonhaaDoor.errs

/-- memory that neither the pings nor the document's use -/
structure Out (B b7 c m : Nat) (FT FO D : Nat → Prop) (k : Nat) : Prop where
  low : B ≤ k
  nb : k ≠ b7
  np : ¬ PF c m FT FO k
  nd : ¬ D k
section
variable {B b7 c m q : Nat} {FT FO D FT' FO' D' G : Nat → Prop} {w w' w3 : World} {most n nl : Nat} {W T O L1 L2 L3 : List Int} {A1 A2 A3 : Option Addr} {n1 c1 n2 c2 n3 c3 : Nat} {v u : Value} {K : List Lx} {F : Nat → Prop} {P : List Ent}
theorem PD.kept (h : PD B w c m q FT FO D most n W T O L1 L2 L3 A1 n1 c1 A2 n2 c2 A3 n3 c3) (hm : Mod G w w') (h1 : ∀ k, PF c m FT FO k → ¬ G k) (h2 : ∀ k, D k → ¬ G k) : PD B w' c m q FT FO D most n W T O L1 L2 L3 A1 n1 c1 A2 n2 c2 A3 n3 c3 :=
  ⟨h.pg.kept hm h1, h.r1.kept hm (fun k hk _ => h2 k hk), h.r2.kept hm (fun k hk _ => h2 k hk), h.r3.kept hm (fun k hk _ => h2 k hk), fun k hk => Nat.lt_of_lt_of_le (h.dl k hk) hm.size, h.sep, h.lo, Nat.le_trans h.le hm.size⟩
/-- what is new is free -/
theorem PD.out (h : PD B w c m q FT FO D most n W T O L1 L2 L3 A1 n1 c1 A2 n2 c2 A3 n3 c3) (hb : b7 < w.heap.size) {k : Nat} (hk : w.heap.size ≤ k) : Out B b7 c m FT FO D k :=
  ⟨Nat.le_trans h.le hk, by omega, fun hf => by have := h.pg.low k hf; omega, fun hd => by have := h.dl k hd; omega⟩
/-- the row of lists -/
structure MS (B : Nat) (w : World) (b7 c m : Nat) (FT FO D : Nat → Prop) (v : Value) (nl : Nat) (K : List Lx) (F : Nat → Prop) (P : List Ent) : Prop where
  ap : AP 30 29 w v nl K F P
  fo : ∀ k, F k → Out B b7 c m FT FO D k ∧ k < w.heap.size
  lo : ∀ k, Foot P k → Out B b7 c m FT FO D k
  ln : ∀ x ∈ K, x.n ≤ 2147483647
theorem foot_low (h : AP 30 29 w v nl K F P) {k : Nat} (hk : Foot P k) : k < w.heap.size := by
  obtain ⟨p, hp, hk⟩ := hk
  exact h.fam.low p hp k hk
/-- a step elsewhere -/
theorem MS.kept (h : MS B w b7 c m FT FO D v nl K F P) (hm : Mod G w w') (hG : ∀ k, Out B b7 c m FT FO D k → ¬ G k) (hF : ∀ k, PF c m FT' FO' k → PF c m FT FO k ∨ w.heap.size ≤ k) (hD : ∀ k, D' k → D k ∨ w.heap.size ≤ k) : MS B w' b7 c m FT' FO' D' v nl K F P := by
  have ho : ∀ k, Out B b7 c m FT FO D k → k < w.heap.size → Out B b7 c m FT' FO' D' k := fun k hk hl => ⟨hk.low, hk.nb, fun hf => (hF k hf).elim hk.np (fun h => by omega), fun hd => (hD k hd).elim hk.nd (fun h => by omega)⟩
  exact ⟨h.ap.kept hm (fun k hk => hG k (h.fo k hk).1) (fun k hk => hG k (h.lo k hk)), fun k hk => ⟨ho k (h.fo k hk).1 (h.fo k hk).2, Nat.lt_of_lt_of_le (h.fo k hk).2 hm.size⟩, fun k hk => ho k (h.lo k hk) (foot_low h.ap hk), h.ln⟩
theorem MS.past (h : MS B w b7 c m FT FO D v nl K F P) (hb : Below w.heap.size w w') : MS B w' b7 c m FT FO D v nl K F P :=
  h.kept (Mod.ofBelow hb (fun _ => False)) (fun _ _ h => h) (fun _ h => .inl h) (fun _ h => .inl h)
/-- the box of the document's -/
theorem MS.set5 (h : MS B w b7 c m FT FO D v nl K F P) (x1 x2 x3 x4 x5 : Value) : MS B (((((w.setCell ⟨b7, 0, none⟩ x1).setCell ⟨b7, 1, none⟩ x2).setCell ⟨b7, 2, none⟩ x3).setCell ⟨b7, 3, none⟩ x4).setCell ⟨b7, 4, none⟩ x5) b7 c m FT FO D v nl K F P := by
  have hm : Mod (fun k => k = b7) w (((((w.setCell ⟨b7, 0, none⟩ x1).setCell ⟨b7, 1, none⟩ x2).setCell ⟨b7, 2, none⟩ x3).setCell ⟨b7, 3, none⟩ x4).setCell ⟨b7, 4, none⟩ x5) :=
    (((((Mod.refl (fun k => k = b7) w).setCell (p := ⟨b7, 0, none⟩) (fun _ => rfl) _).setCell (p := ⟨b7, 1, none⟩) (fun _ => rfl) _).setCell (p := ⟨b7, 2, none⟩) (fun _ => rfl) _).setCell (p := ⟨b7, 3, none⟩) (fun _ => rfl) _).setCell (p := ⟨b7, 4, none⟩) (fun _ => rfl) _
  exact h.kept hm (fun k hk => hk.nb) (fun _ h => .inl h) (fun _ h => .inl h)
/-- one more entry -/
theorem fam_put (h : Fam 30 1 w P) {xs : List Value} {k1 : Nat} (hr : Row w G 30 1 u k1 xs) (hd : ∀ k, Foot P k → ¬ G k) (hl : ∀ k, G k → k < w.heap.size) : Fam 30 1 w (P ++ [⟨G, [(u, k1, xs)]⟩]) := by
  refine ⟨fun p hp => ?_, ?_, fun p hp => ?_⟩
  · rcases List.mem_append.1 hp with hp | hp
    · exact h.each p hp
    · rw [List.mem_singleton] at hp
      subst hp
      intro x hx
      rw [List.mem_singleton] at hx
      subst hx
      exact hr
  · rw [List.pairwise_append]
    refine ⟨h.apart, List.pairwise_singleton _ _, fun p hp q hq k hk hk2 => ?_⟩
    rw [List.mem_singleton] at hq
    subst hq
    exact hd k ⟨p, hp, hk⟩ hk2
  · rcases List.mem_append.1 hp with hp | hp
    · exact h.low p hp
    · rw [List.mem_singleton] at hp
      subst hp
      exact hl
theorem MS.take (h : MS B w b7 c m FT FO D v nl K F P) (hb : b7 < w.heap.size) (hBw : B ≤ w.heap.size) (hpf : ∀ k, PF c m FT FO k → k < w.heap.size) (hdl : ∀ k, D k → k < w.heap.size) {xs : List Value} {k1 : Nat} (hr : Row w G 30 1 u k1 xs) (hd : ∀ k, Foot P k → ¬ G k) (hl : ∀ k, G k → k < w.heap.size) (ho : ∀ k, G k → Out B b7 c m FT FO D k) (hk1 : k1 ≤ 2147483647) :
    Row w (fun k => F k ∧ OfE w 29 k) 29 1 v nl (K.map (·.v)) ∧ ∀ w3 v2, Row w3 (fun k => (F k ∧ OfE w 29 k) ∨ k = w.heap.size) 29 1 v2 (nl + 1) (K.map (·.v) ++ [u]) → Mod (fun k => F k ∧ OfE w 29 k) w w3 → ∃ F2 P2, MS B w3 b7 c m FT FO D v2 (nl + 1) (K ++ [⟨u, k1, xs⟩]) F2 P2 := by
  refine ⟨h.ap.row.narrow, fun w3 v2 hr3 hm => ⟨fun k => ((F k ∧ OfE w 29 k) ∨ k = w.heap.size) ∧ k < w3.heap.size, P ++ [⟨G, [(u, k1, xs)]⟩], ⟨?_, (fam_put h.ap.fam hr hd hl).other hm (by decide), ?_⟩, fun k hk => ⟨?_, hk.2⟩, fun k hk => ?_, fun x hx => ?_⟩⟩
  · rw [List.map_append]; exact hr3.mono (fun k hk hl => ⟨hk, hl⟩)
  · rw [List.map_append, List.map_append, h.ap.views]; rfl
  · rcases hk.1 with hk | rfl
    · exact (h.fo k hk.1).1
    · exact ⟨hBw, by omega, fun hf => by have := hpf _ hf; omega, fun hd => by have := hdl _ hd; omega⟩
  · obtain ⟨p, hp, hk⟩ := hk
    rcases List.mem_append.1 hp with hp | hp
    · exact h.lo k ⟨p, hp, hk⟩
    · rw [List.mem_singleton] at hp
      subst hp
      exact ho k hk
  · rcases List.mem_append.1 hx with hx | hx
    · exact h.ln x hx
    · rw [List.mem_singleton] at hx
      subst hx
      exact hk1
end
/-- painted: as far as list k -/
abbrev cellOf (k : Nat) : Value := .int .u32 (900000 + (k : Int))
abbrev tipOf (k : Nat) : Value := .int .u32 (700000 + (k : Int))
structure Pd (K0 K : List Lx) (k : Nat) : Prop where
  vs : K.map (·.v) = K0.map (·.v)
  ns : K.map (·.n) = K0.map (·.n)
  done : ∀ (q : Nat) (x : Lx), q < k → K[q]? = some x → x.xs = List.replicate x.n (cellOf q)
theorem Pd.nxt {K0 K : List Lx} {k : Nat} (h : Pd K0 K k) {x : Lx} (hx : K[k]? = some x) : Pd K0 (K.set k ⟨x.v, x.n, List.replicate x.n (cellOf k)⟩) (k + 1) := by
  have e : ∀ {β : Type} (f : Lx → β), f ⟨x.v, x.n, List.replicate x.n (cellOf k)⟩ = f x → (K.set k ⟨x.v, x.n, List.replicate x.n (cellOf k)⟩).map f = K.map f := fun f hf => by
    rw [List.map_set, hf]
    have := get_vs (f := f) hx
    obtain ⟨hj, he⟩ := List.getElem?_eq_some_iff.1 this
    conv => lhs; rw [← he]
    rw [List.set_getElem_self]
  refine ⟨(e _ rfl).trans h.vs, (e _ rfl).trans h.ns, fun q y hq hy => ?_⟩
  by_cases hqk : k = q
  · subst hqk
    rw [get_set_same hx] at hy
    injection hy with hy
    subst hy
    rfl
  · rw [get_set hqk] at hy
    exact h.done q y (by omega) hy
theorem Pd.lens {K0 K : List Lx} {k : Nat} (h : Pd K0 K k) (hle : ∀ x ∈ K0, x.n ≤ 2147483647) : ∀ x ∈ K, x.n ≤ 2147483647 := fun x hx => by
  obtain ⟨q, hq⟩ := List.mem_iff_getElem?.1 hx
  have h1 := get_vs (f := fun x : Lx => x.n) hq
  rw [h.ns, List.getElem?_map] at h1
  cases hk0 : K0[q]? with
  | none => rw [hk0] at h1; cases h1
  | some y =>
    rw [hk0] at h1
    injection h1 with h1
    have := hle y (List.mem_of_getElem? hk0)
    have h1 : y.n = x.n := h1
    omega
def P1 (w0 w : World) (kv : Value) (n : Nat) (K0 : List Lx) (F : Nat → Prop) (P0 : List Ent) (k : Nat) : Prop := ∃ K P, AP 30 29 w kv n K F P ∧ (∀ b, Foot P b ↔ Foot P0 b) ∧ Mod (Foot P0) w0 w ∧ Pd K0 K k
theorem ap_cell {w : World} {A : Option Addr} {n c : Nat} {K : List Lx} {F : Nat → Prop} (h : Row w F 29 1 (.slice A n c) n (K.map (·.v))) {i : Nat} (hi : i < n) {x : Lx} (hx : K[i]? = some x) : ∃ ad, A = some ad ∧ w.cell? (ad.add i) = some x.v := by
  obtain ⟨h1, A', c', he, _, h3⟩ := h.reads
  injection he with hA _ _
  rcases h3 with h3 | ⟨ad, hAd, h4⟩
  · omega
  · exact ⟨ad, by rw [hA, hAd], h4 i _ (get_vs hx)⟩
/-- a slice that grows behind a list -/
structure In2 (w1 w' : World) (G : Nat → Prop) (Ax : Option Addr) (cx xn : Nat) (xx : List Value) (q : Nat) (A2 : Option Addr) (c2 : Nat) : Prop where
  mod : Mod G w1 w'
  row : Row w' G 30 1 (.slice Ax xn cx) xn xx
  tip : (A2 = Ax ∧ c2 = cx ∧ ∃ zs, Row w' G 30 1 (.slice Ax (xn + q) cx) (xn + q) (xx ++ zs)) ∨ ∃ zs, Row w' (fun k => w1.heap.size ≤ k) 30 1 (.slice A2 (xn + q) c2) (xn + q) zs
def P2 (w0 w : World) (kv : Value) (n : Nat) (K : List Lx) (F : Nat → Prop) (P0 : List Ent) (gv : Value) (j : Nat) : Prop := ∃ Gs FG P, AG 30 29 w0 w kv n K F tipOf j gv j Gs FG P0 P
theorem size_tok : (Tryd.prog.info? 30).map (·.size) = some 1 := by kernel_rfl
theorem agg_tok (w : World) : (isAgg 30).run Tryd.prog w = .ok false w := by kernel_rfl
theorem size_list : (Tryd.prog.info? 29).map (·.size) = some 1 := by kernel_rfl
theorem agg_list (w : World) : (isAgg 29).run Tryd.prog w = .ok false w := by kernel_rfl
theorem info_list : (Tryd.prog.info? 29).map (fun i => (i.zero, i.size, i.bytes)) = some (some (.slice none 0 0), 1, 24) := by kernel_rfl
end Go.Proofs.YtccojgaahoonhaaDoor
