import Derived.Test.YtccojgaahoonhaaDoorPgLoose
/- Two pings beside a list: what lies between two calls. -/
namespace Go.Proofs.YtccojgaahoonhaaDoor
open Go Go.RowKit Go.Shelf Go.Cu Go.Proofs.YtccojgaahoonhaaDoor.errs

structure SS (B : Nat) (w : World) (c m q c2 m2 q2 : Nat) (FT FO FT2 FO2 FK : Nat → Prop) (most n : Nat) (x : Int) (f : Lit → Option Value) (z : Nat) (T Oa Ob Tk : List Int) (A : Option Addr) (cap : Nat) : Prop where
  a : PG w c m q FT FO most 0 [] [] Oa
  b : PL w c2 m2 q2 FT2 FO2 most n x f z T Ob
  k : Row w FK 30 1 (.slice A Tk.length cap) Tk.length (us Tk)
  lk : ∀ j, FK j → j < w.heap.size
  ab : ∀ j, PF c m FT FO j → ¬ PF c2 m2 FT2 FO2 j
  ak : ∀ j, PF c m FT FO j → ¬ FK j
  bk : ∀ j, PF c2 m2 FT2 FO2 j → ¬ FK j
  la : ∀ j, PF c m FT FO j → B ≤ j
  lb : ∀ j, PF c2 m2 FT2 FO2 j → B ≤ j
  kB : ∀ j, FK j → B ≤ j
section
variable {B : Nat} {w w' : World} {c m q c2 m2 q2 : Nat} {FT FO FT2 FO2 FK FO' FT2' FO2' FK' : Nat → Prop} {most n n' : Nat} {x x' : Int} {f f' : Lit → Option Value} {z z' : Nat} {T T' Oa Ob Oa' Ob' Tk Tk' : List Int} {A A' : Option Addr} {cap cap' : Nat}
theorem SS.past (h : SS B w c m q c2 m2 q2 FT FO FT2 FO2 FK most n x f z T Oa Ob Tk A cap) (hb : Below w.heap.size w w') : SS B w' c m q c2 m2 q2 FT FO FT2 FO2 FK most n x f z T Oa Ob Tk A cap :=
  ⟨h.a.past hb, h.b.past hb, h.k.kept (Mod.ofBelow hb (fun _ => False)) (fun _ _ _ h => h), fun j hj => Nat.lt_of_lt_of_le (h.lk j hj) hb.size, h.ab, h.ak, h.bk, h.la, h.lb, h.kB⟩
theorem SS.stepB (h : SS B w c m q c2 m2 q2 FT FO FT2 FO2 FK most n x f z T Oa Ob Tk A cap) (hB : B ≤ w.heap.size) (hp : PL w' c2 m2 q2 FT2' FO2' most n' x' f' z' T' Ob') (hm : Mod (PF c2 m2 FT2 FO2) w w')
    (h1 : ∀ j, FT2' j → FT2 j ∨ w.heap.size ≤ j) (h2 : ∀ j, FO2' j → FO2 j ∨ w.heap.size ≤ j) : SS B w' c m q c2 m2 q2 FT FO FT2' FO2' FK most n' x' f' z' T' Oa Ob' Tk A cap := by
  have hc : ∀ j, PF c2 m2 FT2' FO2' j → PF c2 m2 FT2 FO2 j ∨ w.heap.size ≤ j := by
    rintro j (rfl | rfl | hj | hj)
    · exact .inl (.inl rfl)
    · exact .inl (.inr (.inl rfl))
    · exact (h1 j hj).imp (fun h => .inr (.inr (.inl h))) id
    · exact (h2 j hj).imp (fun h => .inr (.inr (.inr h))) id
  refine ⟨h.a.kept hm h.ab, hp, h.k.kept hm (fun k hk _ hf => h.bk k hf hk), fun j hj => Nat.lt_of_lt_of_le (h.lk j hj) hm.size, fun j hj hf => ?_, h.ak, fun j hf hj => ?_, h.la, fun j hj => ?_, h.kB⟩
  · rcases hc j hf with hf | hf
    · exact h.ab j hj hf
    · have := h.a.low j hj; omega
  · rcases hc j hf with hf | hf
    · exact h.bk j hf hj
    · have := h.lk j hj; omega
  · rcases hc j hj with hf | hf
    · exact h.lb j hf
    · omega
theorem SS.stepA (h : SS B w c m q c2 m2 q2 FT FO FT2 FO2 FK most n x f z T Oa Ob Tk A cap) (hB : B ≤ w.heap.size) (hp : PG w' c m q FT FO' most 0 [] [] Oa') (hm : Mod FO w w')
    (h2 : ∀ j, FO' j → FO j ∨ w.heap.size ≤ j) : SS B w' c m q c2 m2 q2 FT FO' FT2 FO2 FK most n x f z T Oa' Ob Tk A cap := by
  have hc : ∀ j, PF c m FT FO' j → PF c m FT FO j ∨ w.heap.size ≤ j := by
    rintro j (rfl | rfl | hj | hj)
    · exact .inl (.inl rfl)
    · exact .inl (.inr (.inl rfl))
    · exact .inl (.inr (.inr (.inl hj)))
    · exact (h2 j hj).imp (fun h => .inr (.inr (.inr h))) id
  refine ⟨hp, h.b.kept hm (fun k hk hf => h.ab k (.inr (.inr (.inr hf))) hk), h.k.kept hm (fun k hk _ hf => h.ak k (.inr (.inr (.inr hf))) hk), fun j hj => Nat.lt_of_lt_of_le (h.lk j hj) hm.size, fun j hf hj => ?_, fun j hf hj => ?_, h.bk, fun j hj => ?_, h.lb, h.kB⟩
  · rcases hc j hf with hf | hf
    · exact h.ab j hf hj
    · have := h.b.low j hj; omega
  · rcases hc j hf with hf | hf
    · exact h.ak j hf hj
    · have := h.lk j hj; omega
  · rcases hc j hj with hf | hf
    · exact h.la j hf
    · omega
theorem SS.stepK (h : SS B w c m q c2 m2 q2 FT FO FT2 FO2 FK most n x f z T Oa Ob Tk A cap) (hB : B ≤ w.heap.size) (hr : Row w' FK' 30 1 (.slice A' Tk'.length cap') Tk'.length (us Tk')) (hm : Mod FK w w')
    (h2 : ∀ j, FK' j → FK j ∨ (w.heap.size ≤ j ∧ j < w'.heap.size)) : SS B w' c m q c2 m2 q2 FT FO FT2 FO2 FK' most n x f z T Oa Ob Tk' A' cap' := by
  have hs := hm.size
  refine ⟨h.a.kept hm h.ak, h.b.kept hm h.bk, hr, fun j hj => ?_, h.ab, fun j hj hf => ?_, fun j hj hf => ?_, h.la, h.lb, fun j hj => ?_⟩
  · rcases h2 j hj with hf | hf
    · have := h.lk j hf; omega
    · exact hf.2
  · rcases h2 j hf with hf | hf
    · exact h.ak j hj hf
    · have := h.a.low j hj; omega
  · rcases h2 j hf with hf | hf
    · exact h.bk j hj hf
    · have := h.b.low j hj; omega
  · rcases h2 j hj with hf | hf
    · exact h.kB j hf
    · omega
end
/-- both, whatever of the second is not owed -/
def St (B : Nat) (w : World) (c m q c2 m2 q2 most K : Nat) (Oa Ob Tk : List Int) (A : Option Addr) (cap : Nat) : Prop :=
  B ≤ w.heap.size ∧ ∃ FT FO FT2 FO2 FK n x f z T, SS B w c m q c2 m2 q2 FT FO FT2 FO2 FK most n x f z T Oa Ob Tk A cap ∧ n ≤ K ∧ T.length ≤ K
section
variable {B : Nat} {w w' : World} {c m q c2 m2 q2 most K : Nat} {Oa Ob Tk : List Int} {A : Option Addr} {cap : Nat}
theorem St.past (h : St B w c m q c2 m2 q2 most K Oa Ob Tk A cap) (hb : Below w.heap.size w w') : St B w' c m q c2 m2 q2 most K Oa Ob Tk A cap := by
  obtain ⟨hB, FT, FO, FT2, FO2, FK, n, x, f, z, T, hs, hn, hT⟩ := h
  exact ⟨Nat.le_trans hB hb.size, FT, FO, FT2, FO2, FK, n, x, f, z, T, hs.past hb, hn, hT⟩
theorem st_ask (h : St B w c m q c2 m2 q2 most K Oa Ob Tk A cap) (hK : K < 2305843009213693952) (ev : Value) (hE : w.cell? ⟨2, 0, none⟩ = some ev) :
    Calls Tryd.prog 9 #[ptr c2] w fun e w' => (∃ v, e = .returned v) ∧ St B w' c m q c2 m2 q2 most (K + 1) Oa Ob Tk A cap ∧ Below B w w' := by
  obtain ⟨hB, FT, FO, FT2, FO2, FK, n, x, f, z, T, hs, hn, hT⟩ := h
  by_cases hz : most ≤ z
  · refine (ask_fullL w hs.b hz ev hE).mono ?_
    rintro e w' ⟨rfl, hb⟩
    exact ⟨⟨_, rfl⟩, ⟨Nat.le_trans hB hb.size, FT, FO, FT2, FO2, FK, n, x, f, z, T, hs.past hb, by omega, by omega⟩, hb.mono hB⟩
  · refine (ask_okL w hs.b (by omega) (by omega)).mono ?_
    rintro e w' ⟨⟨v, rfl⟩, ⟨x', f', z', hp⟩, hm⟩
    exact ⟨⟨_, rfl⟩, ⟨Nat.le_trans hB hm.size, FT, FO, FT2, FO2, FK, n + 1, x', f', z', T, hs.stepB hB hp hm (fun _ h => .inl h) (fun _ h => .inl h), by omega, by omega⟩, hm.below hB hs.lb⟩
theorem st_heard (h : St B w c m q c2 m2 q2 most K Oa Ob Tk A cap) (hK : K ≤ 17592186044416) (t : Int) (ht : (Lit.int .u32 t).wf = true) (ev : Value) (hE : w.cell? ⟨3, 0, none⟩ = some ev) :
    Calls Tryd.prog 10 #[ptr c2, .int .u32 t] w fun e w' => (∃ v, e = .returned v) ∧ St B w' c m q c2 m2 q2 most (K + 1) Oa Ob Tk A cap ∧ Below B w w' := by
  obtain ⟨hB, FT, FO, FT2, FO2, FK, n, x, f, z, T, hs, hn, hT⟩ := h
  cases hf : f (.int .u32 t) with
  | none =>
    refine (heard_badL w hs.b t ht hf ev hE).mono ?_
    rintro e w' ⟨rfl, rfl⟩
    exact ⟨⟨_, rfl⟩, ⟨hB, FT, FO, FT2, FO2, FK, n, x, f, z, T, hs, by omega, by omega⟩, Below.refl _ _⟩
  | some v =>
    refine (heard_okL w hs.b t ht v hf (by omega)).mono ?_
    rintro e w' ⟨rfl, FT2', f', z', hp, hm, hl⟩
    exact ⟨⟨_, rfl⟩, ⟨Nat.le_trans hB hm.size, FT, FO, FT2', FO2, FK, n, x, f', z', T ++ [t], hs.stepB hB hp hm hl (fun _ h => .inl h), by omega, by simp; omega⟩, hm.below hB hs.lb⟩
theorem st_answered (h : St B w c m q c2 m2 q2 most K Oa Ob Tk A cap) :
    Calls Tryd.prog 11 #[ptr c2] w fun e w' => (∃ v, e = .returned v) ∧ St B w' c m q c2 m2 q2 most (K + 1) Oa Ob Tk A cap ∧ Below B w w' := by
  obtain ⟨hB, FT, FO, FT2, FO2, FK, n, x, f, z, T, hs, hn, hT⟩ := h
  refine (answered_anyL w hs.b).mono ?_
  rintro e w' ⟨A1, d1, rfl, _, hp, hm⟩
  have hm' : Mod (PF c2 m2 FT2 FO2) w w' := hm.mono (fun _ _ e => .inl e)
  exact ⟨⟨_, rfl⟩, ⟨Nat.le_trans hB hm.size, FT, FO, _, FO2, FK, n, x, f, z, [], hs.stepB hB hp hm' (fun _ h => h.elim) (fun _ h => .inl h), by omega, by simp⟩, hm'.below hB hs.lb⟩
theorem st_replied2_none (h : St B w c m q c2 m2 q2 most K Oa [] Tk A cap) : Calls Tryd.prog 18 #[ptr c2] w fun e w' => e = .returned (.tuple #[.int .u32 0, .bool false]) ∧ w = w' := by
  obtain ⟨hB, FT, FO, FT2, FO2, FK, n, x, f, z, T, hs, hn, hT⟩ := h
  exact replied_noneL w hs.b
theorem st_replied2_some (t : Int) (h : St B w c m q c2 m2 q2 most K Oa (t :: Ob) Tk A cap) : Calls Tryd.prog 18 #[ptr c2] w fun e w' => e = .returned (.tuple #[.int .u32 t, .bool true]) ∧ St B w' c m q c2 m2 q2 most K Oa Ob Tk A cap ∧ Below B w w' := by
  obtain ⟨hB, FT, FO, FT2, FO2, FK, n, x, f, z, T, hs, hn, hT⟩ := h
  refine (replied_someL w t hs.b).mono ?_
  rintro e w' ⟨rfl, hp, hm⟩
  have hm' : Mod (PF c2 m2 FT2 FO2) w w' := hm.mono (fun _ _ e => .inr (.inr (.inr e)))
  exact ⟨rfl, ⟨Nat.le_trans hB hm.size, FT, FO, FT2, FO2, FK, n, x, f, z, T, hs.stepB hB hp hm' (fun _ h => .inl h) (fun _ h => .inl h), hn, hT⟩, hm'.below hB hs.lb⟩
theorem st_replied1_none (h : St B w c m q c2 m2 q2 most K [] Ob Tk A cap) : Calls Tryd.prog 18 #[ptr c] w fun e w' => e = .returned (.tuple #[.int .u32 0, .bool false]) ∧ w = w' := by
  obtain ⟨hB, FT, FO, FT2, FO2, FK, n, x, f, z, T, hs, hn, hT⟩ := h
  exact replied_none w hs.a
theorem st_replied1_some (t : Int) (h : St B w c m q c2 m2 q2 most K (t :: Oa) Ob Tk A cap) : Calls Tryd.prog 18 #[ptr c] w fun e w' => e = .returned (.tuple #[.int .u32 t, .bool true]) ∧ St B w' c m q c2 m2 q2 most K Oa Ob Tk A cap ∧ Below B w w' := by
  obtain ⟨hB, FT, FO, FT2, FO2, FK, n, x, f, z, T, hs, hn, hT⟩ := h
  refine (replied_some w t hs.a).mono ?_
  rintro e w' ⟨rfl, hp, hm⟩
  exact ⟨rfl, ⟨Nat.le_trans hB hm.size, FT, FO, FT2, FO2, FK, n, x, f, z, T, hs.stepA hB hp hm (fun _ h => .inl h), hn, hT⟩, hm.below hB (fun j hj => hs.la j (.inr (.inr (.inr hj))))⟩
theorem st_asked1_full (h : St B w c m q c2 m2 q2 most K Oa Ob Tk A cap) (hl : most ≤ Oa.length) (t : Int) (ev : Value) (hE : w.cell? ⟨4, 0, none⟩ = some ev) : Calls Tryd.prog 19 #[ptr c, .int .u32 t] w fun e w' => e = .returned ev ∧ St B w' c m q c2 m2 q2 most K Oa Ob Tk A cap ∧ Below B w w' := by
  have h0 := h
  obtain ⟨hB, FT, FO, FT2, FO2, FK, n, x, f, z, T, hs, hn, hT⟩ := h
  exact (asked_full w hs.a hl t ev hE).mono fun e w' ⟨he, hb⟩ => ⟨he, h0.past hb, hb.mono hB⟩
theorem st_asked2_full (h : St B w c m q c2 m2 q2 most K Oa Ob Tk A cap) (hl : most ≤ Ob.length) (t : Int) (ev : Value) (hE : w.cell? ⟨4, 0, none⟩ = some ev) : Calls Tryd.prog 19 #[ptr c2, .int .u32 t] w fun e w' => e = .returned ev ∧ St B w' c m q c2 m2 q2 most K Oa Ob Tk A cap ∧ Below B w w' := by
  have h0 := h
  obtain ⟨hB, FT, FO, FT2, FO2, FK, n, x, f, z, T, hs, hn, hT⟩ := h
  exact (asked_fullL w hs.b hl t ev hE).mono fun e w' ⟨he, hb⟩ => ⟨he, h0.past hb, hb.mono hB⟩
theorem st_asked1_ok (h : St B w c m q c2 m2 q2 most K Oa Ob Tk A cap) (hl : Oa.length < most) (t : Int) : Calls Tryd.prog 19 #[ptr c, .int .u32 t] w fun e w' => e = .returned .nilIface ∧ St B w' c m q c2 m2 q2 most K (Oa ++ [t]) Ob Tk A cap ∧ Below B w w' := by
  obtain ⟨hB, FT, FO, FT2, FO2, FK, n, x, f, z, T, hs, hn, hT⟩ := h
  refine (asked_ok w hs.a hl t).mono ?_
  rintro e w' ⟨rfl, hp, hm⟩
  exact ⟨rfl, ⟨Nat.le_trans hB hm.size, FT, _, FT2, FO2, FK, n, x, f, z, T, hs.stepA hB hp hm (fun _ h => h.imp id (fun h => h.1)), hn, hT⟩, hm.below hB (fun j hj => hs.la j (.inr (.inr (.inr hj))))⟩
theorem st_asked2_ok (h : St B w c m q c2 m2 q2 most K Oa Ob Tk A cap) (hl : Ob.length < most) (t : Int) : Calls Tryd.prog 19 #[ptr c2, .int .u32 t] w fun e w' => e = .returned .nilIface ∧ St B w' c m q c2 m2 q2 most K Oa (Ob ++ [t]) Tk A cap ∧ Below B w w' := by
  obtain ⟨hB, FT, FO, FT2, FO2, FK, n, x, f, z, T, hs, hn, hT⟩ := h
  refine (asked_okL w hs.b hl t).mono ?_
  rintro e w' ⟨rfl, hp, hm⟩
  have hm' : Mod (PF c2 m2 FT2 FO2) w w' := hm.mono (fun _ _ e => .inr (.inr (.inr e)))
  exact ⟨rfl, ⟨Nat.le_trans hB hm.size, FT, FO, FT2, _, FK, n, x, f, z, T, hs.stepB hB hp hm' (fun _ h => .inl h) (fun _ h => h.imp id (fun h => h.1)), hn, hT⟩, hm'.below hB hs.lb⟩
theorem st_owed1 (h : St B w c m q c2 m2 q2 most K Oa Ob Tk A cap) : Calls Tryd.prog 17 #[ptr c] w fun e w' => e = .returned (.int .i64 Oa.length) ∧ w = w' := by
  obtain ⟨hB, FT, FO, FT2, FO2, FK, n, x, f, z, T, hs, hn, hT⟩ := h
  exact owed_any w hs.a
theorem st_owed2 (h : St B w c m q c2 m2 q2 most K Oa Ob Tk A cap) : Calls Tryd.prog 17 #[ptr c2] w fun e w' => e = .returned (.int .i64 Ob.length) ∧ w = w' := by
  obtain ⟨hB, FT, FO, FT2, FO2, FK, n, x, f, z, T, hs, hn, hT⟩ := h
  exact owed_anyL w hs.b
theorem st_waiting1 (h : St B w c m q c2 m2 q2 most K Oa Ob Tk A cap) : Calls Tryd.prog 13 #[ptr c] w fun e w' => e = .returned (.slice none 0 0) ∧ St B w' c m q c2 m2 q2 most K Oa Ob Tk A cap ∧ Below B w w' := by
  have h0 := h
  obtain ⟨hB, FT, FO, FT2, FO2, FK, n, x, f, z, T, hs, hn, hT⟩ := h
  exact (waiting_any w hs.a).mono fun e w' ⟨v, he, _, hv, hb⟩ => ⟨he.trans (by rw [hv.2 rfl]), h0.past hb, hb.mono hB⟩
end
end Go.Proofs.YtccojgaahoonhaaDoor
