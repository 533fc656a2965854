import Derived.Test.YtccojgaahoonhaaDoorPgFix
import Derived.Test.YtccojgaahoonhaaDoorPCR
/- PingsOnce: pings beside three lists; what lies between two calls. -/
namespace Go.Proofs.YtccojgaahoonhaaDoor
open Go Go.RowKit Go.Cu Go.Proofs.YtccojgaahoonhaaDoor.errs

/-- four parts of memory -/
structure Own (B : Nat) (w : World) (P Q R S : Nat → Prop) : Prop where
  lp : ∀ k, P k → B ≤ k ∧ k < w.heap.size
  lq : ∀ k, Q k → B ≤ k ∧ k < w.heap.size
  lr : ∀ k, R k → B ≤ k ∧ k < w.heap.size
  ls : ∀ k, S k → B ≤ k ∧ k < w.heap.size
  pq : ∀ k, P k → ¬ Q k
  pr : ∀ k, P k → ¬ R k
  ps : ∀ k, P k → ¬ S k
  qr : ∀ k, Q k → ¬ R k
  qs : ∀ k, Q k → ¬ S k
  rs : ∀ k, R k → ¬ S k
section
variable {B : Nat} {w w' : World} {P Q R S P' : Nat → Prop}
theorem Own.rot (h : Own B w P Q R S) : Own B w Q R S P :=
  ⟨h.lq, h.lr, h.ls, h.lp, h.qr, h.qs, fun k h1 h2 => h.pq k h2 h1, h.rs, fun k h1 h2 => h.pr k h2 h1, fun k h1 h2 => h.ps k h2 h1⟩
theorem Own.first (h : Own B w P Q R S) (hs : w.heap.size ≤ w'.heap.size) (hB : B ≤ w.heap.size) (hP : ∀ k, P' k → (P k ∨ w.heap.size ≤ k) ∧ k < w'.heap.size) : Own B w' P' Q R S := by
  have hl : ∀ {X : Nat → Prop}, (∀ k, X k → B ≤ k ∧ k < w.heap.size) → ∀ k, X k → B ≤ k ∧ k < w'.heap.size := fun hX k hk => ⟨(hX k hk).1, Nat.lt_of_lt_of_le (hX k hk).2 hs⟩
  have hd : ∀ {X : Nat → Prop}, (∀ k, X k → B ≤ k ∧ k < w.heap.size) → (∀ k, P k → ¬ X k) → ∀ k, P' k → ¬ X k := fun hX hn k hk hx => (hP k hk).1.elim (fun h => hn k h hx) (fun h => by have := (hX k hx).2; omega)
  exact ⟨fun k hk => ⟨(hP k hk).1.elim (fun h1 => (h.lp k h1).1) (fun h1 => Nat.le_trans hB h1), (hP k hk).2⟩, hl h.lq, hl h.lr, hl h.ls, hd h.lq h.pq, hd h.lr h.pr, hd h.ls h.ps, h.qr, h.qs, h.rs⟩
theorem Own.past (h : Own B w P Q R S) (hb : Below w.heap.size w w') (hB : B ≤ w.heap.size) : Own B w' P Q R S :=
  h.first hb.size hB (fun k hk => ⟨.inl hk, Nat.lt_of_lt_of_le (h.lp k hk).2 hb.size⟩)
end
/-- the tokens from 1 on -/
def asc (n : Nat) : List Int := (List.range n).map fun i => ((i + 1 : Nat) : Int)
theorem asc_length (n : Nat) : (asc n).length = n := by simp [asc]
theorem asc_succ (n : Nat) : asc (n + 1) = asc n ++ [((n + 1 : Nat) : Int)] := by simp [asc, List.range_succ]
theorem asc_get {n i : Nat} (h : i < n) : (asc n)[i]? = some ((i + 1 : Nat) : Int) := by simp [asc, h]
theorem mem_asc {n : Nat} {t : Int} : t ∈ asc n ↔ 1 ≤ t ∧ t ≤ n := by
  simp only [asc, List.mem_map, List.mem_range]
  constructor
  · rintro ⟨i, hi, rfl⟩; omega
  · rintro ⟨h1, h2⟩; exact ⟨(t - 1).toNat, by omega, by omega⟩
theorem asc_take (n k : Nat) (h : k ≤ n) : (asc n).take k = asc k := by
  apply List.ext_getElem?
  intro i
  by_cases hi : i < k
  · rw [List.getElem?_take_of_lt hi, asc_get hi, asc_get (by omega)]
  · rw [List.getElem?_eq_none (by rw [List.length_take, asc_length]; omega), List.getElem?_eq_none (by rw [asc_length]; omega)]

/-- what was asked is waiting, or was heard -/
structure Book (n : Nat) (W T H K : List Int) : Prop where
  told : H = K ++ T
  part : ∀ t : Int, 1 ≤ t → t ≤ n → (t ∈ W ↔ t ∉ H)
  heard : ∀ t ∈ H, 1 ≤ t ∧ t ≤ n
  once : H.Nodup
  sum : W.length + H.length = n
theorem Book.start : Book 0 [] [] [] [] := ⟨rfl, fun t h1 h2 => by omega, fun _ h => (by cases h), List.nodup_nil, rfl⟩
theorem Book.ask {n : Nat} {W T H K : List Int} (h : Book n W T H K) : Book (n + 1) (W ++ [((n + 1 : Nat) : Int)]) T H K := by
  refine ⟨h.told, fun t h1 h2 => ?_, fun t ht => by have := h.heard t ht; omega, h.once, by have := h.sum; simp; omega⟩
  by_cases hn : t = ((n + 1 : Nat) : Int)
  · subst hn
    refine ⟨fun _ hh => ?_, fun _ => by simp⟩
    have := (h.heard _ hh).2
    omega
  · rw [List.mem_append, List.mem_singleton, or_iff_left hn]
    exact h.part t h1 (by omega)
theorem Book.hear {n : Nat} {W T H K : List Int} (h : Book n W T H K) (hi : Inc W n) {t : Int} (ht : t ∈ W) : Book n (W.erase t) (T ++ [t]) (H ++ [t]) K := by
  have hb := hi.bd t ht
  have hn := (h.part t hb.1 hb.2).1 ht
  have hpos := List.length_pos_of_mem ht
  refine ⟨by rw [h.told, List.append_assoc], fun s h1 h2 => ?_, fun s hs => ?_, List.nodup_append.2 ⟨h.once, List.nodup_cons.2 ⟨List.not_mem_nil, List.nodup_nil⟩, fun a ha b hb' e => ?_⟩, by have := h.sum; rw [List.length_erase_of_mem ht, List.length_append]; simp; omega⟩
  · rw [hi.nodup.mem_erase_iff, List.mem_append, List.mem_singleton, h.part s h1 h2]
    constructor
    · rintro ⟨h3, h4⟩ h5; exact h5.elim h4 h3
    · intro h3; exact ⟨fun e => h3 (.inr e), fun e => h3 (.inl e)⟩
  · rcases List.mem_append.1 hs with hs | hs
    · exact h.heard s hs
    · rw [List.mem_singleton] at hs; subst hs; exact hb
  · rw [List.mem_singleton] at hb'
    subst hb'
    exact hn (e ▸ ha)
theorem Book.tell {n : Nat} {W T H K : List Int} (h : Book n W T H K) : Book n W [] H (K ++ T) := ⟨by rw [h.told, List.append_nil], h.part, h.heard, h.once, h.sum⟩

/-- pings of which none are owed, beside three lists: asked, heard, told -/
structure OS (B : Nat) (w : World) (c m q : Nat) (FT FO FA FH FK : Nat → Prop) (most n : Nat) (W T L1 L2 L3 : List Int) (A1 : Option Addr) (n1 c1 : Nat) (A2 : Option Addr) (n2 c2 : Nat) (A3 : Option Addr) (n3 c3 : Nat) : Prop where
  pg : PG w c m q FT FO most n W T []
  ra : Row w FA 30 1 (.slice A1 n1 c1) n1 (us L1)
  rh : Row w FH 30 1 (.slice A2 n2 c2) n2 (us L2)
  rk : Row w FK 30 1 (.slice A3 n3 c3) n3 (us L3)
  own : Own B w (PF c m FT FO) FA FH FK
  le : B ≤ w.heap.size
section
variable {B : Nat} {w w' : World} {c m q : Nat} {FT FO FA FH FK FT' FO' F' : Nat → Prop} {most n n' : Nat} {W T L1 L2 L3 W' T' L' : List Int} {A1 A2 A3 A' : Option Addr} {n1 c1 n2 c2 n3 c3 k' c' : Nat}
theorem OS.past (h : OS B w c m q FT FO FA FH FK most n W T L1 L2 L3 A1 n1 c1 A2 n2 c2 A3 n3 c3) (hb : Below w.heap.size w w') : OS B w' c m q FT FO FA FH FK most n W T L1 L2 L3 A1 n1 c1 A2 n2 c2 A3 n3 c3 :=
  ⟨h.pg.past hb, h.ra.kept (Mod.ofBelow hb (fun _ => False)) (fun _ _ _ h => h), h.rh.kept (Mod.ofBelow hb (fun _ => False)) (fun _ _ _ h => h), h.rk.kept (Mod.ofBelow hb (fun _ => False)) (fun _ _ _ h => h), h.own.past hb h.le, Nat.le_trans h.le hb.size⟩
/-- a call of the program's -/
theorem OS.prog (h : OS B w c m q FT FO FA FH FK most n W T L1 L2 L3 A1 n1 c1 A2 n2 c2 A3 n3 c3) (hp : PG w' c m q FT' FO' most n' W' T' []) (hm : Mod (PF c m FT FO) w w') (hF : ∀ k, PF c m FT' FO' k → PF c m FT FO k ∨ w.heap.size ≤ k) : OS B w' c m q FT' FO' FA FH FK most n' W' T' L1 L2 L3 A1 n1 c1 A2 n2 c2 A3 n3 c3 :=
  ⟨hp, h.ra.kept hm (fun k hk _ hf => h.own.pq k hf hk), h.rh.kept hm (fun k hk _ hf => h.own.pr k hf hk), h.rk.kept hm (fun k hk _ hf => h.own.ps k hf hk), h.own.first hm.size h.le (fun k hk => ⟨hF k hk, hp.low k hk⟩), Nat.le_trans h.le hm.size⟩
theorem OS.asked (h : OS B w c m q FT FO FA FH FK most n W T L1 L2 L3 A1 n1 c1 A2 n2 c2 A3 n3 c3) (hr : Row w' F' 30 1 (.slice A' k' c') k' (us L')) (hm : Mod FA w w') (hF : ∀ k, F' k → (FA k ∨ w.heap.size ≤ k) ∧ k < w'.heap.size) : OS B w' c m q FT FO F' FH FK most n W T L' L2 L3 A' k' c' A2 n2 c2 A3 n3 c3 :=
  ⟨h.pg.kept hm (fun k hk hf => h.own.pq k hk hf), hr, h.rh.kept hm (fun k hk _ hf => h.own.qr k hf hk), h.rk.kept hm (fun k hk _ hf => h.own.qs k hf hk), (h.own.rot.first hm.size h.le hF).rot.rot.rot, Nat.le_trans h.le hm.size⟩
theorem OS.heard (h : OS B w c m q FT FO FA FH FK most n W T L1 L2 L3 A1 n1 c1 A2 n2 c2 A3 n3 c3) (hr : Row w' F' 30 1 (.slice A' k' c') k' (us L')) (hm : Mod FH w w') (hF : ∀ k, F' k → (FH k ∨ w.heap.size ≤ k) ∧ k < w'.heap.size) : OS B w' c m q FT FO FA F' FK most n W T L1 L' L3 A1 n1 c1 A' k' c' A3 n3 c3 :=
  ⟨h.pg.kept hm (fun k hk hf => h.own.pr k hk hf), h.ra.kept hm (fun k hk _ hf => h.own.qr k hk hf), hr, h.rk.kept hm (fun k hk _ hf => h.own.rs k hf hk), (h.own.rot.rot.first hm.size h.le hF).rot.rot, Nat.le_trans h.le hm.size⟩
theorem OS.told (h : OS B w c m q FT FO FA FH FK most n W T L1 L2 L3 A1 n1 c1 A2 n2 c2 A3 n3 c3) (hr : Row w' F' 30 1 (.slice A' k' c') k' (us L')) (hm : Mod FK w w') (hF : ∀ k, F' k → (FK k ∨ w.heap.size ≤ k) ∧ k < w'.heap.size) : OS B w' c m q FT FO FA FH F' most n W T L1 L2 L' A1 n1 c1 A2 n2 c2 A' k' c' :=
  ⟨h.pg.kept hm (fun k hk hf => h.own.ps k hk hf), h.ra.kept hm (fun k hk _ hf => h.own.qs k hk hf), h.rh.kept hm (fun k hk _ hf => h.own.rs k hk hf), hr, (h.own.rot.rot.rot.first hm.size h.le hF).rot, Nat.le_trans h.le hm.size⟩
end
/-- a list grows -/
def Grew (F : Nat → Prop) (w w' : World) (j : Nat) : Prop := (F j ∨ j = w.heap.size) ∧ j < w'.heap.size
theorem grew_in {F : Nat → Prop} {w w' : World} : ∀ j, Grew F w w' j → (F j ∨ w.heap.size ≤ j) ∧ j < w'.heap.size := fun _ h => ⟨h.1.imp id (fun e => Nat.le_of_eq e.symm), h.2⟩
section
variable {B : Nat} {w w' : World} {c m q : Nat} {FT FO FA FH FK : Nat → Prop} {most n : Nat} {W T L1 L2 L3 L' : List Int} {A1 A2 A3 A' : Option Addr} {n1 c1 n2 c2 n3 c3 k' c' : Nat}
theorem OS.askedA (h : OS B w c m q FT FO FA FH FK most n W T L1 L2 L3 A1 n1 c1 A2 n2 c2 A3 n3 c3) (hr : Row w' (fun j => FA j ∨ j = w.heap.size) 30 1 (.slice A' k' c') k' (us L')) (hm : Mod FA w w') : OS B w' c m q FT FO (Grew FA w w') FH FK most n W T L' L2 L3 A' k' c' A2 n2 c2 A3 n3 c3 :=
  h.asked (hr.mono (fun _ h hl => ⟨h, hl⟩)) hm grew_in
theorem OS.heardA (h : OS B w c m q FT FO FA FH FK most n W T L1 L2 L3 A1 n1 c1 A2 n2 c2 A3 n3 c3) (hr : Row w' (fun j => FH j ∨ j = w.heap.size) 30 1 (.slice A' k' c') k' (us L')) (hm : Mod FH w w') : OS B w' c m q FT FO FA (Grew FH w w') FK most n W T L1 L' L3 A1 n1 c1 A' k' c' A3 n3 c3 :=
  h.heard (hr.mono (fun _ h hl => ⟨h, hl⟩)) hm grew_in
theorem OS.toldA (h : OS B w c m q FT FO FA FH FK most n W T L1 L2 L3 A1 n1 c1 A2 n2 c2 A3 n3 c3) (hr : Row w' (fun j => FK j ∨ j = w.heap.size) 30 1 (.slice A' k' c') k' (us L')) (hm : Mod FK w w') : OS B w' c m q FT FO FA FH (Grew FK w w') most n W T L1 L2 L' A1 n1 c1 A2 n2 c2 A' k' c' :=
  h.told (hr.mono (fun _ h hl => ⟨h, hl⟩)) hm grew_in
end
end Go.Proofs.YtccojgaahoonhaaDoor
