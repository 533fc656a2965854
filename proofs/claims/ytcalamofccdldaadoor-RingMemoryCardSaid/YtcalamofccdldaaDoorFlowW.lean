import Derived.Test.YtcalamofccdldaaDoorRFix
import Derived.Test.YtcalamofccdldaaDoorRB
import Derived.Deep.RegionHeld3
import Derived.Laws.BytesArg
import Derived.Laws.IdiomStrings
/- RingFlow: what its walk speaks of. -/
namespace Go.Cu
open Go Go.RowKit
theorem flat_get {α : Type} {f : α → List Value} {k : Nat} (hk : ∀ a, (f a).length = k) {l : List α} {i : Nat} {a : α} (h : l[i]? = some a) : ∀ (j : Nat) u, (f a)[j]? = some u → (l.flatMap f)[i * k + j]? = some u := by
  induction l generalizing i with
  | nil => simp at h
  | cons p r ih =>
    intro j u hj
    have hj2 : j < k := by have := (List.getElem?_eq_some_iff.1 hj).1; rw [hk] at this; exact this
    rw [List.flatMap_cons]
    cases i with
    | zero =>
      simp at h
      subst h
      rw [Nat.zero_mul, Nat.zero_add, List.getElem?_append_left (by rw [hk]; exact hj2)]
      exact hj
    | succ i =>
      simp only [List.getElem?_cons_succ] at h
      have hs : (i + 1) * k = i * k + k := Nat.succ_mul i k
      rw [List.getElem?_append_right (by rw [hk]; omega), ← ih h j u hj, hk]
      congr 1
      omega
theorem add_block (a : Addr) (j : Nat) : (a.add j).block = a.block := by unfold Addr.add; split <;> rfl
theorem flat_length {α : Type} {f : α → List Value} {k : Nat} (hk : ∀ a, (f a).length = k) (l : List α) : (l.flatMap f).length = l.length * k := by
  induction l with
  | nil => simp
  | cons a r ih => rw [List.flatMap_cons, List.length_append, ih, hk, List.length_cons, Nat.succ_mul]; omega
section
variable {P : Program} {ops : Array Oper} {Q : Exit → Act → World → Prop} {md : Region.Mode} {S S2 : World → Prop}
/-- A stronger condition serves for the rest of a region. -/
theorem wpAnyH_strong (h : ∀ w, S2 w → S w) : ∀ (fuel : Nat) (listed : Array Bool) (a : Act) (w : World), wpAnyH P md ops Q S2 fuel listed a w → wpAnyH P md ops Q S fuel listed a w
  | 0, _, _, _, hw => hw
  | fuel + 1, _, _, _, hw => ⟨hw.1, fun i hi => wpOp_mono (fun a' w' h' => ⟨h _ h'.1, wpAnyH_strong h fuel _ a' w' h'.2⟩) (hw.2 i hi)⟩
/-- An operation that yields its value in every world that meets S. -/
theorem wpAnyH_yields {i : Nat} {oi : Oper} {v : Value} {fuel : Nat} {listed : Array Bool} {a : Act} {w : World} (hi : ops[i]? = some oi)
    (hs : Region.noSelect ops = true) (hf : Region.free md ops listed i = true) (hr : (Region.ready md ops listed).contains i = true) (hS : S w)
    (hw : Region.wanted oi (yielded ops a.tmps) = true) (hy : ∀ w, S w → (execOp a.eval oi).run P w = .ok (.value v) w) (hQ : ∀ c a w, Q (.panic c) (a.put oi.dst v) w → Q (.panic c) a w)
    (h : wpAnyH P md ops Q S fuel (listed.setIfInBounds i true) (a.put oi.dst v) w) : wpAnyH P md ops Q S (fuel + 1) listed a w :=
  wpAnyH_take hi hs hf hr hQ (Or.inl ⟨hw, hy⟩) hS h
/-- The beginning, the number of operations and what has come up written out. -/
theorem wp_region_held_n {id n : Nat} {l : Array Bool} {a : Act} {w : World} (hn : ops.size = n) (hl : Array.replicate n false = l) (hm : P.follows .mixedOrders = true) (hS : S w.drew)
    (h : wpAnyH P .any ops Q S n l a w.drew) : (Code.region id ops true).wp P Q a w := by
  subst hn
  subst hl
  exact wp_region_held_drew hm hS (fun _ => h)
end
end Go.Cu

namespace Go.Proofs.YtcalamofccdldaaDoor
open Go Go.RowKit Go.Cu

theorem size_flow : (Tryd.prog.info? 31).map (·.size) = some 3 := by kernel_rfl
theorem agg_flow (w : World) : (isAgg 31).run Tryd.prog w = .ok true w := by kernel_rfl

/-- letters as cells -/
def bytesV (l : List UInt8) : List Value := l.map fun b => .int .u8 (b.toNat : Int)
theorem bytesV_length (l : List UInt8) : (bytesV l).length = l.length := by simp [bytesV]
theorem bytesV_take (l : List UInt8) (k : Nat) : (bytesV l).take k = bytesV (l.take k) := by simp [bytesV, List.map_take]
theorem bytesV_drop (l : List UInt8) (k : Nat) : (bytesV l).drop k = bytesV (l.drop k) := by simp [bytesV, List.map_drop]
theorem bytesV_append (l m : List UInt8) : bytesV l ++ bytesV m = bytesV (l ++ m) := by simp [bytesV]
theorem bytesV_one (l : List UInt8) : ∀ u ∈ bytesV l, u.oneCell' = true := by
  intro u hu
  obtain ⟨x, _, rfl⟩ := List.mem_map.1 hu
  rfl

structure FlowD where
  A : Option Addr
  n : Nat
  c : Nat
  bs : List UInt8
  out : Int
  drop : Bool
def flowCell (f : FlowD) : List Value := [.slice f.A f.n f.c, .int .i64 f.out, .bool f.drop]
theorem flowCell_length (f : FlowD) : (flowCell f).length = 3 := rfl
def total (fs : List FlowD) (i : Nat) : Nat := ((fs.take i).map FlowD.n).sum
/-- The flows that came in. -/
structure Flows (w : World) (v : Value) (n : Nat) (fs : List FlowD) : Prop where
  reads : Reads w 3 v n (fs.flatMap flowCell)
  length : fs.length = n
  each : ∀ f ∈ fs, Reads w 1 (.slice f.A f.n f.c) f.n (bytesV f.bs) ∧ f.n ≤ f.c ∧ (Lit.int .i64 f.out).wf = true
  room : total fs n + n ≤ 1048576
theorem Reads.below {w w' : World} {sz : Nat} {x : Value} {m : Nat} {news : List Value} (h : Reads w sz x m news) (hb : Below w.heap.size w w') : Reads w' sz x m news :=
  Reads.kept h (fun a _ hc => (hb.cell (World.block_lt_of_cell? w a hc)).trans hc)
theorem total_succ {fs : List FlowD} {i : Nat} {f : FlowD} (h : fs[i]? = some f) : total fs (i + 1) = total fs i + f.n := by
  unfold total
  obtain ⟨hl, hx⟩ := List.getElem?_eq_some_iff.1 h
  rw [List.take_succ_eq_append_getElem hl, List.map_append, List.sum_append, hx]
  simp
theorem total_le {fs : List FlowD} {n : Nat} (hn : fs.length = n) {i : Nat} (hi : i ≤ n) : total fs i ≤ total fs n := by
  have h : ∀ d, total fs i ≤ total fs (i + d) := by
    intro d
    induction d with
    | zero => exact Nat.le_refl _
    | succ d ih =>
      by_cases hl : i + d < fs.length
      · rw [← Nat.add_assoc, total_succ (List.getElem?_eq_getElem hl)]; omega
      · have e : total fs (i + (d + 1)) = total fs (i + d) := by unfold total; rw [List.take_of_length_le (by omega), List.take_of_length_le (by omega)]
        rw [e]; exact ih
  have := h (n - i)
  rwa [show i + (n - i) = n by omega] at this

/-- what the loop keeps: the ring, what went in, what came out: each in memory of its own -/
structure FS (w wr : World) (F G1 G2 : Nat → Prop) (b cap : Nat) (A1 : Option Addr) (c1 : Nat) (A2 : Option Addr) (c2 : Nat) (inn out held : List UInt8) : Prop where
  ring : RB.Ring wr F b cap (bytesV held) 0
  row1 : Row wr G1 5 1 (.slice A1 inn.length c1) inn.length (bytesV inn)
  row2 : Row wr G2 5 1 (.slice A2 out.length c2) out.length (bytesV out)
  d1 : ∀ k, F k → ¬ G1 k ∧ ¬ G2 k
  d2 : ∀ k, G1 k → ¬ G2 k
  lowF : ∀ k, F k → w.heap.size ≤ k
  low1 : ∀ k, G1 k → w.heap.size ≤ k ∧ k < wr.heap.size
  low2 : ∀ k, G2 k → w.heap.size ≤ k ∧ k < wr.heap.size

section
variable {w wr w' : World} {F G1 G2 : Nat → Prop} {b cap : Nat} {A1 : Option Addr} {c1 : Nat} {A2 : Option Addr} {c2 : Nat} {inn out held held' more : List UInt8}
theorem FS.below (h : FS w wr F G1 G2 b cap A1 c1 A2 c2 inn out held) (hb : Below wr.heap.size wr w') : FS w w' F G1 G2 b cap A1 c1 A2 c2 inn out held :=
  have hm := Mod.ofBelow hb (fun _ => False)
  ⟨h.ring.below hb, h.row1.kept hm (fun _ _ _ h => h), h.row2.kept hm (fun _ _ _ h => h), h.d1, h.d2, h.lowF, fun k hk => ⟨(h.low1 k hk).1, Nat.lt_of_lt_of_le (h.low1 k hk).2 hb.size⟩, fun k hk => ⟨(h.low2 k hk).1, Nat.lt_of_lt_of_le (h.low2 k hk).2 hb.size⟩⟩
/-- the ring takes a step -/
theorem FS.ringStep {F' : Nat → Prop} (h : FS w wr F G1 G2 b cap A1 c1 A2 c2 inn out held) (hr : RB.Ring w' F' b cap (bytesV held') 0) (hm : Mod F wr w') (hF : ∀ k, F' k → F k ∨ wr.heap.size ≤ k) (hw : w.heap.size ≤ wr.heap.size) : FS w w' F' G1 G2 b cap A1 c1 A2 c2 inn out held' := by
  refine ⟨hr, h.row1.kept hm (fun k hk _ hf => (h.d1 k hf).1 hk), h.row2.kept hm (fun k hk _ hf => (h.d1 k hf).2 hk), ?_, h.d2, ?_, fun k hk => ⟨(h.low1 k hk).1, Nat.lt_of_lt_of_le (h.low1 k hk).2 hm.size⟩, fun k hk => ⟨(h.low2 k hk).1, Nat.lt_of_lt_of_le (h.low2 k hk).2 hm.size⟩⟩
  · intro k hk
    rcases hF k hk with hk | hk
    · exact h.d1 k hk
    · exact ⟨fun hg => by have := (h.low1 k hg).2; omega, fun hg => by have := (h.low2 k hg).2; omega⟩
  · intro k hk
    rcases hF k hk with hk | hk
    · exact h.lowF k hk
    · omega
/-- more went in -/
theorem FS.inStep {A' : Option Addr} {c' k : Nat} (h : FS w wr F G1 G2 b cap A1 c1 A2 c2 inn out held) (hk : more.length = k) (hrow : Row w' (fun j => G1 j ∨ j = wr.heap.size) 5 1 (.slice A' (inn.length + k) c') (inn.length + k) (bytesV inn ++ bytesV more)) (hm : Mod G1 wr w') (hw : w.heap.size ≤ wr.heap.size) :
    FS w w' F (fun j => (G1 j ∨ j = wr.heap.size) ∧ j < w'.heap.size) G2 b cap A' c' A2 c2 (inn ++ more) out held := by
  subst hk
  have hF := h.ring.lt
  refine ⟨h.ring.kept hm (fun k hk hg => (h.d1 k hk).1 hg), ?_, h.row2.kept hm (fun k hk _ hg => h.d2 k hg hk), ?_, ?_, h.lowF, ?_, fun k hk => ⟨(h.low2 k hk).1, Nat.lt_of_lt_of_le (h.low2 k hk).2 hm.size⟩⟩
  · rw [bytesV_append] at hrow
    rw [List.length_append]
    exact hrow.mono (fun j hj hl => ⟨hj, hl⟩)
  · intro k hk
    refine ⟨?_, (h.d1 k hk).2⟩
    rintro ⟨hg | hg, _⟩
    · exact (h.d1 k hk).1 hg
    · have := hF k hk; omega
  · rintro k ⟨hg | hg, _⟩ h2
    · exact h.d2 k hg h2
    · have := (h.low2 k h2).2; omega
  · rintro k ⟨hg | hg, hl⟩
    · exact ⟨(h.low1 k hg).1, hl⟩
    · exact ⟨by omega, hl⟩
/-- more came out -/
theorem FS.outStep {A' : Option Addr} {c' k : Nat} (h : FS w wr F G1 G2 b cap A1 c1 A2 c2 inn out held) (hk : more.length = k) (hrow : Row w' (fun j => G2 j ∨ j = wr.heap.size) 5 1 (.slice A' (out.length + k) c') (out.length + k) (bytesV out ++ bytesV more)) (hm : Mod G2 wr w') (hw : w.heap.size ≤ wr.heap.size) :
    FS w w' F G1 (fun j => (G2 j ∨ j = wr.heap.size) ∧ j < w'.heap.size) b cap A1 c1 A' c' inn (out ++ more) held := by
  subst hk
  have hF := h.ring.lt
  refine ⟨h.ring.kept hm (fun k hk hg => (h.d1 k hk).2 hg), h.row1.kept hm (fun k hk _ hg => h.d2 k hk hg), ?_, ?_, ?_, h.lowF, fun k hk => ⟨(h.low1 k hk).1, Nat.lt_of_lt_of_le (h.low1 k hk).2 hm.size⟩, ?_⟩
  · rw [bytesV_append] at hrow
    rw [List.length_append]
    exact hrow.mono (fun j hj hl => ⟨hj, hl⟩)
  · intro k hk
    refine ⟨(h.d1 k hk).1, ?_⟩
    rintro ⟨hg | hg, _⟩
    · exact (h.d1 k hk).2 hg
    · have := hF k hk; omega
  · rintro k h1 ⟨hg | hg, _⟩
    · exact h.d2 k h1 hg
    · have := (h.low1 k h1).2; omega
  · rintro k ⟨hg | hg, hl⟩
    · exact ⟨(h.low2 k hg).1, hl⟩
    · exact ⟨by omega, hl⟩
end

/-- string(b) -/
theorem run_str {w : World} {v : Value} {n : Nat} {l : List UInt8} (h : Reads w 1 v n (bytesV l)) : (convert 29 9 v).run Tryd.prog w = .ok (.string ⟨l.toArray⟩) w := by
  obtain ⟨h1, A, c, rfl, h2, h3⟩ := h
  rw [bytesV_length, Nat.mul_one] at h1
  subst h1
  rcases A with _ | ad
  · have hl : l = [] := by
      rcases h3 with h3 | ⟨ad, h, _⟩
      · exact List.eq_nil_of_length_eq_zero (by omega)
      · cases h
    subst hl
    exact run_convert_bytes_nil (P := Tryd.prog) w 29 5 Tryd.underlying29 Tryd.underlying5 _ c 9 Tryd.underlying9
  · refine run_convert_bytes_back (P := Tryd.prog) w 29 9 5 ad c l Tryd.underlying29 Tryd.underlying5 Tryd.underlying9 (fun j hj => ?_)
    rcases h3 with h3 | ⟨ad', he, hc⟩
    · omega
    · injection he with he
      subst he
      exact hc j _ (by simp [bytesV, List.getElem?_eq_getElem hj])

/-! ### The ring's functions, over letters -/
theorem lenB (w : World) (F : Nat → Prop) (b cap : Nat) (l : List UInt8) (h : RB.Ring w F b cap (bytesV l) 0) :
    Calls Tryd.prog 14 #[.pointer (some ⟨b, 0, none⟩)] w fun e w' => e = .returned (.int .i64 l.length) ∧ w = w' := by
  have := RB.len_any w F b cap _ 0 h
  rwa [bytesV_length] at this
theorem freeB (w : World) (F : Nat → Prop) (b cap : Nat) (l : List UInt8) (fr : Nat) (h : RB.Ring w F b cap (bytesV l) 0) (hf : cap - l.length = fr) :
    Calls Tryd.prog 11 #[.pointer (some ⟨b, 0, none⟩)] w fun e w' => e = .returned (.int .i64 fr) ∧ w = w' :=
  RB.free_eq w F b cap _ 0 fr h (by rw [bytesV_length]; exact hf)
theorem peekB (w : World) (F : Nat → Prop) (b cap : Nat) (l : List UInt8) (n : Int) (k : Nat) (h : RB.Ring w F b cap (bytesV l) 0) (hk : min n.toNat l.length = k) :
    Calls Tryd.prog 13 #[.pointer (some ⟨b, 0, none⟩), .int .i64 n] w fun e w' => ∃ A c, e = .returned (.slice A k c) ∧ Row w' (RB.New w) 5 1 (.slice A k c) k (bytesV (l.take k)) ∧ Below w.heap.size w w' := by
  have := RB.peek_any w F b cap _ 0 n k h (by rw [bytesV_length]; exact hk)
  rwa [bytesV_take] at this
theorem dropB (w : World) (F : Nat → Prop) (b cap : Nat) (l : List UInt8) (n : Int) (k : Nat) (h : RB.Ring w F b cap (bytesV l) 0) (hk : min n.toNat l.length = k) :
    Calls Tryd.prog 15 #[.pointer (some ⟨b, 0, none⟩), .int .i64 n] w fun e w' => e = .returned (.int .i64 k) ∧ RB.Ring w' F b cap (bytesV (l.drop k)) 0 ∧ Mod F w w' := by
  have := RB.drop_any w F b cap _ 0 n k h (by rw [bytesV_length]; exact hk)
  rwa [bytesV_drop] at this
theorem popB (w : World) (F : Nat → Prop) (b cap : Nat) (l : List UInt8) (n : Int) (k : Nat) (h : RB.Ring w F b cap (bytesV l) 0) (hk : min n.toNat l.length = k) :
    Calls Tryd.prog 16 #[.pointer (some ⟨b, 0, none⟩), .int .i64 n] w fun e w' => ∃ A c, e = .returned (.slice A k c) ∧ Row w' (RB.New w) 5 1 (.slice A k c) k (bytesV (l.take k)) ∧ RB.Ring w' F b cap (bytesV (l.drop k)) 0 ∧ Mod F w w' := by
  have := RB.pop_any w F b cap _ 0 n k h (by rw [bytesV_length]; exact hk)
  rwa [bytesV_take, bytesV_drop] at this
theorem clearB (w : World) (F : Nat → Prop) (b cap : Nat) (l : List UInt8) (h : RB.Ring w F b cap (bytesV l) 0) :
    Calls Tryd.prog 17 #[.pointer (some ⟨b, 0, none⟩)] w fun e w' => e = .returned (.int .i64 l.length) ∧ RB.Ring w' F b cap (bytesV []) 0 ∧ Mod F w w' := by
  have := RB.clear_any w F b cap _ 0 h
  rwa [bytesV_length] at this

/-- the flow's own variable -/
structure Cel (w : World) (p : Nat) (f : FlowD) : Prop where
  c0 : w.cell? ⟨p, 0, none⟩ = some (.slice f.A f.n f.c)
  c1 : w.cell? ⟨p, 1, none⟩ = some (.int .i64 f.out)
  c2 : w.cell? ⟨p, 2, none⟩ = some (.bool f.drop)
theorem Cel.made (w : World) (f : FlowD) : Cel (w.alloc (.cells #[.slice f.A f.n f.c, .int .i64 f.out, .bool f.drop] 31)) w.heap.size f := ⟨by simp, by simp, by simp⟩
theorem Cel.kept {w w' : World} {F : Nat → Prop} {p : Nat} {f : FlowD} (h : Cel w p f) (hm : Mod F w w') (hn : ¬ F p) : Cel w' p f := ⟨hm.cell h.c0 hn, hm.cell h.c1 hn, hm.cell h.c2 hn⟩

/-! ### The test behind each flow -/
def Keep (w : World) (F G1 G2 : Nat → Prop) (b cap : Nat) (A1 : Option Addr) (c1 : Nat) (A2 : Option Addr) (c2 : Nat) (inn out held : List UInt8) (w' : World) : Prop := FS w w' F G1 G2 b cap A1 c1 A2 c2 inn out held ∧ Below w.heap.size w w'
section
variable {w wr : World} {F G1 G2 : Nat → Prop} {b cap : Nat} {A1 : Option Addr} {c1 : Nat} {A2 : Option Addr} {c2 n1 n2 : Nat} {inn out held : List UInt8}
def St (w : World) (F G1 G2 : Nat → Prop) (b cap : Nat) (A1 : Option Addr) (n1 c1 : Nat) (A2 : Option Addr) (n2 c2 : Nat) (inn out held : List UInt8) (w' : World) : Prop :=
  (convert 29 9 (.slice A1 n1 c1)).run Tryd.prog w' = .ok (.string ⟨inn.toArray⟩) w' ∧ (convert 29 9 (.slice A2 n2 c2)).run Tryd.prog w' = .ok (.string ⟨out.toArray⟩) w' ∧ Keep w F G1 G2 b cap A1 c1 A2 c2 inn out held w'
theorem St.mk (h : Keep w F G1 G2 b cap A1 c1 A2 c2 inn out held wr) (h1 : inn.length = n1) (h2 : out.length = n2) : St w F G1 G2 b cap A1 n1 c1 A2 n2 c2 inn out held wr := by
  subst h1
  subst h2
  exact ⟨run_str h.1.row1.reads, run_str h.1.row2.reads, h⟩
theorem Keep.drew (h : Keep w F G1 G2 b cap A1 c1 A2 c2 inn out held wr) : Keep w F G1 G2 b cap A1 c1 A2 c2 inn out held wr.drew :=
  ⟨h.1.below ⟨rfl, rfl, rfl, Nat.le_refl _, fun _ _ => rfl⟩, h.2.trans ⟨rfl, rfl, rfl, Nat.le_refl _, fun _ _ => rfl⟩⟩
theorem lenS {X Y : Prop} (h : X ∧ Y ∧ Keep w F G1 G2 b cap A1 c1 A2 c2 inn out held wr) : Calls Tryd.prog 14 #[.pointer (some ⟨b, 0, none⟩)] wr fun e w' => e = .returned (.int .i64 held.length) ∧ wr = w' := lenB wr F b cap held h.2.2.1.ring
theorem freeS {X Y : Prop} (fr : Nat) (hf : cap - held.length = fr) (h : X ∧ Y ∧ Keep w F G1 G2 b cap A1 c1 A2 c2 inn out held wr) : Calls Tryd.prog 11 #[.pointer (some ⟨b, 0, none⟩)] wr fun e w' => e = .returned (.int .i64 fr) ∧ wr = w' := freeB wr F b cap held fr h.2.2.1.ring hf
theorem peekS {X Y : Prop} (n1 n2 : Nat) (h1 : inn.length = n1) (h2 : out.length = n2) (h : X ∧ Y ∧ Keep w F G1 G2 b cap A1 c1 A2 c2 inn out held wr) :
    Calls Tryd.prog 13 #[.pointer (some ⟨b, 0, none⟩), .int .i64 held.length] wr fun e w' => ∃ A c, e = .returned (.slice A held.length c) ∧ (convert 29 9 (.slice A held.length c)).run Tryd.prog w' = .ok (.string ⟨held.toArray⟩) w' ∧ St w F G1 G2 b cap A1 n1 c1 A2 n2 c2 inn out held w' := by
  refine (peekB wr F b cap held held.length held.length h.2.2.1.ring (by omega)).mono ?_
  rintro e w' ⟨A, c, rfl, hr, hb⟩
  rw [List.take_length] at hr
  exact ⟨A, c, rfl, run_str hr.reads, St.mk ⟨h.2.2.1.below hb, h.2.2.2.trans (hb.mono h.2.2.2.size)⟩ h1 h2⟩
end
end Go.Proofs.YtcalamofccdldaaDoor
