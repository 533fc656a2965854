import Derived.Test.YtipfjnjjfojdgaaDoorTTells
import Derived.Test.YtipfjnjjfojdgaaDoorTRef7
import Derived.Test.YtipfjnjjfojdgaaDoorTRef4
/- One call on both: what the history and the document answer; a history or none. -/
namespace Go.Proofs.YtipfjnjjfojdgaaDoor
open Go Go.RowKit Go.Cu Go.Proofs.YtipfjnjjfojdgaaDoor.errs

/-- the error's value by its number -/
def evOf (adr : Nat → Addr) (e : Int) : Value := if e = 0 then .nilIface else .iface 146 (.pointer (some (adr e.toNat)))
theorem code_of (w : World) (adr : Nat → Addr) (h : Sent w adr) (e : Int) (he : e = 0 ∨ e = 1 ∨ e = 24 ∨ e = 39) : Calls Tryd.prog 27 #[evOf adr e] w fun r w' => r = .returned (.int .i64 e) ∧ w' = w := by
  rcases he with rfl | rfl | rfl | rfl
  · exact code_nil w
  · exact code_err w adr h 1 (by decide) (by decide) (by decide)
  · exact code_err w adr h 24 (by decide) (by decide) (by decide)
  · exact code_err w adr h 39 (by decide) (by decide) (by decide)
def sE (none : Bool) (e : Int) : Int := if none = true then 1 else e
def sR (none : Bool) (R R' : List Rw) : List Rw := if none = true then R else R'
/-- a history (none: no history) -/
structure HM (none : Bool) (w : World) (pv : Value) (D : Nat → Prop) (R : List Rw) : Prop where
  ex : (none = false ∧ ∃ c, pv = ptr c ∧ Hist w c D R) ∨ (none = true ∧ pv = .pointer Option.none ∧ R = [])
section
variable {none : Bool} {w w' : World} {pv : Value} {D G : Nat → Prop} {R : List Rw} {adr : Nat → Addr}
theorem HM.hn (h : HM none w pv D R) : HN w pv D R := ⟨h.ex.imp (fun h => h.2) (fun h => h.2)⟩
theorem HM.kept (h : HM none w pv D R) (hm : Mod G w w') (hn : ∀ k, D k → k < w.heap.size → ¬ G k) : HM none w' pv D R := ⟨h.ex.imp (fun ⟨h0, c, h1, h2⟩ => ⟨h0, c, h1, h2.kept hm hn⟩) id⟩
theorem HM.past (h : HM none w pv D R) (hb : Below w.heap.size w w') : HM none w' pv D R := ⟨h.ex.imp (fun ⟨h0, c, h1, h2⟩ => ⟨h0, c, h1, h2.past hb⟩) id⟩
def TurnedM (none : Bool) (w w' : World) (pv : Value) (D : Nat → Prop) (R : List Rw) : Prop := HM none w' pv (fun k => D k ∨ (w.heap.size ≤ k ∧ k < w'.heap.size)) R ∧ Mod D w w'
theorem turned_m {c : Nat} (h : Turned w w' c D R) : TurnedM false w w' (ptr c) D R := ⟨⟨.inl ⟨rfl, c, rfl, h.1⟩⟩, h.2⟩
theorem turned_n : TurnedM true w w (.pointer Option.none) D [] := ⟨⟨.inr ⟨rfl, rfl, rfl⟩⟩, Mod.refl _ _⟩
theorem told_ev {ok : Prop} {n : Nat} {r : Ending} (hn : n ≠ 0) (h : Told2 adr ok n r) [Decidable ok] : r = .returned (evOf adr (if ok then 0 else (n : Int))) := by
  by_cases hp : ok
  · rw [if_pos hp, h.yes hp]; rfl
  · rw [if_neg hp, h.no hp]
    unfold evOf
    rw [if_neg (by omega)]
    rfl
theorem m_wrote (w : World) (hS : Sent w adr) (h : HM none w pv D R) (k : Int) (hk : wfi k) (hE : R.length ≤ 2097152) (A2 : Option Addr) (n2 c2 : Nat) (L : List Int) (hr : Reads w 1 (.slice A2 n2 c2) n2 (u8s L)) (hL : ∀ x ∈ L, 0 ≤ x ∧ x ≤ 255) (hn : (pastR R k).bs.length + n2 ≤ 1099511627776) :
    Calls Tryd.prog 12 #[pv, .int .i64 k, .slice A2 n2 c2] w fun r w' => r = .returned (evOf adr (sE none (wroteE R k))) ∧ TurnedM none w w' pv D (sR none R (wroteR R k L)) := by
  rcases h.ex with ⟨rfl, c, rfl, h1⟩ | ⟨rfl, rfl, rfl⟩
  · refine (wrote_act w hS h1 k hk hE A2 n2 c2 L hr hL hn).mono ?_
    rintro r w' ⟨h2, h3⟩
    refine ⟨?_, turned_m h3⟩
    rw [told_ev (by decide) h2]
    show Ending.returned (evOf adr _) = Ending.returned (evOf adr (wroteE R k))
    unfold wroteE
    cases (pastR R k).cl <;> rfl
  · refine (wrote_nil w k _ _ (hS.cell 1 (by decide) (by decide))).mono ?_
    rintro r w' ⟨rfl, rfl⟩
    exact ⟨rfl, turned_n⟩
theorem m_closed (w : World) (hS : Sent w adr) (h : HM none w pv D R) (k : Int) (hk : wfi k) (hE : R.length ≤ 2097152) :
    Calls Tryd.prog 13 #[pv, .int .i64 k] w fun r w' => r = .returned (evOf adr (sE none (wroteE R k))) ∧ TurnedM none w w' pv D (sR none R (closedR R k)) := by
  rcases h.ex with ⟨rfl, c, rfl, h1⟩ | ⟨rfl, rfl, rfl⟩
  · refine (closed_act w hS h1 k hk hE).mono ?_
    rintro r w' ⟨h2, h3⟩
    refine ⟨?_, turned_m h3⟩
    rw [told_ev (by decide) h2]
    show Ending.returned (evOf adr _) = Ending.returned (evOf adr (wroteE R k))
    unfold wroteE
    cases (pastR R k).cl <;> rfl
  · refine (closed_nil w k _ (hS.cell 1 (by decide) (by decide))).mono ?_
    rintro r w' ⟨rfl, rfl⟩
    exact ⟨rfl, turned_n⟩
theorem m_gave (w : World) (hS : Sent w adr) (h : HM none w pv D R) (k : Int) (hk : wfi k) (hE : R.length ≤ 2097152) (A2 : Option Addr) (n2 c2 : Nat) (L : List Int) (hr : Reads w 1 (.slice A2 n2 c2) n2 (u8s L)) (hL : ∀ x ∈ L, 0 ≤ x ∧ x ≤ 255) (hn : (pastR R k).bs.length ≤ 140737488355328) :
    Calls Tryd.prog 14 #[pv, .int .i64 k, .slice A2 n2 c2] w fun r w' => r = .returned (evOf adr (sE none (gaveE R k L))) ∧ TurnedM none w w' pv D (sR none R (gaveR R k L)) := by
  rcases h.ex with ⟨rfl, c, rfl, h1⟩ | ⟨rfl, rfl, rfl⟩
  · refine (gave_act w hS h1 k hk hE A2 n2 c2 L hr hL hn).mono ?_
    rintro r w' ⟨h2, h3⟩
    refine ⟨?_, turned_m h3⟩
    rw [told_ev (by decide) h2]
    rfl
  · refine (gave_nil w k _ _ (hS.cell 1 (by decide) (by decide))).mono ?_
    rintro r w' ⟨rfl, rfl⟩
    exact ⟨rfl, turned_n⟩
theorem m_ended (w : World) (hS : Sent w adr) (h : HM none w pv D R) (k : Int) (hk : wfi k) (hrd : (pastR R k).rd ≤ (pastR R k).bs.length) :
    Calls Tryd.prog 15 #[pv, .int .i64 k] w fun r w' => r = .returned (evOf adr (sE none (endedE R k))) ∧ TurnedM none w w' pv D (sR none R (endedR R k)) := by
  rcases h.ex with ⟨rfl, c, rfl, h1⟩ | ⟨rfl, rfl, rfl⟩
  · refine (ended_act w hS h1 k hk hrd).mono ?_
    rintro r w' ⟨h2, h3⟩
    refine ⟨?_, turned_m h3⟩
    rw [told_ev (by decide) h2]
    rfl
  · refine (ended_nil w k _ (hS.cell 1 (by decide) (by decide))).mono ?_
    rintro r w' ⟨rfl, rfl⟩
    exact ⟨rfl, turned_n⟩
end
/-- a history that knows R1 beside the document's that knows R2 -/
structure HD (none : Bool) (S : Nat) (w : World) (pv : Value) (D F : Nat → Prop) (v : Value) (R1 R2 : List Rw) : Prop where
  h : HM none w pv D R1
  d : Doc w F v R2
  ld : ∀ k, D k → S ≤ k ∧ k < w.heap.size
  lf : ∀ k, F k → S ≤ k ∧ k < w.heap.size
  df : ∀ k, D k → ¬ F k
section
variable {none : Bool} {S : Nat} {w w' : World} {pv v v' : Value} {D F : Nat → Prop} {R1 R2 R' : List Rw}
theorem HD.past (h : HD none S w pv D F v R1 R2) (hb : Below w.heap.size w w') : HD none S w' pv D F v R1 R2 :=
  ⟨h.h.past hb, h.d.past hb, fun k hk => ⟨(h.ld k hk).1, Nat.lt_of_lt_of_le (h.ld k hk).2 hb.size⟩, fun k hk => ⟨(h.lf k hk).1, Nat.lt_of_lt_of_le (h.lf k hk).2 hb.size⟩, h.df⟩
theorem HD.doc (h : HD none S w pv D F v R1 R2) (hS : S ≤ w.heap.size) (hb : Below w.heap.size w w') (hd : Doc w' (fun k => F k ∨ w.heap.size ≤ k) v' R') : ∃ F', HD none S w' pv D F' v' R1 R' := by
  refine ⟨fun k => F k ∨ (w.heap.size ≤ k ∧ k < w'.heap.size), h.h.past hb, hd.mono (fun k hk hl => hk.imp id (fun h => ⟨h, hl⟩)), fun k hk => ⟨(h.ld k hk).1, Nat.lt_of_lt_of_le (h.ld k hk).2 hb.size⟩, ?_, ?_⟩
  · rintro k (hk | hk)
    · exact ⟨(h.lf k hk).1, Nat.lt_of_lt_of_le (h.lf k hk).2 hb.size⟩
    · exact ⟨Nat.le_trans hS hk.1, hk.2⟩
  · rintro k hd (hk | hk)
    · exact h.df k hd hk
    · have := (h.ld k hd).2; omega
theorem HD.turn (h : HD none S w pv D F v R1 R2) (hS : S ≤ w.heap.size) (ht : TurnedM none w w' pv D R') : ∃ D', HD none S w' pv D' F v R' R2 := by
  obtain ⟨h1, hm⟩ := ht
  refine ⟨_, h1, h.d.kept hm (fun k hk _ hd => h.df k hd hk), ?_, fun k hk => ⟨(h.lf k hk).1, Nat.lt_of_lt_of_le (h.lf k hk).2 hm.size⟩, ?_⟩
  · rintro k (hk | hk)
    · exact ⟨(h.ld k hk).1, Nat.lt_of_lt_of_le (h.ld k hk).2 hm.size⟩
    · exact ⟨Nat.le_trans hS hk.1, hk.2⟩
  · rintro k (hk | hk) hf
    · exact h.df k hk hf
    · have := (h.lf k hf).2; omega
theorem HD.low (h : HD none S w pv D F v R1 R2) (hS : S ≤ w.heap.size) (ht : TurnedM none w w' pv D R') : Below S w w' := ht.2.below hS (fun k hk => (h.ld k hk).1)
end
end Go.Proofs.YtipfjnjjfojdgaaDoor
