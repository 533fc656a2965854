import Derived.Test.YtipfjnjjfojdgaaDoorLib
import Derived.Test.YtipfjnjjfojdgaaDoorChecked
import Derived.WalkKit
import Derived.LaidEql
import Derived.Stop.Asserts
import Derived.RowKitTokens
import Derived.Stop.LaidErr
/- errors.Is by its contracts, over pointers of errors.New's make (after the kit's SentryIs); the sentinels; Code. -/
namespace Go.Cu
open Go Go.RowKit Go.ChangeShapes

/-- a datum of a sentinel's form -/
def isSent (nm : String) : DataW Unit → Bool
  | .iface n (.ptr (.agg [.lit (.string _)])) => n == nm
  | _ => false
theorem isSent_form {nm : String} {d : DataW Unit} (h : isSent nm d = true) : ∃ text, d = .iface nm (.ptr (.agg [.lit (.string text)])) := by
  unfold isSent at h
  split at h
  · rename_i n text
    exact ⟨text, by rw [eq_of_beq h]⟩
  · cases h

/-- Sentinels, one behind the other: a pointer each, each to a row of its own. -/
theorem laid_sents {P : Program} {nm : String} {W : World} {ti tp te ts : TypeId} {ms : Array (String × TypeId)} {f : Field}
    (hi : P.underlying ti = some (.interface ms)) (hrow : ∀ u, P.typeName? 3 u = some nm → u = tp)
    (hp : P.underlying tp = some (.pointer te)) (he : P.underlying te = some (.struct #[f])) (hft : f.type = ts) (hfo : f.offset = 0) (hs : P.underlying ts = some .string) (hc : P.cellsOf te = 1) (hcs : P.cellsOf ts = 1) :
    ∀ (l : List (String × DataW Unit)) (gs : List Nat) (ps : List MemPlace), l.all (fun x => isSent nm x.2) = true → l.map (fun x => P.globalNamed x.1) = gs.map some → (∀ g ∈ gs, (P.globals[g]?).map (·.type) = some ti) →
      DataW.LaidVars P W l ps → ps.Nodup → (∀ (b off : Nat), MemPlace.cell b off ∈ ps → (∃ cs t, W.heap[b]? = some (.cells cs t (0, 0))) ∧ ∀ u v, W.cell? ⟨b, off, none⟩ = some (.iface u v) → Value.okWide P W .any 0 u v) →
      ∃ al : List Addr, al.length = gs.length ∧ (∀ (i g : Nat) (a : Addr), gs[i]? = some g → al[i]? = some a → W.cell? ⟨g, 0, none⟩ = some (.iface tp (.pointer (some a)))) ∧
        (∀ a ∈ al, ∃ cs t, W.heap[a.block]? = some (.cells cs t (0, 0))) ∧ (∀ a ∈ al, MemPlace.cell a.block a.off ∈ ps) ∧ al.Nodup
  | [], gs, ps, _, hg, _, _, _, _ => by
    cases gs with
    | nil => exact ⟨[], rfl, fun i g a h => (by simp at h), fun a h => (by cases h), fun a h => (by cases h), List.nodup_nil⟩
    | cons g gs => simp at hg
  | x :: l, gs, ps, ha, hg, ht, hV, hnd, hrows => by
    cases gs with
    | nil => simp at hg
    | cons g gs =>
      obtain ⟨n, d⟩ := x
      simp only [List.all_cons, Bool.and_eq_true] at ha
      simp only [List.map_cons, List.cons.injEq] at hg
      obtain ⟨text, rfl⟩ := isSent_form ha.1
      obtain ⟨g0', t0', cs0, f0, p0, q0, hg0', ht0', hv0, hd0, hrest, e0⟩ := hV
      obtain rfl := Option.some.inj (hg.1.symm.trans hg0')
      obtain rfl := Option.some.inj ((ht g (by simp)).symm.trans ht0')
      subst e0
      obtain ⟨l0⟩ := cs0
      have ok0 : ∀ u v, l0 = [.iface u v] → Value.okWide P W .any 0 u v := fun u v e => by
        subst e
        exact (hrows g 0 (by simp [MemPlace.row])).2 u v (by simpa using World.var?_cell hg0' hv0 0)
      obtain ⟨a0, s0, rfl, hc0, _, _, rfl⟩ := errorString_of_trod hi hrow hp he hft hfo hs hc hcs hd0 ok0
      obtain ⟨al, h1, h2, h3, h4, h5⟩ := laid_sents hi hrow hp he hft hfo hs hc hcs l gs q0 ha.2 hg.2 (fun g h => ht g (by simp [h])) hrest (List.Nodup.sublist (List.sublist_append_right _ _) hnd) (fun b off hm => hrows b off (List.mem_append_right _ hm))
      refine ⟨a0 :: al, by simp [h1], fun i g' a hgi hai => ?_, fun a h => ?_, fun a h => ?_, ?_⟩
      · cases i with
        | zero =>
          simp at hgi hai
          subst hgi
          subst hai
          simpa using World.var?_cell hg0' hv0 0
        | succ i => exact h2 i g' a (by simpa using hgi) (by simpa using hai)
      · rcases List.mem_cons.1 h with rfl | h
        · exact (hrows a.block a.off (by simp [MemPlace.row])).1
        · exact h3 a h
      · rcases List.mem_cons.1 h with rfl | h
        · simp [MemPlace.row]
        · exact List.mem_append_right _ (h4 a h)
      · refine List.nodup_cons.2 ⟨fun hm => ?_, h5⟩
        have hq := h4 a0 hm
        rw [List.nodup_append] at hnd
        exact hnd.2.2 _ (by simp [MemPlace.row]) _ hq rfl
end Go.Cu

namespace Go.Proofs.YtipfjnjjfojdgaaDoor.errs
open Go Go.RowKit Go.Cu Go.Extern.Stop Go.Stop Go.Extern

theorem isTypeOf (v : Value) (w : World) : (Extern.ReflectliteType.typeOf #[.iface 146 v]).run Tryd.prog w = .ok (.iface 104 (.agg #[.pointer (some ⟨45, 146, none⟩)])) w := by kernel_rfl
theorem isComparable (w : World) : ((Extern.ReflectliteType.method fun t => do Extern.Rtype.noPackHeld "Comparable" t; pure (.bool (← typeInfo t).comparable)) #[.agg #[.pointer (some ⟨45, 146, none⟩)]]).run Tryd.prog w = .ok (.bool true) w := by kernel_rfl
theorem callComparable (w : World) : (callFunc 104 #[.agg #[.pointer (some ⟨45, 146, none⟩)]]).run Tryd.prog w = .ok (.value (.bool true)) w := by
  have h := @run_callFunc_extern Tryd.prog 104 _ (Extern.ReflectliteType.method fun t => do Extern.Rtype.noPackHeld "Comparable" t; pure (.bool (← typeInfo t).comparable)) Tryd.func104 (by kernel_rfl) (by kernel_rfl) (by kernel_rfl) (by kernel_rfl)
  rw [h, isComparable]
  rfl
theorem isMethodComparable (v : Value) (w : World) : (Go.method 280 104 v "Comparable").run Tryd.prog w = .ok (104, v) w := by kernel_rfl
theorem isComp : (Tryd.prog.info? 146).map (·.comparable) = some true := by kernel_rfl
theorem isSize : (Tryd.prog.info? 169).map (·.size) = some 1 := by kernel_rfl
theorem noIsE (v : Value) (xT : TypeId) (w : World) : (Instr.typeAssert (.iface 146 v) xT 106 true).run Tryd.prog w = .ok (.tuple #[.nilIface, .bool false]) w := run_typeAssert_lacksB Tryd.underlying106 (by kernel_rfl) (by kernel_rfl) v xT w
theorem noUnwrapE (v : Value) (xT : TypeId) (w : World) : (Instr.typeAssert (.iface 146 v) xT 109 true).run Tryd.prog w = .ok (.tuple #[.nilIface, .bool false]) w := run_typeAssert_lacksB Tryd.underlying109 (by kernel_rfl) (by kernel_rfl) v xT w
theorem noUnwrapsE (v : Value) (xT : TypeId) (w : World) : (Instr.typeAssert (.iface 146 v) xT 111 true).run Tryd.prog w = .ok (.tuple #[.nilIface, .bool false]) w := run_typeAssert_lacksB Tryd.underlying111 (by kernel_rfl) (by kernel_rfl) v xT w


set_option maxRecDepth 10000 in
theorem is_same (a : Addr) (w : World) :
    Calls Tryd.prog 42 #[.iface 146 (.pointer (some a)), .iface 146 (.pointer (some a))] w fun e w' => e = .returned (.bool true) ∧ w' = w := by
  obtain ⟨i, hi, hcmp⟩ := Option.map_eq_some_iff.1 isComp
  obtain ⟨j, hj, hjs⟩ := Option.map_eq_some_iff.1 isSize
  have h8 := @run_callFunc_extern Tryd.prog 50 _ Extern.ReflectliteType.typeOf Tryd.func50 (by kernel_rfl) (by kernel_rfl) (by kernel_rfl) (by kernel_rfl)
  have h32 := callComparable
  have tT := isTypeOf
  have mR := isMethodComparable
  have heq := run_eql_iface_ptr_same (P := Tryd.prog) w a Tryd.underlying32 Tryd.underlying146 hi hcmp hj
  go_enter Tryd.func42, Tryd.ntmps42
  go_wp2
  refine wp_loop_rounds 1 ?_
  rw [rounds_succ]
  go_wp2
  go_ret
  exact ⟨rfl, rfl⟩


set_option maxRecDepth 10000 in
theorem is_other (a b : Addr) (ca cb : Array Value) (ta tb : TypeId) (w : World) (hne : a ≠ b) (ha : w.heap[a.block]? = some (.cells ca ta (0, 0))) (hb : w.heap[b.block]? = some (.cells cb tb (0, 0))) :
    Calls Tryd.prog 42 #[.iface 146 (.pointer (some a)), .iface 146 (.pointer (some b))] w fun e w' => e = .returned (.bool false) ∧ w' = w := by
  obtain ⟨i, hi, hcmp⟩ := Option.map_eq_some_iff.1 isComp
  obtain ⟨j, hj, hjs⟩ := Option.map_eq_some_iff.1 isSize
  have h8 := @run_callFunc_extern Tryd.prog 50 _ Extern.ReflectliteType.typeOf Tryd.func50 (by kernel_rfl) (by kernel_rfl) (by kernel_rfl) (by kernel_rfl)
  have h32 := callComparable
  have tT := isTypeOf
  have mR := isMethodComparable
  have nE := noIsE
  have uE := noUnwrapE
  have vE := noUnwrapsE
  have heq := run_eql_iface_ptr_other (P := Tryd.prog) w Tryd.underlying32 Tryd.underlying146 hi hcmp hj (by rw [hjs]; decide) hne ha hb
  go_enter Tryd.func42, Tryd.ntmps42
  go_wp2
  refine wp_loop_rounds 1 ?_
  rw [rounds_succ]
  go_wp2
  go_ret
  exact ⟨rfl, rfl⟩

/-! ### The sentinels -/
/-- the variables in their order -/
def gmap : List Nat := [0, 3, 4, 5, 6, 7, 8, 9, 10, 11, 12, 13, 14, 15, 16, 17, 18, 19, 20, 21, 22, 23, 24, 1, 25, 26, 27, 28, 29, 30, 31, 32, 33, 34, 35, 36, 37, 38, 2, 39, 40, 41]
def gix (n : Nat) : Nat := gmap.getD (n - 1) 0
abbrev tTP : TypeId := 146
abbrev tES : TypeId := 169
abbrev tER : TypeId := 32
theorem uTP : Tryd.prog.underlying 146 = some (.pointer 169) := Tryd.underlying146
theorem uST : Tryd.prog.underlying 9 = some .string := Tryd.underlying9
/-- All of them, each a pointer to a row of its own. -/
structure Sent (w : World) (adr : Nat → Addr) : Prop where
  cell : ∀ n, 1 ≤ n → n ≤ 42 → w.cell? ⟨gix n, 0, none⟩ = some (.iface 146 (.pointer (some (adr n))))
  row : ∀ n, 1 ≤ n → n ≤ 42 → ∃ cs t, w.heap[(adr n).block]? = some (.cells cs t (0, 0))
  apart : ∀ n m, 1 ≤ n → n ≤ 42 → 1 ≤ m → m ≤ 42 → adr n = adr m → n = m
theorem Sent.below {w w' : World} {adr : Nat → Addr} (h : Sent w adr) (hb : Below w.heap.size w w') : Sent w' adr := by
  refine ⟨fun n h1 h2 => (hb.cell (World.block_lt_of_cell? w _ (h.cell n h1 h2))).trans (h.cell n h1 h2), fun n h1 h2 => ?_, h.apart⟩
  obtain ⟨cs, t, hr⟩ := h.row n h1 h2
  exact ⟨cs, t, by rw [hb.block _ (by exact (Array.getElem?_eq_some_iff.1 hr).1)]; exact hr⟩

set_option maxRecDepth 10000 in
set_option maxHeartbeats 2000000 in
theorem sent_any (w : World) (adr : Nat → Addr) (h : Sent w adr) (n : Nat) (h1 : 1 ≤ n) (h2 : n ≤ 42) : Calls Tryd.prog 43 #[.int .i64 n] w fun e w' => e = .returned (.iface 146 (.pointer (some (adr n)))) ∧ w' = w := by
  have c1 : w.cell? ⟨0, 0, none⟩ = some (.iface 146 (.pointer (some (adr 1)))) := h.cell 1 (by decide) (by decide)
  have c2 : w.cell? ⟨3, 0, none⟩ = some (.iface 146 (.pointer (some (adr 2)))) := h.cell 2 (by decide) (by decide)
  have c3 : w.cell? ⟨4, 0, none⟩ = some (.iface 146 (.pointer (some (adr 3)))) := h.cell 3 (by decide) (by decide)
  have c4 : w.cell? ⟨5, 0, none⟩ = some (.iface 146 (.pointer (some (adr 4)))) := h.cell 4 (by decide) (by decide)
  have c5 : w.cell? ⟨6, 0, none⟩ = some (.iface 146 (.pointer (some (adr 5)))) := h.cell 5 (by decide) (by decide)
  have c6 : w.cell? ⟨7, 0, none⟩ = some (.iface 146 (.pointer (some (adr 6)))) := h.cell 6 (by decide) (by decide)
  have c7 : w.cell? ⟨8, 0, none⟩ = some (.iface 146 (.pointer (some (adr 7)))) := h.cell 7 (by decide) (by decide)
  have c8 : w.cell? ⟨9, 0, none⟩ = some (.iface 146 (.pointer (some (adr 8)))) := h.cell 8 (by decide) (by decide)
  have c9 : w.cell? ⟨10, 0, none⟩ = some (.iface 146 (.pointer (some (adr 9)))) := h.cell 9 (by decide) (by decide)
  have c10 : w.cell? ⟨11, 0, none⟩ = some (.iface 146 (.pointer (some (adr 10)))) := h.cell 10 (by decide) (by decide)
  have c11 : w.cell? ⟨12, 0, none⟩ = some (.iface 146 (.pointer (some (adr 11)))) := h.cell 11 (by decide) (by decide)
  have c12 : w.cell? ⟨13, 0, none⟩ = some (.iface 146 (.pointer (some (adr 12)))) := h.cell 12 (by decide) (by decide)
  have c13 : w.cell? ⟨14, 0, none⟩ = some (.iface 146 (.pointer (some (adr 13)))) := h.cell 13 (by decide) (by decide)
  have c14 : w.cell? ⟨15, 0, none⟩ = some (.iface 146 (.pointer (some (adr 14)))) := h.cell 14 (by decide) (by decide)
  have c15 : w.cell? ⟨16, 0, none⟩ = some (.iface 146 (.pointer (some (adr 15)))) := h.cell 15 (by decide) (by decide)
  have c16 : w.cell? ⟨17, 0, none⟩ = some (.iface 146 (.pointer (some (adr 16)))) := h.cell 16 (by decide) (by decide)
  have c17 : w.cell? ⟨18, 0, none⟩ = some (.iface 146 (.pointer (some (adr 17)))) := h.cell 17 (by decide) (by decide)
  have c18 : w.cell? ⟨19, 0, none⟩ = some (.iface 146 (.pointer (some (adr 18)))) := h.cell 18 (by decide) (by decide)
  have c19 : w.cell? ⟨20, 0, none⟩ = some (.iface 146 (.pointer (some (adr 19)))) := h.cell 19 (by decide) (by decide)
  have c20 : w.cell? ⟨21, 0, none⟩ = some (.iface 146 (.pointer (some (adr 20)))) := h.cell 20 (by decide) (by decide)
  have c21 : w.cell? ⟨22, 0, none⟩ = some (.iface 146 (.pointer (some (adr 21)))) := h.cell 21 (by decide) (by decide)
  have c22 : w.cell? ⟨23, 0, none⟩ = some (.iface 146 (.pointer (some (adr 22)))) := h.cell 22 (by decide) (by decide)
  have c23 : w.cell? ⟨24, 0, none⟩ = some (.iface 146 (.pointer (some (adr 23)))) := h.cell 23 (by decide) (by decide)
  have c24 : w.cell? ⟨1, 0, none⟩ = some (.iface 146 (.pointer (some (adr 24)))) := h.cell 24 (by decide) (by decide)
  have c25 : w.cell? ⟨25, 0, none⟩ = some (.iface 146 (.pointer (some (adr 25)))) := h.cell 25 (by decide) (by decide)
  have c26 : w.cell? ⟨26, 0, none⟩ = some (.iface 146 (.pointer (some (adr 26)))) := h.cell 26 (by decide) (by decide)
  have c27 : w.cell? ⟨27, 0, none⟩ = some (.iface 146 (.pointer (some (adr 27)))) := h.cell 27 (by decide) (by decide)
  have c28 : w.cell? ⟨28, 0, none⟩ = some (.iface 146 (.pointer (some (adr 28)))) := h.cell 28 (by decide) (by decide)
  have c29 : w.cell? ⟨29, 0, none⟩ = some (.iface 146 (.pointer (some (adr 29)))) := h.cell 29 (by decide) (by decide)
  have c30 : w.cell? ⟨30, 0, none⟩ = some (.iface 146 (.pointer (some (adr 30)))) := h.cell 30 (by decide) (by decide)
  have c31 : w.cell? ⟨31, 0, none⟩ = some (.iface 146 (.pointer (some (adr 31)))) := h.cell 31 (by decide) (by decide)
  have c32 : w.cell? ⟨32, 0, none⟩ = some (.iface 146 (.pointer (some (adr 32)))) := h.cell 32 (by decide) (by decide)
  have c33 : w.cell? ⟨33, 0, none⟩ = some (.iface 146 (.pointer (some (adr 33)))) := h.cell 33 (by decide) (by decide)
  have c34 : w.cell? ⟨34, 0, none⟩ = some (.iface 146 (.pointer (some (adr 34)))) := h.cell 34 (by decide) (by decide)
  have c35 : w.cell? ⟨35, 0, none⟩ = some (.iface 146 (.pointer (some (adr 35)))) := h.cell 35 (by decide) (by decide)
  have c36 : w.cell? ⟨36, 0, none⟩ = some (.iface 146 (.pointer (some (adr 36)))) := h.cell 36 (by decide) (by decide)
  have c37 : w.cell? ⟨37, 0, none⟩ = some (.iface 146 (.pointer (some (adr 37)))) := h.cell 37 (by decide) (by decide)
  have c38 : w.cell? ⟨38, 0, none⟩ = some (.iface 146 (.pointer (some (adr 38)))) := h.cell 38 (by decide) (by decide)
  have c39 : w.cell? ⟨2, 0, none⟩ = some (.iface 146 (.pointer (some (adr 39)))) := h.cell 39 (by decide) (by decide)
  have c40 : w.cell? ⟨39, 0, none⟩ = some (.iface 146 (.pointer (some (adr 40)))) := h.cell 40 (by decide) (by decide)
  have c41 : w.cell? ⟨40, 0, none⟩ = some (.iface 146 (.pointer (some (adr 41)))) := h.cell 41 (by decide) (by decide)
  have c42 : w.cell? ⟨41, 0, none⟩ = some (.iface 146 (.pointer (some (adr 42)))) := h.cell 42 (by decide) (by decide)
  clear h
  go_enter Tryd.func43, Tryd.ntmps43
  go_wp2
  all_goals go_ret
  all_goals first
    | (rename_i hh
       have hn := congrArg Int.toNat (eq_of_beq hh)
       rw [Int.toNat_natCast] at hn
       subst hn
       exact ⟨rfl, rfl⟩)
    | (exfalso
       simp only [beq_eq_false_iff_ne, ne_eq] at *
       omega)

/-- no error: 0 -/
theorem code_nil (w : World) : Calls Tryd.prog 27 #[.nilIface] w fun e w' => e = .returned (.int .i64 0) ∧ w' = w := by
  go_enter Tryd.func27, Tryd.ntmps27
  go_wp2
  go_ret
  exact ⟨rfl, rfl⟩

set_option maxHeartbeats 1000000 in
/-- the k-th sentinel: k -/
theorem code_err (w : World) (adr : Nat → Addr) (h : Sent w adr) (k : Nat) (h1 : 1 ≤ k) (h2 : k ≤ 42) (h3 : k ≠ 28) : Calls Tryd.prog 27 #[.iface 146 (.pointer (some (adr k)))] w fun e w' => e = .returned (.int .i64 k) ∧ w' = w := by
  have HS := hide h
  clear h
  go_enter Tryd.func27, Tryd.ntmps27
  go_wp2
  go_loopw [3, 4, 5, 6] (fun v3 v4 v5 v6 wr => ∃ n : Nat, 1 ≤ n ∧ n ≤ 43 ∧ v6 = .int .i64 n ∧ v5 = .bool false ∧ Hid (wr = w) ∧ ((k < n ∧ v3 = .int .i64 1 ∧ v4 = .int .i64 k) ∨ (¬ k < n ∧ v3 = .int .i64 0 ∧ v4 = .int .i64 0))) (fun _ _ _ v6 _ => 43 - (intOf v6).toNat)
  case atStart => exact ⟨1, by omega, by omega, rfl, rfl, rfl, .inr ⟨by omega, rfl, rfl⟩⟩
  case round =>
    obtain ⟨n, hn1, hn2, rfl, rfl, hw, hd⟩ := hrel
    by_cases hlt : n ≤ 42
    · obtain ⟨ck, tk, hrk⟩ := HS.out.row k h1 h2
      obtain ⟨cn, tn, hrn⟩ := HS.out.row n hn1 hlt
      have hwr := hw.out
      have HRk := hide hrk
      have HRn := hide hrn
      clear hrk hrn hw
      subst hwr
      by_cases hnk : n = k
      · subst hnk
        rcases hd with ⟨hd, _, _⟩ | ⟨_, rfl, rfl⟩
        · omega
        have h28 : ((n : Int) == 28) = false := by rw [beq_eq_false_iff_ne]; omega
        go_wp2_with fail
        refine (sent_any wr adr HS.out n hn1 hlt).mono ?_
        rintro e w1 ⟨rfl, rfl⟩
        go_wp2_with fail
        refine (is_same (adr n) w1).mono ?_
        rintro e w2 ⟨rfl, rfl⟩
        go_wp2
        go_roundw
        case rel => exact ⟨n + 1, by omega, by omega, by go_num, rfl, trivial, .inl ⟨by omega, rfl, rfl⟩⟩
        case measure => simp [intOf]; omega
      · go_wp2_with fail
        refine (sent_any wr adr HS.out n hn1 hlt).mono ?_
        rintro e w1 ⟨rfl, rfl⟩
        go_wp2_with fail
        refine (is_other (adr k) (adr n) ck cn tk tn w1 (fun e => hnk (HS.out.apart _ _ h1 h2 hn1 hlt e).symm) HRk.out HRn.out).mono ?_
        rintro e w2 ⟨rfl, rfl⟩
        go_wp2
        go_roundw
        case rel => exact ⟨n + 1, by omega, by omega, by go_num, rfl, trivial, by rcases hd with ⟨hd, e1, e2⟩ | ⟨hd, e1, e2⟩; exact .inl ⟨by omega, e1, e2⟩; exact .inr ⟨by omega, e1, e2⟩⟩
        case measure => simp [intOf]; omega
    · rcases hd with ⟨hd, rfl, rfl⟩ | ⟨hd, _, _⟩
      · have hwr := hw.out
        subst hwr
        go_wp2
        go_ret
        exact ⟨rfl, rfl⟩
      · omega
end Go.Proofs.YtipfjnjjfojdgaaDoor.errs

