import Derived.Test.YtipbaffhlekpfaaDoorFifN
import Derived.Test.YtipbaffhlekpfaaDoorLibIn
/- A walk over the queue's things: the iterator's contract. -/
namespace Go.Proofs.YtipbaffhlekpfaaDoor
open Go Go.RowKit Go.Shelf Go.Cu Go.Proofs.YtipbaffhlekpfaaDoor.errs
attribute [local go_sem] Oper.semAt_some

theorem agg_row (w : World) : (isAgg 86).run Tryd.prog w = .ok true w := by kernel_rfl
abbrev encP (x : Int × Int) : Array Value := #[.int .i64 x.1, .int .i64 x.2]
theorem pairs_at {L : List (Int × Int)} {i : Nat} {x : Int × Int} (h : L[i]? = some x) : (pairs L)[i * 2]? = some (.int .i64 x.1) ∧ (pairs L)[i * 2 + 1]? = some (.int .i64 x.2) := by
  induction L generalizing i with
  | nil => simp at h
  | cons y r ih =>
    rw [pairs_cons]
    cases i with
    | zero => simp at h; subst h; exact ⟨rfl, rfl⟩
    | succ i =>
      have := ih (i := i) (by simpa using h)
      rw [show (i + 1) * 2 = i * 2 + 1 + 1 by omega, show i * 2 + 1 + 1 + 1 = (i * 2 + 1) + 1 + 1 by omega]
      simpa using this
theorem pairs_us {L : List (Int × Int)} {i : Nat} {x : Int × Int} (h : L[i]? = some x) : ∀ k u, [Value.int .i64 x.1, Value.int .i64 x.2][k]? = some u → (pairs L)[i * 2 + k]? = some u := by
  intro k u hk
  have := pairs_at h
  match k, hk with
  | 0, hk => simp at hk; subst hk; exact this.1
  | 1, hk => simp at hk; subst hk; exact this.2
  | k + 2, hk => simp at hk

set_option maxRecDepth 10000 in
set_option maxHeartbeats 2000000 in
theorem all1_stops (w : World) (m p : Nat) (hm : 1 ≤ m) (A : Option Addr) (c : Nat) (L : List (Int × Int)) (C : Nat → Prop) (hC : ∀ ad, A = some ad → 0 < L.length → C ad.block) (hlt : ∀ k, C k → k < w.heap.size)
    (hp : w.cell? ⟨p, 0, none⟩ = some (.slice A L.length c)) (hr : Reads w 2 (.slice A L.length c) L.length (pairs L)) :
    SeqStopsK Fence.wide m Tryd.prog 40 #[.pointer (some ⟨p, 0, none⟩)] encP (Keep C) (fun ys => ys = L) (fun pre => pre <+: L) L.length w := fun l J Jx W hW hJ hJx hY h0 => by
  have hpW := (hW.cell (World.block_lt_of_cell? w _ hp)).trans hp
  have HRW : Hid (Reads W 2 (.slice A L.length c) L.length (pairs L)) := Reads.kept hr (fun a _ hc => (hW.cell (World.block_lt_of_cell? w a hc)).trans hc)
  have hltW : ∀ k, C k → k < W.heap.size := fun k hk => Nat.lt_of_lt_of_le (hlt k hk) hW.size
  have HlW := hide hltW
  have HC := hide hC
  have HJ := hide hJ
  have hlen : L.length ≤ 9223372036854775807 := maxLen_lt hr.size
  clear hp hr hW hltW hlt hC hJ hJx
  refine callsIn_of_wp Tryd.func40 rfl trivial ?_ rfl
  simp only [Tryd.ntmps40, List.size_toArray, List.length_cons, List.length_nil, Nat.reduceAdd, Nat.reduceSub, Array.replicate_succ, Array.replicate_zero, List.push_toArray, List.append_toArray, List.nil_append, List.cons_append]
  gi_wp2
  gi_loopw [7] (fun v wr => ∃ i : Nat, i ≤ L.length ∧ v = .int .i64 i ∧ Hid (J (L.take i) wr) ∧ Hid (Keep C W wr)) (fun v _ => L.length - (intOf v).toNat)
  case atStart => exact ⟨0, Nat.zero_le _, rfl, by simpa using hide h0, hide (Keep.refl _ _)⟩
  case round =>
    obtain ⟨i, hi, rfl, HJi, HK⟩ := hrel
    by_cases hlt : i < L.length
    · obtain ⟨x, hx⟩ : ∃ x, L[i]? = some x := ⟨_, List.getElem?_eq_getElem hlt⟩
      have HR1 : Hid (Reads wr 2 (.slice A L.length c) L.length (pairs L)) := HK.out.reads HRW.out (fun ad n c e => by injection e with e; exact HC.out ad e (by omega))
      have HX := hide hx
      have hJ1 : J (L.take i) (wr.alloc (.cells #[.int .i64 x.1, .int .i64 x.2] 86)) := HJ.out _ _ _ none HJi.out (World.grownBy_alloc _ _ none) (fun r e => by cases e)
      obtain ⟨fn, tmps, assign, body, hy, hR⟩ := hY _ x _ hJ1 (by rw [List.length_take]; omega)
      dsimp only [encP] at hy
      have HRd := hide hR
      clear hR hJ1 hx
      gi_wp2_with (first
        | ((with_reducible refine in_index rfl ?_); refine wpListIn_atS rfl rfl _ _ 80 86 _ rfl rfl rfl (by simp) Tryd.underlying80 (by decide) size_row agg_row rfl HR1.out rfl (by omega) (by omega) (us := [.int .i64 x.1, .int .i64 x.2]) rfl (pairs_us HX.out) ?_; intro q))
      refine HRd.out.mono ?_
      rintro e W3 (⟨rfl, hJ3, hk3⟩ | ⟨rfl, hJx3⟩)
      · gi_wp2
        go_roundw
        case rel => exact ⟨i + 1, by omega, by go_num, hide (by rw [List.take_add_one, HX.out]; exact hJ3), hide ((HK.out.trans (Keep.alloc C _ _)).trans hk3)⟩
        case measure => simp [intOf]; omega
      · gi_wp2
        refine bodyPost_ret (results_none rfl _ _ _) rfl ?_
        exact ⟨⟨_, rfl⟩, .inr ⟨_, ⟨L.drop (i + 1), by rw [show L.take i ++ [x] = L.take (i + 1) by rw [List.take_add_one, HX.out]; rfl]; exact List.take_append_drop _ _⟩, hJx3⟩⟩
    · obtain rfl : i = L.length := by omega
      gi_wp2
      go_end0
      exact ⟨⟨_, rfl⟩, .inl ⟨_, rfl, by simpa using HJi.out⟩⟩
end Go.Proofs.YtipbaffhlekpfaaDoor
