import Derived.Test.YtjkahckglhpjeaaDoorHPlaysLaw
import Derived.Test.YtjkahckglhpjeaaDoorPut
/- Two handles, each in memory of its own; Wipe. -/
namespace Go.Proofs.YtjkahckglhpjeaaDoor
open Go Go.RowKit Go.Cu

abbrev Rg (lo hi : Nat) : Nat → Prop := fun k => lo ≤ k ∧ k < hi
structure T2 (w0 w : World) (c m1 m2 g : Nat) (L : List HE) (A : Option Addr) (n cc : Nat) (d k1 k2 h : Nat) (M : List HE) (B : Option Addr) (l ll : Nat) : Prop where
  a : HC w0 w c m1 m2 g L A n cc
  b : HC w0 w d k1 k2 h M B l ll
  ne : ∀ j, InH c m1 m2 j → ¬ InH d k1 k2 j
section
variable {w0 w w' : World} {c m1 m2 g g' : Nat} {L L' : List HE} {A A' : Option Addr} {n n' cc cc' : Nat} {d k1 k2 h : Nat} {M : List HE} {B : Option Addr} {l ll : Nat}
theorem T2.swap (t : T2 w0 w c m1 m2 g L A n cc d k1 k2 h M B l ll) : T2 w0 w d k1 k2 h M B l ll c m1 m2 g L A n cc := ⟨t.b, t.a, fun j h1 h2 => t.ne j h2 h1⟩
theorem T2.past (t : T2 w0 w c m1 m2 g L A n cc d k1 k2 h M B l ll) (hb : Below w.heap.size w w') : T2 w0 w' c m1 m2 g L A n cc d k1 k2 h M B l ll := ⟨t.a.past hb, t.b.past hb, t.ne⟩
/-- the first takes a step -/
theorem T2.step (t : T2 w0 w c m1 m2 g L A n cc d k1 k2 h M B l ll) (hc : HC w0 w' c m1 m2 g' L' A' n' cc') (hm : Mod (InH c m1 m2) w w') : T2 w0 w' c m1 m2 g' L' A' n' cc' d k1 k2 h M B l ll :=
  ⟨hc, ⟨⟨t.b.h1.hs.kept hm (fun j hj hh => t.ne j hh hj), t.b.h1.low, hc.h1.below⟩, t.a.h1.hs.row (by decide) hm t.b.row⟩, t.ne⟩
theorem HC.far {G : Nat → Prop} (t : HC w0 w c m1 m2 g L A n cc) (hm : Mod (fun k => G k ∧ OfE w 3 k) w w') (hG : ∀ k, G k → w0.heap.size ≤ k) : HC w0 w' c m1 m2 g L A n cc :=
  ⟨⟨t.h1.hs.far (by decide) hm, t.h1.low, t.h1.below.trans (hm.below t.h1.below.size (fun k hk => hG k hk.1))⟩, (t.row.narrow.kept hm (fun k hk _ hg => by
    obtain ⟨_, c1, e1⟩ := hk
    obtain ⟨_, c2, e2⟩ := hg
    rw [e1] at e2
    cases e2)).mono (fun _ _ _ => trivial)⟩
theorem T2.far {G : Nat → Prop} (t : T2 w0 w c m1 m2 g L A n cc d k1 k2 h M B l ll) (hm : Mod (fun k => G k ∧ OfE w 3 k) w w') (hG : ∀ k, G k → w0.heap.size ≤ k) : T2 w0 w' c m1 m2 g L A n cc d k1 k2 h M B l ll :=
  ⟨t.a.far hm hG, t.b.far hm hG, t.ne⟩
theorem T2.far2 (t : T2 w0 w c m1 m2 g L A n cc d k1 k2 h M B l ll) {b : Nat} {x y : Value} {e : TypeId} (hb : w.heap[b]? = some (.cells #[x, y] e (0, 0))) (h1 : 62 ≠ e) (h2 : e ≠ 70) (hl : w0.heap.size ≤ b) (u v : Value) : T2 w0 ((w.setCell ⟨b, 0, none⟩ u).setCell ⟨b, 1, none⟩ v) c m1 m2 g L A n cc d k1 k2 h M B l ll :=
  ⟨t.a.far2 hb h1 h2 hl u v, t.b.far2 hb h1 h2 hl u v, t.ne⟩
end
theorem row_rng {w w' : World} {e : TypeId} {sz n : Nat} {v : Value} {xs : List Value} (h : Row w' (New w) e sz v n xs) : Row w' (Rg w.heap.size w'.heap.size) e sz v n xs := h.mono (fun _ hk hl => ⟨hk, hl⟩)

set_option maxRecDepth 10000 in
set_option maxHeartbeats 1000000 in
/-- what is wiped is turned, its room and new memory, and nothing else -/
theorem wipe_any (w : World) (F : Nat → Prop) (A : Option Addr) (n c : Nat) (xs : List Value) (k : Int) (h : Row w F 3 1 (.slice A n c) n xs) (hroom : n ≤ 8796093022207) :
    Calls Tryd.prog 20 #[.slice A n c, .int .i64 k] w fun e w' => e = .returned (.tuple #[]) ∧ Mod F w w' := by
  have HR := hide h
  obtain ⟨i0, hi0, hz0, hz1, hz2⟩ := info_parts info_int
  clear h
  go_enter Tryd.func20, Tryd.ntmps20
  go_wp2
  go_loopw [9] (fun t wr => ∃ i : Nat, i ≤ n ∧ t = .int .i64 i ∧ Hid (∃ ys, Row wr F 3 1 (.slice A n c) n ys ∧ Mod F w wr)) (fun t _ => n - (intOf t).toNat)
  case atStart => exact ⟨0, Nat.zero_le _, rfl, xs, HR.out, Mod.refl _ _⟩
  case round =>
    obtain ⟨i, hi, rfl, hst⟩ := hrel
    obtain ⟨ys, hr, hm⟩ := hst.out
    have HR1 := hide hr
    have HM1 := hide hm
    clear hst hr hm
    by_cases hlt : i < n
    · go_wp2_with ((with_reducible refine at_index rfl ?_); refine wpList_put1 rfl rfl _ _ _ 36 3 _ rfl rfl rfl rfl (by simp) Tryd.underlying36 size_int rfl HR1.out rfl (by omega) (by omega) (fun _ => rfl) rfl ?_; intro p w2 hr2 hm2; have HR2 := hide hr2; have HM2 := hide hm2; clear hr2 hm2)
      go_roundw
      case rel => exact ⟨i + 1, by omega, by go_num, _, HR2.out, HM1.out.trans HM2.out (fun _ _ h => h)⟩
      case measure => simp [intOf]; omega
    · obtain ⟨wo, rfl⟩ : ∃ wo : World, wo = wr := ⟨_, rfl⟩
      go_wp2
      go_loopw [5, 6] (fun v t wr => ∃ i : Nat, i ≤ 80 ∧ t = .int .i64 i ∧ ∃ A c, v = .slice A (n + i) c ∧ Hid (∃ G zs, Row wr G 3 1 (.slice A (n + i) c) (n + i) zs ∧ Mod F w wr ∧ ∀ k, G k → F k ∨ w.heap.size ≤ k)) (fun _ t _ => 80 - (intOf t).toNat)
      case atStart => exact ⟨0, Nat.zero_le _, rfl, A, c, rfl, F, _, HR1.out, HM1.out, fun _ h => .inl h⟩
      case round =>
        clear HR1 HM1
        obtain ⟨i, hi, rfl, A1, c1, rfl, hst⟩ := hrel
        obtain ⟨G, zs, hr, hm, hG⟩ := hst.out
        have HR1 := hide hr
        have HM1 := hide hm
        have HG1 := hide hG
        clear hst hr hm hG
        by_cases hlt : i < 80
        · go_wp2_with (at_builtin; refine wpList_append_row rfl _ _ 36 rfl 3 i0 (.int .i64 0) 1 8 Tryd.underlying36 hi0 hz0 hz1 hz2 rfl (by decide) rfl (HR1.out.alloc (.cells #[.int .i64 k] 3)) rfl (reads_one _ _ _ _) (by simp [Value.oneCell']) (by unfold maxLen; omega) (by omega) ?_; intro A2 c2 w2 hr2 hm2; have HR2 := hide hr2; have HM2 := hide hm2; clear hr2 hm2)
          go_roundw
          case rel =>
            have hs := HM1.out.size
            refine ⟨i + 1, by omega, by go_num, A2, c2, by rw [Nat.add_assoc], _, _, by rw [← Nat.add_assoc]; exact HR2.out, (HM1.out.alloc _).trans HM2.out (fun j hj hg => (HG1.out j hg).elim id (fun h => by omega)), ?_⟩
            rintro j (hj | hj)
            · exact HG1.out j hj
            · subst hj
              right
              simp
              omega
          case measure => simp [intOf]; omega
        · go_wp2
          go_end0
          exact ⟨rfl, HM1.out⟩
end Go.Proofs.YtjkahckglhpjeaaDoor
