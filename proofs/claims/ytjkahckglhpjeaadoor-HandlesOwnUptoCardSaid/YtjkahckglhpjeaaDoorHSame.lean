import Derived.Test.YtjkahckglhpjeaaDoorHStep
import Derived.Test.YtjkahckglhpjeaaDoorHStep2
import Derived.BigQuiet
import Derived.Laws.StructEq
/- same; every step. -/
namespace Go.Proofs.YtjkahckglhpjeaaDoor
open Go Go.RowKit Go.Cu Go.Proofs.YtjkahckglhpjeaaDoor.errs

theorem step_any (w0 w : World) (c m1 m2 g : Nat) (L : List HE) (A : Option Addr) (n cc : Nat) (h : HC w0 w c m1 m2 g L A n cc) (hg : g ≤ 1048576) (adr : Nat → Addr) (hSe : Sent w0 adr) (o : OpH) (ho : o.wf) :
    Calls Tryd.prog 14 #[ptr c, cvv g A n cc, opV o] w (StepPost w0 c m1 m2 g w) := by
  obtain ⟨kd, p, x⟩ := o
  obtain ⟨_, hp, hx⟩ := ho
  by_cases h1 : kd = 1
  · subst h1
    rcases splitP L p with hno | ⟨a, e, b, hL, he, ha⟩
    · exact step_bind_ok w0 w c m1 m2 g L A n cc h hg p x hp hno
    · exact step_bind_twice w0 w c m1 m2 g L A n cc h hg p x adr hSe a b e hL he (fun y hy => he ▸ ha y hy)
  by_cases h2 : kd = 2
  · subst h2; exact step_drop w0 w c m1 m2 g L A n cc h hg p x hx
  by_cases h3 : kd = 3
  · subst h3; exact step_find w0 w c m1 m2 g L A n cc h hg p x hx
  by_cases h4 : kd = 4
  · subst h4; exact step_of w0 w c m1 m2 g L A n cc h hg p x hp
  by_cases h5 : kd = 5
  · subst h5; exact step_on_ w0 w c m1 m2 g L A n cc h hg p x
  by_cases h6 : kd = 6
  · subst h6; exact step_len w0 w c m1 m2 g L A n cc h hg p x
  exact step_else w0 w c m1 m2 g L A n cc h hg p x kd (by simpa using h1) (by simpa using h2) (by simpa using h3) (by simpa using h4) (by simpa using h5) (by simpa using h6)
theorem findR_mem {w : World} {c m1 m2 g : Nat} {L : List HE} (h : HS w c m1 m2 g L) {e : HE} (he : e ∈ L) : findR L e.h = (e.p, true) := by
  obtain ⟨a, b, rfl⟩ := List.append_of_mem he
  exact findR_yes (mid_ne h.hne).1
theorem ofR_mem {w : World} {c m1 m2 g : Nat} {L : List HE} (h : HS w c m1 m2 g L) {e : HE} (he : e ∈ L) : ofR L e.p = (e.h, true) := by
  obtain ⟨a, b, rfl⟩ := List.append_of_mem he
  exact ofR_yes (mid_ne h.apart).1

set_option maxRecDepth 10000 in
set_option maxHeartbeats 4000000 in
theorem same_true (w0 w : World) (c m1 m2 g : Nat) (L : List HE) (A : Option Addr) (n cc : Nat) (h : HC w0 w c m1 m2 g L A n cc) (hn : n ≤ 1048576) (hhw : ∀ e ∈ L, (Lit.int .i64 e.h).wf = true) :
    Calls Tryd.prog 15 #[ptr c, cvv g A n cc] w fun r w' => r = .returned (.bool true) ∧ Below w.heap.size w w' := by
  have hnl := h.len
  have hal : Below w.heap.size w (w.alloc (.cells #[.int .i64 g, .slice A n cc] 43)) := (Below.refl _ _).alloc (Nat.le_refl _) _
  have hb0 := heap_alloc_new w (.cells #[.int .i64 g, .slice A n cc] 43)
  have hc1 := h.past hal
  have HL := hide hnl
  have HHw := hide hhw
  clear h hnl hhw
  go_enter Tryd.func15, Tryd.ntmps15
  go_upto_region 1 with fail
  obtain ⟨w1, hw1⟩ : ∃ w1, w.alloc (.cells #[.int .i64 g, .slice A n cc] 43) = w1 := ⟨_, rfl⟩
  obtain ⟨q, hq⟩ : ∃ q, w.heap.size = q := ⟨_, rfl⟩
  rw [hw1] at hal hc1 hb0
  rw [hq] at hb0
  have HAl := hide hal
  have HB0 := hide hb0
  have HC1 := hide hc1
  rw [hw1, hq]
  clear hw1 hq hal hb0 hc1
  go_wp2_with fail
  go_loopw [5] (fun t wr => ∃ i : Nat, i ≤ n ∧ t = .int .i64 i ∧ Hid (Below w1.heap.size w1 wr)) (fun t _ => n - (intOf t).toNat)
  case atStart => exact ⟨0, Nat.zero_le _, rfl, hide (Below.refl _ _)⟩
  case round =>
    obtain ⟨i, hi, rfl, HB⟩ := hrel
    have HBx := hide (below_at HB.out HB0.out)
    have HCr := hide (HC1.out.past HB.out)
    obtain ⟨c0, c1⟩ := box2 HBx.out
    clear c0
    by_cases hlt : i < n
    · obtain ⟨e, he, _, _⟩ := step_on L i (by have := HL.out; omega)
      obtain ⟨ad, hA, s0, s1, s2, s3⟩ := prs_cell HCr.out.row.reads he
      subst hA
      have hem := List.mem_of_getElem? he
      have HE := hide he
      have ho := find_all wr c m1 m2 g L HCr.out.h1.hs e.h (HHw.out e hem)
      rw [findR_mem HCr.out.h1.hs hem] at ho
      have ho2 := fun w2 h2 => of_all w2 c m1 m2 g L h2 e.p (HCr.out.h1.hs.wf e hem)
      rw [ofR_mem HCr.out.h1.hs hem] at ho2
      simp only [Pl.v] at ho ho2
      have HO := hide ho
      have HO2 := hide ho2
      clear he hem ho ho2
      go_wp2_with fail
      refine HO.out.mono ?_
      rintro r w2 ⟨rfl, hb2⟩
      have HB2 := hide (HB.out.trans (hb2.mono HB.out.size))
      have HC2 := hide (HCr.out.past hb2)
      clear c1 s0 s1 s2 s3 hb2
      go_upto_region 5 with fail
      obtain ⟨t, ht⟩ : ∃ t, w2.heap.size = t := ⟨_, rfl⟩
      obtain ⟨w3, hw3⟩ : ∃ w3, w2.alloc (.cells #[.int .i64 e.p.conn, .int .i64 e.p.life, .int .u32 e.p.id] 28) = w3 := ⟨_, rfl⟩
      have hal : Below w2.heap.size w2 w3 := by rw [← hw3]; exact (Below.refl _ _).alloc (Nat.le_refl _) _
      have htb : w3.heap[t]? = some (.cells #[.int .i64 e.p.conn, .int .i64 e.p.life, .int .u32 e.p.id] 28 (0, 0)) := by rw [← hw3, ← ht]; exact heap_alloc_new w2 _
      have HT3 := hide htb
      have HC3 := hide (HC2.out.past hal)
      have HB3 := hide (HB2.out.trans (hal.mono HB2.out.size))
      rw [ht, hw3]
      clear hal htb ht hw3
      obtain ⟨d0, c1⟩ := box2 (below_at HB3.out HB0.out)
      obtain ⟨ad', hA', s0, s1, s2, s3⟩ := prs_cell HC3.out.row.reads HE.out
      cases hA'
      clear d0
      go_wp2_with fail
      refine (HO2.out w3 HC3.out.h1.hs).mono ?_
      rintro r w4 ⟨rfl, hb4⟩
      have HB4 := hide (HB3.out.trans (hb4.mono HB3.out.size))
      have HC4 := hide (HC3.out.past hb4)
      have HT4 := hide (below_at hb4 HT3.out)
      clear c1 s0 s1 s2 s3 hb4
      obtain ⟨d0, c1⟩ := box2 (below_at HB4.out HB0.out)
      obtain ⟨ad', hA', s0, s1, s2, s3⟩ := prs_cell HC4.out.row.reads HE.out
      cases hA'
      obtain ⟨t0, t1, t2, _⟩ := box3 HT4.out
      clear d0
      go_upto_region 6 with fail
      go_quiet (fail)
      go_wp2
      go_roundw
      case rel => exact ⟨i + 1, by omega, by go_num, hide (HB4.out.trans ((below_drewN _ _).mono HB4.out.size))⟩
      case measure => simp [intOf]; omega
    · obtain rfl : i = n := by omega
      have hlen : L.length = i := HL.out
      have HCd := hide (HCr.out.past (Below.refl _ _).drew)
      have ho := len_any wr.drew c m1 m2 g L HCd.out.h1.hs
      rw [hlen] at ho
      have HO := hide ho
      clear ho hlen
      go_upto_region 8 with fail
      have hSd : wr.drew.cell? ⟨q, 1, none⟩ = some (.slice A i cc) := c1
      go_region_held3 (fun w' => w'.cell? ⟨q, 1, none⟩ = some (.slice A i cc)) (first | assumption) (first
        | (go_at_call 18; refine HO.out.mono ?_
           rintro r w5 ⟨rfl, rfl⟩)
        | fail)
      go_wp2
      go_ret
      exact ⟨rfl, (HAl.out.trans (HB.out.mono HAl.out.size)).drew⟩
end Go.Proofs.YtjkahckglhpjeaaDoor
