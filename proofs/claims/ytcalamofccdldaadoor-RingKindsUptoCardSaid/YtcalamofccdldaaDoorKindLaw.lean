/-
  RingKinds: for every capacity and script (bulk at most 1048576) the law returns true: a ring of texts answers as a ring of numbers does.
-/
import Derived.Test.YtcalamofccdldaaDoorKindS
import Derived.Deep.CutBlock
import Derived.Deep.CutRange
import Derived.Deep.RegionHeld3
namespace Go.Proofs.YtcalamofccdldaaDoor.ringKinds
open Go Go.RowKit Go.Cu Go.Proofs.YtcalamofccdldaaDoor

/-- what a script's calls say -/
structure OpsK (w : World) (v : Value) (n : Nat) (ops : List OpD) : Prop where
  scr : Ops w v n ops
  small : ∀ o ∈ ops, o.len ≤ 1048576 ∧ ∀ x ∈ o.items, wfi x

theorem row_kept {wr w1 w2 : World} {Fb : Nat → Prop} {v : Value} {m : Nat} {xs : List Value} (h : Row w1 (RI.New wr) 3 1 v m xs) (hm : Mod Fb w1 w2) (hlt : ∀ k, Fb k → k < wr.heap.size) : Reads w2 1 v m xs :=
  (h.kept hm (fun j hj _ hf => by have h2 : wr.heap.size ≤ j := hj; have := hlt j hf; omega)).reads

theorem info_txt : (Tryd.prog.info? 9).map (fun i => (i.zero, i.size, i.bytes)) = some (some (.string ⟨#[]⟩), 1, 16) := by kernel_rfl
theorem wfi_take {L : List Int} (h : ∀ x ∈ L, wfi x) (k : Nat) : ∀ x ∈ L.take k, wfi x := fun x hx => h x (List.mem_of_mem_take hx)
theorem wfi_drop {L : List Int} (h : ∀ x ∈ L, wfi x) (k : Nat) : ∀ x ∈ L.drop k, wfi x := fun x hx => h x (List.mem_of_mem_drop hx)
theorem wfi_app {L M : List Int} (h : ∀ x ∈ L, wfi x) (h' : ∀ x ∈ M, wfi x) : ∀ x ∈ L ++ M, wfi x := fun x hx => (List.mem_append.1 hx).elim (h x) (h' x)

/-- the rings behind a step, and what was told -/
def Told (w wc : World) (a b cap : Nat) (s14 s15 : Value) : Prop :=
  ∃ A c B d m X, s14 = .slice A m c ∧ s15 = .slice B m d ∧ Reads wc 1 (.slice A m c) m (ints X) ∧ Reads wc 1 (.slice B m d) m (txs X) ∧ (∀ x ∈ X, wfi x) ∧ ∃ Fa Fb L, K2 w wc Fa Fb a b cap L L ∧ ∀ x ∈ L, wfi x
theorem reads_none (w : World) (sz : Nat) : Reads w sz (.slice none 0 0) 0 [] := ⟨by simp, none, 0, rfl, Nat.zero_le _, .inl (by simp)⟩

set_option maxRecDepth 10000 in
set_option maxHeartbeats 8000000 in
theorem walk (w : World) (hT : Tab w) (capacity : Int) (v : Value) (n : Nat) (ops : List OpD) (h : OpsK w v n ops) (u : TypeId) (x : Value) (hE : w.cell? ⟨0, 0, none⟩ = some (.iface u x)) :
    Calls Tryd.prog 8 #[.int .i64 capacity, v] w fun e w' => e = .returned (.bool true) ∧ Below w.heap.size w w' := by
  have HS := hide h.scr
  have HSm := hide h.small
  have HTb := hide hT
  obtain ⟨A, c, rfl⟩ := h.scr.reads.shape
  have hn := maxLen_lt h.scr.reads.size
  have HL := hide h.scr.length
  obtain ⟨i0, hi0, hz0, hz1, hz2⟩ := info_parts info_txt
  clear h hT
  by_cases hcap : capacity < 0 ∨ 2147483647 < capacity
  · go_enter Tryd.func8, Tryd.ntmps8
    go_wp2_with fail
    refine (fixed_true w).mono ?_
    rintro e w1 ⟨rfl, hb1⟩
    have HB1 := hide hb1
    have hE1 := hide ((hb1.cell (World.block_lt_of_cell? w _ hE)).trans hE)
    clear hb1
    have HC := hide hcap
    clear hcap
    go_wp2_with fail
    refine (RI.new_bad w1 capacity HC.out _ hE1.out).mono ?_
    rintro e w2 ⟨rfl, hb2⟩
    have HB2 := hide (HB1.out.trans (hb2.mono HB1.out.size))
    have hE2 := hide ((hb2.cell (World.block_lt_of_cell? w1 _ hE1.out)).trans hE1.out)
    clear hb2
    go_wp2_with fail
    refine (RS.new_bad w2 capacity HC.out _ hE2.out).mono ?_
    rintro e w3 ⟨rfl, hb3⟩
    have HB3 := hide (HB2.out.trans (hb3.mono HB2.out.size))
    clear hb3
    go_wp2
    go_ret
    exact ⟨rfl, HB3.out⟩
  · obtain ⟨cap, rfl⟩ : ∃ cap : Nat, capacity = (cap : Int) := ⟨capacity.toNat, by omega⟩
    have hcap' : cap ≤ 2147483647 := by omega
    clear hcap hE
    go_enter Tryd.func8, Tryd.ntmps8
    go_wp2_with fail
    refine (fixed_true w).mono ?_
    rintro e w1 ⟨rfl, hb1⟩
    have HB1 := hide hb1
    clear hb1
    go_wp2_with fail
    refine (RI.new_any w1 cap hcap').mono ?_
    rintro e w2 ⟨a, rfl, hr2, hb2⟩
    have HR2 := hide hr2
    have HB2 := hide hb2
    clear hr2 hb2
    go_wp2_with fail
    refine (RS.new_any w2 cap hcap').mono ?_
    rintro e w3 ⟨b, rfl, hr3, hb3⟩
    have hs1 := HB1.out.size
    have hs2 := HB2.out.size
    have HT : Hid (K2 w w3 (fun j => w1.heap.size ≤ j ∧ j < w2.heap.size) (fun j => w2.heap.size ≤ j ∧ j < w3.heap.size) a b cap [] []) :=
      hide ⟨HR2.out.below hb3, hr3, fun k h1 h2 => by have := h1.2; have := h2.1; omega, fun k h1 => by have := h1.1; omega, fun k h1 => by have := h1.1; omega, (HB1.out.trans (HB2.out.mono hs1)).trans (hb3.mono (by omega))⟩
    clear hr3 hb3 hs1 hs2
    go_wp2
    go_loopw [55] (fun t wr => ∃ i : Nat, i ≤ n ∧ t = .int .i64 i ∧ Hid (∃ Fa Fb L, K2 w wr Fa Fb a b cap L L ∧ ∀ x ∈ L, wfi x)) (fun t _ => n - (intOf t).toNat)
    case atStart => exact ⟨0, Nat.zero_le _, rfl, hide ⟨_, _, [], HT.out, fun _ h => (by cases h)⟩⟩
    case round =>
      clear HT HB1 HB2 HR2
      obtain ⟨i, hi, rfl, hst⟩ := hrel
      obtain ⟨Fa, Fb, L, ht, hwf⟩ := hst.out
      have HT := hide ht
      have HW := hide hwf
      clear hst ht hwf
      by_cases hlt : i < n
      · obtain ⟨o, ho⟩ : ∃ o, ops[i]? = some o := ⟨_, List.getElem?_eq_getElem (by have := HL.out; omega)⟩
        have HU := hide (flat_get opCell_length ho)
        have hmem := List.mem_of_getElem? ho
        have hnc := (HS.out.each o hmem).2.1
        have hol := (HSm.out o hmem).1
        have HIw := hide (HSm.out o hmem).2
        have HRd := hide (HS.out.each o hmem).1
        have HIl : Hid (o.items.length = o.len) := hide (by have := HRd.out.1; rw [ints_length, Nat.mul_one] at this; exact this)
        have HScr := hide (Reads.below HS.out.reads HT.out.below)
        clear ho hmem
        have HT1 := hide (K3.made HT.out o)
        go_upto_region 11 with (first
          | ((with_reducible refine at_index rfl ?_); refine wpList_atS rfl rfl _ _ 37 43 _ rfl rfl rfl (by simp) Tryd.underlying37 (by decide) size_op agg_op rfl HScr.out rfl (by omega) (by omega) (us := [.int .i64 o.kind, .int .i64 o.at_, .int .i64 o.n, .slice o.A o.len o.c]) rfl HU.out ?_; intro p)
          | fail)
        obtain ⟨w4, hw4⟩ : ∃ w4, wr.alloc (.cells #[.int .i64 o.kind, .int .i64 o.at_, .int .i64 o.n, .slice o.A o.len o.c] 43) = w4 := ⟨_, rfl⟩
        obtain ⟨q, hq⟩ : ∃ q, wr.heap.size = q := ⟨_, rfl⟩
        rw [hw4, hq] at HT1
        rw [hw4, hq]
        clear hw4 hq HScr HT HU
        have o3 := HT1.out.cel.c3
        go_wp2_with fail
        go_loopw [11, 62] (fun s t wq => ∃ (j : Nat) (B : Option Addr) (d : Nat), j ≤ o.len ∧ s = .slice B j d ∧ t = .int .i64 j ∧ Hid (Row wq (fun k => w4.heap.size ≤ k) 9 1 (.slice B j d) j (txs (o.items.take j))) ∧ Hid (Below w4.heap.size w4 wq)) (fun _ t _ => o.len - (intOf t).toNat)
        case atStart => exact ⟨0, none, 0, Nat.zero_le _, rfl, rfl, hide (Row.nil _ _ _ _), hide (Below.refl _ _)⟩
        case round =>
          clear o3
          obtain ⟨j, B, d, hj, rfl, rfl, HRow, HBq⟩ := hrel
          by_cases hjl : j < o.len
          · obtain ⟨y, hy⟩ : ∃ y, o.items[j]? = some y := ⟨_, List.getElem?_eq_getElem (by have := HIl.out; omega)⟩
            have hwy := HIw.out y (List.mem_of_getElem? hy)
            have HWy := hide hwy
            have HY := hide (ints_get hy)
            have HTk : Hid (txs (o.items.take j) ++ [.string ⟨(Lib.itoa y).toArray⟩] = txs (o.items.take (j + 1))) := hide (by rw [List.take_add_one, hy]; simp [txs, tx])
            have hbw := HT1.out.two.below.trans (HBq.out.mono HT1.out.two.below.size)
            have HRdq := hide (Reads.below HRd.out hbw)
            have HTbq := hide (HTb.out.past hbw)
            clear hy hwy hbw
            go_wp2_with (first
              | ((with_reducible refine at_index rfl ?_); refine wpList_at1 rfl rfl _ _ 38 3 _ rfl rfl rfl (by simp) Tryd.underlying38 size_int agg_int rfl HRdq.out rfl (by omega) (by omega) HY.out ?_; intro q')
              | (go_at_call 39; refine (itoa_any wr y HWy.out HTbq.out).mono ?_; rintro e w5 ⟨rfl, hb5⟩; have HB5 := hide (HBq.out.trans (hb5.mono HBq.out.size)); have HR5 := hide (((HRow.out.kept (Mod.ofBelow hb5 (fun _ => False)) (fun _ _ _ h => h)).alloc (.cells #[.string ⟨(Lib.itoa y).toArray⟩] 9))); have hs5 := HB5.out.size; have HO5 := hide (reads_one w5 (.string ⟨(Lib.itoa y).toArray⟩) 9 1); clear hb5)
              | (at_builtin; refine wpList_append_row rfl _ _ 73 rfl 9 i0 (.string ⟨#[]⟩) 1 16 Tryd.underlying73 hi0 hz0 hz1 hz2 rfl (by decide) rfl HR5.out rfl HO5.out (fun u hu => by rw [List.mem_singleton] at hu; subst hu; rfl) (by unfold maxLen; omega) (by omega) ?_; intro A1 c1 w6 hr6 hm6; have HR6 := hide hr6; have HM6 := hide hm6; clear hr6 hm6)
              | fail)
            go_roundw
            case rel =>
              have h2 : (w5.alloc (.cells #[.string ⟨(Lib.itoa y).toArray⟩] 9)).heap.size = w5.heap.size + 1 := by simp
              have hr6 := HR6.out
              rw [HTk.out] at hr6
              exact ⟨j + 1, A1, c1, by omega, rfl, by go_num, hide (hr6.mono (G := fun k => w4.heap.size ≤ k) (fun k hk _ => hk.elim id (fun e => by omega))), hide ((HB5.out.alloc hs5 (.cells #[.string ⟨(Lib.itoa y).toArray⟩] 9)).trans (HM6.out.below (by omega) (fun _ h => h)))⟩
            case measure => simp [intOf]; omega
          · obtain rfl : j = o.len := by omega
            have HTx : Hid (Row wr (fun k => w4.heap.size ≤ k) 9 1 (.slice B o.len d) o.len (txs o.items)) := hide (by have h := HRow.out; rw [List.take_of_length_le (by have := HIl.out; omega)] at h; exact h)
            have HT2 := hide (HT1.out.past HBq.out)
            have HFb : Hid (∀ k, w4.heap.size ≤ k → ¬ Fb k) := hide (fun k hk hf => by have := HT1.out.two.rb.lt k hf; omega)
            have HFa : Hid (∀ k, w4.heap.size ≤ k → ¬ Fa k) := hide (fun k hk hf => by have := HT1.out.two.ra.lt k hf; omega)
            obtain ⟨hBd, _⟩ : o.len ≤ d ∧ True := ⟨by obtain ⟨_, _, e, h, _⟩ := HTx.out.shape; injection e with _ _ e; omega, trivial⟩
            clear HRow HT1 HBq
            have o0 := HT2.out.cel.c0
            obtain ⟨kd, hkd⟩ : ∃ kd, o.kind = kd := ⟨_, rfl⟩
            rw [hkd] at o0
            clear hkd
            go_upto_block 4 with fail
            clear o0
            go_cut [14, 15] from 72 to 152 (fun s14 s15 wc => Told w wc a b cap s14 s15)
            case first => as_aux_lemma =>
              have o2 := HT2.out.cel.c2
              have o3 := HT2.out.cel.c3
              have hne : ∀ j : Int, kd ≠ j → (kd == j) = false := fun j h => by simp [h]
              have HTd := hide (HT2.out.past (w' := wr.drew) ⟨rfl, rfl, rfl, Nat.le_refl _, fun _ _ => rfl⟩)
              by_cases h1 : kd = 1
              · subst h1
                obtain ⟨kk, hkk⟩ : ∃ kk, min o.len (cap - L.length) = kk := ⟨_, rfl⟩
                have HK := hide hkk
                clear hkk hne HTd
                go_wp2_with fail
                refine (kPushA HT2.out HRd.out hnc kk HK.out).mono ?_
                rintro e w5 ⟨rfl, ht, hm⟩
                have HT5 := hide ht
                have HTx5 := hide (HTx.out.kept hm (fun k hk _ hf => HFa.out k hk hf))
                clear ht hm
                go_wp2_with fail
                refine (kPushB HT5.out HTx5.out HFb.out hBd kk HK.out).mono ?_
                rintro e w6 ⟨rfl, ht⟩
                have HT6 := hide ht
                clear ht
                go_wp2
                go_meet
                case rel => exact ⟨none, 0, none, 0, 0, [], rfl, rfl, reads_none _ _, reads_none _ _, fun _ h => (by cases h), _, _, _, HT6.out.two, wfi_app HW.out (wfi_take HIw.out _)⟩
              · have e1 := hne 1 h1
                by_cases h2 : kd = 2
                · subst h2
                  obtain ⟨kk, hkk, _⟩ := RI.cnt_cases o.n L.length
                  have HK := hide hkk
                  clear hkk hne h1
                  go_wp2_with fail
                  have hcd := HTd.out.cel.c2
                  clear o2 o3
                  go_region_held3 (fun w' => w'.cell? ⟨q, 2, none⟩ = some (.int .i64 o.n)) (first | assumption) (first
                    | (go_at_call 25; with_reducible refine (kPopA HTd.out o.n kk HK.out).mono ?_; rintro e w5 ⟨A5, c5, rfl, hr5, ht⟩; have HR5 := hide hr5; have HT5 := hide ht; have hc5 := ht.cel.c2; clear ht hr5)
                    | (go_at_call 41; with_reducible refine (kPopB HT5.out o.n kk HK.out).mono ?_; rintro e w6 ⟨A6, c6, rfl, hr6, ht, hm6⟩; have HR6 := hide hr6; have HR5' := hide (row_kept HR5.out hm6 HTd.out.two.rb.lt); have HT6 := hide ht; have hc6 := ht.cel.c2; clear ht hr6 hm6))
                  clear hcd hc5 hc6
                  go_wp2
                  go_meet
                  case rel => exact ⟨_, _, _, _, _, _, rfl, rfl, HR5'.out, HR6.out, wfi_take HW.out _, _, _, _, HT6.out.two, wfi_drop HW.out _⟩
                · have e2 := hne 2 h2
                  by_cases h3 : kd = 3
                  · subst h3
                    obtain ⟨kk, hkk, _⟩ := RI.cnt_cases o.n L.length
                    have HK := hide hkk
                    clear hkk hne h1 h2
                    go_wp2_with fail
                    have hcd := HTd.out.cel.c2
                    clear o2 o3
                    go_region_held3 (fun w' => w'.cell? ⟨q, 2, none⟩ = some (.int .i64 o.n)) (first | assumption) (first
                      | (go_at_call 26; with_reducible refine (kDropA HTd.out o.n kk HK.out).mono ?_; rintro e w5 ⟨rfl, ht⟩; have HT5 := hide ht; have hc5 := ht.cel.c2; clear ht)
                      | (go_at_call 42; with_reducible refine (kDropB HT5.out o.n kk HK.out).mono ?_; rintro e w6 ⟨rfl, ht⟩; have HT6 := hide ht; have hc6 := ht.cel.c2; clear ht))
                    clear hcd hc5 hc6
                    go_wp2
                    go_meet
                    case rel => exact ⟨none, 0, none, 0, 0, [], rfl, rfl, reads_none _ _, reads_none _ _, fun _ h => (by cases h), _, _, _, HT6.out.two, wfi_drop HW.out _⟩
                  · have e3 := hne 3 h3
                    by_cases h6 : kd = 6
                    · subst h6
                      clear hne h1 h2 h3 HTd
                      by_cases hout : o.n < 0 ∨ (L.length : Int) ≤ o.n
                      · have HO := hide hout
                        clear hout
                        go_wp2_with fail
                        refine (RI.at_out wr Fa a cap (ints L) 0 o.n HT2.out.two.ra (by rw [ints_length]; exact HO.out)).mono ?_
                        rintro e w5 ⟨rfl, hb5⟩
                        have HT5 := hide (HT2.out.past hb5)
                        have hc5 := HT5.out.cel.c2
                        clear hb5
                        go_wp2_with fail
                        refine (RS.at_out w5 Fb b cap (txs L) 0 o.n HT5.out.two.rb (by rw [txs_length]; exact HO.out)).mono ?_
                        rintro e w6 ⟨rfl, hb6⟩
                        have HT6 := hide (HT5.out.past hb6)
                        clear hb6 hc5
                        go_wp2
                        go_meet
                        case rel => exact ⟨none, 0, none, 0, 0, [], rfl, rfl, reads_none _ _, reads_none _ _, fun _ h => (by cases h), _, _, _, HT6.out.two, HW.out⟩
                      · obtain ⟨m, hm⟩ : ∃ m : Nat, o.n = (m : Int) := ⟨o.n.toNat, by omega⟩
                        obtain ⟨y, hy⟩ : ∃ y, L[m]? = some y := ⟨_, List.getElem?_eq_getElem (by omega)⟩
                        have HWy := hide (HW.out y (List.mem_of_getElem? hy))
                        have HY := hide hy
                        rw [hm] at o2
                        clear hy hout
                        have HM := hide hm
                        clear hm
                        go_wp2_with fail
                        refine (RI.at_in wr Fa a cap (ints L) 0 m (.int .i64 y) HT2.out.two.ra (ints_get HY.out)).mono ?_
                        rintro e w5 ⟨rfl, hb5⟩
                        have HT5 := hide (HT2.out.past hb5)
                        have hc5 := HT5.out.cel.c2
                        rw [HM.out] at hc5
                        clear hb5
                        go_wp2_with fail
                        refine (RS.at_in w5 Fb b cap (txs L) 0 m (.string ⟨(Lib.itoa y).toArray⟩) HT5.out.two.rb (txs_get HY.out)).mono ?_
                        rintro e w6 ⟨rfl, hb6⟩
                        have HT6 := hide (HT5.out.past hb6)
                        clear hb6 hc5
                        go_wp2_with fail
                        refine (itoa_any w6 y HWy.out (HTb.out.past HT6.out.two.below)).mono ?_
                        rintro e w7 ⟨rfl, hb7⟩
                        have HT7 := hide (HT6.out.past hb7)
                        clear hb7
                        go_wp2
                        go_meet
                        case rel => exact ⟨none, 0, none, 0, 0, [], rfl, rfl, reads_none _ _, reads_none _ _, fun _ h => (by cases h), _, _, _, HT7.out.two, HW.out⟩
                    · have e6 := hne 6 h6
                      obtain ⟨kk, hkk, _⟩ := RI.cnt_cases o.n L.length
                      have HK := hide hkk
                      clear hkk hne h1 h2 h3 h6
                      go_wp2_with fail
                      have hcd := HTd.out.cel.c2
                      clear o2 o3
                      go_region_held3 (fun w' => w'.cell? ⟨q, 2, none⟩ = some (.int .i64 o.n)) (first | assumption) (first
                        | (go_at_call 19; with_reducible refine (kPeekA HTd.out o.n kk HK.out).mono ?_; rintro e w5 ⟨A5, c5, rfl, hr5, ht⟩; have HR5 := hide hr5; have HT5 := hide ht; have hc5 := ht.cel.c2; clear ht hr5)
                        | (go_at_call 44; with_reducible refine (kPeekB HT5.out o.n kk HK.out).mono ?_; rintro e w6 ⟨A6, c6, rfl, hr6, ht, hb6⟩; have HR6 := hide hr6; have HR5' := hide (Reads.below HR5.out hb6); have HT6 := hide ht; have hc6 := ht.cel.c2; clear ht hr6 hb6))
                      clear hcd hc5 hc6
                      go_wp2
                      go_meet
                      case rel => exact ⟨_, _, _, _, _, _, rfl, rfl, HR5'.out, HR6.out, wfi_take HW.out _, _, _, _, HT6.out.two, HW.out⟩
            case rest => as_aux_lemma =>
              clear HT2 HTx HFa HFb HRd HIl HIw HW
              obtain ⟨A1, c1, A2, c2, m, X, rfl, rfl, hx1, hx2, hwx, Fa', Fb', L', hk2, hwl⟩ := hcut
              have HK2 := hide hk2
              have HX1 := hide hx1
              have HX2 := hide hx2
              have HWx := hide hwx
              have HWl := hide hwl
              have hm := maxLen_lt hx1.size
              have HXl : Hid (X.length = m) := hide (by have := hx1.1; rw [ints_length, Nat.mul_one] at this; exact this)
              clear hk2 hx1 hx2 hwx hwl
              go_wp2_with fail
              refine (RI.len_any wc Fa' a cap (ints L') 0 HK2.out.ra).mono ?_
              rintro e w5 ⟨rfl, rfl⟩
              rw [ints_length]
              go_wp2_with fail
              refine (RS.len_any wc Fb' b cap (txs L') 0 HK2.out.rb).mono ?_
              rintro e w5 ⟨rfl, rfl⟩
              rw [txs_length]
              go_wp2
              go_loopw [167] (fun t wq => ∃ j : Nat, j ≤ m ∧ t = .int .i64 j ∧ Hid (Below wc.heap.size wc wq)) (fun t _ => m - (intOf t).toNat)
              case atStart => exact ⟨0, Nat.zero_le _, rfl, hide (Below.refl _ _)⟩
              case round =>
                obtain ⟨j, hj, rfl, HBq⟩ := hrel
                by_cases hjm : j < m
                · obtain ⟨y, hy⟩ : ∃ y, X[j]? = some y := ⟨_, List.getElem?_eq_getElem (by have := HXl.out; omega)⟩
                  have HWy := hide (HWx.out y (List.mem_of_getElem? hy))
                  obtain ⟨ad1, d1, he1, hx1⟩ := reads_pos (Reads.below HX1.out HBq.out) (by omega)
                  obtain ⟨ad2, d2, he2, hx2⟩ := reads_pos (Reads.below HX2.out HBq.out) (by omega)
                  injection he1 with he1 _ hd1
                  injection he2 with he2 _ hd2
                  subst he1
                  subst he2
                  subst hd1
                  subst hd2
                  have g1 := hx1 j _ (ints_get hy)
                  have g2 : wr.cell? (ad2.add j) = some (.string ⟨(Lib.itoa y).toArray⟩) := hx2 j _ (txs_get hy)
                  have HTbd := hide (HTb.out.past (w' := wr.drew) ((HK2.out.below.trans (HBq.out.mono HK2.out.below.size)).drew))
                  clear hx1 hx2 hy
                  go_wp2_with fail
                  have q1 : wr.drew.cell? (ad1.add j) = some (.int .i64 y) := g1
                  have q2 : wr.drew.cell? (ad2.add j) = some (.string ⟨(Lib.itoa y).toArray⟩) := g2
                  clear g1 g2
                  go_region_held3 (fun w' => w'.cell? (ad1.add j) = some (.int .i64 y) ∧ w'.cell? (ad2.add j) = some (.string ⟨(Lib.itoa y).toArray⟩)) (first | assumption | exact ⟨by assumption, by assumption⟩) (first
                    | (go_at_call 39; (with_reducible refine (itoa_any wr.drew y HWy.out HTbd.out).mono ?_); rintro e w5 ⟨rfl, hb5⟩; have r1 := (hb5.cell (World.block_lt_of_cell? _ _ q1)).trans q1; have r2 := (hb5.cell (World.block_lt_of_cell? _ _ q2)).trans q2; have HB5 := hide (HBq.out.drew.trans (hb5.mono (show _ ≤ wr.drew.heap.size from HBq.out.size))); clear hb5))
                  clear q1 q2 r1 r2
                  go_wp2
                  go_roundw
                  case rel => exact ⟨j + 1, by omega, by go_num, HB5⟩
                  case measure => simp [intOf]; omega
                · obtain rfl : j = m := by omega
                  go_wp2_with fail
                  go_roundw
                  case rel => exact ⟨i + 1, by omega, by go_num, hide ⟨Fa', Fb', L', HK2.out.past HBq.out, HWl.out⟩⟩
                  case measure => simp [intOf]; omega
      · obtain rfl : i = n := by omega
        go_wp2_with fail
        go_ret
        exact ⟨rfl, HT.out.below⟩
end Go.Proofs.YtcalamofccdldaaDoor.ringKinds
#print axioms Go.Proofs.YtcalamofccdldaaDoor.ringKinds.walk
