/-
  RingBlind: for every capacity, script and looks the law returns true: looking on changes nothing.
-/
import Derived.Test.YtcalamofccdldaaDoorOpsW
namespace Go.Proofs.YtcalamofccdldaaDoor.ringBlind
open Go Go.RowKit Go.Cu Go.Proofs.YtcalamofccdldaaDoor

/-- what was popped stays behind a later step elsewhere -/
theorem row_kept {wr w1 w2 : World} {Fb : Nat → Prop} {v : Value} {m : Nat} {xs : List Value} (h : Row w1 (RI.New wr) 3 1 v m xs) (hm : Mod Fb w1 w2) (hlt : ∀ k, Fb k → k < wr.heap.size) : Reads w2 1 v m xs :=
  (h.kept hm (fun j hj _ hf => by have h2 : wr.heap.size ≤ j := hj; have := hlt j hf; omega)).reads

set_option maxRecDepth 10000 in
set_option maxHeartbeats 8000000 in
theorem walk (w : World) (capacity : Int) (v : Value) (n : Nat) (ops : List OpD) (h : Ops w v n ops) (lv : Value) (m : Nat) (looks : List Int) (hl : Reads w 1 lv m (ints looks)) (u : TypeId) (x : Value) (hE : w.cell? ⟨0, 0, none⟩ = some (.iface u x)) :
    Calls Tryd.prog 4 #[.int .i64 capacity, v, lv] w fun e w' => e = .returned (.bool true) ∧ Below w.heap.size w w' := by
  have HS := hide h
  have HLk := hide hl
  obtain ⟨A, c, rfl⟩ := h.reads.shape
  obtain ⟨LA, lc, rfl⟩ := hl.shape
  have hn := maxLen_lt h.reads.size
  have hmm := maxLen_lt hl.size
  have hLl := hl.1
  rw [ints_length, Nat.mul_one] at hLl
  have HL := hide h.length
  have HLL := hide hLl
  clear h hl hLl
  by_cases hcap : capacity < 0 ∨ 2147483647 < capacity
  · go_enter Tryd.func4, Tryd.ntmps4
    go_wp2_with fail
    refine (fixed_true w).mono ?_
    rintro e w1 ⟨rfl, hb1⟩
    have HB1 := hide hb1
    have hE1 := hide ((hb1.cell (World.block_lt_of_cell? w _ hE)).trans hE)
    clear hb1
    have HC := hide hcap
    clear hcap
    go_wp2_with fail
    refine (RI.new_bad w1 capacity HC.out _ hE1.out).mono ?_
    rintro e w2 ⟨rfl, hb2⟩
    have HB2 := hide (HB1.out.trans (hb2.mono HB1.out.size))
    have hE2 := hide ((hb2.cell (World.block_lt_of_cell? w1 _ hE1.out)).trans hE1.out)
    clear hb2
    go_wp2_with fail
    refine (RI.new_bad w2 capacity HC.out _ hE2.out).mono ?_
    rintro e w3 ⟨rfl, hb3⟩
    have HB3 := hide (HB2.out.trans (hb3.mono HB2.out.size))
    clear hb3
    go_wp2
    go_ret
    exact ⟨rfl, HB3.out⟩
  · obtain ⟨cap, rfl⟩ : ∃ cap : Nat, capacity = (cap : Int) := ⟨capacity.toNat, by omega⟩
    have hcap' : cap ≤ 2147483647 := by omega
    clear hcap hE
    go_enter Tryd.func4, Tryd.ntmps4
    go_wp2_with fail
    refine (fixed_true w).mono ?_
    rintro e w1 ⟨rfl, hb1⟩
    have HB1 := hide hb1
    clear hb1
    go_wp2_with fail
    refine (RI.new_any w1 cap hcap').mono ?_
    rintro e w2 ⟨a, rfl, hr2, hb2⟩
    have HR2 := hide hr2
    have HB2 := hide hb2
    clear hr2 hb2
    go_wp2_with fail
    refine (RI.new_any w2 cap hcap').mono ?_
    rintro e w3 ⟨b, rfl, hr3, hb3⟩
    have hs1 := HB1.out.size
    have hs2 := HB2.out.size
    have HT : Hid (R2 w w3 (fun j => w1.heap.size ≤ j ∧ j < w2.heap.size) (fun j => w2.heap.size ≤ j ∧ j < w3.heap.size) a b cap [] []) :=
      ⟨HR2.out.below hb3, hr3, fun k h1 h2 => by have := h1.2; have := h2.1; omega, fun k h1 => by have := h1.1; omega, fun k h1 => by have := h1.1; omega, (HB1.out.trans (HB2.out.mono hs1)).trans (hb3.mono (by omega))⟩
    clear hr3 hb3 hs1 hs2
    go_wp2
    go_loopw [49] (fun t wr => ∃ i : Nat, i ≤ n ∧ t = .int .i64 i ∧ Hid (∃ Fa Fb L, R2 w wr Fa Fb a b cap L L)) (fun t _ => n - (intOf t).toNat)
    case atStart => exact ⟨0, Nat.zero_le _, rfl, _, _, _, HT.out⟩
    case round =>
      clear HT HB1 HB2 HR2
      obtain ⟨i, hi, rfl, hst⟩ := hrel
      obtain ⟨Fa, Fb, L, ht⟩ := hst.out
      have HT := hide ht
      clear hst ht
      by_cases hlt : i < n
      · obtain ⟨o, ho⟩ : ∃ o, ops[i]? = some o := ⟨_, List.getElem?_eq_getElem (by have := HL.out; omega)⟩
        have HU := hide (flat_get opCell_length ho)
        have hmem := List.mem_of_getElem? ho
        have hnc := (HS.out.each o hmem).2.1
        have HRd := hide (HS.out.each o hmem).1
        have HScr := hide (Reads.below HS.out.reads HT.out.below)
        clear ho hmem
        have HT1 := hide (T2.made HT.out o)
        go_wp2_with (first
          | ((with_reducible refine at_index rfl ?_); refine wpList_atS rfl rfl _ _ 37 43 _ rfl rfl rfl (by simp) Tryd.underlying37 (by decide) size_op agg_op rfl HScr.out rfl (by omega) (by omega) (us := [.int .i64 o.kind, .int .i64 o.at_, .int .i64 o.n, .slice o.A o.len o.c]) rfl HU.out ?_; intro p))
        obtain ⟨w4, hw4⟩ : ∃ w4, wr.alloc (.cells #[.int .i64 o.kind, .int .i64 o.at_, .int .i64 o.n, .slice o.A o.len o.c] 43) = w4 := ⟨_, rfl⟩
        obtain ⟨pp, hpp⟩ : ∃ pp, wr.heap.size = pp := ⟨_, rfl⟩
        rw [hw4, hpp] at HT1
        rw [hw4, hpp]
        clear hw4 hpp HScr HT HU
        go_loopw [55] (fun t wq => ∃ j : Nat, j ≤ m ∧ t = .int .i64 j ∧ Hid (T2 w wq Fa Fb a b cap L L pp o)) (fun t _ => m - (intOf t).toNat)
        case atStart => exact ⟨0, Nat.zero_le _, rfl, HT1.out⟩
        case round =>
          clear HT1
          obtain ⟨j, hj, rfl, HT⟩ := hrel
          by_cases hjm : j < m
          · obtain ⟨y, hy⟩ : ∃ y, looks[j]? = some y := ⟨_, List.getElem?_eq_getElem (by have := HLL.out; omega)⟩
            have HY := hide (ints_get hy)
            have HScr := hide (Reads.below HLk.out HT.out.two.below)
            clear hy
            go_wp2_with ((with_reducible refine at_index rfl ?_); refine wpList_at1 rfl rfl _ _ 38 3 _ rfl rfl rfl (by simp) Tryd.underlying38 size_int agg_int rfl HScr.out rfl (by omega) (by omega) HY.out ?_; intro q)
            obtain ⟨kp, hP⟩ := peekT HT.out y
            refine hP.mono ?_
            rintro e w5 ⟨A5, c5, rfl, ht⟩
            have HT5 := hide ht
            clear ht hP
            go_wp2_with fail
            obtain ⟨x1, x2, hP⟩ := atT HT5.out y
            refine hP.mono ?_
            rintro e w6 ⟨rfl, ht⟩
            have HT6 := hide ht
            clear ht hP
            go_wp2_with fail
            refine (RI.free_any w6 Fa a cap (ints L) 0 HT6.out.two.ra).mono ?_
            rintro e w7 ⟨rfl, rfl⟩
            go_wp2_with fail
            refine (RI.cap_any w6 Fa a cap (ints L) 0 HT6.out.two.ra).mono ?_
            rintro e w7 ⟨rfl, rfl⟩
            go_wp2
            go_roundw
            case rel => exact ⟨j + 1, by omega, by go_num, HT6.out⟩
            case measure => simp [intOf]; omega
          · obtain rfl : j = m := by omega
            have c0 := HT.out.cel.c0
            have c2 := HT.out.cel.c2
            have c3 := HT.out.cel.c3
            by_cases hk1 : o.kind = 1
            · rw [hk1] at c0
              obtain ⟨kk, hkk⟩ : ∃ kk, min o.len (cap - L.length) = kk := ⟨_, rfl⟩
              have HK := hide hkk
              clear hkk
              go_wp2_with fail
              have HTd := hide (HT.out.past (w' := wr.drew) ⟨rfl, rfl, rfl, Nat.le_refl _, fun _ _ => rfl⟩)
              have hcd := HTd.out.cel.c3
              clear c0 c2 c3
              go_region_held3 (fun w' => w'.cell? ⟨pp, 3, none⟩ = some (.slice o.A o.len o.c)) (first | assumption) (first
                | (go_at_call 23; with_reducible refine (pushT HTd.out HRd.out hnc kk HK.out).mono ?_; rintro e w5 ⟨rfl, ht⟩; have HT5 := hide ht.swap; have hc5 := ht.cel.c3; clear ht)
                | (go_at_call 23; with_reducible refine (pushT HT5.out HRd.out hnc kk HK.out).mono ?_; rintro e w6 ⟨rfl, ht⟩; have HT6 := hide ht.swap; have hc6 := ht.cel.c3; clear ht))
              clear hcd hc5 hc6
              go_wp2
              go_roundw
              case rel => exact ⟨i + 1, by omega, by go_num, _, _, _, HT6.out.two⟩
              case measure => simp [intOf]; omega
            · by_cases hk2 : o.kind = 2
              · rw [hk2] at c0
                obtain ⟨kk, hkk, _⟩ := RI.cnt_cases o.n L.length
                have HK := hide hkk
                clear hkk
                go_wp2_with fail
                have HTd := hide (HT.out.past (w' := wr.drew) ⟨rfl, rfl, rfl, Nat.le_refl _, fun _ _ => rfl⟩)
                have hcd := HTd.out.cel.c2
                clear c0 c2 c3
                go_region_held3 (fun w' => w'.cell? ⟨pp, 2, none⟩ = some (.int .i64 o.n)) (first | assumption) (first
                  | (go_at_call 25; with_reducible refine (popT HTd.out o.n kk HK.out).mono ?_; rintro e w5 ⟨A5, c5, rfl, hr5, ht, _⟩; have HR5 := hide hr5; have HT5 := hide ht.swap; have hc5 := ht.cel.c2; clear ht hr5)
                  | (go_at_call 25; with_reducible refine (popT HT5.out o.n kk HK.out).mono ?_; rintro e w6 ⟨A6, c6, rfl, hr6, ht, hm6⟩; have HR6 := hide hr6.reads; have HR5' := hide (row_kept HR5.out hm6 HTd.out.two.rb.lt); have HT6 := hide ht.swap; have hc6 := ht.cel.c2; clear ht hr6 hm6)
                  | (go_at_call 24; with_reducible refine (same_any w6 _ _ kk (L.take kk) HR5'.out HR6.out).mono ?_; rintro e w7 ⟨rfl, hd⟩; have HT7 := hide (HT6.out.past hd.below); have hc7 := HT7.out.cel.c2; clear hd))
                clear hcd hc5 hc6 hc7
                go_wp2
                go_roundw
                case rel => exact ⟨i + 1, by omega, by go_num, _, _, _, HT7.out.two⟩
                case measure => simp [intOf]; omega
              · by_cases hk3 : o.kind = 3
                · rw [hk3] at c0
                  obtain ⟨kk, hkk, _⟩ := RI.cnt_cases o.n L.length
                  have HK := hide hkk
                  clear hkk
                  go_wp2_with fail
                  have HTd := hide (HT.out.past (w' := wr.drew) ⟨rfl, rfl, rfl, Nat.le_refl _, fun _ _ => rfl⟩)
                  have hcd := HTd.out.cel.c2
                  clear c0 c2 c3
                  go_region_held3 (fun w' => w'.cell? ⟨pp, 2, none⟩ = some (.int .i64 o.n)) (first | assumption) (first
                    | (go_at_call 26; with_reducible refine (dropT HTd.out o.n kk HK.out).mono ?_; rintro e w5 ⟨rfl, ht⟩; have HT5 := hide ht.swap; have hc5 := ht.cel.c2; clear ht)
                    | (go_at_call 26; with_reducible refine (dropT HT5.out o.n kk HK.out).mono ?_; rintro e w6 ⟨rfl, ht⟩; have HT6 := hide ht.swap; have hc6 := ht.cel.c2; clear ht))
                  clear hcd hc5 hc6
                  go_wp2
                  go_roundw
                  case rel => exact ⟨i + 1, by omega, by go_num, _, _, _, HT6.out.two⟩
                  case measure => simp [intOf]; omega
                · by_cases hk4 : o.kind = 4
                  · rw [hk4] at c0
                    go_wp2_with fail
                    refine (clearT HT.out).mono ?_
                    rintro e w5 ⟨rfl, ht⟩
                    have HT5 := hide ht.swap
                    clear ht
                    go_wp2_with fail
                    refine (clearT HT5.out).mono ?_
                    rintro e w6 ⟨rfl, ht⟩
                    have HT6 := hide ht.swap
                    clear ht
                    go_wp2
                    go_roundw
                    case rel => exact ⟨i + 1, by omega, by go_num, _, _, _, HT6.out.two⟩
                    case measure => simp [intOf]; omega
                  · go_wp2_with fail
                    go_roundw
                    case rel => exact ⟨i + 1, by omega, by go_num, _, _, _, HT.out.two⟩
                    case measure => simp [intOf]; omega
      · obtain rfl : i = n := by omega
        go_wp2_with fail
        refine (RI.len_any wr Fa a cap (ints L) 0 HT.out.ra).mono ?_
        rintro e w1 ⟨rfl, rfl⟩
        go_wp2_with fail
        refine (RI.len_any wr Fb b cap (ints L) 0 HT.out.rb).mono ?_
        rintro e w1 ⟨rfl, rfl⟩
        go_wp2_with fail
        refine (RI.len_any wr Fa a cap (ints L) 0 HT.out.ra).mono ?_
        rintro e w1 ⟨rfl, rfl⟩
        go_wp2_with fail
        refine (RI.peek_any wr Fa a cap (ints L) 0 _ (ints L).length HT.out.ra (by omega)).mono ?_
        rintro e w5 ⟨A5, c5, rfl, hr, hb⟩
        rw [List.take_length] at hr
        have HR5 := hide hr.reads
        have HT5 := hide (HT.out.past hb)
        clear hr hb
        go_wp2_with fail
        refine (RI.len_any w5 Fb b cap (ints L) 0 HT5.out.rb).mono ?_
        rintro e w1 ⟨rfl, rfl⟩
        go_wp2_with fail
        refine (RI.peek_any w5 Fb b cap (ints L) 0 _ (ints L).length HT5.out.rb (by omega)).mono ?_
        rintro e w6 ⟨A6, c6, rfl, hr, hb⟩
        rw [List.take_length] at hr
        have HR6 := hide hr.reads
        have HR5' := hide (Reads.below HR5.out hb)
        have HT6 := hide (HT5.out.past hb)
        clear hr hb
        go_wp2_with fail
        refine (same_any w6 _ _ _ L HR5'.out HR6.out).mono ?_
        rintro e w7 ⟨rfl, hd⟩
        have HT7 := hide (HT6.out.past hd.below)
        clear hd
        go_wp2
        go_ret
        exact ⟨rfl, HT7.out.below⟩
end Go.Proofs.YtcalamofccdldaaDoor.ringBlind
