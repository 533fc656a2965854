import Derived.Test.YtlnbgahfelcbiaaDoorLGet
import Derived.Test.YtlnbgahfelcbiaaDoorLInts
import Derived.Deep.LoopGhost
/- The cache's Keys. -/
namespace Go.Proofs.YtlnbgahfelcbiaaDoor
open Go Go.RowKit Go.Cu

theorem keys_nil (w : World) : Calls Tryd.prog 16 #[.pointer none] w fun r w' => r = .returned (.slice none 0 0) ∧ w = w' := by
  go_enter Tryd.func16, Tryd.ntmps16
  go_wp2
  go_ret
  exact ⟨rfl, rfl⟩
set_option maxRecDepth 10000 in
set_option maxHeartbeats 1000000 in
theorem keys_any (w : World) (c m : Nat) (room : Int) (L : List LE) (h : LCP w c m room L) (hn : L.length ≤ 17592186044415) :
    Calls Tryd.prog 16 #[ptr c] w fun r w' => ∃ A n cc, r = .returned (.slice A n cc) ∧ n = L.length ∧ Row w' (New w) 3 1 (.slice A n cc) n (ints (keysOf L)) ∧ Below w.heap.size w w' := by
  obtain ⟨y0, y1, y2, g3, g4, fc⟩ := cFacts h.ord.cells
  obtain ⟨i0, hi0, hz0, hz1, hz2⟩ := info_parts info_int
  have HL := hide h
  clear h y0 y1 y2 g4 fc
  go_enter Tryd.func16, Tryd.ntmps16
  go_wp2
  go_loopg [3, 4] L.length (fun g s t wr => ∃ i : Nat, i ≤ L.length ∧ g = L.length - i ∧ t = pt (hb (L.drop i) none) ∧ ∃ A cc, s = .slice A i cc ∧ Hid (Row wr (New w) 3 1 (.slice A i cc) i (ints (keysOf (L.take i)))) ∧ Hid (Below w.heap.size w wr))
  case atStart => exact ⟨0, Nat.zero_le _, rfl, by simp, none, 0, rfl, hide (Row.nil _ _ _ _), hide (Below.refl _ _)⟩
  case round =>
    obtain ⟨i, hi, rfl, rfl, A, cc, rfl, HRow, HB⟩ := hrel
    clear g3
    by_cases hlt : i < L.length
    · obtain ⟨e, he, hd, ht⟩ := step_on L i hlt
      have hL := HL.out.past HB.out
      have hseg := hL.ord.seg
      rw [he] at hseg
      obtain ⟨x0, x1, x2, x3, k4, k5, fe⟩ := eFacts hseg.mid
      rw [hd]
      have HD := hide ht
      have hLa : LCP (wr.alloc (.cells #[.int .i64 e.k] 3)) c m room L := hL.past ((Below.refl _ wr).alloc (Nat.le_refl _) _)
      have HLa := hide hLa
      have HRow1 := hide (HRow.out.alloc (.cells #[.int .i64 e.k] 3)).narrow
      have z5a : (wr.alloc (.cells #[.int .i64 e.k] 3)).cell? ⟨e.b, 5, none⟩ = wr.cell? ⟨e.b, 5, none⟩ := ((Below.refl wr.heap.size wr).alloc (Nat.le_refl _) (.cells #[.int .i64 e.k] 3)).cell (World.block_lt_of_cell? wr _ k5)
      have HZ := hide (z5a.trans k5)
      have heb : ¬ OfE (wr.alloc (.cells #[.int .i64 e.k] 3)) 3 e.b := hLa.not_row (by decide) (by decide) _ (.inr (.inr ⟨e, by rw [he]; simp, rfl⟩))
      have hws := HB.out.size
      clear he hd ht hL hseg x1 x2 x3 k4 fe hLa z5a
      obtain ⟨nx, hnx⟩ : ∃ nx, hb (L.drop (i + 1)) none = nx := ⟨_, rfl⟩
      rw [hnx] at k5 HZ
      have HN := hide hnx
      clear hnx
      rw [hb]
      unfold pt at k5 HZ ⊢
      simp only [Option.map_some]
      go_wp2_with (first
        | (at_builtin; refine wpList_append_row rfl _ _ 32 rfl 3 i0 (.int .i64 0) 1 8 Tryd.underlying32 hi0 hz0 hz1 hz2 rfl (by decide) rfl HRow1.out rfl (reads_one _ _ _ _) (by simp [Value.oneCell']) (by unfold maxLen; omega) (by omega) ?_
           intro A1 c1 w1 hrow1 hmod1
           have z5 := hmod1.cell HZ.out (fun hh => heb hh.2)
           have HR1 := hide hrow1
           have HB1 := hide ((HB.out.trans ((Below.refl _ wr).alloc hws (.cells #[.int .i64 e.k] 3))).trans (hmod1.below (B := w.heap.size) (by simp; omega) (fun k hk => hk.1)))
           clear hrow1 hmod1))
      go_roundg (L.length - (i + 1))
      case measure => omega
      case rel =>
        refine ⟨i + 1, by omega, rfl, ?_, A1, c1, rfl, hide ?_, HB1⟩
        · unfold pt
          rw [HN.out]
        · rw [HD.out, keysOf_app, ← ints_append]
          exact HR1.out.mono (fun k hk _ => by
            rcases hk with hk | hk
            · exact hk.1
            · show w.heap.size ≤ k
              rw [hk]; simp; omega)
    · obtain rfl : i = L.length := by omega
      rw [List.drop_length, hb]
      unfold pt
      simp only [Option.map_none]
      have HR := HRow
      rw [List.take_length] at HR
      go_wp2
      go_ret
      exact ⟨A, _, cc, rfl, rfl, HR.out, HB.out⟩
end Go.Proofs.YtlnbgahfelcbiaaDoor
