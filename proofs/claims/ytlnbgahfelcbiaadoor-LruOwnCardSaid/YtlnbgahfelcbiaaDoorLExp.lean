import Derived.Test.YtlnbgahfelcbiaaDoorLKeys
/- The cache's Expire. -/
namespace Go.Proofs.YtlnbgahfelcbiaaDoor
open Go Go.RowKit Go.Cu

/-- who stays at a time, and who goes -/
def keepT (now : Int) (l : List LE) : List LE := l.filter (fun e => decide (now < e.un))
def goneT (now : Int) (l : List LE) : List LE := l.filter (fun e => decide (e.un ≤ now))
theorem keepT_yes {now : Int} {e : LE} (a : List LE) (h : now < e.un) : keepT now (a ++ [e]) = keepT now a ++ [e] := by simp [keepT, h]
theorem keepT_no {now : Int} {e : LE} (a : List LE) (h : e.un ≤ now) : keepT now (a ++ [e]) = keepT now a := by
  have : ¬ now < e.un := by omega
  simp [keepT, this]
theorem goneT_yes {now : Int} {e : LE} (a : List LE) (h : e.un ≤ now) : goneT now (a ++ [e]) = goneT now a ++ [e] := by simp [goneT, h]
theorem goneT_no {now : Int} {e : LE} (a : List LE) (h : now < e.un) : goneT now (a ++ [e]) = goneT now a := by
  have : ¬ e.un ≤ now := by omega
  simp [goneT, this]
theorem goneT_le (now : Int) (a : List LE) : (goneT now a).length ≤ a.length := List.length_filter_le _ _
theorem keepT_mem {now : Int} {a : List LE} {e : LE} (h : e ∈ keepT now a) : e ∈ a := (List.mem_filter.1 h).1
theorem InC.sub {c m : Nat} {L M : List LE} (h : ∀ e ∈ M, e ∈ L) : ∀ k, InC c m M k → InC c m L k :=
  fun _ hk => hk.imp id (fun hk => hk.imp id (fun ⟨x, hx, e⟩ => ⟨x, h x hx, e⟩))
theorem expire_nil (w : World) (now : Int) : Calls Tryd.prog 14 #[.pointer none, .int .i64 now] w fun r w' => r = .returned (.slice none 0 0) ∧ w = w' := by
  go_enter Tryd.func14, Tryd.ntmps14
  go_wp2
  go_ret
  exact ⟨rfl, rfl⟩
set_option maxRecDepth 10000 in
set_option maxHeartbeats 1000000 in
theorem expire_any (w : World) (c m : Nat) (room : Int) (L : List LE) (h : LCP w c m room L) (hn : L.length ≤ 17592186044415) (now : Int) :
    Calls Tryd.prog 14 #[ptr c, .int .i64 now] w fun r w' => ∃ A n cc, r = .returned (.slice A n cc) ∧ n = (goneT now L).length ∧ Row w' (New w) 3 1 (.slice A n cc) n (ints (keysOf (goneT now L))) ∧ LCP w' c m room (keepT now L) ∧ Mod (InC c m L) w w' := by
  obtain ⟨y0, y1, y2, g3, g4, fc⟩ := cFacts h.ord.cells
  obtain ⟨i0, hi0, hz0, hz1, hz2⟩ := info_parts info_int
  have HL := hide h
  have hlt0 := hide h.lt
  clear h y0 y1 y2 g4 fc
  go_enter Tryd.func14, Tryd.ntmps14
  go_wp2
  go_loopg [5, 6] L.length (fun g s t wr => ∃ i : Nat, i ≤ L.length ∧ g = L.length - i ∧ t = pt (hb (L.drop i) none) ∧ ∃ A n cc, s = .slice A n cc ∧ n ≤ i ∧ Hid (n = (goneT now (L.take i)).length) ∧ Hid (Row wr (New w) 3 1 (.slice A n cc) n (ints (keysOf (goneT now (L.take i))))) ∧ Hid (LCP wr c m room (keepT now (L.take i) ++ L.drop i)) ∧ Hid (Mod (InC c m L) w wr))
  case atStart => exact ⟨0, Nat.zero_le _, rfl, by simp, none, 0, 0, rfl, Nat.zero_le _, hide rfl, hide (Row.nil _ _ _ _), HL, hide (Mod.refl _ _)⟩
  case round =>
    obtain ⟨i, hi, rfl, rfl, A, n, cc, rfl, hni, HN, HRow, HC, HM⟩ := hrel
    clear g3
    by_cases hlt : i < L.length
    · obtain ⟨e, he, hd, ht⟩ := step_on L i hlt
      have hL := HC.out
      rw [hd] at hL
      obtain ⟨x0, x1, x2, x3, k4, k5, fe⟩ := eFacts hL.ord.seg.mid
      rw [hd]
      have HD := hide ht
      have HC2 := hide hL
      have heL : e ∈ L := by rw [he]; simp
      have HE := hide heL
      have HHe := hide he
      have hws := HM.out.size
      rw [hb]
      clear he hd ht x1 x2 k4 fe heL
      obtain ⟨nx, hnx⟩ : ∃ nx, hb (L.drop (i + 1)) none = nx := ⟨_, rfl⟩
      rw [hnx] at k5
      have HNx := hide hnx
      clear hnx
      unfold pt at k5 ⊢
      simp only [Option.map_some]
      by_cases hold : e.un ≤ now
      · have hLa : LCP (wr.alloc (.cells #[.int .i64 e.k] 3)) c m room (keepT now (L.take i) ++ e :: L.drop (i + 1)) := hL.past ((Below.refl _ wr).alloc (Nat.le_refl _) _)
        have HLa := hide hLa
        have HRow1 := hide (HRow.out.alloc (.cells #[.int .i64 e.k] 3)).narrow
        clear hL hLa
        go_wp2_with (first
          | (at_builtin; refine wpList_append_row rfl _ _ 32 rfl 3 i0 (.int .i64 0) 1 8 Tryd.underlying32 hi0 hz0 hz1 hz2 rfl (by decide) rfl HRow1.out rfl (reads_one _ _ _ _) (by simp [Value.oneCell']) (by unfold maxLen; omega) (by omega) ?_
             intro A1 c1 w1 hrow1 hmod1
             have HR1 := hide hrow1
             have HC1 := hide (HLa.out.far (by decide) (by decide) hmod1)
             have HM1 := hide (((HM.out.alloc (.cells #[.int .i64 e.k] 3)).trans hmod1 (fun k hk hh => absurd hh.1 (by show ¬ w.heap.size ≤ k; omega))))
             clear hrow1 hmod1)
          | fail)
        refine (remove_any w1 c m room _ _ e HC1.out).mono ?_
        rintro r w2 ⟨rfl, h1, _, h2⟩
        have hnot : ∀ k, InC c m (keepT now (L.take i) ++ e :: L.drop (i + 1)) k → InC c m L k := InC.sub (fun x hx => by
          rcases List.mem_append.1 hx with hx | hx
          · exact List.mem_of_mem_take (keepT_mem hx)
          · rcases List.mem_cons.1 hx with rfl | hx
            · exact HE.out
            · exact List.mem_of_mem_drop hx)
        have HM2 := hide (HM1.out.trans h2 (fun k _ hk => hnot k hk))
        have HR2 := hide (HC1.out.row (by decide) (by decide) h2 HR1.out)
        have HC3 := hide h1
        clear h1 h2
        go_wp2
        go_roundg (L.length - (i + 1))
        case measure => omega
        case rel =>
          refine ⟨i + 1, by omega, rfl, ?_, A1, n + 1, c1, rfl, by omega, hide ?_, hide ?_, hide ?_, HM2⟩
          · unfold pt
            rw [HNx.out]
          · rw [HD.out, goneT_yes _ hold, List.length_append, HN.out]; rfl
          · rw [HD.out, goneT_yes _ hold, keysOf_app, ← ints_append]
            exact HR2.out.mono (fun k hk _ => by
              rcases hk with hk | hk
              · exact hk.1
              · show w.heap.size ≤ k
                rw [hk]; simp; omega)
          · rw [HD.out, keepT_no _ hold]; exact HC3.out
      · have hyoung : now < e.un := by omega
        clear hL
        go_wp2
        go_roundg (L.length - (i + 1))
        case measure => omega
        case rel =>
          refine ⟨i + 1, by omega, rfl, ?_, A, n, cc, rfl, by omega, hide ?_, hide ?_, hide ?_, HM⟩
          · unfold pt
            rw [HNx.out]
          · rw [HD.out, goneT_no _ hyoung, HN.out]
          · rw [HD.out, goneT_no _ hyoung]; exact HRow.out
          · rw [HD.out, keepT_yes _ hyoung]
            have := HC2.out
            rw [List.append_assoc]
            exact this
    · obtain rfl : i = L.length := by omega
      rw [List.drop_length, hb]
      unfold pt
      simp only [Option.map_none]
      have HR := HRow
      have HC1 := HC
      rw [List.take_length] at HR HC1 HN
      rw [List.drop_length, List.append_nil] at HC1
      go_wp2
      go_ret
      exact ⟨A, n, cc, rfl, HN.out, HR.out, HC1.out, HM.out⟩
end Go.Proofs.YtlnbgahfelcbiaaDoor
