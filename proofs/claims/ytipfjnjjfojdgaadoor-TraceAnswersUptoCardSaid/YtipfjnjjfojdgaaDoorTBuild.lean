import Derived.Test.YtipfjnjjfojdgaaDoorTState
import Derived.Test.YtipfjnjjfojdgaaDoorLib
import Derived.Lib.Builder
import Derived.Lib.AppendStr
import Derived.Laws.Externs
import Derived.WalkKit
/- strings.Builder's writers. -/
namespace Go.Proofs.YtipfjnjjfojdgaaDoor
open Go Go.RowKit Go.Cu

theorem sizeB : ∃ j, Tryd.prog.info? 82 = some j ∧ j.size ≠ 0 := by
  have h : (Tryd.prog.info? 82).map (·.size) = some 2 := by kernel_rfl
  obtain ⟨j, hj, h2⟩ := Option.map_eq_some_iff.1 h
  exact ⟨j, hj, by rw [h2]; decide⟩
theorem liesB : liesAt Tryd.prog Tryd.prog.depth 82 (2 / Tryd.prog.cellsOf 82) 0 82 1 = true := by kernel_rfl
theorem infoB : (Tryd.prog.info? 5).map (fun i => (i.zero, i.size, i.bytes)) = some (some (.int .u8 0), 1, 1) := by kernel_rfl
theorem check_used (b : Nat) (w : World) (h0 : w.cell? ⟨b, 0, none⟩ = some (ptr b)) :
    Calls Tryd.prog 48 #[ptr b] w fun e w' => e = .returned (.tuple #[]) ∧ w' = w := by
  obtain ⟨j, hj, _⟩ := sizeB
  have hn := Lib.run_neq_ptr_same (P := Tryd.prog) (w := w) ⟨b, 0, none⟩ Tryd.underlying80 hj
  go_enter Tryd.func48, Tryd.ntmps48
  go_wp2
  go_end0
  exact ⟨rfl, rfl⟩
set_option maxRecDepth 100000 in
set_option maxHeartbeats 1000000 in
theorem check_fresh (b : Nat) (w : World) (h0 : w.cell? ⟨b, 0, none⟩ = some (.pointer none)) (hsh : w.shape? b = some (82, 2)) (hfz : w.frozen? ⟨b, 0, none⟩ = false) :
    Calls Tryd.prog 48 #[ptr b] w fun e w' => e = .returned (.tuple #[]) ∧ w' = w.setCell ⟨b, 0, none⟩ (ptr b) := by
  obtain ⟨j, hj, hs⟩ := sizeB
  have hn : ∀ w, (binOp .neq 80 (.pointer (some ⟨b, 0, none⟩)) (.pointer (some ⟨b, 0, none⟩))).run Tryd.prog w = .ok (.bool false) w := fun w => Lib.run_neq_ptr_same (P := Tryd.prog) (w := w) ⟨b, 0, none⟩ Tryd.underlying80 hj
  have h1 := Lib.run_to_unsafe (P := Tryd.prog) w ⟨b, 0, none⟩ Tryd.underlying80 Tryd.underlying100 hj hs hsh (Nat.zero_lt_succ 1)
  have h3 := Lib.run_from_unsafe (P := Tryd.prog) w ⟨b, 0, none⟩ Tryd.underlying100 Tryd.underlying80 hj hsh liesB
  go_enter Tryd.func48, Tryd.ntmps48
  go_wp2_with fail
  rw [run_callFunc_extern Tryd.func55 (by kernel_rfl) (by kernel_rfl) (by kernel_rfl) (e := Extern.AbiNoEscape.same) (by kernel_rfl)]
  rw [Lib.run_noEscape]
  simp only [Result.andThen]
  rw [Oper.upon_value]
  go_wp2
  go_end0
  exact ⟨rfl, rfl⟩
/-- a builder of bytes -/
abbrev Bd (B b : Nat) (L : List Value) (w : World) : Prop := Lib.IsBuilder 82 5 B b L w
/-- only the builder and rows of bytes turn -/
def BMod (b : Nat) (w w' : World) : Prop := Mod (fun j => j = b ∨ OfE w 5 j) w w'
theorem own_ofE {w : World} {B : Nat} {e : TypeId} {v : Value} {n : Nat} {xs : List Value} (h : w.ownsRow B e 1 v n xs) : ∀ k, v.ownBlock = some k → OfE w e k := by
  intro k hk
  rcases h.2 with ⟨rfl, _⟩ | ⟨g, cap, cur, rfl, _, hg, _⟩
  · cases hk
  · simp [Value.ownBlock] at hk
    subst hk
    exact ⟨_, hg⟩
theorem bmod_made {b : Nat} {w w1 w2 : World} {v : Value} (h1 : Mod (fun j => j = b) w w1) (hg : w1.grownBy w2 v.ownBlock) (ho : ∀ k, v.ownBlock = some k → OfE w1 5 k) (x : Value) : BMod b w (w2.setCell ⟨b, 1, none⟩ x) := by
  have h2 : Mod (fun j => j = b ∨ OfE w1 5 j) w1 (w2.setCell ⟨b, 1, none⟩ x) := (Mod.ofGrown hg (fun k hk => .inr (ho k hk))).trans ((Mod.refl (fun j => j = b) w2).setCell (p := ⟨b, 1, none⟩) (fun _ => rfl) x) (fun _ _ e => .inl e)
  refine (h1.mono (fun _ _ e => .inl e)).trans h2 (fun j hj hg => ?_)
  rcases hg with hg | ⟨cs, hg⟩
  · exact .inl hg
  · by_cases e : j = b
    · exact .inl e
    · exact .inr ⟨cs, (h1.block j hj e) ▸ hg⟩
theorem check_any (B b : Nat) (L : List Value) (w : World) (h : Bd B b L w) :
    Calls Tryd.prog 48 #[ptr b] w fun e w' => e = .returned (.tuple #[]) ∧ Lib.BuilderAt 82 5 B b (ptr b) L w' ∧ Below B w w' ∧ Mod (fun j => j = b) w w' := by
  rcases h with h | h
  · refine (check_fresh b w h.cell0 h.shape h.frozen0).mono ?_
    rintro e w' ⟨rfl, rfl⟩
    exact ⟨rfl, h.used _, (Below.refl _ _).setCell (p := ⟨b, 0, none⟩) h.1 _, (Mod.refl (fun j => j = b) w).setCell (p := ⟨b, 0, none⟩) (fun _ => rfl) _⟩
  · refine (check_used b w h.cell0).mono ?_
    rintro e w' ⟨rfl, rfl⟩
    exact ⟨rfl, h, Below.refl _ _, Mod.refl _ _⟩
set_option maxRecDepth 100000 in
set_option maxHeartbeats 1000000 in
theorem write_string (B b : Nat) (L : List Value) (s : ByteArray) (w : World) (h : Bd B b L w) (hlen : L.length + s.size ≤ 140737488355328) (hB : B ≤ w.heap.size) :
    Calls Tryd.prog 38 #[ptr b, .string s] w fun e w' => e = .returned (.tuple #[.int .i64 s.size, .nilIface]) ∧ Bd B b (L ++ Lib.strCells s) w' ∧ Below B w w' ∧ BMod b w w' := by
  obtain ⟨i0, hi, hz0, hz1, hz2⟩ := info_parts infoB
  have HH := hide h
  clear h
  go_enter Tryd.func38, Tryd.ntmps38
  go_wp2_with fail
  refine (check_any B b L w HH.out).mono ?_
  rintro e w1 ⟨rfl, h1, hb1, hm1⟩
  have HM1 := hide hm1
  clear hm1
  obtain ⟨hBb, v, hbk, hown, hne⟩ := h1
  have c1 : w1.cell? ⟨b, 1, none⟩ = some v := by rw [Lib.cell_of_heap hbk]; rfl
  have HO := hide hown
  have HK := hide hbk
  have HB1 := hide hb1
  have HNe := hide hne
  have hlt : b < w1.heap.size := (Array.getElem?_eq_some_iff.1 hbk).1
  clear hown hbk hb1 hne
  go_wp2_with (first
    | (at_builtin; refine Lib.wpList_append_own_string _ rfl _ _ 26 9 rfl B 5 i0 Tryd.underlying26 Tryd.underlying9 hi hz0 hz1 hz2 _ _ _ rfl HO.out s rfl (by unfold maxLen; omega) (by omega) (by have := HB1.out.size; omega) ?_
       intro v' w2 hown' hgrow _
       have hb2 : w2.heap[b]? = some (.cells #[ptr b, v] 82 (0, 0)) := by
         rw [hgrow.block b hlt (fun e => HNe.out e.symm)]
         exact HK.out
       have d1 : w2.cell? ⟨b, 1, none⟩ = some v := by rw [Lib.cell_of_heap hb2]; rfl
       have f1 : w2.frozen? ⟨b, 1, none⟩ = false := Lib.frozen_of_heap hb2 1
       have HO2 := hide hown'
       have HG2 := hide hgrow
       have HK2 := hide hb2
       obtain ⟨ao, n', cap, rfl⟩ : ∃ ao n' cap, v' = .slice ao n' cap := by
         rcases hown'.2 with ⟨hv, _⟩ | ⟨g, cap, cur, hv, _⟩
         · exact ⟨_, _, _, hv⟩
         · exact ⟨_, _, _, hv⟩
       clear hown' hgrow hb2)
    | fail)
  go_ret2
  refine ⟨rfl, ?_, ?_, ?_⟩
  · exact .inr (Lib.BuilderAt.put (T := 82) (e := 5) hBb HK2.out (bs' := L ++ Lib.strCells s) (by simpa [Lib.strCells_length] using HO2.out) (by decide))
  · have hg : w1.grownBy w2 v.ownBlock := HG2.out
    exact ((HB1.out).grown hg (by have := HB1.out.size; omega) (fun k hk => (HO.out.lt k hk).1)).setCell (p := ⟨b, 1, none⟩) hBb _
  · exact bmod_made HM1.out HG2.out (own_ofE HO.out) _
set_option maxRecDepth 100000 in
set_option maxHeartbeats 1000000 in
theorem write_byte (B b : Nat) (L : List Value) (c : Int) (w : World) (h : Bd B b L w) (hlen : L.length + 1 ≤ 140737488355328) (hB : B ≤ w.heap.size) :
    Calls Tryd.prog 40 #[ptr b, .int .u8 c] w fun e w' => e = .returned .nilIface ∧ Bd B b (L ++ [.int .u8 c]) w' ∧ Below B w w' ∧ BMod b w w' := by
  obtain ⟨i0, hi, hz0, hz1, hz2⟩ := info_parts infoB
  have HH := hide h
  clear h
  go_enter Tryd.func40, Tryd.ntmps40
  go_wp2_with fail
  refine (check_any B b L w HH.out).mono ?_
  rintro e w1 ⟨rfl, h1, hb1, hm1⟩
  have HM1 := hide hm1
  clear hm1
  obtain ⟨hBb, v, hbk, hown, hne⟩ := h1
  have c1 : w1.cell? ⟨b, 1, none⟩ = some v := by rw [Lib.cell_of_heap hbk]; rfl
  have HO := hide hown
  have HK := hide hbk
  have HB1 := hide hb1
  have HNe := hide hne
  have hlt : b < w1.heap.size := (Array.getElem?_eq_some_iff.1 hbk).1
  clear hown hbk hb1 hne
  go_wp2_with (first
    | (at_builtin; refine wpList_append_own _ rfl _ _ 26 rfl B 5 i0 (.int .u8 0) 1 1 Tryd.underlying26 hi hz0 hz1 hz2 rfl (by decide) _ _ _ rfl (HO.out.alloc _) ⟨w1.heap.size, 0, none⟩ 1 1 [.int .u8 c] rfl rfl ?c1 ?c2 (by unfold maxLen; omega) (by omega) (by have := HB1.out.size; simp; omega) ?_
       case c1 =>
         intro j u hj
         match j, hj with
         | 0, hj => simp at hj; subst hj; simp [Addr.add]
       case c2 => intro u hu; simp at hu; subst hu; rfl
       intro v' w2 hown' hgrow _
       have hb2 : w2.heap[b]? = some (.cells #[ptr b, v] 82 (0, 0)) := by
         rw [hgrow.block b (by simp; omega) (fun e => HNe.out e.symm), Lib.alloc_old w1 _ b hlt]
         exact HK.out
       have d1 : w2.cell? ⟨b, 1, none⟩ = some v := by rw [Lib.cell_of_heap hb2]; rfl
       have f1 : w2.frozen? ⟨b, 1, none⟩ = false := Lib.frozen_of_heap hb2 1
       have HO2 := hide hown'
       have HG2 := hide hgrow
       have HK2 := hide hb2
       obtain ⟨ao, n', cap, rfl⟩ : ∃ ao n' cap, v' = .slice ao n' cap := by
         rcases hown'.2 with ⟨hv, _⟩ | ⟨g, cap, cur, hv, _⟩
         · exact ⟨_, _, _, hv⟩
         · exact ⟨_, _, _, hv⟩
       clear hown' hgrow hb2)
    | fail)
  go_ret
  refine ⟨rfl, ?_, ?_, ?_⟩
  · exact .inr (Lib.BuilderAt.put (T := 82) (e := 5) hBb HK2.out (bs' := L ++ [.int .u8 c]) (by simpa using HO2.out) (by decide))
  · have hg : (w1.alloc (.cells #[.int .u8 c] 5)).grownBy w2 v.ownBlock := HG2.out
    have hs := HB1.out.size
    exact ((HB1.out.alloc (by omega) _).grown hg (by simp; omega) (fun k hk => (HO.out.lt k hk).1)).setCell (p := ⟨b, 1, none⟩) hBb _
  · have hg : (w1.alloc (.cells #[.int .u8 c] 5)).grownBy w2 v.ownBlock := HG2.out
    have hb : Below w1.heap.size w1 (w1.alloc (.cells #[.int .u8 c] 5)) := (Below.refl _ _).alloc (Nat.le_refl _) _
    refine bmod_made (HM1.out.trans (Mod.ofBelow hb (fun _ => False)) (fun _ _ h => h.elim)) hg (fun k hk => ?_) _
    obtain ⟨cs, h⟩ := own_ofE HO.out k hk
    exact ⟨cs, (hb.block k (Array.getElem?_eq_some_iff.1 h).1).trans h⟩
end Go.Proofs.YtipfjnjjfojdgaaDoor
