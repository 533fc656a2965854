import Derived.Test.YtipfjnjjfojdgaaDoorTBuild
import Derived.Test.YtipfjnjjfojdgaaDoorItoa
import Derived.Test.YtipfjnjjfojdgaaDoorTFun4
import Derived.Lib.SmallJoins
import Derived.Lib.AppendIntMem
/- One line of the text. -/
namespace Go.Proofs.YtipfjnjjfojdgaaDoor
open Go Go.RowKit Go.Cu

/-- the library's table -/
def Tab (w : World) : Prop := Lib.TabIs Tryd.prog w "internal/strconv.uint64pow10" .u64 Lib.pow10Tab
theorem gTab : Tryd.prog.globalNamed "internal/strconv.uint64pow10" = some 42 := by kernel_rfl
theorem Tab.past {w w' : World} (h : Tab w) (hb : Below w.heap.size w w') : Tab w' := Joins.tab_stays gTab h hb (Nat.le_refl _)
def wfi (x : Int) : Prop := (Lit.int .i64 x).wf = true
theorem itoa_any (w : World) (n : Int) (hn : wfi n) (ht : Tab w) : Calls Tryd.prog 39 #[.int .i64 n] w fun e w' => e = .returned (.string ⟨(Lib.itoa n).toArray⟩) ∧ Below w.heap.size w w' := by
  refine (Tryd.strconv_Itoa n (bounds_i64 hn).1 (bounds_i64 hn).2 w ht).mono ?_
  rintro e w' ⟨rfl, k, os, rfl⟩
  exact ⟨rfl, Lib.below_grow _ w (Nat.le_refl _) k os⟩
def wri : List UInt8 := [32, 119, 114, 105, 116, 116, 101, 110, 32]
def rea : List UInt8 := [32, 114, 101, 97, 100, 32]
def clo : List UInt8 := [32, 99, 108, 111, 115, 101, 100]
def enl : List UInt8 := [32, 101, 110, 100, 101, 100]
def headL (k n rd : Int) : List UInt8 := Lib.itoa k ++ wri ++ Lib.itoa n ++ rea ++ Lib.itoa rd
def lineL (k n rd : Int) (cl en : Bool) : List UInt8 := headL k n rd ++ (if cl then clo else []) ++ (if en then enl else []) ++ [10]
theorem str_cat (a b : List UInt8) : (⟨a.toArray⟩ : ByteArray) ++ ⟨b.toArray⟩ = ⟨(a ++ b).toArray⟩ := by
  apply ByteArray.ext
  simp
theorem Bd.past {B b : Nat} {L : List Value} {w w' : World} (h : Bd B b L w) (hb : Below w.heap.size w w') : Bd B b L w' := by
  have hg : w.grownBy w' none := ⟨hb.os, hb.tape, hb.output, hb.size, fun k hk _ => hb.block k hk⟩
  have step : ∀ p, Lib.BuilderAt 82 5 B b p L w → Lib.BuilderAt 82 5 B b p L w' := by
    rintro p ⟨h1, v, h2, h3, h4⟩
    refine ⟨h1, v, (hb.block b (Array.getElem?_eq_some_iff.1 h2).1).trans h2, h3.kept hg ?_, h4⟩
    cases v.ownBlock with
    | none => exact .inl rfl
    | some k => exact .inr (by simp)
  exact h.imp (step _) (step _)
/-- a line's world -/
structure LW (wE w0 : World) (b q : Nat) (L : List Value) (n rd : Int) (cl en : Bool) (w : World) : Prop where
  tabE : Tab wE
  bd : Bd wE.heap.size b L w
  box : w.heap[q]? = some (.cells #[.int .i64 n, .int .i64 rd, .bool cl, .bool en] 36 (0, 0))
  below : Below wE.heap.size wE w
  bm : BMod b w0 w
section
variable {wE w0 w w' : World} {b q : Nat} {L : List Value} {n rd : Int} {cl en : Bool}
theorem bmod_trans {w0 w w' : World} {b : Nat} (h1 : BMod b w0 w) (h2 : BMod b w w') : BMod b w0 w' := by
  refine Mod.trans h1 h2 (fun j hj hg => ?_)
  rcases hg with hg | ⟨cs, hg⟩
  · exact .inl hg
  · by_cases e : j = b ∨ OfE w0 5 j
    · exact e
    · exact .inr ⟨cs, (h1.block j hj e) ▸ hg⟩
theorem bmod_below {w w' : World} {b : Nat} (h : Below w.heap.size w w') : BMod b w w' := Mod.ofBelow h _
theorem LW.tab (h : LW wE w0 b q L n rd cl en w) : Tab w := h.tabE.past h.below
theorem LW.past (h : LW wE w0 b q L n rd cl en w) (hb : Below w.heap.size w w') : LW wE w0 b q L n rd cl en w' :=
  ⟨h.tabE, h.bd.past hb, (hb.block q (Array.getElem?_eq_some_iff.1 h.box).1).trans h.box, h.below.trans (hb.mono h.below.size), bmod_trans h.bm (bmod_below hb)⟩
theorem LW.cells (h : LW wE w0 b q L n rd cl en w) : w.cell? ⟨q, 0, none⟩ = some (.int .i64 n) ∧ w.cell? ⟨q, 1, none⟩ = some (.int .i64 rd) ∧ w.cell? ⟨q, 2, none⟩ = some (.bool cl) ∧ w.cell? ⟨q, 3, none⟩ = some (.bool en) := (box4 h.box).1
theorem LW.wrote {M : List Value} (h : LW wE w0 b q L n rd cl en w) (h1 : Bd wE.heap.size b M w') (h2 : Below wE.heap.size w w') (h3 : BMod b w w') : LW wE w0 b q M n rd cl en w' := by
  refine ⟨h.tabE, h1, h3.heap h.box ?_, h.below.trans h2, bmod_trans h.bm h3⟩
  rintro (e | ⟨cs, e⟩)
  · subst e
    rcases h.bd with h4 | h4
    · obtain ⟨_, v, h5, _⟩ := h4
      rw [h.box] at h5
      cases h5
    · obtain ⟨_, v, h5, _⟩ := h4
      rw [h.box] at h5
      cases h5
  · rw [h.box] at e
    cases e
theorem write_line (s : List UInt8) (h : LW wE w0 b q L n rd cl en w) (hlen : L.length + s.length ≤ 140737488355328) :
    Calls Tryd.prog 38 #[ptr b, .string ⟨s.toArray⟩] w fun e w' => e = .returned (.tuple #[.int .i64 s.length, .nilIface]) ∧ LW wE w0 b q (L ++ Lib.byteCells s) n rd cl en w' := by
  refine (write_string wE.heap.size b L ⟨s.toArray⟩ w h.bd (by simpa [ByteArray.size] using hlen) h.below.size).mono ?_
  rintro e w' ⟨rfl, h1, h2, h3⟩
  exact ⟨by simp [ByteArray.size], h.wrote h1 h2 h3⟩
theorem byte_line (h : LW wE w0 b q L n rd cl en w) (c : Int) (hlen : L.length + 1 ≤ 140737488355328) :
    Calls Tryd.prog 40 #[ptr b, .int .u8 c] w fun e w' => e = .returned .nilIface ∧ LW wE w0 b q (L ++ [.int .u8 c]) n rd cl en w' := by
  refine (write_byte wE.heap.size b L c w h.bd hlen h.below.size).mono ?_
  rintro e w' ⟨rfl, h1, h2, h3⟩
  exact ⟨rfl, h.wrote h1 h2 h3⟩
theorem itoa_held (h : LW wE w0 b q L n rd cl en w) (k : Int) (hk : wfi k) : Calls Tryd.prog 39 #[.int .i64 k] w fun e w' => e = .returned (.string ⟨(Lib.itoa k).toArray⟩) ∧ LW wE w0 b q L n rd cl en w' := by
  refine (itoa_any w k hk h.tab).mono ?_
  rintro e w' ⟨rfl, hb⟩
  exact ⟨rfl, h.past hb⟩
theorem head_held (h : LW wE w0 b q L n rd cl en w) (k : Int) (hlen : L.length + (headL k n rd).length ≤ 140737488355328) : Calls Tryd.prog 38 #[ptr b, .string ((⟨(Lib.itoa k).toArray⟩ : ByteArray) ++ ⟨wri.toArray⟩ ++ ⟨(Lib.itoa n).toArray⟩ ++ ⟨rea.toArray⟩ ++ ⟨(Lib.itoa rd).toArray⟩)] w fun e w' => e = .returned (.tuple #[.int .i64 (headL k n rd).length, .nilIface]) ∧ LW wE w0 b q (L ++ Lib.byteCells (headL k n rd)) n rd cl en w' := by
  rw [str_cat, str_cat, str_cat, str_cat]
  exact write_line (headL k n rd) h hlen
theorem LW.of (hT : Tab wE) (hb : Bd wE.heap.size b L w) (h : Below wE.heap.size wE w) (n rd : Int) (cl en : Bool) : LW wE w b w.heap.size L n rd cl en (w.alloc (.cells #[.int .i64 n, .int .i64 rd, .bool cl, .bool en] 36)) :=
  have h1 : Below w.heap.size w (w.alloc (.cells #[.int .i64 n, .int .i64 rd, .bool cl, .bool en] 36)) := (Below.refl _ _).alloc (Nat.le_refl _) _
  ⟨hT, hb.past h1, heap_alloc_new w _, h.trans (h1.mono h.size), bmod_below h1⟩
end
set_option maxRecDepth 100000 in
set_option maxHeartbeats 4000000 in
theorem line_any (wE w : World) (hT : Tab wE) (b : Nat) (L : List Value) (hb : Bd wE.heap.size b L w) (hB : Below wE.heap.size wE w) (k n rd : Int) (cl en : Bool) (hk : wfi k) (hn : wfi n) (hr : wfi rd) (hlen : L.length + (headL k n rd).length + 20 ≤ 140737488355328) :
    Calls Tryd.prog 37 #[.int .i64 k, .agg #[.int .i64 n, .int .i64 rd, .bool cl, .bool en], ptr b] w fun e w' => e = .returned (.tuple #[]) ∧ Bd wE.heap.size b (L ++ Lib.byteCells (lineL k n rd cl en)) w' ∧ Below wE.heap.size wE w' ∧ BMod b w w' := by
  have hl := LW.of hT hb hB n rd cl en
  obtain ⟨w1, hw1⟩ : ∃ w1, w1 = w.alloc (.cells #[.int .i64 n, .int .i64 rd, .bool cl, .bool en] 36) := ⟨_, rfl⟩
  obtain ⟨q, hq⟩ : ∃ q, q = w.heap.size := ⟨_, rfl⟩
  rw [← hw1, ← hq] at hl
  have HL := hide hl
  have HK := hide hk
  have HL2 := hide hlen
  have HLn : Hid (L.length + (headL k n rd).length ≤ 140737488355328) := hide (by omega)
  have HN := hide hn
  have HR := hide hr
  clear hT hb hB hl hk hn hr
  go_enter Tryd.func37, Tryd.ntmps37
  go_upto_region 1 with fail
  rw [← hw1, ← hq]
  clear hw1 hq
  go_cut [17] from 5 to 18 (fun s17 wc => s17 = .tuple #[.int .i64 (headL k n rd).length, .nilIface] ∧ Hid (LW wE w b q (L ++ Lib.byteCells (headL k n rd)) n rd cl en wc))
  case first =>
    have HLd := hide (HL.out.past (w' := w1.drew) ((Below.refl _ _).drew))
    obtain ⟨c0, c1, c2, c3⟩ := HLd.out.cells
    have hlw := HLd.out
    have hln := HLn.out
    simp only [headL, List.length_append, wri, rea, List.length_cons, List.length_nil] at hln
    have s1 : ¬ (9223372036854775807 < (Lib.itoa k).length + 9) := by omega
    have s2 : ¬ (9223372036854775807 < (Lib.itoa k).length + 9 + (Lib.itoa n).length) := by omega
    have s3 : ¬ (9223372036854775807 < (Lib.itoa k).length + 9 + (Lib.itoa n).length + 6) := by omega
    have s4 : ¬ (9223372036854775807 < (Lib.itoa k).length + 9 + (Lib.itoa n).length + 6 + (Lib.itoa rd).length) := by omega
    clear hln hlen
    go_region_law (first
      | (go_simp; go_at_call 39; with_reducible refine Calls.mono (itoa_held (by assumption) k HK.out) ?_; rintro r wz ⟨rfl, hz⟩; obtain ⟨c0, c1, c2, c3⟩ := hz.cells)
      | (go_simp; go_at_call 39; with_reducible refine Calls.mono (itoa_held (by assumption) n HN.out) ?_; rintro r wz ⟨rfl, hz⟩; obtain ⟨c0, c1, c2, c3⟩ := hz.cells)
      | (go_simp; go_at_call 39; with_reducible refine Calls.mono (itoa_held (by assumption) rd HR.out) ?_; rintro r wz ⟨rfl, hz⟩; obtain ⟨c0, c1, c2, c3⟩ := hz.cells)
      | (go_simp; go_at_call 38; refine Calls.mono (head_held (by assumption) k HLn.out) ?_; rintro r wz ⟨rfl, hz⟩; obtain ⟨c0, c1, c2, c3⟩ := hz.cells; have HZ := hide hz; clear hz)
      | fail)
    all_goals
      go_wp2
      go_meet
      case rel => exact ⟨rfl, HZ⟩
  case rest =>
    obtain ⟨rfl, HZ⟩ := hcut
    have hz := HZ.out
    obtain ⟨c0, c1, c2, c3⟩ := hz.cells
    have HZ2 := hide hz
    clear hz HL HK HN HR HZ hlen HLn
    cases cl
    · cases en
      · have hz := HZ2.out
        go_wp2_with fail
        refine Calls.mono (byte_line hz 10 (by have := HL2.out; have h7 : clo.length = 7 := rfl; have h6 : enl.length = 6 := rfl; simp only [List.length_append, Lib.byteCells_length]; omega)) ?_
        rintro r wv ⟨rfl, hv⟩
        have HV := hide hv
        clear hv
        go_wp2
        go_end0
        exact ⟨rfl, by simpa [lineL, Lib.byteCells] using HV.out.bd, HV.out.below, HV.out.bm⟩
      · have hz := HZ2.out
        go_wp2_with fail
        refine Calls.mono (write_line enl hz (by have := HL2.out; have h7 : clo.length = 7 := rfl; have h6 : enl.length = 6 := rfl; simp only [List.length_append, Lib.byteCells_length]; omega)) ?_
        rintro r wy1 ⟨rfl, hy1⟩
        obtain ⟨c0, c1, c2, c3⟩ := hy1.cells
        have HY1 := hide hy1
        clear hy1
        go_wp2_with fail
        refine Calls.mono (byte_line HY1.out 10 (by have := HL2.out; have h7 : clo.length = 7 := rfl; have h6 : enl.length = 6 := rfl; simp only [List.length_append, Lib.byteCells_length]; omega)) ?_
        rintro r wv ⟨rfl, hv⟩
        have HV := hide hv
        clear hv
        go_wp2
        go_end0
        exact ⟨rfl, by simpa [lineL, Lib.byteCells] using HV.out.bd, HV.out.below, HV.out.bm⟩
    · cases en
      · have hz := HZ2.out
        go_wp2_with fail
        refine Calls.mono (write_line clo hz (by have := HL2.out; have h7 : clo.length = 7 := rfl; have h6 : enl.length = 6 := rfl; simp only [List.length_append, Lib.byteCells_length]; omega)) ?_
        rintro r wy1 ⟨rfl, hy1⟩
        obtain ⟨c0, c1, c2, c3⟩ := hy1.cells
        have HY1 := hide hy1
        clear hy1
        go_wp2_with fail
        refine Calls.mono (byte_line HY1.out 10 (by have := HL2.out; have h7 : clo.length = 7 := rfl; have h6 : enl.length = 6 := rfl; simp only [List.length_append, Lib.byteCells_length]; omega)) ?_
        rintro r wv ⟨rfl, hv⟩
        have HV := hide hv
        clear hv
        go_wp2
        go_end0
        exact ⟨rfl, by simpa [lineL, Lib.byteCells] using HV.out.bd, HV.out.below, HV.out.bm⟩
      · have hz := HZ2.out
        go_wp2_with fail
        refine Calls.mono (write_line clo hz (by have := HL2.out; have h7 : clo.length = 7 := rfl; have h6 : enl.length = 6 := rfl; simp only [List.length_append, Lib.byteCells_length]; omega)) ?_
        rintro r wy1 ⟨rfl, hy1⟩
        obtain ⟨c0, c1, c2, c3⟩ := hy1.cells
        have HY1 := hide hy1
        clear hy1
        go_wp2_with fail
        refine Calls.mono (write_line enl HY1.out (by have := HL2.out; have h7 : clo.length = 7 := rfl; have h6 : enl.length = 6 := rfl; simp only [List.length_append, Lib.byteCells_length]; omega)) ?_
        rintro r wy2 ⟨rfl, hy2⟩
        obtain ⟨c0, c1, c2, c3⟩ := hy2.cells
        have HY2 := hide hy2
        clear hy2
        go_wp2_with fail
        refine Calls.mono (byte_line HY2.out 10 (by have := HL2.out; have h7 : clo.length = 7 := rfl; have h6 : enl.length = 6 := rfl; simp only [List.length_append, Lib.byteCells_length]; omega)) ?_
        rintro r wv ⟨rfl, hv⟩
        have HV := hide hv
        clear hv
        go_wp2
        go_end0
        exact ⟨rfl, by simpa [lineL, Lib.byteCells] using HV.out.bd, HV.out.below, HV.out.bm⟩
end Go.Proofs.YtipfjnjjfojdgaaDoor
