import Derived.Test.YtlnbgahfelcbiaaDoorLOps
/- What a call comes to, told without blocks; act; two caches. -/
namespace Go.Proofs.YtlnbgahfelcbiaaDoor
open Go Go.RowKit Go.Cu Go.Proofs.YtlnbgahfelcbiaaDoor.errs

/-- an entry without its block -/
def z (e : LE) : LE := ⟨0, e.k, e.v, e.wt, e.un⟩
def zs (L : List LE) : List LE := L.map z
theorem zs_length (L : List LE) : (zs L).length = L.length := by simp [zs]
theorem zs_app (a b : List LE) : zs (a ++ b) = zs a ++ zs b := by simp [zs]
theorem zs_cons (e : LE) (b : List LE) : zs (e :: b) = z e :: zs b := rfl
theorem keysOf_zs (L : List LE) : keysOf (zs L) = keysOf L := by simp only [keysOf, zs, List.map_map]; rfl
theorem wsum_zs (L : List LE) : wsum (zs L) = wsum L := by
  induction L with
  | nil => rfl
  | cons e r ih => rw [zs_cons]; simp only [wsum, ih]; rfl
theorem without_zs (L : List LE) (k : Int) : without (zs L) k = zs (without L k) := by
  unfold without zs
  rw [List.filter_map]
  rfl
theorem keepT_zs (now : Int) (L : List LE) : keepT now (zs L) = zs (keepT now L) := by
  unfold keepT zs
  rw [List.filter_map]
  rfl
theorem goneT_zs (now : Int) (L : List LE) : goneT now (zs L) = zs (goneT now L) := by
  unfold goneT zs
  rw [List.filter_map]
  rfl
theorem take_zs (L : List LE) (n : Nat) : (zs L).take n = zs (L.take n) := by simp [zs, List.map_take]
theorem stayN_zs (lim : Int) (L : List LE) (n : Nat) : stayN lim (zs L) n = stayN lim L n := by
  induction n with
  | zero => rfl
  | succ j ih => rw [stayN, stayN, ih, take_zs, wsum_zs]
theorem stay_zs (lim : Int) (L : List LE) : stay lim (zs L) = zs (stay lim L) := by unfold stay; rw [stayN_zs, take_zs, zs_length]
theorem goneKeys_zs (L : List LE) (n : Nat) : goneKeys (zs L) n = goneKeys L n := by
  unfold goneKeys zs
  rw [← List.map_drop, List.map_map]
  rfl
/-- Get, told as a function -/
def getF (L : List LE) (k now : Int) : List LE × Int × Bool :=
  match L.find? (fun e => decide (e.k = k)) with
  | none => (L, 0, false)
  | some e => if now < e.un then (e :: without L k, e.v, true) else (without L k, 0, false)
theorem find_none {L : List LE} {k : Int} (h : ∀ e ∈ L, e.k ≠ k) : L.find? (fun e => decide (e.k = k)) = none := by
  rw [List.find?_eq_none]
  intro e he
  simp [h e he]
theorem find_mid {a b : List LE} {e : LE} (h : ∀ x ∈ a, x.k ≠ e.k) : (a ++ e :: b).find? (fun x => decide (x.k = e.k)) = some e := by
  rw [List.find?_append, find_none h]
  simp
theorem getF_zs (L : List LE) (k now : Int) : getF (zs L) k now = (zs (getF L k now).1, (getF L k now).2) := by
  unfold getF
  have h : (zs L).find? (fun e => decide (e.k = k)) = (L.find? (fun e => decide (e.k = k))).map z := by
    unfold zs
    rw [List.find?_map]
    rfl
  rw [h]
  cases hf : L.find? (fun e => decide (e.k = k)) with
  | none => rfl
  | some e =>
    simp only [Option.map_some]
    by_cases hl : now < e.un
    · rw [if_pos (show now < (z e).un from hl), if_pos hl, without_zs]; rfl
    · rw [if_neg (show ¬ now < (z e).un from hl), if_neg hl, without_zs]
theorem GetR.eq {L L' : List LE} {k now v : Int} {ok : Bool} (hks : L.Pairwise (fun x y => x.k ≠ y.k)) (h : GetR L k now L' v ok) : getF L k now = (L', v, ok) := by
  cases h with
  | no hn => unfold getF; rw [find_none hn]
  | old a b e hL hek hl =>
    subst hL; subst hek
    have hne := (sub_keys hks).2
    unfold getF
    rw [find_mid (fun x hx => hne x (List.mem_append_left _ hx))]
    simp only []
    rw [if_neg (by omega), without_mid hne]
  | good a b e hL hek hl =>
    subst hL; subst hek
    have hne := (sub_keys hks).2
    unfold getF
    rw [find_mid (fun x hx => hne x (List.mem_append_left _ hx))]
    simp only []
    rw [if_pos hl, without_mid hne]
theorem DropR.eq {L L' : List LE} {k : Int} {ok : Bool} (hks : L.Pairwise (fun x y => x.k ≠ y.k)) (h : DropR L k L' ok) : without L k = L' := by
  cases h with
  | no hn => exact without_none hn
  | yes a b e hL hek => subst hL; subst hek; exact without_mid (sub_keys hks).2
/-- a Put, told as a function -/
def putF (room : Int) (L : List LE) (k v wt un : Int) : List LE := if wt < 0 ∨ room < wt then L else ⟨0, k, v, wt, un⟩ :: stay (room - wt) (without L k)
/-- what a call leaves -/
def actF (room : Int) (L : List LE) (o : OpD) : List LE :=
  if o.kd = 1 then putF room L o.k o.v o.wt o.un else if o.kd = 2 then (getF L o.k o.un).1 else if o.kd = 4 then without L o.k else if o.kd = 5 then keepT o.un L else L

/-- entries old, or above a world -/
def From (w : World) (c m : Nat) (L L' : List LE) : Prop := ∀ k, InC c m L' k → InC c m L k ∨ w.heap.size ≤ k
theorem From.sub {w : World} {c m : Nat} {L L' : List LE} (h : ∀ e ∈ L', e ∈ L) : From w c m L L' := fun k hk => .inl (InC.sub h k hk)
/-- what act leaves -/
def ActPost (w : World) (c m : Nat) (room : Int) (L : List LE) (o : OpD) (r : Ending) (w' : World) : Prop :=
  r = .returned (.tuple #[]) ∧ ∃ L', LCP w' c m room L' ∧ zs L' = actF room (zs L) o ∧ Mod (InC c m L) w w' ∧ From w c m L L' ∧ L'.length ≤ L.length + 1

theorem opBox (w : World) (o : OpD) : ∃ w1 q, w.alloc (.cells (opA o) 31) = w1 ∧ w.heap.size = q ∧ Below w.heap.size w w1 ∧ w1.heap[q]? = some (.cells (opA o) 31 (0, 0)) :=
  ⟨_, _, rfl, rfl, (Below.refl _ _).alloc (Nat.le_refl _) _, heap_alloc_new w _⟩
theorem from_put {w : World} {c m b : Nat} {room : Int} {L : List LE} {k v wt un : Int} (hb : w.heap.size ≤ b) : From w c m L (⟨b, k, v, wt, un⟩ :: stay (room - wt) (without L k)) := by
  intro j hj
  rcases hj with rfl | rfl | ⟨x, hx, rfl⟩
  · exact .inl (.inl rfl)
  · exact .inl (.inr (.inl rfl))
  · rcases List.mem_cons.1 hx with rfl | hx
    · exact .inr hb
    · exact .inl (.inr (.inr ⟨x, without_mem (stay_mem hx), rfl⟩))
theorem put_le (room k wt : Int) (x : LE) (L : List LE) : (x :: stay (room - wt) (without L k)).length ≤ L.length + 1 := by
  have := stay_le (room - wt) (without L k)
  have := without_le L k
  simp
  omega
/-- Put, either way -/
theorem put_any (w : World) (c m : Nat) (room : Int) (L : List LE) (h : LCP w c m room L) (hn : L.length ≤ 17592186044414) (adr : Nat → Addr) (hS : Sent w adr) (k v wt un : Int) (hk : (Lit.int .i64 k).wf = true) :
    (∃ code, Bad room wt code ∧ Calls Tryd.prog 13 #[ptr c, .int .i64 k, .int .i64 v, .int .i64 wt, .int .i64 un] w fun r w' => r = .returned (.tuple #[.slice none 0 0, .iface tTP (.pointer (some (adr code)))]) ∧ Below w.heap.size w w') ∨
    (0 ≤ wt ∧ wt ≤ room ∧ Calls Tryd.prog 13 #[ptr c, .int .i64 k, .int .i64 v, .int .i64 wt, .int .i64 un] w (PutPost w c m room L k v wt un)) := by
  by_cases g1 : wt < 0
  · exact .inl ⟨2, .inl ⟨g1, rfl⟩, putbad_n w c m room L h adr hS k v wt un 2 (.inl ⟨g1, rfl⟩)⟩
  · by_cases g2 : room < wt
    · exact .inl ⟨6, .inr ⟨g1, g2, rfl⟩, putbad_n w c m room L h adr hS k v wt un 6 (.inr ⟨g1, g2, rfl⟩)⟩
    · exact .inr ⟨by omega, by omega, put_ok w c m room L h hn k v wt un hk (by omega) (by omega)⟩
theorem Bad.or {room wt : Int} {code : Nat} (h : Bad room wt code) : wt < 0 ∨ room < wt := by rcases h with ⟨h, _⟩ | ⟨_, h, _⟩; exact .inl h; exact .inr h

set_option maxRecDepth 10000 in
set_option maxHeartbeats 2000000 in
theorem act_any (w : World) (c m : Nat) (room : Int) (L : List LE) (h : LCP w c m room L) (hn : L.length ≤ 17592186044414) (adr : Nat → Addr) (hS : Sent w adr) (o : OpD) (hk : (Lit.int .i64 o.k).wf = true) :
    Calls Tryd.prog 15 #[ptr c, opV o] w (ActPost w c m room L o) := by
  obtain ⟨kd, k, v, wt, un⟩ := o
  obtain ⟨w1, q, hw1, hq, hal, hb⟩ := opBox w ⟨kd, k, v, wt, un⟩
  obtain ⟨o0, o1, o2, o3, o4⟩ := box5 hb
  have HL := hide (h.past hal)
  have HA := hide hal
  have HS := hide (hS.below hal)
  have hne : ∀ k : Int, kd ≠ k → (kd == k) = false := fun k h => by simp [h]
  have hsz := hal.size
  clear h hal hb hS
  have hold : ∀ L' w', Mod (InC c m L) w1 w' → From w1 c m L L' → Mod (InC c m L) w w' ∧ From w c m L L' := fun L' w' hm hf =>
    ⟨(Mod.ofBelow HA.out _).trans hm (fun _ _ h => h), fun j hj => (hf j hj).imp id (fun h => by omega)⟩
  have HO := hide hold
  clear hold
  by_cases h1 : kd = 1
  · subst h1
    rcases put_any w1 c m room L HL.out hn adr HS.out k v wt un hk with ⟨code, hb, hc⟩ | ⟨g1, g2, hc⟩
    · have HBad := hide hb.or
      have HC := hide hc
      clear hb hc
      go_enter Tryd.func15, Tryd.ntmps15
      go_wp2_with fail
      refine HC.out.mono ?_
      rintro r w2 ⟨rfl, hb2⟩
      have HL2 := hide (HL.out.past hb2)
      have HB2 := hide (HO.out _ _ (Mod.ofBelow hb2 _) (From.sub (fun _ h => h)))
      clear hb2
      go_wp2
      go_end0
      refine ⟨rfl, L, HL2.out, ?_, HB2.out.1, HB2.out.2, by omega⟩
      show zs L = if (1 : Int) = 1 then putF room (zs L) k v wt un else _
      rw [if_pos rfl, putF, if_pos HBad.out]
    · have HC := hide hc
      clear hc
      go_enter Tryd.func15, Tryd.ntmps15
      go_wp2_with fail
      refine HC.out.mono ?_
      rintro r w2 ⟨b, A, n, cc, rfl, hb, _, _, hl2, hm2⟩
      have HL2 := hide hl2
      have HB2 := hide (HO.out _ _ hm2 (from_put (room := room) (wt := wt) (k := k) (v := v) (un := un) hb))
      clear hl2 hm2
      go_wp2
      go_end0
      refine ⟨rfl, _, HL2.out, ?_, HB2.out.1, HB2.out.2, put_le room k wt _ L⟩
      show _ = if (1 : Int) = 1 then putF room (zs L) k v wt un else _
      rw [if_pos rfl, putF, if_neg (by omega), zs_cons, ← stay_zs, ← without_zs]
      rfl
  by_cases h2 : kd = 2
  · subst h2
    obtain ⟨L', x, ok, hg⟩ := getR_ex L k un
    have HG := hide hg
    clear hg
    go_enter Tryd.func15, Tryd.ntmps15
    go_wp2_with fail
    refine (get_n (p := some c) (.inl ⟨rfl, HL.out⟩) hk HG.out).mono ?_
    rintro r w2 ⟨rfl, hc2, hm2⟩
    have hl2 : LCP w2 c m room L' := by rcases hc2 with ⟨_, h⟩ | ⟨h, _⟩; exact h; cases h
    have HL2 := hide hl2
    have HB2 := hide (HO.out _ _ (hm2.mono (fun _ _ h => h.2)) (From.sub HG.out.le.2))
    clear hc2 hm2 hl2
    go_wp2
    go_end0
    refine ⟨rfl, L', HL2.out, ?_, HB2.out.1, HB2.out.2, by have := HG.out.le.1; omega⟩
    show zs L' = if (2 : Int) = 1 then _ else if (2 : Int) = 2 then (getF (zs L) k un).1 else _
    rw [if_neg (by decide), if_pos rfl, getF_zs, HG.out.eq HL.out.keys]
  by_cases h4 : kd = 4
  · subst h4
    obtain ⟨L', ok, hg⟩ := dropR_ex L k
    have HG := hide hg
    clear hg
    go_enter Tryd.func15, Tryd.ntmps15
    go_wp2_with fail
    refine (drop_n (p := some c) (.inl ⟨rfl, HL.out⟩) hk HG.out).mono ?_
    rintro r w2 ⟨rfl, hc2, hm2⟩
    have hl2 : LCP w2 c m room L' := by rcases hc2 with ⟨_, h⟩ | ⟨h, _⟩; exact h; cases h
    have HL2 := hide hl2
    have HB2 := hide (HO.out _ _ (hm2.mono (fun _ _ h => h.2)) (From.sub HG.out.le.2))
    clear hc2 hm2 hl2
    go_wp2
    go_end0
    refine ⟨rfl, L', HL2.out, ?_, HB2.out.1, HB2.out.2, by have := HG.out.le.1; omega⟩
    show zs L' = if (4 : Int) = 1 then _ else if (4 : Int) = 2 then _ else if (4 : Int) = 4 then without (zs L) k else _
    rw [if_neg (by decide), if_neg (by decide), if_pos rfl, without_zs, HG.out.eq HL.out.keys]
  by_cases h5 : kd = 5
  · subst h5
    go_enter Tryd.func15, Tryd.ntmps15
    go_wp2_with fail
    refine (expire_any w1 c m room L HL.out (by omega) un).mono ?_
    rintro r w2 ⟨A, n, cc, rfl, _, _, hl2, hm2⟩
    have HL2 := hide hl2
    have HB2 := hide (HO.out _ _ hm2 (From.sub (L' := keepT un L) (fun _ h => keepT_mem h)))
    clear hl2 hm2
    go_wp2
    go_end0
    refine ⟨rfl, keepT un L, HL2.out, ?_, HB2.out.1, HB2.out.2, by have : (keepT un L).length ≤ L.length := List.length_filter_le _ _; omega⟩
    show zs (keepT un L) = if (5 : Int) = 1 then _ else if (5 : Int) = 2 then _ else if (5 : Int) = 4 then _ else if (5 : Int) = 5 then keepT un (zs L) else _
    rw [if_neg (by decide), if_neg (by decide), if_neg (by decide), if_pos rfl, keepT_zs]
  · have e1 := hne 1 h1
    have e2 := hne 2 h2
    have e4 := hne 4 h4
    have e5 := hne 5 h5
    have HB2 := hide (HO.out L _ (Mod.refl _ w1) (From.sub (fun _ h => h)))
    go_enter Tryd.func15, Tryd.ntmps15
    go_wp2
    go_end0
    refine ⟨rfl, L, HL.out, ?_, HB2.out.1, HB2.out.2, by omega⟩
    show zs L = if kd = 1 then _ else if kd = 2 then _ else if kd = 4 then _ else if kd = 5 then _ else zs L
    rw [if_neg h1, if_neg h2, if_neg h4, if_neg h5]
end Go.Proofs.YtlnbgahfelcbiaaDoor
