import Derived.Test.YtipfjnjjfojdgaaDoorErrs
import Derived.Test.YtipfjnjjfojdgaaDoorRows
import Derived.WalkKit
import Derived.ProofKit
import Derived.OpenShut
import Derived.Deep.DeepHandedRow
/- What the rows list of all sentinels; a world that holds them. -/
namespace Go.Proofs.YtipfjnjjfojdgaaDoor.errdoor
open Go Go.RowKit Go.Cu Go.ChangeShapes Go.WideShapes Go.Proofs.YtipfjnjjfojdgaaDoor.errs

theorem own : ownKnob Tryd.prog.godebug = none := by kernel_rfl
theorem laidOut : laidOutB Tryd.prog = true := by kernel_rfl
theorem star : "*" ++ "errors.errorString" = "*errors.errorString" := by decide
theorem rowTP (u : TypeId) (h : Tryd.prog.typeName? 3 u = some "*errors.errorString") : u = tTP :=
  typeName_ptr_named (nm := "errors.errorString") (by rw [star]; kernel_rfl) (by kernel_rfl) (by decide) u (by rw [star]; exact h)

def textOf : DataW Unit → ByteArray
  | .iface _ (.ptr (.agg [.lit (.string t)])) => ⟨t.toArray⟩
  | _ => ⟨#[]⟩
noncomputable def low : Nat := (World.holding Tryd.prog default ⟨#[], #[], []⟩).heap.size
/-- The settled world, the sentinels as their initialisers lay them. -/
noncomputable def laidWorld (l : List (String × DataW Unit)) (os : Os) : World :=
  let w0 := World.holding Tryd.prog os ⟨(l.map fun x => Obj.cells #[.string (textOf x.2)] tES).toArray, #[], []⟩
  { w0 with heap := (List.range 42).foldl (fun h i => h.modify (gix (i + 1)) fun
      | .cells _ t frozen => .cells #[.iface tTP (.pointer (some ⟨low + i, 0, none⟩))] t frozen
      | o => o) w0.heap }
/-- what a row that lists them gives -/
theorem sents {l : List (String × DataW Unit)} {W : World} (ha : l.all (fun x => isSent "*errors.errorString" x.2) = true) (hg : l.map (fun x => Tryd.prog.globalNamed x.1) = gmap.map some) (h : laidMet Tryd.prog l W) : ∃ adr, Sent W adr := by
  obtain ⟨ps, hV, hnd, hrows⟩ := h
  have hty : ∀ g ∈ gmap, (Tryd.prog.globals[g]?).map (·.type) = some tER := fun g hg =>
    eq_of_beq (List.all_eq_true.1 (show gmap.all (fun g => (Tryd.prog.globals[g]?).map (·.type) == some tER) = true by kernel_rfl) g hg)
  obtain ⟨al, h1, h2, h3, _, h5⟩ := laid_sents Tryd.underlying32 rowTP Tryd.underlying146 Tryd.underlying169 rfl rfl Tryd.underlying9 (by kernel_rfl) (by kernel_rfl) l gmap ps ha hg hty hV hnd hrows
  have hlen : al.length = 42 := h1
  have hget : ∀ n, 1 ≤ n → n ≤ 42 → al[n - 1]? = some (al.getD (n - 1) default) := fun n hn1 hn2 => by
    rw [List.getD_eq_getElem?_getD, List.getElem?_eq_getElem (by omega)]
    rfl
  refine ⟨fun n => al.getD (n - 1) default, fun n hn1 hn2 => h2 (n - 1) (gix n) _ ?_ (hget n hn1 hn2), fun n hn1 hn2 => h3 _ (List.mem_of_getElem? (hget n hn1 hn2)), fun n m hn1 hn2 hm1 hm2 e => ?_⟩
  · unfold gix
    rw [List.getD_eq_getElem?_getD, List.getElem?_eq_getElem (by show n - 1 < 42; omega)]
    rfl
  · have e1 := hget n hn1 hn2
    have e2 := hget m hm1 hm2
    rw [show al.getD (n - 1) default = al.getD (m - 1) default from e, ← e2] at e1
    have := (List.getElem?_inj (by omega) h5).1 e1
    omega
end Go.Proofs.YtipfjnjjfojdgaaDoor.errdoor

