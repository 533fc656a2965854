import Derived.Test.YtlnbgahfelcbiaaDoorLRows
/- Caches beside one another. -/
namespace Go.Proofs.YtlnbgahfelcbiaaDoor
open Go Go.RowKit Go.Cu Go.Proofs.YtlnbgahfelcbiaaDoor.errs

def Disj (c m : Nat) (L : List LE) (c' m' : Nat) (L' : List LE) : Prop := ∀ k, InC c m L k → ¬ InC c' m' L' k
section
variable {w0 w w' : World} {c m c2 m2 : Nat} {room room2 : Int} {L L' M : List LE}
theorem Disj.symm (h : Disj c m L c2 m2 M) : Disj c2 m2 M c m L := fun k h1 h2 => h k h2 h1
/-- one turned, the other lives on -/
theorem C1.beside (hb : C1 w0 w c2 m2 room2 M) (ha : C1 w0 w c m room L) (hd : Disj c m L c2 m2 M) (hm : Mod (InC c m L) w w') (hf : From w c m L L') : C1 w0 w' c2 m2 room2 M ∧ Disj c m L' c2 m2 M :=
  ⟨hb.other hm (fun k hk hk2 => hd k hk2 hk) ha.low, fun k hk hk2 => (hf k hk).elim (fun h => hd k h hk2) (fun h => by have := hb.lc.lt k hk2; omega)⟩
/-- a new one lies apart -/
theorem disj_made (h : C1 w0 w c m room L) (hm : w.heap.size ≤ m2) (hc : w.heap.size ≤ c2) : Disj c m L c2 m2 [] := fun k hk hk2 => by
  have := h.lc.lt k hk
  rcases hk2 with rfl | rfl | ⟨x, hx, _⟩
  · omega
  · omega
  · cases hx
end
end Go.Proofs.YtlnbgahfelcbiaaDoor
