/-
  DERIVED. GIVEN WITH THE SEED: THE CARDS: each row of YtdokpbcknlijdaaDoorRows.lean that lists a variable, with what it lists TIED to the program's text (the seventh form; the later family's looks); each row that meets fmt, with fmt's text TOLD by the authors' own Lean function (tested against real Go, not proved from fmt's source: count such statements apart). THE CARD IS WHAT COUNTS. Prove the row's statement (the work); the ties are given (YtdokpbcknlijdaaDoorTie.lean); close each card by the builder's one call (the guide's Derived/Test/ToyasCard.lean, 'card_holds'). Laid BY PROGRAM, IN A SANDBOX (cutbox-door.mjs). By AI agents, Wed Nov 11 2026. No macro, syntax, notation, axiom, sorry.
-/
import Derived.Test.YtdokpbcknlijdaaDoorRows
import GoSem.ClaimSeven
namespace Go.Proofs.YtdokpbcknlijdaaDoor
namespace Rows

/-- THE TIED CARD OF 'culvertlaw17.PingsNames'. -/
def pingsNamesCard : Claim7 := { stood := { row := pingsNamesRow, standIns := [], harness := (true, "a9e58779c4d7171ed67a423b47521dafc34fd3ddb989d954cb5715da16f8342b"), looks := true }, kinds := [], alts := [], laidByText := true, laidKinds := [.sentinel, .sentinel, .sentinel, .sentinel, .sentinel, .sentinel, .sentinel, .sentinel, .sentinel, .sentinel, .sentinel, .sentinel, .sentinel, .sentinel, .sentinel, .sentinel, .sentinel, .sentinel, .sentinel, .sentinel, .sentinel, .sentinel, .sentinel, .sentinel, .sentinel, .sentinel, .sentinel, .sentinel, .sentinel, .sentinel, .sentinel, .sentinel, .sentinel, .sentinel, .sentinel, .sentinel, .sentinel, .sentinel, .sentinel, .sentinel, .sentinel, .sentinel], laidTests := true, laidLooks := .later }
def PingsNamesCardSaid : Prop := Claim7.holds Tryd.pinned (.plain (OpenSpec.ofChange pingsNamesSpec)) pingsNamesCard

/-- THE SECOND FORM's CARD OF 'culvertlaw17.PingsNames'. -/
def pingsNamesUptoCard : Claim7 := { stood := { row := pingsNamesUptoRow, standIns := [], harness := (true, "a9e58779c4d7171ed67a423b47521dafc34fd3ddb989d954cb5715da16f8342b"), looks := true }, kinds := [], alts := [], laidByText := true, laidKinds := [.sentinel, .sentinel, .sentinel, .sentinel, .sentinel, .sentinel, .sentinel, .sentinel, .sentinel, .sentinel, .sentinel, .sentinel, .sentinel, .sentinel, .sentinel, .sentinel, .sentinel, .sentinel, .sentinel, .sentinel, .sentinel, .sentinel, .sentinel, .sentinel, .sentinel, .sentinel, .sentinel, .sentinel, .sentinel, .sentinel, .sentinel, .sentinel, .sentinel, .sentinel, .sentinel, .sentinel, .sentinel, .sentinel, .sentinel, .sentinel, .sentinel, .sentinel], laidTests := true, laidLooks := .later }
def PingsNamesUptoCardSaid : Prop := Claim7.holds Tryd.pinned (.plain (OpenSpec.upto pingsNamesSpec)) pingsNamesUptoCard
end Rows
end Go.Proofs.YtdokpbcknlijdaaDoor
