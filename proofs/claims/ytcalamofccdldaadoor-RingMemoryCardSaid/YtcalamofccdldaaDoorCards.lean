/-
  DERIVED. GIVEN WITH THE SEED: THE CARDS: each row of YtcalamofccdldaaDoorRows.lean that lists a variable, with what it lists TIED to the program's text (the seventh form; the later family's looks); each row that meets fmt, with fmt's text TOLD by the authors' own Lean function (tested against real Go, not proved from fmt's source: count such statements apart). THE CARD IS WHAT COUNTS. Prove the row's statement (the work); the ties are given (YtcalamofccdldaaDoorTie.lean); close each card by the builder's one call (the guide's Derived/Test/ToyasCard.lean, 'card_holds'). Laid BY PROGRAM, IN A SANDBOX (cutbox-door.mjs). By AI agents, Wed Nov 11 2026. No macro, syntax, notation, axiom, sorry.
-/
import Derived.Test.YtcalamofccdldaaDoorRows
import GoSem.ClaimSeven
namespace Go.Proofs.YtcalamofccdldaaDoor
namespace Rows

/-- THE TIED CARD OF 'culvertlaw02.RingFlow'. -/
def ringFlowCard : Claim7 := { stood := { row := ringFlowRow, standIns := [], harness := (true, "43df86a072dee107a706ab36f4b587135380aeaf2a036642e9d88e9e7e3c2f99"), looks := true }, kinds := [], alts := [], laidByText := true, laidKinds := [.sentinel], laidTests := true, laidLooks := .later }
def RingFlowCardSaid : Prop := Claim7.holds Tryd.pinned (.plain (OpenSpec.ofChange ringFlowSpec)) ringFlowCard

/-- THE TIED CARD OF 'culvertlaw02.RingBlind'. -/
def ringBlindCard : Claim7 := { stood := { row := ringBlindRow, standIns := [], harness := (true, "43df86a072dee107a706ab36f4b587135380aeaf2a036642e9d88e9e7e3c2f99"), looks := true }, kinds := [], alts := [], laidByText := true, laidKinds := [.sentinel], laidTests := true, laidLooks := .later }
def RingBlindCardSaid : Prop := Claim7.holds Tryd.pinned (.plain (OpenSpec.ofChange ringBlindSpec)) ringBlindCard

/-- THE TIED CARD OF 'culvertlaw02.RingNames'. -/
def ringNamesCard : Claim7 := { stood := { row := ringNamesRow, standIns := [], harness := (true, "43df86a072dee107a706ab36f4b587135380aeaf2a036642e9d88e9e7e3c2f99"), looks := true }, kinds := [], alts := [], laidByText := true, laidKinds := [.sentinel, .sentinel, .sentinel, .sentinel, .sentinel, .sentinel, .sentinel, .sentinel, .sentinel, .sentinel, .sentinel, .sentinel, .sentinel, .sentinel, .sentinel, .sentinel, .sentinel, .sentinel, .sentinel, .sentinel, .sentinel, .sentinel, .sentinel, .sentinel, .sentinel, .sentinel, .sentinel, .sentinel, .sentinel, .sentinel, .sentinel, .sentinel, .sentinel, .sentinel, .sentinel, .sentinel, .sentinel, .sentinel, .sentinel, .sentinel, .sentinel, .sentinel], laidTests := true, laidLooks := .later }
def RingNamesCardSaid : Prop := Claim7.holds Tryd.pinned (.plain (OpenSpec.ofChange ringNamesSpec)) ringNamesCard

/-- THE TIED CARD OF 'culvertlaw02.RingAnswers'. -/
def ringAnswersCard : Claim7 := { stood := { row := ringAnswersRow, standIns := [], harness := (true, "43df86a072dee107a706ab36f4b587135380aeaf2a036642e9d88e9e7e3c2f99"), looks := true }, kinds := [], alts := [], laidByText := true, laidKinds := [.sentinel, .sentinel, .sentinel, .sentinel, .sentinel, .sentinel, .sentinel, .sentinel, .sentinel, .sentinel, .sentinel, .sentinel, .sentinel, .sentinel, .sentinel, .sentinel, .sentinel, .sentinel, .sentinel, .sentinel, .sentinel, .sentinel, .sentinel, .sentinel, .sentinel, .sentinel, .sentinel, .sentinel, .sentinel, .sentinel, .sentinel, .sentinel, .sentinel, .sentinel, .sentinel, .sentinel, .sentinel, .sentinel, .sentinel, .sentinel, .sentinel, .sentinel], laidTests := true, laidLooks := .later }
def RingAnswersCardSaid : Prop := Claim7.holds Tryd.pinned (.plain (OpenSpec.ofChange ringAnswersSpec)) ringAnswersCard

/-- THE TIED CARD OF 'culvertlaw02.RingMemory'. -/
def ringMemoryCard : Claim7 := { stood := { row := ringMemoryRow, standIns := [], harness := (true, "43df86a072dee107a706ab36f4b587135380aeaf2a036642e9d88e9e7e3c2f99"), looks := true }, kinds := [], alts := [], laidByText := true, laidKinds := [.sentinel, .sentinel, .sentinel, .sentinel, .sentinel, .sentinel, .sentinel, .sentinel, .sentinel, .sentinel, .sentinel, .sentinel, .sentinel, .sentinel, .sentinel, .sentinel, .sentinel, .sentinel, .sentinel, .sentinel, .sentinel, .sentinel, .sentinel, .sentinel, .sentinel, .sentinel, .sentinel, .sentinel, .sentinel, .sentinel, .sentinel, .sentinel, .sentinel, .sentinel, .sentinel, .sentinel, .sentinel, .sentinel, .sentinel, .sentinel, .sentinel, .sentinel], laidTests := true, laidLooks := .later }
def RingMemoryCardSaid : Prop := Claim7.holds Tryd.pinned (.plain (OpenSpec.ofChange ringMemorySpec)) ringMemoryCard

/-- THE TIED CARD OF 'culvertlaw02.RingKinds'. -/
def ringKindsCard : Claim7 := { stood := { row := ringKindsRow, standIns := [], harness := (true, "43df86a072dee107a706ab36f4b587135380aeaf2a036642e9d88e9e7e3c2f99"), looks := true }, kinds := [], alts := [], laidByText := true, laidKinds := [.data, .data, .data, .sentinel], laidTests := true, laidLooks := .later }
def RingKindsCardSaid : Prop := Claim7.holds Tryd.pinned (.plain (OpenSpec.ofChange ringKindsSpec)) ringKindsCard

/-- THE SECOND FORM's CARD OF 'culvertlaw02.RingFlow'. -/
def ringFlowUptoCard : Claim7 := { stood := { row := ringFlowUptoRow, standIns := [], harness := (true, "43df86a072dee107a706ab36f4b587135380aeaf2a036642e9d88e9e7e3c2f99"), looks := true }, kinds := [], alts := [], laidByText := true, laidKinds := [.sentinel], laidTests := true, laidLooks := .later }
def RingFlowUptoCardSaid : Prop := Claim7.holds Tryd.pinned (.plain (OpenSpec.upto ringFlowSpec)) ringFlowUptoCard

/-- THE SECOND FORM's CARD OF 'culvertlaw02.RingBlind'. -/
def ringBlindUptoCard : Claim7 := { stood := { row := ringBlindUptoRow, standIns := [], harness := (true, "43df86a072dee107a706ab36f4b587135380aeaf2a036642e9d88e9e7e3c2f99"), looks := true }, kinds := [], alts := [], laidByText := true, laidKinds := [.sentinel], laidTests := true, laidLooks := .later }
def RingBlindUptoCardSaid : Prop := Claim7.holds Tryd.pinned (.plain (OpenSpec.upto ringBlindSpec)) ringBlindUptoCard

/-- THE SECOND FORM's CARD OF 'culvertlaw02.RingNames'. -/
def ringNamesUptoCard : Claim7 := { stood := { row := ringNamesUptoRow, standIns := [], harness := (true, "43df86a072dee107a706ab36f4b587135380aeaf2a036642e9d88e9e7e3c2f99"), looks := true }, kinds := [], alts := [], laidByText := true, laidKinds := [.sentinel, .sentinel, .sentinel, .sentinel, .sentinel, .sentinel, .sentinel, .sentinel, .sentinel, .sentinel, .sentinel, .sentinel, .sentinel, .sentinel, .sentinel, .sentinel, .sentinel, .sentinel, .sentinel, .sentinel, .sentinel, .sentinel, .sentinel, .sentinel, .sentinel, .sentinel, .sentinel, .sentinel, .sentinel, .sentinel, .sentinel, .sentinel, .sentinel, .sentinel, .sentinel, .sentinel, .sentinel, .sentinel, .sentinel, .sentinel, .sentinel, .sentinel], laidTests := true, laidLooks := .later }
def RingNamesUptoCardSaid : Prop := Claim7.holds Tryd.pinned (.plain (OpenSpec.upto ringNamesSpec)) ringNamesUptoCard

/-- THE SECOND FORM's CARD OF 'culvertlaw02.RingAnswers'. -/
def ringAnswersUptoCard : Claim7 := { stood := { row := ringAnswersUptoRow, standIns := [], harness := (true, "43df86a072dee107a706ab36f4b587135380aeaf2a036642e9d88e9e7e3c2f99"), looks := true }, kinds := [], alts := [], laidByText := true, laidKinds := [.sentinel, .sentinel, .sentinel, .sentinel, .sentinel, .sentinel, .sentinel, .sentinel, .sentinel, .sentinel, .sentinel, .sentinel, .sentinel, .sentinel, .sentinel, .sentinel, .sentinel, .sentinel, .sentinel, .sentinel, .sentinel, .sentinel, .sentinel, .sentinel, .sentinel, .sentinel, .sentinel, .sentinel, .sentinel, .sentinel, .sentinel, .sentinel, .sentinel, .sentinel, .sentinel, .sentinel, .sentinel, .sentinel, .sentinel, .sentinel, .sentinel, .sentinel], laidTests := true, laidLooks := .later }
def RingAnswersUptoCardSaid : Prop := Claim7.holds Tryd.pinned (.plain (OpenSpec.upto ringAnswersSpec)) ringAnswersUptoCard

/-- THE SECOND FORM's CARD OF 'culvertlaw02.RingMemory'. -/
def ringMemoryUptoCard : Claim7 := { stood := { row := ringMemoryUptoRow, standIns := [], harness := (true, "43df86a072dee107a706ab36f4b587135380aeaf2a036642e9d88e9e7e3c2f99"), looks := true }, kinds := [], alts := [], laidByText := true, laidKinds := [.sentinel, .sentinel, .sentinel, .sentinel, .sentinel, .sentinel, .sentinel, .sentinel, .sentinel, .sentinel, .sentinel, .sentinel, .sentinel, .sentinel, .sentinel, .sentinel, .sentinel, .sentinel, .sentinel, .sentinel, .sentinel, .sentinel, .sentinel, .sentinel, .sentinel, .sentinel, .sentinel, .sentinel, .sentinel, .sentinel, .sentinel, .sentinel, .sentinel, .sentinel, .sentinel, .sentinel, .sentinel, .sentinel, .sentinel, .sentinel, .sentinel, .sentinel], laidTests := true, laidLooks := .later }
def RingMemoryUptoCardSaid : Prop := Claim7.holds Tryd.pinned (.plain (OpenSpec.upto ringMemorySpec)) ringMemoryUptoCard

/-- THE SECOND FORM's CARD OF 'culvertlaw02.RingKinds'. -/
def ringKindsUptoCard : Claim7 := { stood := { row := ringKindsUptoRow, standIns := [], harness := (true, "43df86a072dee107a706ab36f4b587135380aeaf2a036642e9d88e9e7e3c2f99"), looks := true }, kinds := [], alts := [], laidByText := true, laidKinds := [.data, .data, .data, .sentinel], laidTests := true, laidLooks := .later }
def RingKindsUptoCardSaid : Prop := Claim7.holds Tryd.pinned (.plain (OpenSpec.upto ringKindsSpec)) ringKindsUptoCard
end Rows
end Go.Proofs.YtcalamofccdldaaDoor
