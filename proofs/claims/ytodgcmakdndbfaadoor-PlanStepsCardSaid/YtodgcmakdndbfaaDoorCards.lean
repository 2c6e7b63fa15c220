/-
  DERIVED. GIVEN WITH THE SEED: THE CARDS: each row of YtodgcmakdndbfaaDoorRows.lean that lists a variable, with what it lists TIED to the program's text (the seventh form; the later family's looks); each row that meets fmt, with fmt's text TOLD by the authors' own Lean function (tested against real Go, not proved from fmt's source: count such statements apart). THE CARD IS WHAT COUNTS. Prove the row's statement (the work); the ties are given (YtodgcmakdndbfaaDoorTie.lean); close each card by the builder's one call (the guide's Derived/Test/ToyasCard.lean, 'card_holds'). Laid BY PROGRAM, IN A SANDBOX (cutbox-door.mjs). By AI agents, Wed Nov 11 2026. No macro, syntax, notation, axiom, sorry.
-/
import Derived.Test.YtodgcmakdndbfaaDoorRows
import GoSem.ClaimSeven
namespace Go.Proofs.YtodgcmakdndbfaaDoor
namespace Rows

/-- THE TIED CARD OF 'coterielaw12.PlanForward'. -/
def planForwardCard : Claim7 := { stood := { row := planForwardRow, standIns := [], harness := (true, "cb93009820026668c973c776d3a3ad9289f0db4997d613970f0fb548755e4c00"), looks := false }, kinds := [], alts := [], laidByText := true, laidKinds := [.data], laidTests := true, laidLooks := .later }
def PlanForwardCardSaid : Prop := Claim7.holds Tryd.pinned (.plain (OpenSpec.ofChange planForwardSpec)) planForwardCard

/-- THE TIED CARD OF 'coterielaw12.PlanBackward'. -/
def planBackwardCard : Claim7 := { stood := { row := planBackwardRow, standIns := [], harness := (true, "cb93009820026668c973c776d3a3ad9289f0db4997d613970f0fb548755e4c00"), looks := false }, kinds := [], alts := [], laidByText := true, laidKinds := [.data], laidTests := true, laidLooks := .later }
def PlanBackwardCardSaid : Prop := Claim7.holds Tryd.pinned (.plain (OpenSpec.ofChange planBackwardSpec)) planBackwardCard

/-- THE TIED CARD OF 'coterielaw12.PlanFresh'. -/
def planFreshCard : Claim7 := { stood := { row := planFreshRow, standIns := [], harness := (true, "cb93009820026668c973c776d3a3ad9289f0db4997d613970f0fb548755e4c00"), looks := false }, kinds := [], alts := [], laidByText := true, laidKinds := [.data], laidTests := true, laidLooks := .later }
def PlanFreshCardSaid : Prop := Claim7.holds Tryd.pinned (.plain (OpenSpec.ofChange planFreshSpec)) planFreshCard

/-- THE TIED CARD OF 'coterielaw12.PlanRefusals'. -/
def planRefusalsCard : Claim7 := { stood := { row := planRefusalsRow, standIns := [], harness := (true, "cb93009820026668c973c776d3a3ad9289f0db4997d613970f0fb548755e4c00"), looks := false }, kinds := [], alts := [], laidByText := true, laidKinds := [.data], laidTests := true, laidLooks := .later }
def PlanRefusalsCardSaid : Prop := Claim7.holds Tryd.pinned (.plain (OpenSpec.ofChange planRefusalsSpec)) planRefusalsCard

/-- THE TIED CARD OF 'coterielaw12.PlanMemory'. -/
def planMemoryCard : Claim7 := { stood := { row := planMemoryRow, standIns := [], harness := (true, "cb93009820026668c973c776d3a3ad9289f0db4997d613970f0fb548755e4c00"), looks := false }, kinds := [], alts := [], laidByText := true, laidKinds := [.data], laidTests := true, laidLooks := .later }
def PlanMemoryCardSaid : Prop := Claim7.holds Tryd.pinned (.plain (OpenSpec.ofChange planMemorySpec)) planMemoryCard

/-- THE TIED CARD OF 'coterielaw12.PlanSteps'. -/
def planStepsCard : Claim7 := { stood := { row := planStepsRow, standIns := [], harness := (true, "cb93009820026668c973c776d3a3ad9289f0db4997d613970f0fb548755e4c00"), looks := false }, kinds := [], alts := [], laidByText := true, laidKinds := [.data], laidTests := true, laidLooks := .later }
def PlanStepsCardSaid : Prop := Claim7.holds Tryd.pinned (.plain (OpenSpec.ofChange planStepsSpec)) planStepsCard

/-- THE SECOND FORM's CARD OF 'coterielaw12.PlanForward'. -/
def planForwardUptoCard : Claim7 := { stood := { row := planForwardUptoRow, standIns := [], harness := (true, "cb93009820026668c973c776d3a3ad9289f0db4997d613970f0fb548755e4c00"), looks := false }, kinds := [], alts := [], laidByText := true, laidKinds := [.data], laidTests := true, laidLooks := .later }
def PlanForwardUptoCardSaid : Prop := Claim7.holds Tryd.pinned (.plain (OpenSpec.upto planForwardSpec)) planForwardUptoCard

/-- THE SECOND FORM's CARD OF 'coterielaw12.PlanBackward'. -/
def planBackwardUptoCard : Claim7 := { stood := { row := planBackwardUptoRow, standIns := [], harness := (true, "cb93009820026668c973c776d3a3ad9289f0db4997d613970f0fb548755e4c00"), looks := false }, kinds := [], alts := [], laidByText := true, laidKinds := [.data], laidTests := true, laidLooks := .later }
def PlanBackwardUptoCardSaid : Prop := Claim7.holds Tryd.pinned (.plain (OpenSpec.upto planBackwardSpec)) planBackwardUptoCard

/-- THE SECOND FORM's CARD OF 'coterielaw12.PlanFresh'. -/
def planFreshUptoCard : Claim7 := { stood := { row := planFreshUptoRow, standIns := [], harness := (true, "cb93009820026668c973c776d3a3ad9289f0db4997d613970f0fb548755e4c00"), looks := false }, kinds := [], alts := [], laidByText := true, laidKinds := [.data], laidTests := true, laidLooks := .later }
def PlanFreshUptoCardSaid : Prop := Claim7.holds Tryd.pinned (.plain (OpenSpec.upto planFreshSpec)) planFreshUptoCard

/-- THE SECOND FORM's CARD OF 'coterielaw12.PlanRefusals'. -/
def planRefusalsUptoCard : Claim7 := { stood := { row := planRefusalsUptoRow, standIns := [], harness := (true, "cb93009820026668c973c776d3a3ad9289f0db4997d613970f0fb548755e4c00"), looks := false }, kinds := [], alts := [], laidByText := true, laidKinds := [.data], laidTests := true, laidLooks := .later }
def PlanRefusalsUptoCardSaid : Prop := Claim7.holds Tryd.pinned (.plain (OpenSpec.upto planRefusalsSpec)) planRefusalsUptoCard

/-- THE SECOND FORM's CARD OF 'coterielaw12.PlanMemory'. -/
def planMemoryUptoCard : Claim7 := { stood := { row := planMemoryUptoRow, standIns := [], harness := (true, "cb93009820026668c973c776d3a3ad9289f0db4997d613970f0fb548755e4c00"), looks := false }, kinds := [], alts := [], laidByText := true, laidKinds := [.data], laidTests := true, laidLooks := .later }
def PlanMemoryUptoCardSaid : Prop := Claim7.holds Tryd.pinned (.plain (OpenSpec.upto planMemorySpec)) planMemoryUptoCard

/-- THE SECOND FORM's CARD OF 'coterielaw12.PlanSteps'. -/
def planStepsUptoCard : Claim7 := { stood := { row := planStepsUptoRow, standIns := [], harness := (true, "cb93009820026668c973c776d3a3ad9289f0db4997d613970f0fb548755e4c00"), looks := false }, kinds := [], alts := [], laidByText := true, laidKinds := [.data], laidTests := true, laidLooks := .later }
def PlanStepsUptoCardSaid : Prop := Claim7.holds Tryd.pinned (.plain (OpenSpec.upto planStepsSpec)) planStepsUptoCard
end Rows
end Go.Proofs.YtodgcmakdndbfaaDoor
