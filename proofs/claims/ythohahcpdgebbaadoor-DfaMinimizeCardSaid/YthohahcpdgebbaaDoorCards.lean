/-
  DERIVED. GIVEN WITH THE SEED: THE CARDS: each row of YthohahcpdgebbaaDoorRows.lean that lists a variable, with what it lists TIED to the program's text (the seventh form; the later family's looks); each row that meets fmt, with fmt's text TOLD by the authors' own Lean function (tested against real Go, not proved from fmt's source: count such statements apart). THE CARD IS WHAT COUNTS. Prove the row's statement (the work); the ties are given (YthohahcpdgebbaaDoorTie.lean); close each card by the builder's one call (the guide's Derived/Test/ToyasCard.lean, 'card_holds'). Laid BY PROGRAM, IN A SANDBOX (cutbox-door.mjs). By AI agents, Wed Nov 11 2026. No macro, syntax, notation, axiom, sorry.
-/
import Derived.Test.YthohahcpdgebbaaDoorRows
import GoSem.ClaimSeven
namespace Go.Proofs.YthohahcpdgebbaaDoor
namespace Rows

/-- THE TIED CARD OF 'narratorlaw33.DfaBuild'. -/
def dfaBuildCard : Claim7 := { stood := { row := dfaBuildRow, standIns := [], harness := (true, "3fae0b8e6852b9d1bcf57f942e3459b92be188d559b48de62a90f044b73f1c1a"), looks := false }, kinds := [], alts := [], laidByText := true, laidKinds := [.data, .data, .data], laidTests := true, laidLooks := .later }
def DfaBuildCardSaid : Prop := Claim7.holds Tryd.pinned (.plain (OpenSpec.ofChange dfaBuildSpec)) dfaBuildCard

/-- THE TIED CARD OF 'narratorlaw33.DfaChecks'. -/
def dfaChecksCard : Claim7 := { stood := { row := dfaChecksRow, standIns := [], harness := (true, "3fae0b8e6852b9d1bcf57f942e3459b92be188d559b48de62a90f044b73f1c1a"), looks := false }, kinds := [], alts := [], laidByText := true, laidKinds := [.data, .data, .data], laidTests := true, laidLooks := .later }
def DfaChecksCardSaid : Prop := Claim7.holds Tryd.pinned (.plain (OpenSpec.ofChange dfaChecksSpec)) dfaChecksCard

/-- THE TIED CARD OF 'narratorlaw33.DfaMinimize'. -/
def dfaMinimizeCard : Claim7 := { stood := { row := dfaMinimizeRow, standIns := [], harness := (true, "3fae0b8e6852b9d1bcf57f942e3459b92be188d559b48de62a90f044b73f1c1a"), looks := false }, kinds := [], alts := [], laidByText := true, laidKinds := [.data, .data, .data], laidTests := true, laidLooks := .later }
def DfaMinimizeCardSaid : Prop := Claim7.holds Tryd.pinned (.plain (OpenSpec.ofChange dfaMinimizeSpec)) dfaMinimizeCard

/-- THE TIED CARD OF 'narratorlaw33.DfaSameLabels'. -/
def dfaSameLabelsCard : Claim7 := { stood := { row := dfaSameLabelsRow, standIns := [], harness := (true, "3fae0b8e6852b9d1bcf57f942e3459b92be188d559b48de62a90f044b73f1c1a"), looks := false }, kinds := [], alts := [], laidByText := true, laidKinds := [.data, .data, .data], laidTests := true, laidLooks := .later }
def DfaSameLabelsCardSaid : Prop := Claim7.holds Tryd.pinned (.plain (OpenSpec.ofChange dfaSameLabelsSpec)) dfaSameLabelsCard

/-- THE TIED CARD OF 'narratorlaw33.DfaOrder'. -/
def dfaOrderCard : Claim7 := { stood := { row := dfaOrderRow, standIns := [], harness := (true, "3fae0b8e6852b9d1bcf57f942e3459b92be188d559b48de62a90f044b73f1c1a"), looks := false }, kinds := [], alts := [], laidByText := true, laidKinds := [.data, .data, .data], laidTests := true, laidLooks := .later }
def DfaOrderCardSaid : Prop := Claim7.holds Tryd.pinned (.plain (OpenSpec.ofChange dfaOrderSpec)) dfaOrderCard

/-- THE TIED CARD OF 'narratorlaw33.DfaEquivalence'. -/
def dfaEquivalenceCard : Claim7 := { stood := { row := dfaEquivalenceRow, standIns := [], harness := (true, "3fae0b8e6852b9d1bcf57f942e3459b92be188d559b48de62a90f044b73f1c1a"), looks := false }, kinds := [], alts := [], laidByText := true, laidKinds := [.data, .data, .data], laidTests := true, laidLooks := .later }
def DfaEquivalenceCardSaid : Prop := Claim7.holds Tryd.pinned (.plain (OpenSpec.ofChange dfaEquivalenceSpec)) dfaEquivalenceCard

/-- THE TIED CARD OF 'narratorlaw33.DfaRun'. -/
def dfaRunCard : Claim7 := { stood := { row := dfaRunRow, standIns := [], harness := (true, "3fae0b8e6852b9d1bcf57f942e3459b92be188d559b48de62a90f044b73f1c1a"), looks := false }, kinds := [], alts := [], laidByText := true, laidKinds := [.data, .data, .data], laidTests := true, laidLooks := .later }
def DfaRunCardSaid : Prop := Claim7.holds Tryd.pinned (.plain (OpenSpec.ofChange dfaRunSpec)) dfaRunCard

/-- THE TIED CARD OF 'narratorlaw33.DfaShortest'. -/
def dfaShortestCard : Claim7 := { stood := { row := dfaShortestRow, standIns := [], harness := (true, "3fae0b8e6852b9d1bcf57f942e3459b92be188d559b48de62a90f044b73f1c1a"), looks := false }, kinds := [], alts := [], laidByText := true, laidKinds := [.data, .data, .data, .data, .pinned], laidTests := true, laidLooks := .later }
def DfaShortestCardSaid : Prop := Claim7.holds Tryd.pinned (.plain (OpenSpec.ofChange dfaShortestSpec)) dfaShortestCard

/-- THE SECOND FORM's CARD OF 'narratorlaw33.DfaBuild'. -/
def dfaBuildUptoCard : Claim7 := { stood := { row := dfaBuildUptoRow, standIns := [], harness := (true, "3fae0b8e6852b9d1bcf57f942e3459b92be188d559b48de62a90f044b73f1c1a"), looks := false }, kinds := [], alts := [], laidByText := true, laidKinds := [.data, .data, .data], laidTests := true, laidLooks := .later }
def DfaBuildUptoCardSaid : Prop := Claim7.holds Tryd.pinned (.plain (OpenSpec.upto dfaBuildSpec)) dfaBuildUptoCard

/-- THE SECOND FORM's CARD OF 'narratorlaw33.DfaChecks'. -/
def dfaChecksUptoCard : Claim7 := { stood := { row := dfaChecksUptoRow, standIns := [], harness := (true, "3fae0b8e6852b9d1bcf57f942e3459b92be188d559b48de62a90f044b73f1c1a"), looks := false }, kinds := [], alts := [], laidByText := true, laidKinds := [.data, .data, .data], laidTests := true, laidLooks := .later }
def DfaChecksUptoCardSaid : Prop := Claim7.holds Tryd.pinned (.plain (OpenSpec.upto dfaChecksSpec)) dfaChecksUptoCard

/-- THE SECOND FORM's CARD OF 'narratorlaw33.DfaMinimize'. -/
def dfaMinimizeUptoCard : Claim7 := { stood := { row := dfaMinimizeUptoRow, standIns := [], harness := (true, "3fae0b8e6852b9d1bcf57f942e3459b92be188d559b48de62a90f044b73f1c1a"), looks := false }, kinds := [], alts := [], laidByText := true, laidKinds := [.data, .data, .data], laidTests := true, laidLooks := .later }
def DfaMinimizeUptoCardSaid : Prop := Claim7.holds Tryd.pinned (.plain (OpenSpec.upto dfaMinimizeSpec)) dfaMinimizeUptoCard

/-- THE SECOND FORM's CARD OF 'narratorlaw33.DfaSameLabels'. -/
def dfaSameLabelsUptoCard : Claim7 := { stood := { row := dfaSameLabelsUptoRow, standIns := [], harness := (true, "3fae0b8e6852b9d1bcf57f942e3459b92be188d559b48de62a90f044b73f1c1a"), looks := false }, kinds := [], alts := [], laidByText := true, laidKinds := [.data, .data, .data], laidTests := true, laidLooks := .later }
def DfaSameLabelsUptoCardSaid : Prop := Claim7.holds Tryd.pinned (.plain (OpenSpec.upto dfaSameLabelsSpec)) dfaSameLabelsUptoCard

/-- THE SECOND FORM's CARD OF 'narratorlaw33.DfaOrder'. -/
def dfaOrderUptoCard : Claim7 := { stood := { row := dfaOrderUptoRow, standIns := [], harness := (true, "3fae0b8e6852b9d1bcf57f942e3459b92be188d559b48de62a90f044b73f1c1a"), looks := false }, kinds := [], alts := [], laidByText := true, laidKinds := [.data, .data, .data], laidTests := true, laidLooks := .later }
def DfaOrderUptoCardSaid : Prop := Claim7.holds Tryd.pinned (.plain (OpenSpec.upto dfaOrderSpec)) dfaOrderUptoCard

/-- THE SECOND FORM's CARD OF 'narratorlaw33.DfaEquivalence'. -/
def dfaEquivalenceUptoCard : Claim7 := { stood := { row := dfaEquivalenceUptoRow, standIns := [], harness := (true, "3fae0b8e6852b9d1bcf57f942e3459b92be188d559b48de62a90f044b73f1c1a"), looks := false }, kinds := [], alts := [], laidByText := true, laidKinds := [.data, .data, .data], laidTests := true, laidLooks := .later }
def DfaEquivalenceUptoCardSaid : Prop := Claim7.holds Tryd.pinned (.plain (OpenSpec.upto dfaEquivalenceSpec)) dfaEquivalenceUptoCard

/-- THE SECOND FORM's CARD OF 'narratorlaw33.DfaRun'. -/
def dfaRunUptoCard : Claim7 := { stood := { row := dfaRunUptoRow, standIns := [], harness := (true, "3fae0b8e6852b9d1bcf57f942e3459b92be188d559b48de62a90f044b73f1c1a"), looks := false }, kinds := [], alts := [], laidByText := true, laidKinds := [.data, .data, .data], laidTests := true, laidLooks := .later }
def DfaRunUptoCardSaid : Prop := Claim7.holds Tryd.pinned (.plain (OpenSpec.upto dfaRunSpec)) dfaRunUptoCard

/-- THE SECOND FORM's CARD OF 'narratorlaw33.DfaShortest'. -/
def dfaShortestUptoCard : Claim7 := { stood := { row := dfaShortestUptoRow, standIns := [], harness := (true, "3fae0b8e6852b9d1bcf57f942e3459b92be188d559b48de62a90f044b73f1c1a"), looks := false }, kinds := [], alts := [], laidByText := true, laidKinds := [.data, .data, .data, .data, .pinned], laidTests := true, laidLooks := .later }
def DfaShortestUptoCardSaid : Prop := Claim7.holds Tryd.pinned (.plain (OpenSpec.upto dfaShortestSpec)) dfaShortestUptoCard
end Rows
end Go.Proofs.YthohahcpdgebbaaDoor
