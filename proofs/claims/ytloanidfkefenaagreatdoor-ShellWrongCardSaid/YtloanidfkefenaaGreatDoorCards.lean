/-
  DERIVED. GIVEN WITH THE SEED: THE CARDS: each row of YtloanidfkefenaaGreatDoorRows.lean that lists a variable, with what it lists TIED to the program's text (the seventh form; the later family's looks); each row that meets fmt, with fmt's text TOLD by the authors' own Lean function (tested against real Go, not proved from fmt's source: count such statements apart). THE CARD IS WHAT COUNTS. Prove the row's statement (the work); the ties are given (YtloanidfkefenaaGreatDoorTie.lean); close each card by the builder's one call (the guide's Derived/Test/ToyasCard.lean, 'card_holds'). Laid BY PROGRAM, IN A SANDBOX (cutbox-door.mjs). By AI agents, Wed Nov 11 2026. No macro, syntax, notation, axiom, sorry.
-/
import Derived.Test.YtloanidfkefenaaGreatDoorRows
import GoSem.ClaimSeven
namespace Go.Proofs.YtloanidfkefenaaGreatDoor
namespace Rows

/-- THE TIED CARD OF 'bindlelaw25.ShellRuns'. -/
def shellRunsCard : Claim7 := { stood := { row := shellRunsRow, standIns := [], harness := (true, "54aa382d02c91145dc2b6428716a3cf16cbc4edd73551dc941648a41374c1265"), looks := true }, kinds := [], alts := [], laidByText := true, laidKinds := [.data, .data, .data, .data, .sentinel, .sentinel, .wider, .data, .data, .data, .data, .data, .wider, .wider, .wider, .wider, .data, .pinned], laidTests := true, laidLooks := .later }
def ShellRunsCardSaid : Prop := Claim7.holds Tryz.pinned (.plain (OpenSpec.ofChange shellRunsSpec)) shellRunsCard

/-- THE TIED CARD OF 'bindlelaw25.ShellWrong'. -/
def shellWrongCard : Claim7 := { stood := { row := shellWrongRow, standIns := [], harness := (true, "54aa382d02c91145dc2b6428716a3cf16cbc4edd73551dc941648a41374c1265"), looks := true }, kinds := [], alts := [], laidByText := true, laidKinds := [.data, .data, .data, .data, .sentinel, .sentinel, .wider, .data, .data, .data, .data, .data, .wider, .wider, .wider, .wider, .data, .pinned], laidTests := true, laidLooks := .later }
def ShellWrongCardSaid : Prop := Claim7.holds Tryz.pinned (.plain (OpenSpec.ofChange shellWrongSpec)) shellWrongCard

/-- THE TIED CARD OF 'bindlelaw25.ShellJoins'. -/
def shellJoinsCard : Claim7 := { stood := { row := shellJoinsRow, standIns := [], harness := (true, "54aa382d02c91145dc2b6428716a3cf16cbc4edd73551dc941648a41374c1265"), looks := true }, kinds := [], alts := [], laidByText := true, laidKinds := [.data, .data, .data, .data, .sentinel, .sentinel, .wider, .data, .data, .data, .data, .data, .wider, .wider, .wider, .wider, .data, .pinned], laidTests := true, laidLooks := .later }
def ShellJoinsCardSaid : Prop := Claim7.holds Tryz.pinned (.plain (OpenSpec.ofChange shellJoinsSpec)) shellJoinsCard

/-- THE SECOND FORM's CARD OF 'bindlelaw25.ShellRuns'. -/
def shellRunsUptoCard : Claim7 := { stood := { row := shellRunsUptoRow, standIns := [], harness := (true, "54aa382d02c91145dc2b6428716a3cf16cbc4edd73551dc941648a41374c1265"), looks := true }, kinds := [], alts := [], laidByText := true, laidKinds := [.data, .data, .data, .data, .sentinel, .sentinel, .wider, .data, .data, .data, .data, .data, .wider, .wider, .wider, .wider, .data, .pinned], laidTests := true, laidLooks := .later }
def ShellRunsUptoCardSaid : Prop := Claim7.holds Tryz.pinned (.plain (OpenSpec.upto shellRunsSpec)) shellRunsUptoCard

/-- THE SECOND FORM's CARD OF 'bindlelaw25.ShellWrong'. -/
def shellWrongUptoCard : Claim7 := { stood := { row := shellWrongUptoRow, standIns := [], harness := (true, "54aa382d02c91145dc2b6428716a3cf16cbc4edd73551dc941648a41374c1265"), looks := true }, kinds := [], alts := [], laidByText := true, laidKinds := [.data, .data, .data, .data, .sentinel, .sentinel, .wider, .data, .data, .data, .data, .data, .wider, .wider, .wider, .wider, .data, .pinned], laidTests := true, laidLooks := .later }
def ShellWrongUptoCardSaid : Prop := Claim7.holds Tryz.pinned (.plain (OpenSpec.upto shellWrongSpec)) shellWrongUptoCard

/-- THE SECOND FORM's CARD OF 'bindlelaw25.ShellJoins'. -/
def shellJoinsUptoCard : Claim7 := { stood := { row := shellJoinsUptoRow, standIns := [], harness := (true, "54aa382d02c91145dc2b6428716a3cf16cbc4edd73551dc941648a41374c1265"), looks := true }, kinds := [], alts := [], laidByText := true, laidKinds := [.data, .data, .data, .data, .sentinel, .sentinel, .wider, .data, .data, .data, .data, .data, .wider, .wider, .wider, .wider, .data, .pinned], laidTests := true, laidLooks := .later }
def ShellJoinsUptoCardSaid : Prop := Claim7.holds Tryz.pinned (.plain (OpenSpec.upto shellJoinsSpec)) shellJoinsUptoCard
end Rows
end Go.Proofs.YtloanidfkefenaaGreatDoor
