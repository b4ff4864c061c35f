/-
  DERIVED. GIVEN WITH THE SEED: THE CARDS: each row of YtmlmemnlmmpliaaGreatDoorRows.lean that lists a variable, with what it lists TIED to the program's text (the seventh form; the later family's looks); each row that meets fmt, with fmt's text TOLD by the authors' own Lean function (tested against real Go, not proved from fmt's source: count such statements apart). THE CARD IS WHAT COUNTS. Prove the row's statement (the work); the ties are given (YtmlmemnlmmpliaaGreatDoorTie.lean); close each card by the builder's one call (the guide's Derived/Test/ToyasCard.lean, 'card_holds'). Laid BY PROGRAM, IN A SANDBOX (cutbox-door.mjs). By AI agents, Wed Nov 11 2026. No macro, syntax, notation, axiom, sorry.
-/
import Derived.Test.YtmlmemnlmmpliaaGreatDoorRows
import GoSem.ClaimSeven
namespace Go.Proofs.YtmlmemnlmmpliaaGreatDoor
namespace Rows

/-- THE TIED CARD OF 'cincturelaw4.DyadRounds'. -/
def dyadRoundsCard : Claim7 := { stood := { row := dyadRoundsRow, standIns := [], harness := (true, "9d3bb15d4eb64cecb6e06e857519e31967fc94555c747b75fe936cdcb22c97f8"), looks := false }, kinds := [], alts := [], laidByText := true, laidKinds := [.data], laidTests := true, laidLooks := .later }
def DyadRoundsCardSaid : Prop := Claim7.holds Tryz.pinned (.plain (OpenSpec.ofChange dyadRoundsSpec)) dyadRoundsCard

/-- THE TIED CARD OF 'cincturelaw4.DyadAdds'. -/
def dyadAddsCard : Claim7 := { stood := { row := dyadAddsRow, standIns := [], harness := (true, "9d3bb15d4eb64cecb6e06e857519e31967fc94555c747b75fe936cdcb22c97f8"), looks := false }, kinds := [], alts := [], laidByText := true, laidKinds := [.data], laidTests := true, laidLooks := .later }
def DyadAddsCardSaid : Prop := Claim7.holds Tryz.pinned (.plain (OpenSpec.ofChange dyadAddsSpec)) dyadAddsCard

/-- THE SECOND FORM's CARD OF 'cincturelaw4.DyadRounds'. -/
def dyadRoundsUptoCard : Claim7 := { stood := { row := dyadRoundsUptoRow, standIns := [], harness := (true, "9d3bb15d4eb64cecb6e06e857519e31967fc94555c747b75fe936cdcb22c97f8"), looks := false }, kinds := [], alts := [], laidByText := true, laidKinds := [.data], laidTests := true, laidLooks := .later }
def DyadRoundsUptoCardSaid : Prop := Claim7.holds Tryz.pinned (.plain (OpenSpec.upto dyadRoundsSpec)) dyadRoundsUptoCard

/-- THE SECOND FORM's CARD OF 'cincturelaw4.DyadAdds'. -/
def dyadAddsUptoCard : Claim7 := { stood := { row := dyadAddsUptoRow, standIns := [], harness := (true, "9d3bb15d4eb64cecb6e06e857519e31967fc94555c747b75fe936cdcb22c97f8"), looks := false }, kinds := [], alts := [], laidByText := true, laidKinds := [.data], laidTests := true, laidLooks := .later }
def DyadAddsUptoCardSaid : Prop := Claim7.holds Tryz.pinned (.plain (OpenSpec.upto dyadAddsSpec)) dyadAddsUptoCard
end Rows
end Go.Proofs.YtmlmemnlmmpliaaGreatDoor
