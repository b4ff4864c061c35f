/-
  DERIVED. GIVEN WITH THE SEED: THE CARDS: each row of YtpifafenmgceoaaGreatDoorRows.lean that lists a variable, with what it lists TIED to the program's text (the seventh form; the later family's looks); each row that meets fmt, with fmt's text TOLD by the authors' own Lean function (tested against real Go, not proved from fmt's source: count such statements apart). THE CARD IS WHAT COUNTS. Prove the row's statement (the work); the ties are given (YtpifafenmgceoaaGreatDoorTie.lean); close each card by the builder's one call (the guide's Derived/Test/ToyasCard.lean, 'card_holds'). Laid BY PROGRAM, IN A SANDBOX (cutbox-door.mjs). By AI agents, Wed Nov 11 2026. No macro, syntax, notation, axiom, sorry.
-/
import Derived.Test.YtpifafenmgceoaaGreatDoorRows
import GoSem.ClaimSeven
namespace Go.Proofs.YtpifafenmgceoaaGreatDoor
namespace Rows

/-- THE TIED CARD OF 'cincturelaw5.SpanRounds'. -/
def spanRoundsCard : Claim7 := { stood := { row := spanRoundsRow, standIns := [], harness := (true, "e721d948eded31221d32bbffa99f1e20aa6f3777f8bf5c63f19bf9f14749b9eb"), looks := false }, kinds := [], alts := [], laidByText := true, laidKinds := [.data], laidTests := true, laidLooks := .later }
def SpanRoundsCardSaid : Prop := Claim7.holds Tryz.pinned (.plain (OpenSpec.ofChange spanRoundsSpec)) spanRoundsCard

/-- THE SECOND FORM's CARD OF 'cincturelaw5.SpanRounds'. -/
def spanRoundsUptoCard : Claim7 := { stood := { row := spanRoundsUptoRow, standIns := [], harness := (true, "e721d948eded31221d32bbffa99f1e20aa6f3777f8bf5c63f19bf9f14749b9eb"), looks := false }, kinds := [], alts := [], laidByText := true, laidKinds := [.data], laidTests := true, laidLooks := .later }
def SpanRoundsUptoCardSaid : Prop := Claim7.holds Tryz.pinned (.plain (OpenSpec.upto spanRoundsSpec)) spanRoundsUptoCard
end Rows
end Go.Proofs.YtpifafenmgceoaaGreatDoor
