/-
  DERIVED. GIVEN WITH THE SEED: THE CARDS: each row of YtmlmemnlmmpliaaDoorRows.lean that lists a variable, with what it lists TIED to the program's text (the seventh form; the later family's looks); each row that meets fmt, with fmt's text TOLD by the authors' own Lean function (tested against real Go, not proved from fmt's source: count such statements apart). THE CARD IS WHAT COUNTS. Prove the row's statement (the work); the ties are given (YtmlmemnlmmpliaaDoorTie.lean); close each card by the builder's one call (the guide's Derived/Test/ToyasCard.lean, 'card_holds'). Laid BY PROGRAM, IN A SANDBOX (cutbox-door.mjs). By AI agents, Wed Nov 11 2026. No macro, syntax, notation, axiom, sorry.
-/
import Derived.Test.YtmlmemnlmmpliaaDoorRows
import GoSem.ClaimSeven
namespace Go.Proofs.YtmlmemnlmmpliaaDoor
namespace Rows

/-- THE TIED CARD OF 'cincturelaw4.DyadNews'. -/
def dyadNewsCard : Claim7 := { stood := { row := dyadNewsRow, standIns := [], harness := (true, "8f4462d2c1c33ca9933ead8f7548770bc42aaa6b7fac60fae46d99a142038abd"), looks := false }, kinds := [], alts := [], laidByText := true, laidKinds := [.data], laidTests := true, laidLooks := .later }
def DyadNewsCardSaid : Prop := Claim7.holds Tryd.pinned (.plain (OpenSpec.ofChange dyadNewsSpec)) dyadNewsCard

/-- THE TIED CARD OF 'cincturelaw4.DyadSteps'. -/
def dyadStepsCard : Claim7 := { stood := { row := dyadStepsRow, standIns := [], harness := (true, "8f4462d2c1c33ca9933ead8f7548770bc42aaa6b7fac60fae46d99a142038abd"), looks := false }, kinds := [], alts := [], laidByText := true, laidKinds := [.data], laidTests := true, laidLooks := .later }
def DyadStepsCardSaid : Prop := Claim7.holds Tryd.pinned (.plain (OpenSpec.ofChange dyadStepsSpec)) dyadStepsCard

/-- THE TIED CARD OF 'cincturelaw4.DyadNear'. -/
def dyadNearCard : Claim7 := { stood := { row := dyadNearRow, standIns := [], harness := (true, "8f4462d2c1c33ca9933ead8f7548770bc42aaa6b7fac60fae46d99a142038abd"), looks := false }, kinds := [], alts := [], laidByText := true, laidKinds := [.data], laidTests := true, laidLooks := .later }
def DyadNearCardSaid : Prop := Claim7.holds Tryd.pinned (.plain (OpenSpec.ofChange dyadNearSpec)) dyadNearCard

/-- THE TIED CARD OF 'cincturelaw4.DyadTells'. -/
def dyadTellsCard : Claim7 := { stood := { row := dyadTellsRow, standIns := [], harness := (true, "8f4462d2c1c33ca9933ead8f7548770bc42aaa6b7fac60fae46d99a142038abd"), looks := false }, kinds := [], alts := [], laidByText := true, laidKinds := [.data], laidTests := true, laidLooks := .later }
def DyadTellsCardSaid : Prop := Claim7.holds Tryd.pinned (.plain (OpenSpec.ofChange dyadTellsSpec)) dyadTellsCard

/-- THE TIED CARD OF 'cincturelaw4.DyadParts'. -/
def dyadPartsCard : Claim7 := { stood := { row := dyadPartsRow, standIns := [], harness := (true, "8f4462d2c1c33ca9933ead8f7548770bc42aaa6b7fac60fae46d99a142038abd"), looks := false }, kinds := [], alts := [], laidByText := true, laidKinds := [.data], laidTests := true, laidLooks := .later }
def DyadPartsCardSaid : Prop := Claim7.holds Tryd.pinned (.plain (OpenSpec.ofChange dyadPartsSpec)) dyadPartsCard

/-- THE TIED CARD OF 'cincturelaw4.DyadMids'. -/
def dyadMidsCard : Claim7 := { stood := { row := dyadMidsRow, standIns := [], harness := (true, "8f4462d2c1c33ca9933ead8f7548770bc42aaa6b7fac60fae46d99a142038abd"), looks := false }, kinds := [], alts := [], laidByText := true, laidKinds := [.data], laidTests := true, laidLooks := .later }
def DyadMidsCardSaid : Prop := Claim7.holds Tryd.pinned (.plain (OpenSpec.ofChange dyadMidsSpec)) dyadMidsCard

/-- THE SECOND FORM's CARD OF 'cincturelaw4.DyadNews'. -/
def dyadNewsUptoCard : Claim7 := { stood := { row := dyadNewsUptoRow, standIns := [], harness := (true, "8f4462d2c1c33ca9933ead8f7548770bc42aaa6b7fac60fae46d99a142038abd"), looks := false }, kinds := [], alts := [], laidByText := true, laidKinds := [.data], laidTests := true, laidLooks := .later }
def DyadNewsUptoCardSaid : Prop := Claim7.holds Tryd.pinned (.plain (OpenSpec.upto dyadNewsSpec)) dyadNewsUptoCard

/-- THE SECOND FORM's CARD OF 'cincturelaw4.DyadSteps'. -/
def dyadStepsUptoCard : Claim7 := { stood := { row := dyadStepsUptoRow, standIns := [], harness := (true, "8f4462d2c1c33ca9933ead8f7548770bc42aaa6b7fac60fae46d99a142038abd"), looks := false }, kinds := [], alts := [], laidByText := true, laidKinds := [.data], laidTests := true, laidLooks := .later }
def DyadStepsUptoCardSaid : Prop := Claim7.holds Tryd.pinned (.plain (OpenSpec.upto dyadStepsSpec)) dyadStepsUptoCard

/-- THE SECOND FORM's CARD OF 'cincturelaw4.DyadNear'. -/
def dyadNearUptoCard : Claim7 := { stood := { row := dyadNearUptoRow, standIns := [], harness := (true, "8f4462d2c1c33ca9933ead8f7548770bc42aaa6b7fac60fae46d99a142038abd"), looks := false }, kinds := [], alts := [], laidByText := true, laidKinds := [.data], laidTests := true, laidLooks := .later }
def DyadNearUptoCardSaid : Prop := Claim7.holds Tryd.pinned (.plain (OpenSpec.upto dyadNearSpec)) dyadNearUptoCard

/-- THE SECOND FORM's CARD OF 'cincturelaw4.DyadTells'. -/
def dyadTellsUptoCard : Claim7 := { stood := { row := dyadTellsUptoRow, standIns := [], harness := (true, "8f4462d2c1c33ca9933ead8f7548770bc42aaa6b7fac60fae46d99a142038abd"), looks := false }, kinds := [], alts := [], laidByText := true, laidKinds := [.data], laidTests := true, laidLooks := .later }
def DyadTellsUptoCardSaid : Prop := Claim7.holds Tryd.pinned (.plain (OpenSpec.upto dyadTellsSpec)) dyadTellsUptoCard

/-- THE SECOND FORM's CARD OF 'cincturelaw4.DyadParts'. -/
def dyadPartsUptoCard : Claim7 := { stood := { row := dyadPartsUptoRow, standIns := [], harness := (true, "8f4462d2c1c33ca9933ead8f7548770bc42aaa6b7fac60fae46d99a142038abd"), looks := false }, kinds := [], alts := [], laidByText := true, laidKinds := [.data], laidTests := true, laidLooks := .later }
def DyadPartsUptoCardSaid : Prop := Claim7.holds Tryd.pinned (.plain (OpenSpec.upto dyadPartsSpec)) dyadPartsUptoCard

/-- THE SECOND FORM's CARD OF 'cincturelaw4.DyadMids'. -/
def dyadMidsUptoCard : Claim7 := { stood := { row := dyadMidsUptoRow, standIns := [], harness := (true, "8f4462d2c1c33ca9933ead8f7548770bc42aaa6b7fac60fae46d99a142038abd"), looks := false }, kinds := [], alts := [], laidByText := true, laidKinds := [.data], laidTests := true, laidLooks := .later }
def DyadMidsUptoCardSaid : Prop := Claim7.holds Tryd.pinned (.plain (OpenSpec.upto dyadMidsSpec)) dyadMidsUptoCard
end Rows
end Go.Proofs.YtmlmemnlmmpliaaDoor
