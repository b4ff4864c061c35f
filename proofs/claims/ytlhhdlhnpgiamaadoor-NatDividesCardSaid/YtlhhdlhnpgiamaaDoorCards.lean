/-
  DERIVED. GIVEN WITH THE SEED: THE CARDS: each row of YtlhhdlhnpgiamaaDoorRows.lean that lists a variable, with what it lists TIED to the program's text (the seventh form; the later family's looks); each row that meets fmt, with fmt's text TOLD by the authors' own Lean function (tested against real Go, not proved from fmt's source: count such statements apart). THE CARD IS WHAT COUNTS. Prove the row's statement (the work); the ties are given (YtlhhdlhnpgiamaaDoorTie.lean); close each card by the builder's one call (the guide's Derived/Test/ToyasCard.lean, 'card_holds'). Laid BY PROGRAM, IN A SANDBOX (cutbox-door.mjs). By AI agents, Wed Nov 11 2026. No macro, syntax, notation, axiom, sorry.
-/
import Derived.Test.YtlhhdlhnpgiamaaDoorRows
import GoSem.ClaimSeven
namespace Go.Proofs.YtlhhdlhnpgiamaaDoor
namespace Rows

/-- THE TIED CARD OF 'cincturelaw1.NatReads'. -/
def natReadsCard : Claim7 := { stood := { row := natReadsRow, standIns := [], harness := (true, "67d8dda91ee350c175b7942f9fa3c1202a0c795167a4fb53898e75cb22636842"), looks := false }, kinds := [], alts := [], laidByText := true, laidKinds := [.data], laidTests := true, laidLooks := .later }
def NatReadsCardSaid : Prop := Claim7.holds Tryd.pinned (.plain (OpenSpec.ofChange natReadsSpec)) natReadsCard

/-- THE TIED CARD OF 'cincturelaw1.NatTells'. -/
def natTellsCard : Claim7 := { stood := { row := natTellsRow, standIns := [], harness := (true, "67d8dda91ee350c175b7942f9fa3c1202a0c795167a4fb53898e75cb22636842"), looks := false }, kinds := [], alts := [], laidByText := true, laidKinds := [.data], laidTests := true, laidLooks := .later }
def NatTellsCardSaid : Prop := Claim7.holds Tryd.pinned (.plain (OpenSpec.ofChange natTellsSpec)) natTellsCard

/-- THE TIED CARD OF 'cincturelaw1.NatWords'. -/
def natWordsCard : Claim7 := { stood := { row := natWordsRow, standIns := [], harness := (true, "67d8dda91ee350c175b7942f9fa3c1202a0c795167a4fb53898e75cb22636842"), looks := false }, kinds := [], alts := [], laidByText := true, laidKinds := [.data], laidTests := true, laidLooks := .later }
def NatWordsCardSaid : Prop := Claim7.holds Tryd.pinned (.plain (OpenSpec.ofChange natWordsSpec)) natWordsCard

/-- THE TIED CARD OF 'cincturelaw1.NatShifts'. -/
def natShiftsCard : Claim7 := { stood := { row := natShiftsRow, standIns := [], harness := (true, "67d8dda91ee350c175b7942f9fa3c1202a0c795167a4fb53898e75cb22636842"), looks := false }, kinds := [], alts := [], laidByText := true, laidKinds := [.data], laidTests := true, laidLooks := .later }
def NatShiftsCardSaid : Prop := Claim7.holds Tryd.pinned (.plain (OpenSpec.ofChange natShiftsSpec)) natShiftsCard

/-- THE TIED CARD OF 'cincturelaw1.NatLengths'. -/
def natLengthsCard : Claim7 := { stood := { row := natLengthsRow, standIns := [], harness := (true, "67d8dda91ee350c175b7942f9fa3c1202a0c795167a4fb53898e75cb22636842"), looks := false }, kinds := [], alts := [], laidByText := true, laidKinds := [.data], laidTests := true, laidLooks := .later }
def NatLengthsCardSaid : Prop := Claim7.holds Tryd.pinned (.plain (OpenSpec.ofChange natLengthsSpec)) natLengthsCard

/-- THE TIED CARD OF 'cincturelaw1.NatRings'. -/
def natRingsCard : Claim7 := { stood := { row := natRingsRow, standIns := [], harness := (true, "67d8dda91ee350c175b7942f9fa3c1202a0c795167a4fb53898e75cb22636842"), looks := false }, kinds := [], alts := [], laidByText := true, laidKinds := [.data], laidTests := true, laidLooks := .later }
def NatRingsCardSaid : Prop := Claim7.holds Tryd.pinned (.plain (OpenSpec.ofChange natRingsSpec)) natRingsCard

/-- THE TIED CARD OF 'cincturelaw1.NatAdds'. -/
def natAddsCard : Claim7 := { stood := { row := natAddsRow, standIns := [], harness := (true, "67d8dda91ee350c175b7942f9fa3c1202a0c795167a4fb53898e75cb22636842"), looks := false }, kinds := [], alts := [], laidByText := true, laidKinds := [.data], laidTests := true, laidLooks := .later }
def NatAddsCardSaid : Prop := Claim7.holds Tryd.pinned (.plain (OpenSpec.ofChange natAddsSpec)) natAddsCard

/-- THE TIED CARD OF 'cincturelaw1.NatSquares'. -/
def natSquaresCard : Claim7 := { stood := { row := natSquaresRow, standIns := [], harness := (true, "67d8dda91ee350c175b7942f9fa3c1202a0c795167a4fb53898e75cb22636842"), looks := false }, kinds := [], alts := [], laidByText := true, laidKinds := [.data], laidTests := true, laidLooks := .later }
def NatSquaresCardSaid : Prop := Claim7.holds Tryd.pinned (.plain (OpenSpec.ofChange natSquaresSpec)) natSquaresCard

/-- THE TIED CARD OF 'cincturelaw1.NatDivides'. -/
def natDividesCard : Claim7 := { stood := { row := natDividesRow, standIns := [], harness := (true, "67d8dda91ee350c175b7942f9fa3c1202a0c795167a4fb53898e75cb22636842"), looks := false }, kinds := [], alts := [], laidByText := true, laidKinds := [.data], laidTests := true, laidLooks := .later }
def NatDividesCardSaid : Prop := Claim7.holds Tryd.pinned (.plain (OpenSpec.ofChange natDividesSpec)) natDividesCard

/-- THE TIED CARD OF 'cincturelaw1.NatBack'. -/
def natBackCard : Claim7 := { stood := { row := natBackRow, standIns := [], harness := (true, "67d8dda91ee350c175b7942f9fa3c1202a0c795167a4fb53898e75cb22636842"), looks := false }, kinds := [], alts := [], laidByText := true, laidKinds := [.data], laidTests := true, laidLooks := .later }
def NatBackCardSaid : Prop := Claim7.holds Tryd.pinned (.plain (OpenSpec.ofChange natBackSpec)) natBackCard

/-- THE SECOND FORM's CARD OF 'cincturelaw1.NatReads'. -/
def natReadsUptoCard : Claim7 := { stood := { row := natReadsUptoRow, standIns := [], harness := (true, "67d8dda91ee350c175b7942f9fa3c1202a0c795167a4fb53898e75cb22636842"), looks := false }, kinds := [], alts := [], laidByText := true, laidKinds := [.data], laidTests := true, laidLooks := .later }
def NatReadsUptoCardSaid : Prop := Claim7.holds Tryd.pinned (.plain (OpenSpec.upto natReadsSpec)) natReadsUptoCard

/-- THE SECOND FORM's CARD OF 'cincturelaw1.NatTells'. -/
def natTellsUptoCard : Claim7 := { stood := { row := natTellsUptoRow, standIns := [], harness := (true, "67d8dda91ee350c175b7942f9fa3c1202a0c795167a4fb53898e75cb22636842"), looks := false }, kinds := [], alts := [], laidByText := true, laidKinds := [.data], laidTests := true, laidLooks := .later }
def NatTellsUptoCardSaid : Prop := Claim7.holds Tryd.pinned (.plain (OpenSpec.upto natTellsSpec)) natTellsUptoCard

/-- THE SECOND FORM's CARD OF 'cincturelaw1.NatWords'. -/
def natWordsUptoCard : Claim7 := { stood := { row := natWordsUptoRow, standIns := [], harness := (true, "67d8dda91ee350c175b7942f9fa3c1202a0c795167a4fb53898e75cb22636842"), looks := false }, kinds := [], alts := [], laidByText := true, laidKinds := [.data], laidTests := true, laidLooks := .later }
def NatWordsUptoCardSaid : Prop := Claim7.holds Tryd.pinned (.plain (OpenSpec.upto natWordsSpec)) natWordsUptoCard

/-- THE SECOND FORM's CARD OF 'cincturelaw1.NatShifts'. -/
def natShiftsUptoCard : Claim7 := { stood := { row := natShiftsUptoRow, standIns := [], harness := (true, "67d8dda91ee350c175b7942f9fa3c1202a0c795167a4fb53898e75cb22636842"), looks := false }, kinds := [], alts := [], laidByText := true, laidKinds := [.data], laidTests := true, laidLooks := .later }
def NatShiftsUptoCardSaid : Prop := Claim7.holds Tryd.pinned (.plain (OpenSpec.upto natShiftsSpec)) natShiftsUptoCard

/-- THE SECOND FORM's CARD OF 'cincturelaw1.NatLengths'. -/
def natLengthsUptoCard : Claim7 := { stood := { row := natLengthsUptoRow, standIns := [], harness := (true, "67d8dda91ee350c175b7942f9fa3c1202a0c795167a4fb53898e75cb22636842"), looks := false }, kinds := [], alts := [], laidByText := true, laidKinds := [.data], laidTests := true, laidLooks := .later }
def NatLengthsUptoCardSaid : Prop := Claim7.holds Tryd.pinned (.plain (OpenSpec.upto natLengthsSpec)) natLengthsUptoCard

/-- THE SECOND FORM's CARD OF 'cincturelaw1.NatRings'. -/
def natRingsUptoCard : Claim7 := { stood := { row := natRingsUptoRow, standIns := [], harness := (true, "67d8dda91ee350c175b7942f9fa3c1202a0c795167a4fb53898e75cb22636842"), looks := false }, kinds := [], alts := [], laidByText := true, laidKinds := [.data], laidTests := true, laidLooks := .later }
def NatRingsUptoCardSaid : Prop := Claim7.holds Tryd.pinned (.plain (OpenSpec.upto natRingsSpec)) natRingsUptoCard

/-- THE SECOND FORM's CARD OF 'cincturelaw1.NatAdds'. -/
def natAddsUptoCard : Claim7 := { stood := { row := natAddsUptoRow, standIns := [], harness := (true, "67d8dda91ee350c175b7942f9fa3c1202a0c795167a4fb53898e75cb22636842"), looks := false }, kinds := [], alts := [], laidByText := true, laidKinds := [.data], laidTests := true, laidLooks := .later }
def NatAddsUptoCardSaid : Prop := Claim7.holds Tryd.pinned (.plain (OpenSpec.upto natAddsSpec)) natAddsUptoCard

/-- THE SECOND FORM's CARD OF 'cincturelaw1.NatSquares'. -/
def natSquaresUptoCard : Claim7 := { stood := { row := natSquaresUptoRow, standIns := [], harness := (true, "67d8dda91ee350c175b7942f9fa3c1202a0c795167a4fb53898e75cb22636842"), looks := false }, kinds := [], alts := [], laidByText := true, laidKinds := [.data], laidTests := true, laidLooks := .later }
def NatSquaresUptoCardSaid : Prop := Claim7.holds Tryd.pinned (.plain (OpenSpec.upto natSquaresSpec)) natSquaresUptoCard

/-- THE SECOND FORM's CARD OF 'cincturelaw1.NatDivides'. -/
def natDividesUptoCard : Claim7 := { stood := { row := natDividesUptoRow, standIns := [], harness := (true, "67d8dda91ee350c175b7942f9fa3c1202a0c795167a4fb53898e75cb22636842"), looks := false }, kinds := [], alts := [], laidByText := true, laidKinds := [.data], laidTests := true, laidLooks := .later }
def NatDividesUptoCardSaid : Prop := Claim7.holds Tryd.pinned (.plain (OpenSpec.upto natDividesSpec)) natDividesUptoCard

/-- THE SECOND FORM's CARD OF 'cincturelaw1.NatBack'. -/
def natBackUptoCard : Claim7 := { stood := { row := natBackUptoRow, standIns := [], harness := (true, "67d8dda91ee350c175b7942f9fa3c1202a0c795167a4fb53898e75cb22636842"), looks := false }, kinds := [], alts := [], laidByText := true, laidKinds := [.data], laidTests := true, laidLooks := .later }
def NatBackUptoCardSaid : Prop := Claim7.holds Tryd.pinned (.plain (OpenSpec.upto natBackSpec)) natBackUptoCard
end Rows
end Go.Proofs.YtlhhdlhnpgiamaaDoor
