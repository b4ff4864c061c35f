/-
  NARROWER THAN 'FOR EVERY INPUT', by the rows' own cells (each row's printed sentence says how): NatReads: laid · NatTells: laid · NatWords: laid · NatShifts: laid · NatLengths: laid · NatRings: laid · NatAdds: laid · NatSquares: laid · NatDivides: laid · NatBack: laid.
  DERIVED. THE GIVEN ROWS OF THIS SEAT. 10 by the template 'for every input the law returns true; each argument reads behind the call as it read before'; 0 by the template 'total and deterministic' (their statements: YtlhhdlhnpgiamaaDoorTotals.lean).
  GIVEN WITH THE SEED: the statements are not yours to turn. If you find one false, say at which input.
  Laid BY PROGRAM, IN A SANDBOX (cutbox-rows.mjs): the forced cells as the released guide's own fill.sh prints them over the translation 60e359fac3b35d92… (all of the seat's roots in one cut). By AI agents, Wed Nov 11 2026. No macro, syntax, notation, axiom, sorry.
-/
import Derived.Test.YtlhhdlhnpgiamaaDoorChecked
import GoSem.Claim
import GoSem.ClaimJoined
import GoSem.ClaimMapViews
import Derived.JoinedTies
import Derived.KernelRfl
namespace Go.Proofs.YtlhhdlhnpgiamaaDoor
/- THE CELL 'sum', in the pinned program and in every row, IS THE sha256 OF THE DUMP (.gsa) THAT YtlhhdlhnpgiamaaDoorProg.lean LOADS. Nothing in Lean hashes anything: it is a label: what it is worth is what the hold of that sum in a sandbox is worth. -/
noncomputable def Tryd.pinned : Pinned := { name := "ytlhhdlhnpgiamaadoor", sum := "60e359fac3b35d923c9ed94f4427b5d47f816329b3ed0954c9d90885da0fd209", checked := Tryd.checked }
namespace Rows
def none {H : Type} : Left H := { results := [], args := [] }

/- WHAT THE LISTED PACKAGE-LEVEL VARIABLES READ AS WHEN THE CALL BEGINS. Each datum BY PROGRAM (the guide's laid-datum.mjs) off the statement by which the dump's own 'gosem.cut.vars' lays the variable. In a bare row this is a premise. The card (YtlhhdlhnpgiamaaDoorCards.lean) ties it to the program's text. -/
def laid_math_bits_deBruijn32tab {H : Type} : DataW H := .agg [.lit (.int .u8 0), .lit (.int .u8 1), .lit (.int .u8 28), .lit (.int .u8 2), .lit (.int .u8 29), .lit (.int .u8 14), .lit (.int .u8 24), .lit (.int .u8 3), .lit (.int .u8 30), .lit (.int .u8 22), .lit (.int .u8 20), .lit (.int .u8 15), .lit (.int .u8 25), .lit (.int .u8 17), .lit (.int .u8 4), .lit (.int .u8 8), .lit (.int .u8 31), .lit (.int .u8 27), .lit (.int .u8 13), .lit (.int .u8 23), .lit (.int .u8 21), .lit (.int .u8 19), .lit (.int .u8 16), .lit (.int .u8 7), .lit (.int .u8 26), .lit (.int .u8 12), .lit (.int .u8 18), .lit (.int .u8 6), .lit (.int .u8 11), .lit (.int .u8 5), .lit (.int .u8 10), .lit (.int .u8 9)]

/-- 'cincturelaw1.NatReads': WHATEVER THE INPUT: true; the input reads as it did. -/
def natReadsSpec : ChangeSpec := { name := "natReads", fn := fun _ => fun
  | [d] => { results := [.lit (.bool true)], args := [d] }
  | _ => none }
def natReadsRow : OpenClaim := { program := "ytlhhdlhnpgiamaadoor", sum := "60e359fac3b35d923c9ed94f4427b5d47f816329b3ed0954c9d90885da0fd209", func := "cincture/cincturelaw1.NatReads", spec := "natReads", unfollowed := true, recurses := true, named := ["math/bits.deBruijn32tab"], apart := false, laid := [("math/bits.deBruijn32tab", laid_math_bits_deBruijn32tab)] }
def NatReadsSaid : Prop := natReadsRow.holds Tryd.pinned (OpenSpec.ofChange natReadsSpec)

/-- ITS FALSE NEIGHBOUR: 'it returns false'. Refute it at one input. -/
def natReadsWrong : ChangeSpec := { name := "natReads", fn := fun _ => fun
  | [d] => { results := [.lit (.bool false)], args := [d] }
  | _ => none }
def NatReadsWrongFalsely : Prop := natReadsRow.holds Tryd.pinned (OpenSpec.ofChange natReadsWrong)

/-- 'cincturelaw1.NatTells': WHATEVER THE INPUT: true; the input reads as it did. -/
def natTellsSpec : ChangeSpec := { name := "natTells", fn := fun _ => fun
  | [d] => { results := [.lit (.bool true)], args := [d] }
  | _ => none }
def natTellsRow : OpenClaim := { program := "ytlhhdlhnpgiamaadoor", sum := "60e359fac3b35d923c9ed94f4427b5d47f816329b3ed0954c9d90885da0fd209", func := "cincture/cincturelaw1.NatTells", spec := "natTells", unfollowed := true, recurses := true, named := ["math/bits.deBruijn32tab"], apart := false, laid := [("math/bits.deBruijn32tab", laid_math_bits_deBruijn32tab)] }
def NatTellsSaid : Prop := natTellsRow.holds Tryd.pinned (OpenSpec.ofChange natTellsSpec)

/-- ITS FALSE NEIGHBOUR: 'it returns false'. Refute it at one input. -/
def natTellsWrong : ChangeSpec := { name := "natTells", fn := fun _ => fun
  | [d] => { results := [.lit (.bool false)], args := [d] }
  | _ => none }
def NatTellsWrongFalsely : Prop := natTellsRow.holds Tryd.pinned (OpenSpec.ofChange natTellsWrong)

/-- 'cincturelaw1.NatWords': WHATEVER THE INPUT: true; the input reads as it did. -/
def natWordsSpec : ChangeSpec := { name := "natWords", fn := fun _ => fun
  | [d1, d2] => { results := [.lit (.bool true)], args := [d1, d2] }
  | _ => none }
def natWordsRow : OpenClaim := { program := "ytlhhdlhnpgiamaadoor", sum := "60e359fac3b35d923c9ed94f4427b5d47f816329b3ed0954c9d90885da0fd209", func := "cincture/cincturelaw1.NatWords", spec := "natWords", unfollowed := true, recurses := true, named := ["math/bits.deBruijn32tab"], apart := false, laid := [("math/bits.deBruijn32tab", laid_math_bits_deBruijn32tab)] }
def NatWordsSaid : Prop := natWordsRow.holds Tryd.pinned (OpenSpec.ofChange natWordsSpec)

/-- ITS FALSE NEIGHBOUR: 'it returns false'. Refute it at one input. -/
def natWordsWrong : ChangeSpec := { name := "natWords", fn := fun _ => fun
  | [d1, d2] => { results := [.lit (.bool false)], args := [d1, d2] }
  | _ => none }
def NatWordsWrongFalsely : Prop := natWordsRow.holds Tryd.pinned (OpenSpec.ofChange natWordsWrong)

/-- 'cincturelaw1.NatShifts': WHATEVER THE INPUT: true; the input reads as it did. -/
def natShiftsSpec : ChangeSpec := { name := "natShifts", fn := fun _ => fun
  | [d1, d2] => { results := [.lit (.bool true)], args := [d1, d2] }
  | _ => none }
def natShiftsRow : OpenClaim := { program := "ytlhhdlhnpgiamaadoor", sum := "60e359fac3b35d923c9ed94f4427b5d47f816329b3ed0954c9d90885da0fd209", func := "cincture/cincturelaw1.NatShifts", spec := "natShifts", unfollowed := true, recurses := true, named := ["math/bits.deBruijn32tab"], apart := false, laid := [("math/bits.deBruijn32tab", laid_math_bits_deBruijn32tab)] }
def NatShiftsSaid : Prop := natShiftsRow.holds Tryd.pinned (OpenSpec.ofChange natShiftsSpec)

/-- ITS FALSE NEIGHBOUR: 'it returns false'. Refute it at one input. -/
def natShiftsWrong : ChangeSpec := { name := "natShifts", fn := fun _ => fun
  | [d1, d2] => { results := [.lit (.bool false)], args := [d1, d2] }
  | _ => none }
def NatShiftsWrongFalsely : Prop := natShiftsRow.holds Tryd.pinned (OpenSpec.ofChange natShiftsWrong)

/-- 'cincturelaw1.NatLengths': WHATEVER THE INPUT: true; the input reads as it did. -/
def natLengthsSpec : ChangeSpec := { name := "natLengths", fn := fun _ => fun
  | [d1, d2] => { results := [.lit (.bool true)], args := [d1, d2] }
  | _ => none }
def natLengthsRow : OpenClaim := { program := "ytlhhdlhnpgiamaadoor", sum := "60e359fac3b35d923c9ed94f4427b5d47f816329b3ed0954c9d90885da0fd209", func := "cincture/cincturelaw1.NatLengths", spec := "natLengths", unfollowed := true, recurses := true, named := ["math/bits.deBruijn32tab"], apart := false, laid := [("math/bits.deBruijn32tab", laid_math_bits_deBruijn32tab)] }
def NatLengthsSaid : Prop := natLengthsRow.holds Tryd.pinned (OpenSpec.ofChange natLengthsSpec)

/-- ITS FALSE NEIGHBOUR: 'it returns false'. Refute it at one input. -/
def natLengthsWrong : ChangeSpec := { name := "natLengths", fn := fun _ => fun
  | [d1, d2] => { results := [.lit (.bool false)], args := [d1, d2] }
  | _ => none }
def NatLengthsWrongFalsely : Prop := natLengthsRow.holds Tryd.pinned (OpenSpec.ofChange natLengthsWrong)

/-- 'cincturelaw1.NatRings': WHATEVER THE INPUT: true; the input reads as it did. -/
def natRingsSpec : ChangeSpec := { name := "natRings", fn := fun _ => fun
  | [d1, d2, d3] => { results := [.lit (.bool true)], args := [d1, d2, d3] }
  | _ => none }
def natRingsRow : OpenClaim := { program := "ytlhhdlhnpgiamaadoor", sum := "60e359fac3b35d923c9ed94f4427b5d47f816329b3ed0954c9d90885da0fd209", func := "cincture/cincturelaw1.NatRings", spec := "natRings", unfollowed := true, recurses := true, named := ["math/bits.deBruijn32tab"], apart := false, laid := [("math/bits.deBruijn32tab", laid_math_bits_deBruijn32tab)] }
def NatRingsSaid : Prop := natRingsRow.holds Tryd.pinned (OpenSpec.ofChange natRingsSpec)

/-- ITS FALSE NEIGHBOUR: 'it returns false'. Refute it at one input. -/
def natRingsWrong : ChangeSpec := { name := "natRings", fn := fun _ => fun
  | [d1, d2, d3] => { results := [.lit (.bool false)], args := [d1, d2, d3] }
  | _ => none }
def NatRingsWrongFalsely : Prop := natRingsRow.holds Tryd.pinned (OpenSpec.ofChange natRingsWrong)

/-- 'cincturelaw1.NatAdds': WHATEVER THE INPUT: true; the input reads as it did. -/
def natAddsSpec : ChangeSpec := { name := "natAdds", fn := fun _ => fun
  | [d1, d2] => { results := [.lit (.bool true)], args := [d1, d2] }
  | _ => none }
def natAddsRow : OpenClaim := { program := "ytlhhdlhnpgiamaadoor", sum := "60e359fac3b35d923c9ed94f4427b5d47f816329b3ed0954c9d90885da0fd209", func := "cincture/cincturelaw1.NatAdds", spec := "natAdds", unfollowed := true, recurses := true, named := ["math/bits.deBruijn32tab"], apart := false, laid := [("math/bits.deBruijn32tab", laid_math_bits_deBruijn32tab)] }
def NatAddsSaid : Prop := natAddsRow.holds Tryd.pinned (OpenSpec.ofChange natAddsSpec)

/-- ITS FALSE NEIGHBOUR: 'it returns false'. Refute it at one input. -/
def natAddsWrong : ChangeSpec := { name := "natAdds", fn := fun _ => fun
  | [d1, d2] => { results := [.lit (.bool false)], args := [d1, d2] }
  | _ => none }
def NatAddsWrongFalsely : Prop := natAddsRow.holds Tryd.pinned (OpenSpec.ofChange natAddsWrong)

/-- 'cincturelaw1.NatSquares': WHATEVER THE INPUT: true; the input reads as it did. -/
def natSquaresSpec : ChangeSpec := { name := "natSquares", fn := fun _ => fun
  | [d1, d2] => { results := [.lit (.bool true)], args := [d1, d2] }
  | _ => none }
def natSquaresRow : OpenClaim := { program := "ytlhhdlhnpgiamaadoor", sum := "60e359fac3b35d923c9ed94f4427b5d47f816329b3ed0954c9d90885da0fd209", func := "cincture/cincturelaw1.NatSquares", spec := "natSquares", unfollowed := true, recurses := true, named := ["math/bits.deBruijn32tab"], apart := false, laid := [("math/bits.deBruijn32tab", laid_math_bits_deBruijn32tab)] }
def NatSquaresSaid : Prop := natSquaresRow.holds Tryd.pinned (OpenSpec.ofChange natSquaresSpec)

/-- ITS FALSE NEIGHBOUR: 'it returns false'. Refute it at one input. -/
def natSquaresWrong : ChangeSpec := { name := "natSquares", fn := fun _ => fun
  | [d1, d2] => { results := [.lit (.bool false)], args := [d1, d2] }
  | _ => none }
def NatSquaresWrongFalsely : Prop := natSquaresRow.holds Tryd.pinned (OpenSpec.ofChange natSquaresWrong)

/-- 'cincturelaw1.NatDivides': WHATEVER THE INPUT: true; the input reads as it did. -/
def natDividesSpec : ChangeSpec := { name := "natDivides", fn := fun _ => fun
  | [d1, d2] => { results := [.lit (.bool true)], args := [d1, d2] }
  | _ => none }
def natDividesRow : OpenClaim := { program := "ytlhhdlhnpgiamaadoor", sum := "60e359fac3b35d923c9ed94f4427b5d47f816329b3ed0954c9d90885da0fd209", func := "cincture/cincturelaw1.NatDivides", spec := "natDivides", unfollowed := true, recurses := true, named := ["math/bits.deBruijn32tab"], apart := false, laid := [("math/bits.deBruijn32tab", laid_math_bits_deBruijn32tab)] }
def NatDividesSaid : Prop := natDividesRow.holds Tryd.pinned (OpenSpec.ofChange natDividesSpec)

/-- ITS FALSE NEIGHBOUR: 'it returns false'. Refute it at one input. -/
def natDividesWrong : ChangeSpec := { name := "natDivides", fn := fun _ => fun
  | [d1, d2] => { results := [.lit (.bool false)], args := [d1, d2] }
  | _ => none }
def NatDividesWrongFalsely : Prop := natDividesRow.holds Tryd.pinned (OpenSpec.ofChange natDividesWrong)

/-- 'cincturelaw1.NatBack': WHATEVER THE INPUT: true; the input reads as it did. -/
def natBackSpec : ChangeSpec := { name := "natBack", fn := fun _ => fun
  | [d1, d2] => { results := [.lit (.bool true)], args := [d1, d2] }
  | _ => none }
def natBackRow : OpenClaim := { program := "ytlhhdlhnpgiamaadoor", sum := "60e359fac3b35d923c9ed94f4427b5d47f816329b3ed0954c9d90885da0fd209", func := "cincture/cincturelaw1.NatBack", spec := "natBack", unfollowed := true, recurses := true, named := ["math/bits.deBruijn32tab"], apart := false, laid := [("math/bits.deBruijn32tab", laid_math_bits_deBruijn32tab)] }
def NatBackSaid : Prop := natBackRow.holds Tryd.pinned (OpenSpec.ofChange natBackSpec)

/-- ITS FALSE NEIGHBOUR: 'it returns false'. Refute it at one input. -/
def natBackWrong : ChangeSpec := { name := "natBack", fn := fun _ => fun
  | [d1, d2] => { results := [.lit (.bool false)], args := [d1, d2] }
  | _ => none }
def NatBackWrongFalsely : Prop := natBackRow.holds Tryd.pinned (OpenSpec.ofChange natBackWrong)

/- THE SECOND FORM. 'bulk': how many values and letters a reading holds, each counted each time it is reached (what is shared counts as often as it is met; a slice's spare places count too). A statement '..UptoSaid' is the law's where the arguments, and the package variables that the reading takes, are together of bulk at most 1048576: NARROWER than '..Said'. Prove '..Said' where nothing that the law and all that it calls make is longer than what came in: it says more and counts as full. Else prove '..UptoSaid'. A law counts once. -/
mutual
def uptoBulk {H : Type} : DataW H → Nat
  | .lit (.string bytes) => bytes.length + 1
  | .lit _ => 1
  | .nil => 1
  | .ptr d => uptoBulk d + 1
  | .slice elems spare => uptoBulkAll elems + uptoBulkAll spare + 1
  | .agg parts => uptoBulkAll parts + 1
  | .iface _ d => uptoBulk d + 1
  | .map entries => uptoBulkEntries entries + 1
  | .held _ => 1
def uptoBulkAll {H : Type} : List (DataW H) → Nat
  | [] => 0
  | d :: r => uptoBulk d + uptoBulkAll r
def uptoBulkEntries {H : Type} : List (Lit × DataW H) → Nat
  | [] => 0
  | x :: r => uptoBulkEntry x + uptoBulkEntries r
def uptoBulkEntry {H : Type} : Lit × DataW H → Nat
  | (.string bytes, d) => bytes.length + uptoBulk d + 1
  | (_, d) => uptoBulk d + 1
 end
def uptoSmall : (H : Type) → List (DataW H) → Bool := fun _ ds => decide (uptoBulkAll ds ≤ 1048576)
def OpenSpec.upto (s : _root_.Go.ChangeSpec) : _root_.Go.OpenSpec := { _root_.Go.OpenSpec.ofChange s with cond := some uptoSmall }

/-- 'cincturelaw1.NatReads', WHERE WHAT IT READS IS OF BULK AT MOST 1048576: true; the input reads as it did. -/
def natReadsUptoRow : OpenClaim := { program := "ytlhhdlhnpgiamaadoor", sum := "60e359fac3b35d923c9ed94f4427b5d47f816329b3ed0954c9d90885da0fd209", func := "cincture/cincturelaw1.NatReads", spec := "natReads", unfollowed := true, recurses := true, named := ["math/bits.deBruijn32tab"], apart := false, laid := [("math/bits.deBruijn32tab", laid_math_bits_deBruijn32tab)], narrowed := true }
def NatReadsUptoSaid : Prop := natReadsUptoRow.holds Tryd.pinned (OpenSpec.upto natReadsSpec)

/-- 'cincturelaw1.NatTells', WHERE WHAT IT READS IS OF BULK AT MOST 1048576: true; the input reads as it did. -/
def natTellsUptoRow : OpenClaim := { program := "ytlhhdlhnpgiamaadoor", sum := "60e359fac3b35d923c9ed94f4427b5d47f816329b3ed0954c9d90885da0fd209", func := "cincture/cincturelaw1.NatTells", spec := "natTells", unfollowed := true, recurses := true, named := ["math/bits.deBruijn32tab"], apart := false, laid := [("math/bits.deBruijn32tab", laid_math_bits_deBruijn32tab)], narrowed := true }
def NatTellsUptoSaid : Prop := natTellsUptoRow.holds Tryd.pinned (OpenSpec.upto natTellsSpec)

/-- 'cincturelaw1.NatWords', WHERE WHAT IT READS IS OF BULK AT MOST 1048576: true; the input reads as it did. -/
def natWordsUptoRow : OpenClaim := { program := "ytlhhdlhnpgiamaadoor", sum := "60e359fac3b35d923c9ed94f4427b5d47f816329b3ed0954c9d90885da0fd209", func := "cincture/cincturelaw1.NatWords", spec := "natWords", unfollowed := true, recurses := true, named := ["math/bits.deBruijn32tab"], apart := false, laid := [("math/bits.deBruijn32tab", laid_math_bits_deBruijn32tab)], narrowed := true }
def NatWordsUptoSaid : Prop := natWordsUptoRow.holds Tryd.pinned (OpenSpec.upto natWordsSpec)

/-- 'cincturelaw1.NatShifts', WHERE WHAT IT READS IS OF BULK AT MOST 1048576: true; the input reads as it did. -/
def natShiftsUptoRow : OpenClaim := { program := "ytlhhdlhnpgiamaadoor", sum := "60e359fac3b35d923c9ed94f4427b5d47f816329b3ed0954c9d90885da0fd209", func := "cincture/cincturelaw1.NatShifts", spec := "natShifts", unfollowed := true, recurses := true, named := ["math/bits.deBruijn32tab"], apart := false, laid := [("math/bits.deBruijn32tab", laid_math_bits_deBruijn32tab)], narrowed := true }
def NatShiftsUptoSaid : Prop := natShiftsUptoRow.holds Tryd.pinned (OpenSpec.upto natShiftsSpec)

/-- 'cincturelaw1.NatLengths', WHERE WHAT IT READS IS OF BULK AT MOST 1048576: true; the input reads as it did. -/
def natLengthsUptoRow : OpenClaim := { program := "ytlhhdlhnpgiamaadoor", sum := "60e359fac3b35d923c9ed94f4427b5d47f816329b3ed0954c9d90885da0fd209", func := "cincture/cincturelaw1.NatLengths", spec := "natLengths", unfollowed := true, recurses := true, named := ["math/bits.deBruijn32tab"], apart := false, laid := [("math/bits.deBruijn32tab", laid_math_bits_deBruijn32tab)], narrowed := true }
def NatLengthsUptoSaid : Prop := natLengthsUptoRow.holds Tryd.pinned (OpenSpec.upto natLengthsSpec)

/-- 'cincturelaw1.NatRings', WHERE WHAT IT READS IS OF BULK AT MOST 1048576: true; the input reads as it did. -/
def natRingsUptoRow : OpenClaim := { program := "ytlhhdlhnpgiamaadoor", sum := "60e359fac3b35d923c9ed94f4427b5d47f816329b3ed0954c9d90885da0fd209", func := "cincture/cincturelaw1.NatRings", spec := "natRings", unfollowed := true, recurses := true, named := ["math/bits.deBruijn32tab"], apart := false, laid := [("math/bits.deBruijn32tab", laid_math_bits_deBruijn32tab)], narrowed := true }
def NatRingsUptoSaid : Prop := natRingsUptoRow.holds Tryd.pinned (OpenSpec.upto natRingsSpec)

/-- 'cincturelaw1.NatAdds', WHERE WHAT IT READS IS OF BULK AT MOST 1048576: true; the input reads as it did. -/
def natAddsUptoRow : OpenClaim := { program := "ytlhhdlhnpgiamaadoor", sum := "60e359fac3b35d923c9ed94f4427b5d47f816329b3ed0954c9d90885da0fd209", func := "cincture/cincturelaw1.NatAdds", spec := "natAdds", unfollowed := true, recurses := true, named := ["math/bits.deBruijn32tab"], apart := false, laid := [("math/bits.deBruijn32tab", laid_math_bits_deBruijn32tab)], narrowed := true }
def NatAddsUptoSaid : Prop := natAddsUptoRow.holds Tryd.pinned (OpenSpec.upto natAddsSpec)

/-- 'cincturelaw1.NatSquares', WHERE WHAT IT READS IS OF BULK AT MOST 1048576: true; the input reads as it did. -/
def natSquaresUptoRow : OpenClaim := { program := "ytlhhdlhnpgiamaadoor", sum := "60e359fac3b35d923c9ed94f4427b5d47f816329b3ed0954c9d90885da0fd209", func := "cincture/cincturelaw1.NatSquares", spec := "natSquares", unfollowed := true, recurses := true, named := ["math/bits.deBruijn32tab"], apart := false, laid := [("math/bits.deBruijn32tab", laid_math_bits_deBruijn32tab)], narrowed := true }
def NatSquaresUptoSaid : Prop := natSquaresUptoRow.holds Tryd.pinned (OpenSpec.upto natSquaresSpec)

/-- 'cincturelaw1.NatDivides', WHERE WHAT IT READS IS OF BULK AT MOST 1048576: true; the input reads as it did. -/
def natDividesUptoRow : OpenClaim := { program := "ytlhhdlhnpgiamaadoor", sum := "60e359fac3b35d923c9ed94f4427b5d47f816329b3ed0954c9d90885da0fd209", func := "cincture/cincturelaw1.NatDivides", spec := "natDivides", unfollowed := true, recurses := true, named := ["math/bits.deBruijn32tab"], apart := false, laid := [("math/bits.deBruijn32tab", laid_math_bits_deBruijn32tab)], narrowed := true }
def NatDividesUptoSaid : Prop := natDividesUptoRow.holds Tryd.pinned (OpenSpec.upto natDividesSpec)

/-- 'cincturelaw1.NatBack', WHERE WHAT IT READS IS OF BULK AT MOST 1048576: true; the input reads as it did. -/
def natBackUptoRow : OpenClaim := { program := "ytlhhdlhnpgiamaadoor", sum := "60e359fac3b35d923c9ed94f4427b5d47f816329b3ed0954c9d90885da0fd209", func := "cincture/cincturelaw1.NatBack", spec := "natBack", unfollowed := true, recurses := true, named := ["math/bits.deBruijn32tab"], apart := false, laid := [("math/bits.deBruijn32tab", laid_math_bits_deBruijn32tab)], narrowed := true }
def NatBackUptoSaid : Prop := natBackUptoRow.holds Tryd.pinned (OpenSpec.upto natBackSpec)

end Rows
end Go.Proofs.YtlhhdlhnpgiamaaDoor
