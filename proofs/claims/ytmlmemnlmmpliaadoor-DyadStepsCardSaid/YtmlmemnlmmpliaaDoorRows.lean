/-
  NARROWER THAN 'FOR EVERY INPUT', by the rows' own cells (each row's printed sentence says how): DyadNews: laid · DyadSteps: laid · DyadNear: laid · DyadTells: laid · DyadParts: laid · DyadMids: laid.
  DERIVED. THE GIVEN ROWS OF THIS SEAT. 6 by the template 'for every input the law returns true; each argument reads behind the call as it read before'; 0 by the template 'total and deterministic' (their statements: YtmlmemnlmmpliaaDoorTotals.lean).
  GIVEN WITH THE SEED: the statements are not yours to turn. If you find one false, say at which input.
  Laid BY PROGRAM, IN A SANDBOX (cutbox-rows.mjs): the forced cells as the released guide's own fill.sh prints them over the translation 99d40d3bfb5b6658… (all of the seat's roots in one cut). By AI agents, Wed Nov 11 2026. No macro, syntax, notation, axiom, sorry.
-/
import Derived.Test.YtmlmemnlmmpliaaDoorChecked
import GoSem.Claim
import GoSem.ClaimJoined
import GoSem.ClaimMapViews
import Derived.JoinedTies
import Derived.KernelRfl
namespace Go.Proofs.YtmlmemnlmmpliaaDoor
/- THE CELL 'sum', in the pinned program and in every row, IS THE sha256 OF THE DUMP (.gsa) THAT YtmlmemnlmmpliaaDoorProg.lean LOADS. Nothing in Lean hashes anything: it is a label: what it is worth is what the hold of that sum in a sandbox is worth. -/
noncomputable def Tryd.pinned : Pinned := { name := "ytmlmemnlmmpliaadoor", sum := "99d40d3bfb5b66581e5d285cd4dd354747092ddbff6ef93243a95e28aab11227", checked := Tryd.checked }
namespace Rows
def none {H : Type} : Left H := { results := [], args := [] }

/- WHAT THE LISTED PACKAGE-LEVEL VARIABLES READ AS WHEN THE CALL BEGINS. Each datum BY PROGRAM (the guide's laid-datum.mjs) off the statement by which the dump's own 'gosem.cut.vars' lays the variable. In a bare row this is a premise. The card (YtmlmemnlmmpliaaDoorCards.lean) ties it to the program's text. -/
def laid_math_bits_deBruijn32tab {H : Type} : DataW H := .agg [.lit (.int .u8 0), .lit (.int .u8 1), .lit (.int .u8 28), .lit (.int .u8 2), .lit (.int .u8 29), .lit (.int .u8 14), .lit (.int .u8 24), .lit (.int .u8 3), .lit (.int .u8 30), .lit (.int .u8 22), .lit (.int .u8 20), .lit (.int .u8 15), .lit (.int .u8 25), .lit (.int .u8 17), .lit (.int .u8 4), .lit (.int .u8 8), .lit (.int .u8 31), .lit (.int .u8 27), .lit (.int .u8 13), .lit (.int .u8 23), .lit (.int .u8 21), .lit (.int .u8 19), .lit (.int .u8 16), .lit (.int .u8 7), .lit (.int .u8 26), .lit (.int .u8 12), .lit (.int .u8 18), .lit (.int .u8 6), .lit (.int .u8 11), .lit (.int .u8 5), .lit (.int .u8 10), .lit (.int .u8 9)]

/-- 'cincturelaw4.DyadNews': WHATEVER THE INPUT: true; the input reads as it did. -/
def dyadNewsSpec : ChangeSpec := { name := "dyadNews", fn := fun _ => fun
  | [d1, d2, d3] => { results := [.lit (.bool true)], args := [d1, d2, d3] }
  | _ => none }
def dyadNewsRow : OpenClaim := { program := "ytmlmemnlmmpliaadoor", sum := "99d40d3bfb5b66581e5d285cd4dd354747092ddbff6ef93243a95e28aab11227", func := "cincture/cincturelaw4.DyadNews", spec := "dyadNews", inPlace := ["internal/bytealg.IndexByteString", "internal/bytealg.IndexString"], unfollowed := true, recurses := true, named := ["internal/bytealg.MaxLen", "math/bits.deBruijn32tab"], apart := false, laid := [("math/bits.deBruijn32tab", laid_math_bits_deBruijn32tab)] }
def DyadNewsSaid : Prop := dyadNewsRow.holds Tryd.pinned (OpenSpec.ofChange dyadNewsSpec)

/-- ITS FALSE NEIGHBOUR: 'it returns false'. Refute it at one input. -/
def dyadNewsWrong : ChangeSpec := { name := "dyadNews", fn := fun _ => fun
  | [d1, d2, d3] => { results := [.lit (.bool false)], args := [d1, d2, d3] }
  | _ => none }
def DyadNewsWrongFalsely : Prop := dyadNewsRow.holds Tryd.pinned (OpenSpec.ofChange dyadNewsWrong)

/-- 'cincturelaw4.DyadSteps': WHATEVER THE INPUT: true; the input reads as it did. -/
def dyadStepsSpec : ChangeSpec := { name := "dyadSteps", fn := fun _ => fun
  | [d1, d2] => { results := [.lit (.bool true)], args := [d1, d2] }
  | _ => none }
def dyadStepsRow : OpenClaim := { program := "ytmlmemnlmmpliaadoor", sum := "99d40d3bfb5b66581e5d285cd4dd354747092ddbff6ef93243a95e28aab11227", func := "cincture/cincturelaw4.DyadSteps", spec := "dyadSteps", inPlace := ["internal/bytealg.IndexByteString", "internal/bytealg.IndexString"], unfollowed := true, recurses := true, named := ["internal/bytealg.MaxLen", "math/bits.deBruijn32tab"], apart := false, laid := [("math/bits.deBruijn32tab", laid_math_bits_deBruijn32tab)] }
def DyadStepsSaid : Prop := dyadStepsRow.holds Tryd.pinned (OpenSpec.ofChange dyadStepsSpec)

/-- ITS FALSE NEIGHBOUR: 'it returns false'. Refute it at one input. -/
def dyadStepsWrong : ChangeSpec := { name := "dyadSteps", fn := fun _ => fun
  | [d1, d2] => { results := [.lit (.bool false)], args := [d1, d2] }
  | _ => none }
def DyadStepsWrongFalsely : Prop := dyadStepsRow.holds Tryd.pinned (OpenSpec.ofChange dyadStepsWrong)

/-- 'cincturelaw4.DyadNear': WHATEVER THE INPUT: true; the input reads as it did. -/
def dyadNearSpec : ChangeSpec := { name := "dyadNear", fn := fun _ => fun
  | [d1, d2] => { results := [.lit (.bool true)], args := [d1, d2] }
  | _ => none }
def dyadNearRow : OpenClaim := { program := "ytmlmemnlmmpliaadoor", sum := "99d40d3bfb5b66581e5d285cd4dd354747092ddbff6ef93243a95e28aab11227", func := "cincture/cincturelaw4.DyadNear", spec := "dyadNear", inPlace := ["internal/bytealg.IndexByteString", "internal/bytealg.IndexString"], unfollowed := true, recurses := true, named := ["internal/bytealg.MaxLen", "math/bits.deBruijn32tab"], apart := false, laid := [("math/bits.deBruijn32tab", laid_math_bits_deBruijn32tab)] }
def DyadNearSaid : Prop := dyadNearRow.holds Tryd.pinned (OpenSpec.ofChange dyadNearSpec)

/-- ITS FALSE NEIGHBOUR: 'it returns false'. Refute it at one input. -/
def dyadNearWrong : ChangeSpec := { name := "dyadNear", fn := fun _ => fun
  | [d1, d2] => { results := [.lit (.bool false)], args := [d1, d2] }
  | _ => none }
def DyadNearWrongFalsely : Prop := dyadNearRow.holds Tryd.pinned (OpenSpec.ofChange dyadNearWrong)

/-- 'cincturelaw4.DyadTells': WHATEVER THE INPUT: true; the input reads as it did. -/
def dyadTellsSpec : ChangeSpec := { name := "dyadTells", fn := fun _ => fun
  | [d] => { results := [.lit (.bool true)], args := [d] }
  | _ => none }
def dyadTellsRow : OpenClaim := { program := "ytmlmemnlmmpliaadoor", sum := "99d40d3bfb5b66581e5d285cd4dd354747092ddbff6ef93243a95e28aab11227", func := "cincture/cincturelaw4.DyadTells", spec := "dyadTells", inPlace := ["internal/bytealg.IndexByteString", "internal/bytealg.IndexString"], unfollowed := true, recurses := true, named := ["internal/bytealg.MaxLen", "math/bits.deBruijn32tab"], apart := false, laid := [("math/bits.deBruijn32tab", laid_math_bits_deBruijn32tab)] }
def DyadTellsSaid : Prop := dyadTellsRow.holds Tryd.pinned (OpenSpec.ofChange dyadTellsSpec)

/-- ITS FALSE NEIGHBOUR: 'it returns false'. Refute it at one input. -/
def dyadTellsWrong : ChangeSpec := { name := "dyadTells", fn := fun _ => fun
  | [d] => { results := [.lit (.bool false)], args := [d] }
  | _ => none }
def DyadTellsWrongFalsely : Prop := dyadTellsRow.holds Tryd.pinned (OpenSpec.ofChange dyadTellsWrong)

/-- 'cincturelaw4.DyadParts': WHATEVER THE INPUT: true; the input reads as it did. -/
def dyadPartsSpec : ChangeSpec := { name := "dyadParts", fn := fun _ => fun
  | [d] => { results := [.lit (.bool true)], args := [d] }
  | _ => none }
def dyadPartsRow : OpenClaim := { program := "ytmlmemnlmmpliaadoor", sum := "99d40d3bfb5b66581e5d285cd4dd354747092ddbff6ef93243a95e28aab11227", func := "cincture/cincturelaw4.DyadParts", spec := "dyadParts", inPlace := ["internal/bytealg.IndexByteString", "internal/bytealg.IndexString"], unfollowed := true, recurses := true, named := ["internal/bytealg.MaxLen", "math/bits.deBruijn32tab"], apart := false, laid := [("math/bits.deBruijn32tab", laid_math_bits_deBruijn32tab)] }
def DyadPartsSaid : Prop := dyadPartsRow.holds Tryd.pinned (OpenSpec.ofChange dyadPartsSpec)

/-- ITS FALSE NEIGHBOUR: 'it returns false'. Refute it at one input. -/
def dyadPartsWrong : ChangeSpec := { name := "dyadParts", fn := fun _ => fun
  | [d] => { results := [.lit (.bool false)], args := [d] }
  | _ => none }
def DyadPartsWrongFalsely : Prop := dyadPartsRow.holds Tryd.pinned (OpenSpec.ofChange dyadPartsWrong)

/-- 'cincturelaw4.DyadMids': WHATEVER THE INPUT: true; the input reads as it did. -/
def dyadMidsSpec : ChangeSpec := { name := "dyadMids", fn := fun _ => fun
  | [d1, d2] => { results := [.lit (.bool true)], args := [d1, d2] }
  | _ => none }
def dyadMidsRow : OpenClaim := { program := "ytmlmemnlmmpliaadoor", sum := "99d40d3bfb5b66581e5d285cd4dd354747092ddbff6ef93243a95e28aab11227", func := "cincture/cincturelaw4.DyadMids", spec := "dyadMids", inPlace := ["internal/bytealg.IndexByteString", "internal/bytealg.IndexString"], unfollowed := true, recurses := true, named := ["internal/bytealg.MaxLen", "math/bits.deBruijn32tab"], apart := false, laid := [("math/bits.deBruijn32tab", laid_math_bits_deBruijn32tab)] }
def DyadMidsSaid : Prop := dyadMidsRow.holds Tryd.pinned (OpenSpec.ofChange dyadMidsSpec)

/-- ITS FALSE NEIGHBOUR: 'it returns false'. Refute it at one input. -/
def dyadMidsWrong : ChangeSpec := { name := "dyadMids", fn := fun _ => fun
  | [d1, d2] => { results := [.lit (.bool false)], args := [d1, d2] }
  | _ => none }
def DyadMidsWrongFalsely : Prop := dyadMidsRow.holds Tryd.pinned (OpenSpec.ofChange dyadMidsWrong)

/- THE SECOND FORM. 'bulk': how many values and letters a reading holds, each counted each time it is reached (what is shared counts as often as it is met; a slice's spare places count too). A statement '..UptoSaid' is the law's where the arguments, and the package variables that the reading takes, are together of bulk at most 1048576: NARROWER than '..Said'. Prove '..Said' where nothing that the law and all that it calls make is longer than what came in: it says more and counts as full. Else prove '..UptoSaid'. A law counts once. -/
mutual
def uptoBulk {H : Type} : DataW H → Nat
  | .lit (.string bytes) => bytes.length + 1
  | .lit _ => 1
  | .nil => 1
  | .ptr d => uptoBulk d + 1
  | .slice elems spare => uptoBulkAll elems + uptoBulkAll spare + 1
  | .agg parts => uptoBulkAll parts + 1
  | .iface _ d => uptoBulk d + 1
  | .map entries => uptoBulkEntries entries + 1
  | .held _ => 1
def uptoBulkAll {H : Type} : List (DataW H) → Nat
  | [] => 0
  | d :: r => uptoBulk d + uptoBulkAll r
def uptoBulkEntries {H : Type} : List (Lit × DataW H) → Nat
  | [] => 0
  | x :: r => uptoBulkEntry x + uptoBulkEntries r
def uptoBulkEntry {H : Type} : Lit × DataW H → Nat
  | (.string bytes, d) => bytes.length + uptoBulk d + 1
  | (_, d) => uptoBulk d + 1
 end
def uptoSmall : (H : Type) → List (DataW H) → Bool := fun _ ds => decide (uptoBulkAll ds ≤ 1048576)
def OpenSpec.upto (s : _root_.Go.ChangeSpec) : _root_.Go.OpenSpec := { _root_.Go.OpenSpec.ofChange s with cond := some uptoSmall }

/-- 'cincturelaw4.DyadNews', WHERE WHAT IT READS IS OF BULK AT MOST 1048576: true; the input reads as it did. -/
def dyadNewsUptoRow : OpenClaim := { program := "ytmlmemnlmmpliaadoor", sum := "99d40d3bfb5b66581e5d285cd4dd354747092ddbff6ef93243a95e28aab11227", func := "cincture/cincturelaw4.DyadNews", spec := "dyadNews", inPlace := ["internal/bytealg.IndexByteString", "internal/bytealg.IndexString"], unfollowed := true, recurses := true, named := ["internal/bytealg.MaxLen", "math/bits.deBruijn32tab"], apart := false, laid := [("math/bits.deBruijn32tab", laid_math_bits_deBruijn32tab)], narrowed := true }
def DyadNewsUptoSaid : Prop := dyadNewsUptoRow.holds Tryd.pinned (OpenSpec.upto dyadNewsSpec)

/-- 'cincturelaw4.DyadSteps', WHERE WHAT IT READS IS OF BULK AT MOST 1048576: true; the input reads as it did. -/
def dyadStepsUptoRow : OpenClaim := { program := "ytmlmemnlmmpliaadoor", sum := "99d40d3bfb5b66581e5d285cd4dd354747092ddbff6ef93243a95e28aab11227", func := "cincture/cincturelaw4.DyadSteps", spec := "dyadSteps", inPlace := ["internal/bytealg.IndexByteString", "internal/bytealg.IndexString"], unfollowed := true, recurses := true, named := ["internal/bytealg.MaxLen", "math/bits.deBruijn32tab"], apart := false, laid := [("math/bits.deBruijn32tab", laid_math_bits_deBruijn32tab)], narrowed := true }
def DyadStepsUptoSaid : Prop := dyadStepsUptoRow.holds Tryd.pinned (OpenSpec.upto dyadStepsSpec)

/-- 'cincturelaw4.DyadNear', WHERE WHAT IT READS IS OF BULK AT MOST 1048576: true; the input reads as it did. -/
def dyadNearUptoRow : OpenClaim := { program := "ytmlmemnlmmpliaadoor", sum := "99d40d3bfb5b66581e5d285cd4dd354747092ddbff6ef93243a95e28aab11227", func := "cincture/cincturelaw4.DyadNear", spec := "dyadNear", inPlace := ["internal/bytealg.IndexByteString", "internal/bytealg.IndexString"], unfollowed := true, recurses := true, named := ["internal/bytealg.MaxLen", "math/bits.deBruijn32tab"], apart := false, laid := [("math/bits.deBruijn32tab", laid_math_bits_deBruijn32tab)], narrowed := true }
def DyadNearUptoSaid : Prop := dyadNearUptoRow.holds Tryd.pinned (OpenSpec.upto dyadNearSpec)

/-- 'cincturelaw4.DyadTells', WHERE WHAT IT READS IS OF BULK AT MOST 1048576: true; the input reads as it did. -/
def dyadTellsUptoRow : OpenClaim := { program := "ytmlmemnlmmpliaadoor", sum := "99d40d3bfb5b66581e5d285cd4dd354747092ddbff6ef93243a95e28aab11227", func := "cincture/cincturelaw4.DyadTells", spec := "dyadTells", inPlace := ["internal/bytealg.IndexByteString", "internal/bytealg.IndexString"], unfollowed := true, recurses := true, named := ["internal/bytealg.MaxLen", "math/bits.deBruijn32tab"], apart := false, laid := [("math/bits.deBruijn32tab", laid_math_bits_deBruijn32tab)], narrowed := true }
def DyadTellsUptoSaid : Prop := dyadTellsUptoRow.holds Tryd.pinned (OpenSpec.upto dyadTellsSpec)

/-- 'cincturelaw4.DyadParts', WHERE WHAT IT READS IS OF BULK AT MOST 1048576: true; the input reads as it did. -/
def dyadPartsUptoRow : OpenClaim := { program := "ytmlmemnlmmpliaadoor", sum := "99d40d3bfb5b66581e5d285cd4dd354747092ddbff6ef93243a95e28aab11227", func := "cincture/cincturelaw4.DyadParts", spec := "dyadParts", inPlace := ["internal/bytealg.IndexByteString", "internal/bytealg.IndexString"], unfollowed := true, recurses := true, named := ["internal/bytealg.MaxLen", "math/bits.deBruijn32tab"], apart := false, laid := [("math/bits.deBruijn32tab", laid_math_bits_deBruijn32tab)], narrowed := true }
def DyadPartsUptoSaid : Prop := dyadPartsUptoRow.holds Tryd.pinned (OpenSpec.upto dyadPartsSpec)

/-- 'cincturelaw4.DyadMids', WHERE WHAT IT READS IS OF BULK AT MOST 1048576: true; the input reads as it did. -/
def dyadMidsUptoRow : OpenClaim := { program := "ytmlmemnlmmpliaadoor", sum := "99d40d3bfb5b66581e5d285cd4dd354747092ddbff6ef93243a95e28aab11227", func := "cincture/cincturelaw4.DyadMids", spec := "dyadMids", inPlace := ["internal/bytealg.IndexByteString", "internal/bytealg.IndexString"], unfollowed := true, recurses := true, named := ["internal/bytealg.MaxLen", "math/bits.deBruijn32tab"], apart := false, laid := [("math/bits.deBruijn32tab", laid_math_bits_deBruijn32tab)], narrowed := true }
def DyadMidsUptoSaid : Prop := dyadMidsUptoRow.holds Tryd.pinned (OpenSpec.upto dyadMidsSpec)

end Rows
end Go.Proofs.YtmlmemnlmmpliaaDoor
