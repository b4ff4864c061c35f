/-
  No cell of these rows narrows 'for every input' (looked for: loops, veiled, ifaces, maps, wideKeys, modest, calm, conditions, laid).
  DERIVED. THE GIVEN ROWS OF THIS SEAT. 3 by the template 'for every input the law returns true; each argument reads behind the call as it read before'; 0 by the template 'total and deterministic' (their statements: YtccdhgjfcgfgoaaGreatTotals.lean).
  GIVEN WITH THE SEED: the statements are not yours to turn. If you find one false, say at which input.
  Laid BY PROGRAM, IN A SANDBOX (cutbox-rows.mjs): the forced cells as the released guide's own fill.sh prints them over the translation 266e8c1f9d3333fc… (all of the seat's roots in one cut). By AI agents, Wed Nov 11 2026. No macro, syntax, notation, axiom, sorry.
-/
import Derived.Test.YtccdhgjfcgfgoaaGreatChecked
import GoSem.Claim
import GoSem.ClaimJoined
import GoSem.ClaimMapViews
import Derived.JoinedTies
import Derived.KernelRfl
namespace Go.Proofs.YtccdhgjfcgfgoaaGreat
/- THE CELL 'sum', in the pinned program and in every row, IS THE sha256 OF THE DUMP (.gsa) THAT YtccdhgjfcgfgoaaGreatProg.lean LOADS. Nothing in Lean hashes anything: it is a label: what it is worth is what the hold of that sum in a sandbox is worth. -/
noncomputable def Tryz.pinned : Pinned := { name := "ytccdhgjfcgfgoaagreat", sum := "266e8c1f9d3333fc36106d3f499144484b3243e11b6c3b4d5f58d90bdb77d421", checked := Tryz.checked }
namespace Rows
def none {H : Type} : Left H := { results := [], args := [] }

/-- 'cincturelaw11.MatInverses': WHATEVER THE INPUT: true; the input reads as it did. -/
def matInversesSpec : ChangeSpec := { name := "matInverses", fn := fun _ => fun
  | [d] => { results := [.lit (.bool true)], args := [d] }
  | _ => none }
def matInversesRow : OpenClaim := { program := "ytccdhgjfcgfgoaagreat", sum := "266e8c1f9d3333fc36106d3f499144484b3243e11b6c3b4d5f58d90bdb77d421", func := "cincture/cincturelaw11.MatInverses", spec := "matInverses", inPlace := ["internal/bytealg.IndexByteString", "internal/bytealg.IndexString"], unfollowed := true, recurses := true, named := ["internal/bytealg.MaxLen"], apart := false }
def MatInversesSaid : Prop := matInversesRow.holds Tryz.pinned (OpenSpec.ofChange matInversesSpec)

/-- ITS FALSE NEIGHBOUR: 'it returns false'. Refute it at one input. -/
def matInversesWrong : ChangeSpec := { name := "matInverses", fn := fun _ => fun
  | [d] => { results := [.lit (.bool false)], args := [d] }
  | _ => none }
def MatInversesWrongFalsely : Prop := matInversesRow.holds Tryz.pinned (OpenSpec.ofChange matInversesWrong)

/-- 'cincturelaw11.MatOne': WHATEVER THE INPUT: true; the input reads as it did. -/
def matOneSpec : ChangeSpec := { name := "matOne", fn := fun _ => fun
  | [d1, d2] => { results := [.lit (.bool true)], args := [d1, d2] }
  | _ => none }
def matOneRow : OpenClaim := { program := "ytccdhgjfcgfgoaagreat", sum := "266e8c1f9d3333fc36106d3f499144484b3243e11b6c3b4d5f58d90bdb77d421", func := "cincture/cincturelaw11.MatOne", spec := "matOne", inPlace := ["internal/bytealg.IndexByteString", "internal/bytealg.IndexString"], unfollowed := true, recurses := true, named := ["internal/bytealg.MaxLen"], apart := false }
def MatOneSaid : Prop := matOneRow.holds Tryz.pinned (OpenSpec.ofChange matOneSpec)

/-- ITS FALSE NEIGHBOUR: 'it returns false'. Refute it at one input. -/
def matOneWrong : ChangeSpec := { name := "matOne", fn := fun _ => fun
  | [d1, d2] => { results := [.lit (.bool false)], args := [d1, d2] }
  | _ => none }
def MatOneWrongFalsely : Prop := matOneRow.holds Tryz.pinned (OpenSpec.ofChange matOneWrong)

/-- 'cincturelaw11.MatMuls': WHATEVER THE INPUT: true; the input reads as it did. -/
def matMulsSpec : ChangeSpec := { name := "matMuls", fn := fun _ => fun
  | [d1, d2] => { results := [.lit (.bool true)], args := [d1, d2] }
  | _ => none }
def matMulsRow : OpenClaim := { program := "ytccdhgjfcgfgoaagreat", sum := "266e8c1f9d3333fc36106d3f499144484b3243e11b6c3b4d5f58d90bdb77d421", func := "cincture/cincturelaw11.MatMuls", spec := "matMuls", inPlace := ["internal/bytealg.IndexByteString", "internal/bytealg.IndexString"], unfollowed := true, recurses := true, named := ["internal/bytealg.MaxLen"], apart := false }
def MatMulsSaid : Prop := matMulsRow.holds Tryz.pinned (OpenSpec.ofChange matMulsSpec)

/-- ITS FALSE NEIGHBOUR: 'it returns false'. Refute it at one input. -/
def matMulsWrong : ChangeSpec := { name := "matMuls", fn := fun _ => fun
  | [d1, d2] => { results := [.lit (.bool false)], args := [d1, d2] }
  | _ => none }
def MatMulsWrongFalsely : Prop := matMulsRow.holds Tryz.pinned (OpenSpec.ofChange matMulsWrong)

/- THE SECOND FORM. 'bulk': how many values and letters a reading holds, each counted each time it is reached (what is shared counts as often as it is met; a slice's spare places count too). A statement '..UptoSaid' is the law's where the arguments, and the package variables that the reading takes, are together of bulk at most 1048576: NARROWER than '..Said'. Prove '..Said' where nothing that the law and all that it calls make is longer than what came in: it says more and counts as full. Else prove '..UptoSaid'. A law counts once. -/
mutual
def uptoBulk {H : Type} : DataW H → Nat
  | .lit (.string bytes) => bytes.length + 1
  | .lit _ => 1
  | .nil => 1
  | .ptr d => uptoBulk d + 1
  | .slice elems spare => uptoBulkAll elems + uptoBulkAll spare + 1
  | .agg parts => uptoBulkAll parts + 1
  | .iface _ d => uptoBulk d + 1
  | .map entries => uptoBulkEntries entries + 1
  | .held _ => 1
def uptoBulkAll {H : Type} : List (DataW H) → Nat
  | [] => 0
  | d :: r => uptoBulk d + uptoBulkAll r
def uptoBulkEntries {H : Type} : List (Lit × DataW H) → Nat
  | [] => 0
  | x :: r => uptoBulkEntry x + uptoBulkEntries r
def uptoBulkEntry {H : Type} : Lit × DataW H → Nat
  | (.string bytes, d) => bytes.length + uptoBulk d + 1
  | (_, d) => uptoBulk d + 1
 end
def uptoSmall : (H : Type) → List (DataW H) → Bool := fun _ ds => decide (uptoBulkAll ds ≤ 1048576)
def OpenSpec.upto (s : _root_.Go.ChangeSpec) : _root_.Go.OpenSpec := { _root_.Go.OpenSpec.ofChange s with cond := some uptoSmall }

/-- 'cincturelaw11.MatInverses', WHERE WHAT IT READS IS OF BULK AT MOST 1048576: true; the input reads as it did. -/
def matInversesUptoRow : OpenClaim := { program := "ytccdhgjfcgfgoaagreat", sum := "266e8c1f9d3333fc36106d3f499144484b3243e11b6c3b4d5f58d90bdb77d421", func := "cincture/cincturelaw11.MatInverses", spec := "matInverses", inPlace := ["internal/bytealg.IndexByteString", "internal/bytealg.IndexString"], unfollowed := true, recurses := true, named := ["internal/bytealg.MaxLen"], apart := false, narrowed := true }
def MatInversesUptoSaid : Prop := matInversesUptoRow.holds Tryz.pinned (OpenSpec.upto matInversesSpec)

/-- 'cincturelaw11.MatOne', WHERE WHAT IT READS IS OF BULK AT MOST 1048576: true; the input reads as it did. -/
def matOneUptoRow : OpenClaim := { program := "ytccdhgjfcgfgoaagreat", sum := "266e8c1f9d3333fc36106d3f499144484b3243e11b6c3b4d5f58d90bdb77d421", func := "cincture/cincturelaw11.MatOne", spec := "matOne", inPlace := ["internal/bytealg.IndexByteString", "internal/bytealg.IndexString"], unfollowed := true, recurses := true, named := ["internal/bytealg.MaxLen"], apart := false, narrowed := true }
def MatOneUptoSaid : Prop := matOneUptoRow.holds Tryz.pinned (OpenSpec.upto matOneSpec)

/-- 'cincturelaw11.MatMuls', WHERE WHAT IT READS IS OF BULK AT MOST 1048576: true; the input reads as it did. -/
def matMulsUptoRow : OpenClaim := { program := "ytccdhgjfcgfgoaagreat", sum := "266e8c1f9d3333fc36106d3f499144484b3243e11b6c3b4d5f58d90bdb77d421", func := "cincture/cincturelaw11.MatMuls", spec := "matMuls", inPlace := ["internal/bytealg.IndexByteString", "internal/bytealg.IndexString"], unfollowed := true, recurses := true, named := ["internal/bytealg.MaxLen"], apart := false, narrowed := true }
def MatMulsUptoSaid : Prop := matMulsUptoRow.holds Tryz.pinned (OpenSpec.upto matMulsSpec)

end Rows
end Go.Proofs.YtccdhgjfcgfgoaaGreat
