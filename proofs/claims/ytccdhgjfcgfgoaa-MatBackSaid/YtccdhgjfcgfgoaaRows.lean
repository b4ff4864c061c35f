/-
  No cell of these rows narrows 'for every input' (looked for: loops, veiled, ifaces, maps, wideKeys, modest, calm, conditions, laid).
  DERIVED. THE GIVEN ROWS OF THIS SEAT. 4 by the template 'for every input the law returns true; each argument reads behind the call as it read before'; 0 by the template 'total and deterministic' (their statements: YtccdhgjfcgfgoaaTotals.lean).
  GIVEN WITH THE SEED: the statements are not yours to turn. If you find one false, say at which input.
  Laid BY PROGRAM, IN A SANDBOX (cutbox-rows.mjs): the forced cells as the released guide's own fill.sh prints them over the translation b6268f8b522a50d5… (all of the seat's roots in one cut). By AI agents, Wed Nov 11 2026. No macro, syntax, notation, axiom, sorry.
-/
import Derived.Test.YtccdhgjfcgfgoaaChecked
import GoSem.Claim
import GoSem.ClaimJoined
import GoSem.ClaimMapViews
import Derived.JoinedTies
import Derived.KernelRfl
namespace Go.Proofs.Ytccdhgjfcgfgoaa
/- THE CELL 'sum', in the pinned program and in every row, IS THE sha256 OF THE DUMP (.gsa) THAT YtccdhgjfcgfgoaaProg.lean LOADS. Nothing in Lean hashes anything: it is a label: what it is worth is what the hold of that sum in a sandbox is worth. -/
noncomputable def Try.pinned : Pinned := { name := "ytccdhgjfcgfgoaa", sum := "b6268f8b522a50d5ea549704bcd36baa54612c7c7b763d8da4c33b3df4735dab", checked := Try.checked }
namespace Rows
def none {H : Type} : Left H := { results := [], args := [] }

/-- 'cincturelaw11.MatTells': WHATEVER THE INPUT: true; the input reads as it did. -/
def matTellsSpec : ChangeSpec := { name := "matTells", fn := fun _ => fun
  | [d] => { results := [.lit (.bool true)], args := [d] }
  | _ => none }
def matTellsRow : OpenClaim := { program := "ytccdhgjfcgfgoaa", sum := "b6268f8b522a50d5ea549704bcd36baa54612c7c7b763d8da4c33b3df4735dab", func := "cincture/cincturelaw11.MatTells", spec := "matTells", inPlace := ["internal/bytealg.IndexByteString", "internal/bytealg.IndexString"], unfollowed := true, recurses := true, named := ["internal/bytealg.MaxLen"], apart := false }
def MatTellsSaid : Prop := matTellsRow.holds Try.pinned (OpenSpec.ofChange matTellsSpec)

/-- ITS FALSE NEIGHBOUR: 'it returns false'. Refute it at one input. -/
def matTellsWrong : ChangeSpec := { name := "matTells", fn := fun _ => fun
  | [d] => { results := [.lit (.bool false)], args := [d] }
  | _ => none }
def MatTellsWrongFalsely : Prop := matTellsRow.holds Try.pinned (OpenSpec.ofChange matTellsWrong)

/-- 'cincturelaw11.MatDets': WHATEVER THE INPUT: true; the input reads as it did. -/
def matDetsSpec : ChangeSpec := { name := "matDets", fn := fun _ => fun
  | [d1, d2, d3, d4] => { results := [.lit (.bool true)], args := [d1, d2, d3, d4] }
  | _ => none }
def matDetsRow : OpenClaim := { program := "ytccdhgjfcgfgoaa", sum := "b6268f8b522a50d5ea549704bcd36baa54612c7c7b763d8da4c33b3df4735dab", func := "cincture/cincturelaw11.MatDets", spec := "matDets", inPlace := ["internal/bytealg.IndexByteString", "internal/bytealg.IndexString"], unfollowed := true, recurses := true, named := ["internal/bytealg.MaxLen"], apart := false }
def MatDetsSaid : Prop := matDetsRow.holds Try.pinned (OpenSpec.ofChange matDetsSpec)

/-- ITS FALSE NEIGHBOUR: 'it returns false'. Refute it at one input. -/
def matDetsWrong : ChangeSpec := { name := "matDets", fn := fun _ => fun
  | [d1, d2, d3, d4] => { results := [.lit (.bool false)], args := [d1, d2, d3, d4] }
  | _ => none }
def MatDetsWrongFalsely : Prop := matDetsRow.holds Try.pinned (OpenSpec.ofChange matDetsWrong)

/-- 'cincturelaw11.MatRings': WHATEVER THE INPUT: true; the input reads as it did. -/
def matRingsSpec : ChangeSpec := { name := "matRings", fn := fun _ => fun
  | [d1, d2, d3] => { results := [.lit (.bool true)], args := [d1, d2, d3] }
  | _ => none }
def matRingsRow : OpenClaim := { program := "ytccdhgjfcgfgoaa", sum := "b6268f8b522a50d5ea549704bcd36baa54612c7c7b763d8da4c33b3df4735dab", func := "cincture/cincturelaw11.MatRings", spec := "matRings", inPlace := ["internal/bytealg.IndexByteString", "internal/bytealg.IndexString"], unfollowed := true, recurses := true, named := ["internal/bytealg.MaxLen"], apart := false }
def MatRingsSaid : Prop := matRingsRow.holds Try.pinned (OpenSpec.ofChange matRingsSpec)

/-- ITS FALSE NEIGHBOUR: 'it returns false'. Refute it at one input. -/
def matRingsWrong : ChangeSpec := { name := "matRings", fn := fun _ => fun
  | [d1, d2, d3] => { results := [.lit (.bool false)], args := [d1, d2, d3] }
  | _ => none }
def MatRingsWrongFalsely : Prop := matRingsRow.holds Try.pinned (OpenSpec.ofChange matRingsWrong)

/-- 'cincturelaw11.MatBack': WHATEVER THE INPUT: true; the input reads as it did. -/
def matBackSpec : ChangeSpec := { name := "matBack", fn := fun _ => fun
  | [d] => { results := [.lit (.bool true)], args := [d] }
  | _ => none }
def matBackRow : OpenClaim := { program := "ytccdhgjfcgfgoaa", sum := "b6268f8b522a50d5ea549704bcd36baa54612c7c7b763d8da4c33b3df4735dab", func := "cincture/cincturelaw11.MatBack", spec := "matBack", inPlace := ["internal/bytealg.IndexByteString", "internal/bytealg.IndexString"], unfollowed := true, recurses := true, named := ["internal/bytealg.MaxLen"], apart := false }
def MatBackSaid : Prop := matBackRow.holds Try.pinned (OpenSpec.ofChange matBackSpec)

/-- ITS FALSE NEIGHBOUR: 'it returns false'. Refute it at one input. -/
def matBackWrong : ChangeSpec := { name := "matBack", fn := fun _ => fun
  | [d] => { results := [.lit (.bool false)], args := [d] }
  | _ => none }
def MatBackWrongFalsely : Prop := matBackRow.holds Try.pinned (OpenSpec.ofChange matBackWrong)

/- THE SECOND FORM. 'bulk': how many values and letters a reading holds, each counted each time it is reached (what is shared counts as often as it is met; a slice's spare places count too). A statement '..UptoSaid' is the law's where the arguments, and the package variables that the reading takes, are together of bulk at most 1048576: NARROWER than '..Said'. Prove '..Said' where nothing that the law and all that it calls make is longer than what came in: it says more and counts as full. Else prove '..UptoSaid'. A law counts once. -/
mutual
def uptoBulk {H : Type} : DataW H → Nat
  | .lit (.string bytes) => bytes.length + 1
  | .lit _ => 1
  | .nil => 1
  | .ptr d => uptoBulk d + 1
  | .slice elems spare => uptoBulkAll elems + uptoBulkAll spare + 1
  | .agg parts => uptoBulkAll parts + 1
  | .iface _ d => uptoBulk d + 1
  | .map entries => uptoBulkEntries entries + 1
  | .held _ => 1
def uptoBulkAll {H : Type} : List (DataW H) → Nat
  | [] => 0
  | d :: r => uptoBulk d + uptoBulkAll r
def uptoBulkEntries {H : Type} : List (Lit × DataW H) → Nat
  | [] => 0
  | x :: r => uptoBulkEntry x + uptoBulkEntries r
def uptoBulkEntry {H : Type} : Lit × DataW H → Nat
  | (.string bytes, d) => bytes.length + uptoBulk d + 1
  | (_, d) => uptoBulk d + 1
 end
def uptoSmall : (H : Type) → List (DataW H) → Bool := fun _ ds => decide (uptoBulkAll ds ≤ 1048576)
def OpenSpec.upto (s : _root_.Go.ChangeSpec) : _root_.Go.OpenSpec := { _root_.Go.OpenSpec.ofChange s with cond := some uptoSmall }

/-- 'cincturelaw11.MatTells', WHERE WHAT IT READS IS OF BULK AT MOST 1048576: true; the input reads as it did. -/
def matTellsUptoRow : OpenClaim := { program := "ytccdhgjfcgfgoaa", sum := "b6268f8b522a50d5ea549704bcd36baa54612c7c7b763d8da4c33b3df4735dab", func := "cincture/cincturelaw11.MatTells", spec := "matTells", inPlace := ["internal/bytealg.IndexByteString", "internal/bytealg.IndexString"], unfollowed := true, recurses := true, named := ["internal/bytealg.MaxLen"], apart := false, narrowed := true }
def MatTellsUptoSaid : Prop := matTellsUptoRow.holds Try.pinned (OpenSpec.upto matTellsSpec)

/-- 'cincturelaw11.MatDets', WHERE WHAT IT READS IS OF BULK AT MOST 1048576: true; the input reads as it did. -/
def matDetsUptoRow : OpenClaim := { program := "ytccdhgjfcgfgoaa", sum := "b6268f8b522a50d5ea549704bcd36baa54612c7c7b763d8da4c33b3df4735dab", func := "cincture/cincturelaw11.MatDets", spec := "matDets", inPlace := ["internal/bytealg.IndexByteString", "internal/bytealg.IndexString"], unfollowed := true, recurses := true, named := ["internal/bytealg.MaxLen"], apart := false, narrowed := true }
def MatDetsUptoSaid : Prop := matDetsUptoRow.holds Try.pinned (OpenSpec.upto matDetsSpec)

/-- 'cincturelaw11.MatRings', WHERE WHAT IT READS IS OF BULK AT MOST 1048576: true; the input reads as it did. -/
def matRingsUptoRow : OpenClaim := { program := "ytccdhgjfcgfgoaa", sum := "b6268f8b522a50d5ea549704bcd36baa54612c7c7b763d8da4c33b3df4735dab", func := "cincture/cincturelaw11.MatRings", spec := "matRings", inPlace := ["internal/bytealg.IndexByteString", "internal/bytealg.IndexString"], unfollowed := true, recurses := true, named := ["internal/bytealg.MaxLen"], apart := false, narrowed := true }
def MatRingsUptoSaid : Prop := matRingsUptoRow.holds Try.pinned (OpenSpec.upto matRingsSpec)

/-- 'cincturelaw11.MatBack', WHERE WHAT IT READS IS OF BULK AT MOST 1048576: true; the input reads as it did. -/
def matBackUptoRow : OpenClaim := { program := "ytccdhgjfcgfgoaa", sum := "b6268f8b522a50d5ea549704bcd36baa54612c7c7b763d8da4c33b3df4735dab", func := "cincture/cincturelaw11.MatBack", spec := "matBack", inPlace := ["internal/bytealg.IndexByteString", "internal/bytealg.IndexString"], unfollowed := true, recurses := true, named := ["internal/bytealg.MaxLen"], apart := false, narrowed := true }
def MatBackUptoSaid : Prop := matBackUptoRow.holds Try.pinned (OpenSpec.upto matBackSpec)

end Rows
end Go.Proofs.Ytccdhgjfcgfgoaa
