/-
  No cell of these rows narrows 'for every input' (looked for: loops, veiled, ifaces, maps, wideKeys, modest, calm, conditions, laid).
  DERIVED. THE GIVEN ROWS OF THIS SEAT. 9 by the template 'for every input the law returns true; each argument reads behind the call as it read before'; 0 by the template 'total and deterministic' (their statements: YtepnmenidnjikaaTotals.lean).
  GIVEN WITH THE SEED: the statements are not yours to turn. If you find one false, say at which input.
  Laid BY PROGRAM, IN A SANDBOX (cutbox-rows.mjs): the forced cells as the released guide's own fill.sh prints them over the translation 98c7fc72dfeaf3c9… (all of the seat's roots in one cut). By AI agents, Wed Nov 11 2026. No macro, syntax, notation, axiom, sorry.
-/
import Derived.Test.YtepnmenidnjikaaChecked
import GoSem.Claim
import GoSem.ClaimJoined
import GoSem.ClaimMapViews
import Derived.JoinedTies
import Derived.KernelRfl
namespace Go.Proofs.Ytepnmenidnjikaa
/- THE CELL 'sum', in the pinned program and in every row, IS THE sha256 OF THE DUMP (.gsa) THAT YtepnmenidnjikaaProg.lean LOADS. Nothing in Lean hashes anything: it is a label: what it is worth is what the hold of that sum in a sandbox is worth. -/
noncomputable def Try.pinned : Pinned := { name := "ytepnmenidnjikaa", sum := "98c7fc72dfeaf3c91f623f2b1d7d6de01ea950fca731c2157405717d901025e0", checked := Try.checked }
namespace Rows
def none {H : Type} : Left H := { results := [], args := [] }

/-- 'cincturelaw3.RatTells': WHATEVER THE INPUT: true; the input reads as it did. -/
def ratTellsSpec : ChangeSpec := { name := "ratTells", fn := fun _ => fun
  | [d] => { results := [.lit (.bool true)], args := [d] }
  | _ => none }
def ratTellsRow : OpenClaim := { program := "ytepnmenidnjikaa", sum := "98c7fc72dfeaf3c91f623f2b1d7d6de01ea950fca731c2157405717d901025e0", func := "cincture/cincturelaw3.RatTells", spec := "ratTells", inPlace := ["internal/bytealg.IndexByteString", "internal/bytealg.IndexString"], unfollowed := true, recurses := true, named := ["internal/bytealg.MaxLen"], apart := false }
def RatTellsSaid : Prop := ratTellsRow.holds Try.pinned (OpenSpec.ofChange ratTellsSpec)

/-- ITS FALSE NEIGHBOUR: 'it returns false'. Refute it at one input. -/
def ratTellsWrong : ChangeSpec := { name := "ratTells", fn := fun _ => fun
  | [d] => { results := [.lit (.bool false)], args := [d] }
  | _ => none }
def RatTellsWrongFalsely : Prop := ratTellsRow.holds Try.pinned (OpenSpec.ofChange ratTellsWrong)

/-- 'cincturelaw3.RatNews': WHATEVER THE INPUT: true; the input reads as it did. -/
def ratNewsSpec : ChangeSpec := { name := "ratNews", fn := fun _ => fun
  | [d1, d2] => { results := [.lit (.bool true)], args := [d1, d2] }
  | _ => none }
def ratNewsRow : OpenClaim := { program := "ytepnmenidnjikaa", sum := "98c7fc72dfeaf3c91f623f2b1d7d6de01ea950fca731c2157405717d901025e0", func := "cincture/cincturelaw3.RatNews", spec := "ratNews", inPlace := ["internal/bytealg.IndexByteString", "internal/bytealg.IndexString"], unfollowed := true, recurses := true, named := ["internal/bytealg.MaxLen"], apart := false }
def RatNewsSaid : Prop := ratNewsRow.holds Try.pinned (OpenSpec.ofChange ratNewsSpec)

/-- ITS FALSE NEIGHBOUR: 'it returns false'. Refute it at one input. -/
def ratNewsWrong : ChangeSpec := { name := "ratNews", fn := fun _ => fun
  | [d1, d2] => { results := [.lit (.bool false)], args := [d1, d2] }
  | _ => none }
def RatNewsWrongFalsely : Prop := ratNewsRow.holds Try.pinned (OpenSpec.ofChange ratNewsWrong)

/-- 'cincturelaw3.RatAdds': WHATEVER THE INPUT: true; the input reads as it did. -/
def ratAddsSpec : ChangeSpec := { name := "ratAdds", fn := fun _ => fun
  | [d1, d2] => { results := [.lit (.bool true)], args := [d1, d2] }
  | _ => none }
def ratAddsRow : OpenClaim := { program := "ytepnmenidnjikaa", sum := "98c7fc72dfeaf3c91f623f2b1d7d6de01ea950fca731c2157405717d901025e0", func := "cincture/cincturelaw3.RatAdds", spec := "ratAdds", inPlace := ["internal/bytealg.IndexByteString", "internal/bytealg.IndexString"], unfollowed := true, recurses := true, named := ["internal/bytealg.MaxLen"], apart := false }
def RatAddsSaid : Prop := ratAddsRow.holds Try.pinned (OpenSpec.ofChange ratAddsSpec)

/-- ITS FALSE NEIGHBOUR: 'it returns false'. Refute it at one input. -/
def ratAddsWrong : ChangeSpec := { name := "ratAdds", fn := fun _ => fun
  | [d1, d2] => { results := [.lit (.bool false)], args := [d1, d2] }
  | _ => none }
def RatAddsWrongFalsely : Prop := ratAddsRow.holds Try.pinned (OpenSpec.ofChange ratAddsWrong)

/-- 'cincturelaw3.RatPows': WHATEVER THE INPUT: true; the input reads as it did. -/
def ratPowsSpec : ChangeSpec := { name := "ratPows", fn := fun _ => fun
  | [d1, d2] => { results := [.lit (.bool true)], args := [d1, d2] }
  | _ => none }
def ratPowsRow : OpenClaim := { program := "ytepnmenidnjikaa", sum := "98c7fc72dfeaf3c91f623f2b1d7d6de01ea950fca731c2157405717d901025e0", func := "cincture/cincturelaw3.RatPows", spec := "ratPows", inPlace := ["internal/bytealg.IndexByteString", "internal/bytealg.IndexString"], unfollowed := true, recurses := true, named := ["internal/bytealg.MaxLen"], apart := false }
def RatPowsSaid : Prop := ratPowsRow.holds Try.pinned (OpenSpec.ofChange ratPowsSpec)

/-- ITS FALSE NEIGHBOUR: 'it returns false'. Refute it at one input. -/
def ratPowsWrong : ChangeSpec := { name := "ratPows", fn := fun _ => fun
  | [d1, d2] => { results := [.lit (.bool false)], args := [d1, d2] }
  | _ => none }
def RatPowsWrongFalsely : Prop := ratPowsRow.holds Try.pinned (OpenSpec.ofChange ratPowsWrong)

/-- 'cincturelaw3.RatOrders': WHATEVER THE INPUT: true; the input reads as it did. -/
def ratOrdersSpec : ChangeSpec := { name := "ratOrders", fn := fun _ => fun
  | [d1, d2, d3] => { results := [.lit (.bool true)], args := [d1, d2, d3] }
  | _ => none }
def ratOrdersRow : OpenClaim := { program := "ytepnmenidnjikaa", sum := "98c7fc72dfeaf3c91f623f2b1d7d6de01ea950fca731c2157405717d901025e0", func := "cincture/cincturelaw3.RatOrders", spec := "ratOrders", inPlace := ["internal/bytealg.IndexByteString", "internal/bytealg.IndexString"], unfollowed := true, recurses := true, named := ["internal/bytealg.MaxLen"], apart := false }
def RatOrdersSaid : Prop := ratOrdersRow.holds Try.pinned (OpenSpec.ofChange ratOrdersSpec)

/-- ITS FALSE NEIGHBOUR: 'it returns false'. Refute it at one input. -/
def ratOrdersWrong : ChangeSpec := { name := "ratOrders", fn := fun _ => fun
  | [d1, d2, d3] => { results := [.lit (.bool false)], args := [d1, d2, d3] }
  | _ => none }
def RatOrdersWrongFalsely : Prop := ratOrdersRow.holds Try.pinned (OpenSpec.ofChange ratOrdersWrong)

/-- 'cincturelaw3.RatDivides': WHATEVER THE INPUT: true; the input reads as it did. -/
def ratDividesSpec : ChangeSpec := { name := "ratDivides", fn := fun _ => fun
  | [d1, d2] => { results := [.lit (.bool true)], args := [d1, d2] }
  | _ => none }
def ratDividesRow : OpenClaim := { program := "ytepnmenidnjikaa", sum := "98c7fc72dfeaf3c91f623f2b1d7d6de01ea950fca731c2157405717d901025e0", func := "cincture/cincturelaw3.RatDivides", spec := "ratDivides", inPlace := ["internal/bytealg.IndexByteString", "internal/bytealg.IndexString"], unfollowed := true, recurses := true, named := ["internal/bytealg.MaxLen"], apart := false }
def RatDividesSaid : Prop := ratDividesRow.holds Try.pinned (OpenSpec.ofChange ratDividesSpec)

/-- ITS FALSE NEIGHBOUR: 'it returns false'. Refute it at one input. -/
def ratDividesWrong : ChangeSpec := { name := "ratDivides", fn := fun _ => fun
  | [d1, d2] => { results := [.lit (.bool false)], args := [d1, d2] }
  | _ => none }
def RatDividesWrongFalsely : Prop := ratDividesRow.holds Try.pinned (OpenSpec.ofChange ratDividesWrong)

/-- 'cincturelaw3.RatFields': WHATEVER THE INPUT: true; the input reads as it did. -/
def ratFieldsSpec : ChangeSpec := { name := "ratFields", fn := fun _ => fun
  | [d1, d2, d3] => { results := [.lit (.bool true)], args := [d1, d2, d3] }
  | _ => none }
def ratFieldsRow : OpenClaim := { program := "ytepnmenidnjikaa", sum := "98c7fc72dfeaf3c91f623f2b1d7d6de01ea950fca731c2157405717d901025e0", func := "cincture/cincturelaw3.RatFields", spec := "ratFields", inPlace := ["internal/bytealg.IndexByteString", "internal/bytealg.IndexString"], unfollowed := true, recurses := true, named := ["internal/bytealg.MaxLen"], apart := false }
def RatFieldsSaid : Prop := ratFieldsRow.holds Try.pinned (OpenSpec.ofChange ratFieldsSpec)

/-- ITS FALSE NEIGHBOUR: 'it returns false'. Refute it at one input. -/
def ratFieldsWrong : ChangeSpec := { name := "ratFields", fn := fun _ => fun
  | [d1, d2, d3] => { results := [.lit (.bool false)], args := [d1, d2, d3] }
  | _ => none }
def RatFieldsWrongFalsely : Prop := ratFieldsRow.holds Try.pinned (OpenSpec.ofChange ratFieldsWrong)

/-- 'cincturelaw3.RatLeast': WHATEVER THE INPUT: true; the input reads as it did. -/
def ratLeastSpec : ChangeSpec := { name := "ratLeast", fn := fun _ => fun
  | [d1, d2] => { results := [.lit (.bool true)], args := [d1, d2] }
  | _ => none }
def ratLeastRow : OpenClaim := { program := "ytepnmenidnjikaa", sum := "98c7fc72dfeaf3c91f623f2b1d7d6de01ea950fca731c2157405717d901025e0", func := "cincture/cincturelaw3.RatLeast", spec := "ratLeast", inPlace := ["internal/bytealg.IndexByteString", "internal/bytealg.IndexString"], unfollowed := true, recurses := true, named := ["internal/bytealg.MaxLen"], apart := false }
def RatLeastSaid : Prop := ratLeastRow.holds Try.pinned (OpenSpec.ofChange ratLeastSpec)

/-- ITS FALSE NEIGHBOUR: 'it returns false'. Refute it at one input. -/
def ratLeastWrong : ChangeSpec := { name := "ratLeast", fn := fun _ => fun
  | [d1, d2] => { results := [.lit (.bool false)], args := [d1, d2] }
  | _ => none }
def RatLeastWrongFalsely : Prop := ratLeastRow.holds Try.pinned (OpenSpec.ofChange ratLeastWrong)

/-- 'cincturelaw3.RatFloors': WHATEVER THE INPUT: true; the input reads as it did. -/
def ratFloorsSpec : ChangeSpec := { name := "ratFloors", fn := fun _ => fun
  | [d] => { results := [.lit (.bool true)], args := [d] }
  | _ => none }
def ratFloorsRow : OpenClaim := { program := "ytepnmenidnjikaa", sum := "98c7fc72dfeaf3c91f623f2b1d7d6de01ea950fca731c2157405717d901025e0", func := "cincture/cincturelaw3.RatFloors", spec := "ratFloors", inPlace := ["internal/bytealg.IndexByteString", "internal/bytealg.IndexString"], unfollowed := true, recurses := true, named := ["internal/bytealg.MaxLen"], apart := false }
def RatFloorsSaid : Prop := ratFloorsRow.holds Try.pinned (OpenSpec.ofChange ratFloorsSpec)

/-- ITS FALSE NEIGHBOUR: 'it returns false'. Refute it at one input. -/
def ratFloorsWrong : ChangeSpec := { name := "ratFloors", fn := fun _ => fun
  | [d] => { results := [.lit (.bool false)], args := [d] }
  | _ => none }
def RatFloorsWrongFalsely : Prop := ratFloorsRow.holds Try.pinned (OpenSpec.ofChange ratFloorsWrong)

/- THE SECOND FORM. 'bulk': how many values and letters a reading holds, each counted each time it is reached (what is shared counts as often as it is met; a slice's spare places count too). A statement '..UptoSaid' is the law's where the arguments, and the package variables that the reading takes, are together of bulk at most 1048576: NARROWER than '..Said'. Prove '..Said' where nothing that the law and all that it calls make is longer than what came in: it says more and counts as full. Else prove '..UptoSaid'. A law counts once. -/
mutual
def uptoBulk {H : Type} : DataW H → Nat
  | .lit (.string bytes) => bytes.length + 1
  | .lit _ => 1
  | .nil => 1
  | .ptr d => uptoBulk d + 1
  | .slice elems spare => uptoBulkAll elems + uptoBulkAll spare + 1
  | .agg parts => uptoBulkAll parts + 1
  | .iface _ d => uptoBulk d + 1
  | .map entries => uptoBulkEntries entries + 1
  | .held _ => 1
def uptoBulkAll {H : Type} : List (DataW H) → Nat
  | [] => 0
  | d :: r => uptoBulk d + uptoBulkAll r
def uptoBulkEntries {H : Type} : List (Lit × DataW H) → Nat
  | [] => 0
  | x :: r => uptoBulkEntry x + uptoBulkEntries r
def uptoBulkEntry {H : Type} : Lit × DataW H → Nat
  | (.string bytes, d) => bytes.length + uptoBulk d + 1
  | (_, d) => uptoBulk d + 1
 end
def uptoSmall : (H : Type) → List (DataW H) → Bool := fun _ ds => decide (uptoBulkAll ds ≤ 1048576)
def OpenSpec.upto (s : _root_.Go.ChangeSpec) : _root_.Go.OpenSpec := { _root_.Go.OpenSpec.ofChange s with cond := some uptoSmall }

/-- 'cincturelaw3.RatTells', WHERE WHAT IT READS IS OF BULK AT MOST 1048576: true; the input reads as it did. -/
def ratTellsUptoRow : OpenClaim := { program := "ytepnmenidnjikaa", sum := "98c7fc72dfeaf3c91f623f2b1d7d6de01ea950fca731c2157405717d901025e0", func := "cincture/cincturelaw3.RatTells", spec := "ratTells", inPlace := ["internal/bytealg.IndexByteString", "internal/bytealg.IndexString"], unfollowed := true, recurses := true, named := ["internal/bytealg.MaxLen"], apart := false, narrowed := true }
def RatTellsUptoSaid : Prop := ratTellsUptoRow.holds Try.pinned (OpenSpec.upto ratTellsSpec)

/-- 'cincturelaw3.RatNews', WHERE WHAT IT READS IS OF BULK AT MOST 1048576: true; the input reads as it did. -/
def ratNewsUptoRow : OpenClaim := { program := "ytepnmenidnjikaa", sum := "98c7fc72dfeaf3c91f623f2b1d7d6de01ea950fca731c2157405717d901025e0", func := "cincture/cincturelaw3.RatNews", spec := "ratNews", inPlace := ["internal/bytealg.IndexByteString", "internal/bytealg.IndexString"], unfollowed := true, recurses := true, named := ["internal/bytealg.MaxLen"], apart := false, narrowed := true }
def RatNewsUptoSaid : Prop := ratNewsUptoRow.holds Try.pinned (OpenSpec.upto ratNewsSpec)

/-- 'cincturelaw3.RatAdds', WHERE WHAT IT READS IS OF BULK AT MOST 1048576: true; the input reads as it did. -/
def ratAddsUptoRow : OpenClaim := { program := "ytepnmenidnjikaa", sum := "98c7fc72dfeaf3c91f623f2b1d7d6de01ea950fca731c2157405717d901025e0", func := "cincture/cincturelaw3.RatAdds", spec := "ratAdds", inPlace := ["internal/bytealg.IndexByteString", "internal/bytealg.IndexString"], unfollowed := true, recurses := true, named := ["internal/bytealg.MaxLen"], apart := false, narrowed := true }
def RatAddsUptoSaid : Prop := ratAddsUptoRow.holds Try.pinned (OpenSpec.upto ratAddsSpec)

/-- 'cincturelaw3.RatPows', WHERE WHAT IT READS IS OF BULK AT MOST 1048576: true; the input reads as it did. -/
def ratPowsUptoRow : OpenClaim := { program := "ytepnmenidnjikaa", sum := "98c7fc72dfeaf3c91f623f2b1d7d6de01ea950fca731c2157405717d901025e0", func := "cincture/cincturelaw3.RatPows", spec := "ratPows", inPlace := ["internal/bytealg.IndexByteString", "internal/bytealg.IndexString"], unfollowed := true, recurses := true, named := ["internal/bytealg.MaxLen"], apart := false, narrowed := true }
def RatPowsUptoSaid : Prop := ratPowsUptoRow.holds Try.pinned (OpenSpec.upto ratPowsSpec)

/-- 'cincturelaw3.RatOrders', WHERE WHAT IT READS IS OF BULK AT MOST 1048576: true; the input reads as it did. -/
def ratOrdersUptoRow : OpenClaim := { program := "ytepnmenidnjikaa", sum := "98c7fc72dfeaf3c91f623f2b1d7d6de01ea950fca731c2157405717d901025e0", func := "cincture/cincturelaw3.RatOrders", spec := "ratOrders", inPlace := ["internal/bytealg.IndexByteString", "internal/bytealg.IndexString"], unfollowed := true, recurses := true, named := ["internal/bytealg.MaxLen"], apart := false, narrowed := true }
def RatOrdersUptoSaid : Prop := ratOrdersUptoRow.holds Try.pinned (OpenSpec.upto ratOrdersSpec)

/-- 'cincturelaw3.RatDivides', WHERE WHAT IT READS IS OF BULK AT MOST 1048576: true; the input reads as it did. -/
def ratDividesUptoRow : OpenClaim := { program := "ytepnmenidnjikaa", sum := "98c7fc72dfeaf3c91f623f2b1d7d6de01ea950fca731c2157405717d901025e0", func := "cincture/cincturelaw3.RatDivides", spec := "ratDivides", inPlace := ["internal/bytealg.IndexByteString", "internal/bytealg.IndexString"], unfollowed := true, recurses := true, named := ["internal/bytealg.MaxLen"], apart := false, narrowed := true }
def RatDividesUptoSaid : Prop := ratDividesUptoRow.holds Try.pinned (OpenSpec.upto ratDividesSpec)

/-- 'cincturelaw3.RatFields', WHERE WHAT IT READS IS OF BULK AT MOST 1048576: true; the input reads as it did. -/
def ratFieldsUptoRow : OpenClaim := { program := "ytepnmenidnjikaa", sum := "98c7fc72dfeaf3c91f623f2b1d7d6de01ea950fca731c2157405717d901025e0", func := "cincture/cincturelaw3.RatFields", spec := "ratFields", inPlace := ["internal/bytealg.IndexByteString", "internal/bytealg.IndexString"], unfollowed := true, recurses := true, named := ["internal/bytealg.MaxLen"], apart := false, narrowed := true }
def RatFieldsUptoSaid : Prop := ratFieldsUptoRow.holds Try.pinned (OpenSpec.upto ratFieldsSpec)

/-- 'cincturelaw3.RatLeast', WHERE WHAT IT READS IS OF BULK AT MOST 1048576: true; the input reads as it did. -/
def ratLeastUptoRow : OpenClaim := { program := "ytepnmenidnjikaa", sum := "98c7fc72dfeaf3c91f623f2b1d7d6de01ea950fca731c2157405717d901025e0", func := "cincture/cincturelaw3.RatLeast", spec := "ratLeast", inPlace := ["internal/bytealg.IndexByteString", "internal/bytealg.IndexString"], unfollowed := true, recurses := true, named := ["internal/bytealg.MaxLen"], apart := false, narrowed := true }
def RatLeastUptoSaid : Prop := ratLeastUptoRow.holds Try.pinned (OpenSpec.upto ratLeastSpec)

/-- 'cincturelaw3.RatFloors', WHERE WHAT IT READS IS OF BULK AT MOST 1048576: true; the input reads as it did. -/
def ratFloorsUptoRow : OpenClaim := { program := "ytepnmenidnjikaa", sum := "98c7fc72dfeaf3c91f623f2b1d7d6de01ea950fca731c2157405717d901025e0", func := "cincture/cincturelaw3.RatFloors", spec := "ratFloors", inPlace := ["internal/bytealg.IndexByteString", "internal/bytealg.IndexString"], unfollowed := true, recurses := true, named := ["internal/bytealg.MaxLen"], apart := false, narrowed := true }
def RatFloorsUptoSaid : Prop := ratFloorsUptoRow.holds Try.pinned (OpenSpec.upto ratFloorsSpec)

end Rows
end Go.Proofs.Ytepnmenidnjikaa
