/-
  No cell of these rows narrows 'for every input' (looked for: loops, veiled, ifaces, maps, wideKeys, modest, calm, conditions, laid).
  DERIVED. THE GIVEN ROWS OF THIS SEAT. 8 by the template 'for every input the law returns true; each argument reads behind the call as it read before'; 0 by the template 'total and deterministic' (their statements: YtbmcchmbfpmjkaaTotals.lean).
  GIVEN WITH THE SEED: the statements are not yours to turn. If you find one false, say at which input.
  Laid BY PROGRAM, IN A SANDBOX (cutbox-rows.mjs): the forced cells as the released guide's own fill.sh prints them over the translation d9b10fbfe0f067c4… (all of the seat's roots in one cut). By AI agents, Wed Nov 11 2026. No macro, syntax, notation, axiom, sorry.
-/
import Derived.Test.YtbmcchmbfpmjkaaChecked
import GoSem.Claim
import GoSem.ClaimJoined
import GoSem.ClaimMapViews
import Derived.JoinedTies
import Derived.KernelRfl
namespace Go.Proofs.Ytbmcchmbfpmjkaa
/- THE CELL 'sum', in the pinned program and in every row, IS THE sha256 OF THE DUMP (.gsa) THAT YtbmcchmbfpmjkaaProg.lean LOADS. Nothing in Lean hashes anything: it is a label: what it is worth is what the hold of that sum in a sandbox is worth. -/
noncomputable def Try.pinned : Pinned := { name := "ytbmcchmbfpmjkaa", sum := "d9b10fbfe0f067c4aa7040cdea86291c744d7c3bfe61a9ee67b16539291a77a8", checked := Try.checked }
namespace Rows
def none {H : Type} : Left H := { results := [], args := [] }

/-- 'cincturelaw2.WholeWords': WHATEVER THE INPUT: true; the input reads as it did. -/
def wholeWordsSpec : ChangeSpec := { name := "wholeWords", fn := fun _ => fun
  | [d1, d2] => { results := [.lit (.bool true)], args := [d1, d2] }
  | _ => none }
def wholeWordsRow : OpenClaim := { program := "ytbmcchmbfpmjkaa", sum := "d9b10fbfe0f067c4aa7040cdea86291c744d7c3bfe61a9ee67b16539291a77a8", func := "cincture/cincturelaw2.WholeWords", spec := "wholeWords", unfollowed := true, recurses := true, apart := false }
def WholeWordsSaid : Prop := wholeWordsRow.holds Try.pinned (OpenSpec.ofChange wholeWordsSpec)

/-- ITS FALSE NEIGHBOUR: 'it returns false'. Refute it at one input. -/
def wholeWordsWrong : ChangeSpec := { name := "wholeWords", fn := fun _ => fun
  | [d1, d2] => { results := [.lit (.bool false)], args := [d1, d2] }
  | _ => none }
def WholeWordsWrongFalsely : Prop := wholeWordsRow.holds Try.pinned (OpenSpec.ofChange wholeWordsWrong)

/-- 'cincturelaw2.WholeDivides': WHATEVER THE INPUT: true; the input reads as it did. -/
def wholeDividesSpec : ChangeSpec := { name := "wholeDivides", fn := fun _ => fun
  | [d1, d2] => { results := [.lit (.bool true)], args := [d1, d2] }
  | _ => none }
def wholeDividesRow : OpenClaim := { program := "ytbmcchmbfpmjkaa", sum := "d9b10fbfe0f067c4aa7040cdea86291c744d7c3bfe61a9ee67b16539291a77a8", func := "cincture/cincturelaw2.WholeDivides", spec := "wholeDivides", unfollowed := true, recurses := true, apart := false }
def WholeDividesSaid : Prop := wholeDividesRow.holds Try.pinned (OpenSpec.ofChange wholeDividesSpec)

/-- ITS FALSE NEIGHBOUR: 'it returns false'. Refute it at one input. -/
def wholeDividesWrong : ChangeSpec := { name := "wholeDivides", fn := fun _ => fun
  | [d1, d2] => { results := [.lit (.bool false)], args := [d1, d2] }
  | _ => none }
def WholeDividesWrongFalsely : Prop := wholeDividesRow.holds Try.pinned (OpenSpec.ofChange wholeDividesWrong)

/-- 'cincturelaw2.WholeTells': WHATEVER THE INPUT: true; the input reads as it did. -/
def wholeTellsSpec : ChangeSpec := { name := "wholeTells", fn := fun _ => fun
  | [d] => { results := [.lit (.bool true)], args := [d] }
  | _ => none }
def wholeTellsRow : OpenClaim := { program := "ytbmcchmbfpmjkaa", sum := "d9b10fbfe0f067c4aa7040cdea86291c744d7c3bfe61a9ee67b16539291a77a8", func := "cincture/cincturelaw2.WholeTells", spec := "wholeTells", unfollowed := true, recurses := true, apart := false }
def WholeTellsSaid : Prop := wholeTellsRow.holds Try.pinned (OpenSpec.ofChange wholeTellsSpec)

/-- ITS FALSE NEIGHBOUR: 'it returns false'. Refute it at one input. -/
def wholeTellsWrong : ChangeSpec := { name := "wholeTells", fn := fun _ => fun
  | [d] => { results := [.lit (.bool false)], args := [d] }
  | _ => none }
def WholeTellsWrongFalsely : Prop := wholeTellsRow.holds Try.pinned (OpenSpec.ofChange wholeTellsWrong)

/-- 'cincturelaw2.WholePows': WHATEVER THE INPUT: true; the input reads as it did. -/
def wholePowsSpec : ChangeSpec := { name := "wholePows", fn := fun _ => fun
  | [d1, d2] => { results := [.lit (.bool true)], args := [d1, d2] }
  | _ => none }
def wholePowsRow : OpenClaim := { program := "ytbmcchmbfpmjkaa", sum := "d9b10fbfe0f067c4aa7040cdea86291c744d7c3bfe61a9ee67b16539291a77a8", func := "cincture/cincturelaw2.WholePows", spec := "wholePows", unfollowed := true, recurses := true, apart := false }
def WholePowsSaid : Prop := wholePowsRow.holds Try.pinned (OpenSpec.ofChange wholePowsSpec)

/-- ITS FALSE NEIGHBOUR: 'it returns false'. Refute it at one input. -/
def wholePowsWrong : ChangeSpec := { name := "wholePows", fn := fun _ => fun
  | [d1, d2] => { results := [.lit (.bool false)], args := [d1, d2] }
  | _ => none }
def WholePowsWrongFalsely : Prop := wholePowsRow.holds Try.pinned (OpenSpec.ofChange wholePowsWrong)

/-- 'cincturelaw2.WholeAdds': WHATEVER THE INPUT: true; the input reads as it did. -/
def wholeAddsSpec : ChangeSpec := { name := "wholeAdds", fn := fun _ => fun
  | [d1, d2] => { results := [.lit (.bool true)], args := [d1, d2] }
  | _ => none }
def wholeAddsRow : OpenClaim := { program := "ytbmcchmbfpmjkaa", sum := "d9b10fbfe0f067c4aa7040cdea86291c744d7c3bfe61a9ee67b16539291a77a8", func := "cincture/cincturelaw2.WholeAdds", spec := "wholeAdds", unfollowed := true, recurses := true, apart := false }
def WholeAddsSaid : Prop := wholeAddsRow.holds Try.pinned (OpenSpec.ofChange wholeAddsSpec)

/-- ITS FALSE NEIGHBOUR: 'it returns false'. Refute it at one input. -/
def wholeAddsWrong : ChangeSpec := { name := "wholeAdds", fn := fun _ => fun
  | [d1, d2] => { results := [.lit (.bool false)], args := [d1, d2] }
  | _ => none }
def WholeAddsWrongFalsely : Prop := wholeAddsRow.holds Try.pinned (OpenSpec.ofChange wholeAddsWrong)

/-- 'cincturelaw2.WholeOrders': WHATEVER THE INPUT: true; the input reads as it did. -/
def wholeOrdersSpec : ChangeSpec := { name := "wholeOrders", fn := fun _ => fun
  | [d1, d2, d3] => { results := [.lit (.bool true)], args := [d1, d2, d3] }
  | _ => none }
def wholeOrdersRow : OpenClaim := { program := "ytbmcchmbfpmjkaa", sum := "d9b10fbfe0f067c4aa7040cdea86291c744d7c3bfe61a9ee67b16539291a77a8", func := "cincture/cincturelaw2.WholeOrders", spec := "wholeOrders", unfollowed := true, recurses := true, apart := false }
def WholeOrdersSaid : Prop := wholeOrdersRow.holds Try.pinned (OpenSpec.ofChange wholeOrdersSpec)

/-- ITS FALSE NEIGHBOUR: 'it returns false'. Refute it at one input. -/
def wholeOrdersWrong : ChangeSpec := { name := "wholeOrders", fn := fun _ => fun
  | [d1, d2, d3] => { results := [.lit (.bool false)], args := [d1, d2, d3] }
  | _ => none }
def WholeOrdersWrongFalsely : Prop := wholeOrdersRow.holds Try.pinned (OpenSpec.ofChange wholeOrdersWrong)

/-- 'cincturelaw2.WholeBack': WHATEVER THE INPUT: true; the input reads as it did. -/
def wholeBackSpec : ChangeSpec := { name := "wholeBack", fn := fun _ => fun
  | [d1, d2] => { results := [.lit (.bool true)], args := [d1, d2] }
  | _ => none }
def wholeBackRow : OpenClaim := { program := "ytbmcchmbfpmjkaa", sum := "d9b10fbfe0f067c4aa7040cdea86291c744d7c3bfe61a9ee67b16539291a77a8", func := "cincture/cincturelaw2.WholeBack", spec := "wholeBack", unfollowed := true, recurses := true, apart := false }
def WholeBackSaid : Prop := wholeBackRow.holds Try.pinned (OpenSpec.ofChange wholeBackSpec)

/-- ITS FALSE NEIGHBOUR: 'it returns false'. Refute it at one input. -/
def wholeBackWrong : ChangeSpec := { name := "wholeBack", fn := fun _ => fun
  | [d1, d2] => { results := [.lit (.bool false)], args := [d1, d2] }
  | _ => none }
def WholeBackWrongFalsely : Prop := wholeBackRow.holds Try.pinned (OpenSpec.ofChange wholeBackWrong)

/-- 'cincturelaw2.WholeRings': WHATEVER THE INPUT: true; the input reads as it did. -/
def wholeRingsSpec : ChangeSpec := { name := "wholeRings", fn := fun _ => fun
  | [d1, d2, d3] => { results := [.lit (.bool true)], args := [d1, d2, d3] }
  | _ => none }
def wholeRingsRow : OpenClaim := { program := "ytbmcchmbfpmjkaa", sum := "d9b10fbfe0f067c4aa7040cdea86291c744d7c3bfe61a9ee67b16539291a77a8", func := "cincture/cincturelaw2.WholeRings", spec := "wholeRings", unfollowed := true, recurses := true, apart := false }
def WholeRingsSaid : Prop := wholeRingsRow.holds Try.pinned (OpenSpec.ofChange wholeRingsSpec)

/-- ITS FALSE NEIGHBOUR: 'it returns false'. Refute it at one input. -/
def wholeRingsWrong : ChangeSpec := { name := "wholeRings", fn := fun _ => fun
  | [d1, d2, d3] => { results := [.lit (.bool false)], args := [d1, d2, d3] }
  | _ => none }
def WholeRingsWrongFalsely : Prop := wholeRingsRow.holds Try.pinned (OpenSpec.ofChange wholeRingsWrong)

/- THE SECOND FORM. 'bulk': how many values and letters a reading holds, each counted each time it is reached (what is shared counts as often as it is met; a slice's spare places count too). A statement '..UptoSaid' is the law's where the arguments, and the package variables that the reading takes, are together of bulk at most 1048576: NARROWER than '..Said'. Prove '..Said' where nothing that the law and all that it calls make is longer than what came in: it says more and counts as full. Else prove '..UptoSaid'. A law counts once. -/
mutual
def uptoBulk {H : Type} : DataW H → Nat
  | .lit (.string bytes) => bytes.length + 1
  | .lit _ => 1
  | .nil => 1
  | .ptr d => uptoBulk d + 1
  | .slice elems spare => uptoBulkAll elems + uptoBulkAll spare + 1
  | .agg parts => uptoBulkAll parts + 1
  | .iface _ d => uptoBulk d + 1
  | .map entries => uptoBulkEntries entries + 1
  | .held _ => 1
def uptoBulkAll {H : Type} : List (DataW H) → Nat
  | [] => 0
  | d :: r => uptoBulk d + uptoBulkAll r
def uptoBulkEntries {H : Type} : List (Lit × DataW H) → Nat
  | [] => 0
  | x :: r => uptoBulkEntry x + uptoBulkEntries r
def uptoBulkEntry {H : Type} : Lit × DataW H → Nat
  | (.string bytes, d) => bytes.length + uptoBulk d + 1
  | (_, d) => uptoBulk d + 1
 end
def uptoSmall : (H : Type) → List (DataW H) → Bool := fun _ ds => decide (uptoBulkAll ds ≤ 1048576)
def OpenSpec.upto (s : _root_.Go.ChangeSpec) : _root_.Go.OpenSpec := { _root_.Go.OpenSpec.ofChange s with cond := some uptoSmall }

/-- 'cincturelaw2.WholeWords', WHERE WHAT IT READS IS OF BULK AT MOST 1048576: true; the input reads as it did. -/
def wholeWordsUptoRow : OpenClaim := { program := "ytbmcchmbfpmjkaa", sum := "d9b10fbfe0f067c4aa7040cdea86291c744d7c3bfe61a9ee67b16539291a77a8", func := "cincture/cincturelaw2.WholeWords", spec := "wholeWords", unfollowed := true, recurses := true, apart := false, narrowed := true }
def WholeWordsUptoSaid : Prop := wholeWordsUptoRow.holds Try.pinned (OpenSpec.upto wholeWordsSpec)

/-- 'cincturelaw2.WholeDivides', WHERE WHAT IT READS IS OF BULK AT MOST 1048576: true; the input reads as it did. -/
def wholeDividesUptoRow : OpenClaim := { program := "ytbmcchmbfpmjkaa", sum := "d9b10fbfe0f067c4aa7040cdea86291c744d7c3bfe61a9ee67b16539291a77a8", func := "cincture/cincturelaw2.WholeDivides", spec := "wholeDivides", unfollowed := true, recurses := true, apart := false, narrowed := true }
def WholeDividesUptoSaid : Prop := wholeDividesUptoRow.holds Try.pinned (OpenSpec.upto wholeDividesSpec)

/-- 'cincturelaw2.WholeTells', WHERE WHAT IT READS IS OF BULK AT MOST 1048576: true; the input reads as it did. -/
def wholeTellsUptoRow : OpenClaim := { program := "ytbmcchmbfpmjkaa", sum := "d9b10fbfe0f067c4aa7040cdea86291c744d7c3bfe61a9ee67b16539291a77a8", func := "cincture/cincturelaw2.WholeTells", spec := "wholeTells", unfollowed := true, recurses := true, apart := false, narrowed := true }
def WholeTellsUptoSaid : Prop := wholeTellsUptoRow.holds Try.pinned (OpenSpec.upto wholeTellsSpec)

/-- 'cincturelaw2.WholePows', WHERE WHAT IT READS IS OF BULK AT MOST 1048576: true; the input reads as it did. -/
def wholePowsUptoRow : OpenClaim := { program := "ytbmcchmbfpmjkaa", sum := "d9b10fbfe0f067c4aa7040cdea86291c744d7c3bfe61a9ee67b16539291a77a8", func := "cincture/cincturelaw2.WholePows", spec := "wholePows", unfollowed := true, recurses := true, apart := false, narrowed := true }
def WholePowsUptoSaid : Prop := wholePowsUptoRow.holds Try.pinned (OpenSpec.upto wholePowsSpec)

/-- 'cincturelaw2.WholeAdds', WHERE WHAT IT READS IS OF BULK AT MOST 1048576: true; the input reads as it did. -/
def wholeAddsUptoRow : OpenClaim := { program := "ytbmcchmbfpmjkaa", sum := "d9b10fbfe0f067c4aa7040cdea86291c744d7c3bfe61a9ee67b16539291a77a8", func := "cincture/cincturelaw2.WholeAdds", spec := "wholeAdds", unfollowed := true, recurses := true, apart := false, narrowed := true }
def WholeAddsUptoSaid : Prop := wholeAddsUptoRow.holds Try.pinned (OpenSpec.upto wholeAddsSpec)

/-- 'cincturelaw2.WholeOrders', WHERE WHAT IT READS IS OF BULK AT MOST 1048576: true; the input reads as it did. -/
def wholeOrdersUptoRow : OpenClaim := { program := "ytbmcchmbfpmjkaa", sum := "d9b10fbfe0f067c4aa7040cdea86291c744d7c3bfe61a9ee67b16539291a77a8", func := "cincture/cincturelaw2.WholeOrders", spec := "wholeOrders", unfollowed := true, recurses := true, apart := false, narrowed := true }
def WholeOrdersUptoSaid : Prop := wholeOrdersUptoRow.holds Try.pinned (OpenSpec.upto wholeOrdersSpec)

/-- 'cincturelaw2.WholeBack', WHERE WHAT IT READS IS OF BULK AT MOST 1048576: true; the input reads as it did. -/
def wholeBackUptoRow : OpenClaim := { program := "ytbmcchmbfpmjkaa", sum := "d9b10fbfe0f067c4aa7040cdea86291c744d7c3bfe61a9ee67b16539291a77a8", func := "cincture/cincturelaw2.WholeBack", spec := "wholeBack", unfollowed := true, recurses := true, apart := false, narrowed := true }
def WholeBackUptoSaid : Prop := wholeBackUptoRow.holds Try.pinned (OpenSpec.upto wholeBackSpec)

/-- 'cincturelaw2.WholeRings', WHERE WHAT IT READS IS OF BULK AT MOST 1048576: true; the input reads as it did. -/
def wholeRingsUptoRow : OpenClaim := { program := "ytbmcchmbfpmjkaa", sum := "d9b10fbfe0f067c4aa7040cdea86291c744d7c3bfe61a9ee67b16539291a77a8", func := "cincture/cincturelaw2.WholeRings", spec := "wholeRings", unfollowed := true, recurses := true, apart := false, narrowed := true }
def WholeRingsUptoSaid : Prop := wholeRingsUptoRow.holds Try.pinned (OpenSpec.upto wholeRingsSpec)

end Rows
end Go.Proofs.Ytbmcchmbfpmjkaa
