/-
  No cell of these rows narrows 'for every input' (looked for: loops, veiled, ifaces, maps, wideKeys, modest, calm, conditions, laid).
  DERIVED. THE GIVEN ROWS OF THIS SEAT. 5 by the template 'for every input the law returns true; each argument reads behind the call as it read before'; 0 by the template 'total and deterministic' (their statements: YtpifafenmgceoaaGreatTotals.lean).
  GIVEN WITH THE SEED: the statements are not yours to turn. If you find one false, say at which input.
  Laid BY PROGRAM, IN A SANDBOX (cutbox-rows.mjs): the forced cells as the released guide's own fill.sh prints them over the translation 762cc79816e304ab… (all of the seat's roots in one cut). By AI agents, Wed Nov 11 2026. No macro, syntax, notation, axiom, sorry.
-/
import Derived.Test.YtpifafenmgceoaaGreatChecked
import GoSem.Claim
import GoSem.ClaimJoined
import GoSem.ClaimMapViews
import Derived.JoinedTies
import Derived.KernelRfl
namespace Go.Proofs.YtpifafenmgceoaaGreat
/- THE CELL 'sum', in the pinned program and in every row, IS THE sha256 OF THE DUMP (.gsa) THAT YtpifafenmgceoaaGreatProg.lean LOADS. Nothing in Lean hashes anything: it is a label: what it is worth is what the hold of that sum in a sandbox is worth. -/
noncomputable def Tryz.pinned : Pinned := { name := "ytpifafenmgceoaagreat", sum := "762cc79816e304ab5ec9391ed5b6a8c9da4ecc3629bb616d1dccf5b3485f4c20", checked := Tryz.checked }
namespace Rows
def none {H : Type} : Left H := { results := [], args := [] }

/-- 'cincturelaw5.SpanAdds': WHATEVER THE INPUT: true; the input reads as it did. -/
def spanAddsSpec : ChangeSpec := { name := "spanAdds", fn := fun _ => fun
  | [d1, d2, d3] => { results := [.lit (.bool true)], args := [d1, d2, d3] }
  | _ => none }
def spanAddsRow : OpenClaim := { program := "ytpifafenmgceoaagreat", sum := "762cc79816e304ab5ec9391ed5b6a8c9da4ecc3629bb616d1dccf5b3485f4c20", func := "cincture/cincturelaw5.SpanAdds", spec := "spanAdds", inPlace := ["internal/bytealg.IndexByteString", "internal/bytealg.IndexString"], unfollowed := true, recurses := true, named := ["internal/bytealg.MaxLen"], apart := false }
def SpanAddsSaid : Prop := spanAddsRow.holds Tryz.pinned (OpenSpec.ofChange spanAddsSpec)

/-- ITS FALSE NEIGHBOUR: 'it returns false'. Refute it at one input. -/
def spanAddsWrong : ChangeSpec := { name := "spanAdds", fn := fun _ => fun
  | [d1, d2, d3] => { results := [.lit (.bool false)], args := [d1, d2, d3] }
  | _ => none }
def SpanAddsWrongFalsely : Prop := spanAddsRow.holds Tryz.pinned (OpenSpec.ofChange spanAddsWrong)

/-- 'cincturelaw5.SpanMeets': WHATEVER THE INPUT: true; the input reads as it did. -/
def spanMeetsSpec : ChangeSpec := { name := "spanMeets", fn := fun _ => fun
  | [d1, d2, d3] => { results := [.lit (.bool true)], args := [d1, d2, d3] }
  | _ => none }
def spanMeetsRow : OpenClaim := { program := "ytpifafenmgceoaagreat", sum := "762cc79816e304ab5ec9391ed5b6a8c9da4ecc3629bb616d1dccf5b3485f4c20", func := "cincture/cincturelaw5.SpanMeets", spec := "spanMeets", inPlace := ["internal/bytealg.IndexByteString", "internal/bytealg.IndexString"], unfollowed := true, recurses := true, named := ["internal/bytealg.MaxLen"], apart := false }
def SpanMeetsSaid : Prop := spanMeetsRow.holds Tryz.pinned (OpenSpec.ofChange spanMeetsSpec)

/-- ITS FALSE NEIGHBOUR: 'it returns false'. Refute it at one input. -/
def spanMeetsWrong : ChangeSpec := { name := "spanMeets", fn := fun _ => fun
  | [d1, d2, d3] => { results := [.lit (.bool false)], args := [d1, d2, d3] }
  | _ => none }
def SpanMeetsWrongFalsely : Prop := spanMeetsRow.holds Tryz.pinned (OpenSpec.ofChange spanMeetsWrong)

/-- 'cincturelaw5.SpanMore': WHATEVER THE INPUT: true; the input reads as it did. -/
def spanMoreSpec : ChangeSpec := { name := "spanMore", fn := fun _ => fun
  | [d1, d2, d3, d4] => { results := [.lit (.bool true)], args := [d1, d2, d3, d4] }
  | _ => none }
def spanMoreRow : OpenClaim := { program := "ytpifafenmgceoaagreat", sum := "762cc79816e304ab5ec9391ed5b6a8c9da4ecc3629bb616d1dccf5b3485f4c20", func := "cincture/cincturelaw5.SpanMore", spec := "spanMore", inPlace := ["internal/bytealg.IndexByteString", "internal/bytealg.IndexString"], unfollowed := true, recurses := true, named := ["internal/bytealg.MaxLen"], apart := false }
def SpanMoreSaid : Prop := spanMoreRow.holds Tryz.pinned (OpenSpec.ofChange spanMoreSpec)

/-- ITS FALSE NEIGHBOUR: 'it returns false'. Refute it at one input. -/
def spanMoreWrong : ChangeSpec := { name := "spanMore", fn := fun _ => fun
  | [d1, d2, d3, d4] => { results := [.lit (.bool false)], args := [d1, d2, d3, d4] }
  | _ => none }
def SpanMoreWrongFalsely : Prop := spanMoreRow.holds Tryz.pinned (OpenSpec.ofChange spanMoreWrong)

/-- 'cincturelaw5.SpanHas': WHATEVER THE INPUT: true; the input reads as it did. -/
def spanHasSpec : ChangeSpec := { name := "spanHas", fn := fun _ => fun
  | [d1, d2, d3, d4, d5] => { results := [.lit (.bool true)], args := [d1, d2, d3, d4, d5] }
  | _ => none }
def spanHasRow : OpenClaim := { program := "ytpifafenmgceoaagreat", sum := "762cc79816e304ab5ec9391ed5b6a8c9da4ecc3629bb616d1dccf5b3485f4c20", func := "cincture/cincturelaw5.SpanHas", spec := "spanHas", inPlace := ["internal/bytealg.IndexByteString", "internal/bytealg.IndexString"], unfollowed := true, recurses := true, named := ["internal/bytealg.MaxLen"], apart := false }
def SpanHasSaid : Prop := spanHasRow.holds Tryz.pinned (OpenSpec.ofChange spanHasSpec)

/-- ITS FALSE NEIGHBOUR: 'it returns false'. Refute it at one input. -/
def spanHasWrong : ChangeSpec := { name := "spanHas", fn := fun _ => fun
  | [d1, d2, d3, d4, d5] => { results := [.lit (.bool false)], args := [d1, d2, d3, d4, d5] }
  | _ => none }
def SpanHasWrongFalsely : Prop := spanHasRow.holds Tryz.pinned (OpenSpec.ofChange spanHasWrong)

/-- 'cincturelaw5.SpanSets': WHATEVER THE INPUT: true; the input reads as it did. -/
def spanSetsSpec : ChangeSpec := { name := "spanSets", fn := fun _ => fun
  | [d1, d2, d3] => { results := [.lit (.bool true)], args := [d1, d2, d3] }
  | _ => none }
def spanSetsRow : OpenClaim := { program := "ytpifafenmgceoaagreat", sum := "762cc79816e304ab5ec9391ed5b6a8c9da4ecc3629bb616d1dccf5b3485f4c20", func := "cincture/cincturelaw5.SpanSets", spec := "spanSets", inPlace := ["internal/bytealg.IndexByteString", "internal/bytealg.IndexString"], unfollowed := true, recurses := true, named := ["internal/bytealg.MaxLen"], apart := false }
def SpanSetsSaid : Prop := spanSetsRow.holds Tryz.pinned (OpenSpec.ofChange spanSetsSpec)

/-- ITS FALSE NEIGHBOUR: 'it returns false'. Refute it at one input. -/
def spanSetsWrong : ChangeSpec := { name := "spanSets", fn := fun _ => fun
  | [d1, d2, d3] => { results := [.lit (.bool false)], args := [d1, d2, d3] }
  | _ => none }
def SpanSetsWrongFalsely : Prop := spanSetsRow.holds Tryz.pinned (OpenSpec.ofChange spanSetsWrong)

/- THE SECOND FORM. 'bulk': how many values and letters a reading holds, each counted each time it is reached (what is shared counts as often as it is met; a slice's spare places count too). A statement '..UptoSaid' is the law's where the arguments, and the package variables that the reading takes, are together of bulk at most 1048576: NARROWER than '..Said'. Prove '..Said' where nothing that the law and all that it calls make is longer than what came in: it says more and counts as full. Else prove '..UptoSaid'. A law counts once. -/
mutual
def uptoBulk {H : Type} : DataW H → Nat
  | .lit (.string bytes) => bytes.length + 1
  | .lit _ => 1
  | .nil => 1
  | .ptr d => uptoBulk d + 1
  | .slice elems spare => uptoBulkAll elems + uptoBulkAll spare + 1
  | .agg parts => uptoBulkAll parts + 1
  | .iface _ d => uptoBulk d + 1
  | .map entries => uptoBulkEntries entries + 1
  | .held _ => 1
def uptoBulkAll {H : Type} : List (DataW H) → Nat
  | [] => 0
  | d :: r => uptoBulk d + uptoBulkAll r
def uptoBulkEntries {H : Type} : List (Lit × DataW H) → Nat
  | [] => 0
  | x :: r => uptoBulkEntry x + uptoBulkEntries r
def uptoBulkEntry {H : Type} : Lit × DataW H → Nat
  | (.string bytes, d) => bytes.length + uptoBulk d + 1
  | (_, d) => uptoBulk d + 1
 end
def uptoSmall : (H : Type) → List (DataW H) → Bool := fun _ ds => decide (uptoBulkAll ds ≤ 1048576)
def OpenSpec.upto (s : _root_.Go.ChangeSpec) : _root_.Go.OpenSpec := { _root_.Go.OpenSpec.ofChange s with cond := some uptoSmall }

/-- 'cincturelaw5.SpanAdds', WHERE WHAT IT READS IS OF BULK AT MOST 1048576: true; the input reads as it did. -/
def spanAddsUptoRow : OpenClaim := { program := "ytpifafenmgceoaagreat", sum := "762cc79816e304ab5ec9391ed5b6a8c9da4ecc3629bb616d1dccf5b3485f4c20", func := "cincture/cincturelaw5.SpanAdds", spec := "spanAdds", inPlace := ["internal/bytealg.IndexByteString", "internal/bytealg.IndexString"], unfollowed := true, recurses := true, named := ["internal/bytealg.MaxLen"], apart := false, narrowed := true }
def SpanAddsUptoSaid : Prop := spanAddsUptoRow.holds Tryz.pinned (OpenSpec.upto spanAddsSpec)

/-- 'cincturelaw5.SpanMeets', WHERE WHAT IT READS IS OF BULK AT MOST 1048576: true; the input reads as it did. -/
def spanMeetsUptoRow : OpenClaim := { program := "ytpifafenmgceoaagreat", sum := "762cc79816e304ab5ec9391ed5b6a8c9da4ecc3629bb616d1dccf5b3485f4c20", func := "cincture/cincturelaw5.SpanMeets", spec := "spanMeets", inPlace := ["internal/bytealg.IndexByteString", "internal/bytealg.IndexString"], unfollowed := true, recurses := true, named := ["internal/bytealg.MaxLen"], apart := false, narrowed := true }
def SpanMeetsUptoSaid : Prop := spanMeetsUptoRow.holds Tryz.pinned (OpenSpec.upto spanMeetsSpec)

/-- 'cincturelaw5.SpanMore', WHERE WHAT IT READS IS OF BULK AT MOST 1048576: true; the input reads as it did. -/
def spanMoreUptoRow : OpenClaim := { program := "ytpifafenmgceoaagreat", sum := "762cc79816e304ab5ec9391ed5b6a8c9da4ecc3629bb616d1dccf5b3485f4c20", func := "cincture/cincturelaw5.SpanMore", spec := "spanMore", inPlace := ["internal/bytealg.IndexByteString", "internal/bytealg.IndexString"], unfollowed := true, recurses := true, named := ["internal/bytealg.MaxLen"], apart := false, narrowed := true }
def SpanMoreUptoSaid : Prop := spanMoreUptoRow.holds Tryz.pinned (OpenSpec.upto spanMoreSpec)

/-- 'cincturelaw5.SpanHas', WHERE WHAT IT READS IS OF BULK AT MOST 1048576: true; the input reads as it did. -/
def spanHasUptoRow : OpenClaim := { program := "ytpifafenmgceoaagreat", sum := "762cc79816e304ab5ec9391ed5b6a8c9da4ecc3629bb616d1dccf5b3485f4c20", func := "cincture/cincturelaw5.SpanHas", spec := "spanHas", inPlace := ["internal/bytealg.IndexByteString", "internal/bytealg.IndexString"], unfollowed := true, recurses := true, named := ["internal/bytealg.MaxLen"], apart := false, narrowed := true }
def SpanHasUptoSaid : Prop := spanHasUptoRow.holds Tryz.pinned (OpenSpec.upto spanHasSpec)

/-- 'cincturelaw5.SpanSets', WHERE WHAT IT READS IS OF BULK AT MOST 1048576: true; the input reads as it did. -/
def spanSetsUptoRow : OpenClaim := { program := "ytpifafenmgceoaagreat", sum := "762cc79816e304ab5ec9391ed5b6a8c9da4ecc3629bb616d1dccf5b3485f4c20", func := "cincture/cincturelaw5.SpanSets", spec := "spanSets", inPlace := ["internal/bytealg.IndexByteString", "internal/bytealg.IndexString"], unfollowed := true, recurses := true, named := ["internal/bytealg.MaxLen"], apart := false, narrowed := true }
def SpanSetsUptoSaid : Prop := spanSetsUptoRow.holds Tryz.pinned (OpenSpec.upto spanSetsSpec)

end Rows
end Go.Proofs.YtpifafenmgceoaaGreat
