/-
  No cell of these rows narrows 'for every input' (looked for: loops, veiled, ifaces, maps, wideKeys, modest, calm, conditions, laid).
  DERIVED. THE GIVEN ROWS OF THIS SEAT. 6 by the template 'for every input the law returns true; each argument reads behind the call as it read before'; 0 by the template 'total and deterministic' (their statements: YtalnnaoabhimdaaTotals.lean).
  GIVEN WITH THE SEED: the statements are not yours to turn. If you find one false, say at which input.
  Laid BY PROGRAM, IN A SANDBOX (cutbox-rows.mjs): the forced cells as the released guide's own fill.sh prints them over the translation 998f3159b146a407… (all of the seat's roots in one cut). By AI agents, Wed Nov 11 2026. No macro, syntax, notation, axiom, sorry.
-/
import Derived.Test.YtalnnaoabhimdaaChecked
import GoSem.Claim
import GoSem.ClaimJoined
import GoSem.ClaimMapViews
import Derived.JoinedTies
import Derived.KernelRfl
namespace Go.Proofs.Ytalnnaoabhimdaa
/- THE CELL 'sum', in the pinned program and in every row, IS THE sha256 OF THE DUMP (.gsa) THAT YtalnnaoabhimdaaProg.lean LOADS. Nothing in Lean hashes anything: it is a label: what it is worth is what the hold of that sum in a sandbox is worth. -/
noncomputable def Try.pinned : Pinned := { name := "ytalnnaoabhimdaa", sum := "998f3159b146a407eaf63ba79138ddaab01762d4c558c3fa162cccab5ddb77ce", checked := Try.checked }
namespace Rows
def none {H : Type} : Left H := { results := [], args := [] }

/-- 'cincturelaw18.VintLong': WHATEVER THE INPUT: true; the input reads as it did. -/
def vintLongSpec : ChangeSpec := { name := "vintLong", fn := fun _ => fun
  | [d1, d2, d3] => { results := [.lit (.bool true)], args := [d1, d2, d3] }
  | _ => none }
def vintLongRow : OpenClaim := { program := "ytalnnaoabhimdaa", sum := "998f3159b146a407eaf63ba79138ddaab01762d4c558c3fa162cccab5ddb77ce", func := "cincture/cincturelaw18.VintLong", spec := "vintLong", apart := false }
def VintLongSaid : Prop := vintLongRow.holds Try.pinned (OpenSpec.ofChange vintLongSpec)

/-- ITS FALSE NEIGHBOUR: 'it returns false'. Refute it at one input. -/
def vintLongWrong : ChangeSpec := { name := "vintLong", fn := fun _ => fun
  | [d1, d2, d3] => { results := [.lit (.bool false)], args := [d1, d2, d3] }
  | _ => none }
def VintLongWrongFalsely : Prop := vintLongRow.holds Try.pinned (OpenSpec.ofChange vintLongWrong)

/-- 'cincturelaw18.VintInts': WHATEVER THE INPUT: true; the input reads as it did. -/
def vintIntsSpec : ChangeSpec := { name := "vintInts", fn := fun _ => fun
  | [d1, d2, d3, d4] => { results := [.lit (.bool true)], args := [d1, d2, d3, d4] }
  | _ => none }
def vintIntsRow : OpenClaim := { program := "ytalnnaoabhimdaa", sum := "998f3159b146a407eaf63ba79138ddaab01762d4c558c3fa162cccab5ddb77ce", func := "cincture/cincturelaw18.VintInts", spec := "vintInts", unfollowed := true, recurses := true, apart := false }
def VintIntsSaid : Prop := vintIntsRow.holds Try.pinned (OpenSpec.ofChange vintIntsSpec)

/-- ITS FALSE NEIGHBOUR: 'it returns false'. Refute it at one input. -/
def vintIntsWrong : ChangeSpec := { name := "vintInts", fn := fun _ => fun
  | [d1, d2, d3, d4] => { results := [.lit (.bool false)], args := [d1, d2, d3, d4] }
  | _ => none }
def VintIntsWrongFalsely : Prop := vintIntsRow.holds Try.pinned (OpenSpec.ofChange vintIntsWrong)

/-- 'cincturelaw18.VintOnce': WHATEVER THE INPUT: true; the input reads as it did. -/
def vintOnceSpec : ChangeSpec := { name := "vintOnce", fn := fun _ => fun
  | [d1, d2] => { results := [.lit (.bool true)], args := [d1, d2] }
  | _ => none }
def vintOnceRow : OpenClaim := { program := "ytalnnaoabhimdaa", sum := "998f3159b146a407eaf63ba79138ddaab01762d4c558c3fa162cccab5ddb77ce", func := "cincture/cincturelaw18.VintOnce", spec := "vintOnce", unfollowed := true, recurses := true, apart := false }
def VintOnceSaid : Prop := vintOnceRow.holds Try.pinned (OpenSpec.ofChange vintOnceSpec)

/-- ITS FALSE NEIGHBOUR: 'it returns false'. Refute it at one input. -/
def vintOnceWrong : ChangeSpec := { name := "vintOnce", fn := fun _ => fun
  | [d1, d2] => { results := [.lit (.bool false)], args := [d1, d2] }
  | _ => none }
def VintOnceWrongFalsely : Prop := vintOnceRow.holds Try.pinned (OpenSpec.ofChange vintOnceWrong)

/-- 'cincturelaw18.VintForms': WHATEVER THE INPUT: true; the input reads as it did. -/
def vintFormsSpec : ChangeSpec := { name := "vintForms", fn := fun _ => fun
  | [d1, d2] => { results := [.lit (.bool true)], args := [d1, d2] }
  | _ => none }
def vintFormsRow : OpenClaim := { program := "ytalnnaoabhimdaa", sum := "998f3159b146a407eaf63ba79138ddaab01762d4c558c3fa162cccab5ddb77ce", func := "cincture/cincturelaw18.VintForms", spec := "vintForms", inPlace := ["internal/bytealg.IndexByteString", "internal/bytealg.IndexString"], unfollowed := true, recurses := true, named := ["internal/bytealg.MaxLen"], apart := false }
def VintFormsSaid : Prop := vintFormsRow.holds Try.pinned (OpenSpec.ofChange vintFormsSpec)

/-- ITS FALSE NEIGHBOUR: 'it returns false'. Refute it at one input. -/
def vintFormsWrong : ChangeSpec := { name := "vintForms", fn := fun _ => fun
  | [d1, d2] => { results := [.lit (.bool false)], args := [d1, d2] }
  | _ => none }
def VintFormsWrongFalsely : Prop := vintFormsRow.holds Try.pinned (OpenSpec.ofChange vintFormsWrong)

/-- 'cincturelaw18.VintBack': WHATEVER THE INPUT: true; the input reads as it did. -/
def vintBackSpec : ChangeSpec := { name := "vintBack", fn := fun _ => fun
  | [d1, d2, d3, d4] => { results := [.lit (.bool true)], args := [d1, d2, d3, d4] }
  | _ => none }
def vintBackRow : OpenClaim := { program := "ytalnnaoabhimdaa", sum := "998f3159b146a407eaf63ba79138ddaab01762d4c558c3fa162cccab5ddb77ce", func := "cincture/cincturelaw18.VintBack", spec := "vintBack", inPlace := ["internal/bytealg.IndexByteString", "internal/bytealg.IndexString"], unfollowed := true, recurses := true, named := ["internal/bytealg.MaxLen"], apart := false }
def VintBackSaid : Prop := vintBackRow.holds Try.pinned (OpenSpec.ofChange vintBackSpec)

/-- ITS FALSE NEIGHBOUR: 'it returns false'. Refute it at one input. -/
def vintBackWrong : ChangeSpec := { name := "vintBack", fn := fun _ => fun
  | [d1, d2, d3, d4] => { results := [.lit (.bool false)], args := [d1, d2, d3, d4] }
  | _ => none }
def VintBackWrongFalsely : Prop := vintBackRow.holds Try.pinned (OpenSpec.ofChange vintBackWrong)

/-- 'cincturelaw18.VintRats': WHATEVER THE INPUT: true; the input reads as it did. -/
def vintRatsSpec : ChangeSpec := { name := "vintRats", fn := fun _ => fun
  | [d1, d2, d3, d4] => { results := [.lit (.bool true)], args := [d1, d2, d3, d4] }
  | _ => none }
def vintRatsRow : OpenClaim := { program := "ytalnnaoabhimdaa", sum := "998f3159b146a407eaf63ba79138ddaab01762d4c558c3fa162cccab5ddb77ce", func := "cincture/cincturelaw18.VintRats", spec := "vintRats", inPlace := ["internal/bytealg.IndexByteString", "internal/bytealg.IndexString"], unfollowed := true, recurses := true, named := ["internal/bytealg.MaxLen"], apart := false }
def VintRatsSaid : Prop := vintRatsRow.holds Try.pinned (OpenSpec.ofChange vintRatsSpec)

/-- ITS FALSE NEIGHBOUR: 'it returns false'. Refute it at one input. -/
def vintRatsWrong : ChangeSpec := { name := "vintRats", fn := fun _ => fun
  | [d1, d2, d3, d4] => { results := [.lit (.bool false)], args := [d1, d2, d3, d4] }
  | _ => none }
def VintRatsWrongFalsely : Prop := vintRatsRow.holds Try.pinned (OpenSpec.ofChange vintRatsWrong)

/- THE SECOND FORM. 'bulk': how many values and letters a reading holds, each counted each time it is reached (what is shared counts as often as it is met; a slice's spare places count too). A statement '..UptoSaid' is the law's where the arguments, and the package variables that the reading takes, are together of bulk at most 1048576: NARROWER than '..Said'. Prove '..Said' where nothing that the law and all that it calls make is longer than what came in: it says more and counts as full. Else prove '..UptoSaid'. A law counts once. -/
mutual
def uptoBulk {H : Type} : DataW H → Nat
  | .lit (.string bytes) => bytes.length + 1
  | .lit _ => 1
  | .nil => 1
  | .ptr d => uptoBulk d + 1
  | .slice elems spare => uptoBulkAll elems + uptoBulkAll spare + 1
  | .agg parts => uptoBulkAll parts + 1
  | .iface _ d => uptoBulk d + 1
  | .map entries => uptoBulkEntries entries + 1
  | .held _ => 1
def uptoBulkAll {H : Type} : List (DataW H) → Nat
  | [] => 0
  | d :: r => uptoBulk d + uptoBulkAll r
def uptoBulkEntries {H : Type} : List (Lit × DataW H) → Nat
  | [] => 0
  | x :: r => uptoBulkEntry x + uptoBulkEntries r
def uptoBulkEntry {H : Type} : Lit × DataW H → Nat
  | (.string bytes, d) => bytes.length + uptoBulk d + 1
  | (_, d) => uptoBulk d + 1
 end
def uptoSmall : (H : Type) → List (DataW H) → Bool := fun _ ds => decide (uptoBulkAll ds ≤ 1048576)
def OpenSpec.upto (s : _root_.Go.ChangeSpec) : _root_.Go.OpenSpec := { _root_.Go.OpenSpec.ofChange s with cond := some uptoSmall }

/-- 'cincturelaw18.VintLong', WHERE WHAT IT READS IS OF BULK AT MOST 1048576: true; the input reads as it did. -/
def vintLongUptoRow : OpenClaim := { program := "ytalnnaoabhimdaa", sum := "998f3159b146a407eaf63ba79138ddaab01762d4c558c3fa162cccab5ddb77ce", func := "cincture/cincturelaw18.VintLong", spec := "vintLong", apart := false, narrowed := true }
def VintLongUptoSaid : Prop := vintLongUptoRow.holds Try.pinned (OpenSpec.upto vintLongSpec)

/-- 'cincturelaw18.VintInts', WHERE WHAT IT READS IS OF BULK AT MOST 1048576: true; the input reads as it did. -/
def vintIntsUptoRow : OpenClaim := { program := "ytalnnaoabhimdaa", sum := "998f3159b146a407eaf63ba79138ddaab01762d4c558c3fa162cccab5ddb77ce", func := "cincture/cincturelaw18.VintInts", spec := "vintInts", unfollowed := true, recurses := true, apart := false, narrowed := true }
def VintIntsUptoSaid : Prop := vintIntsUptoRow.holds Try.pinned (OpenSpec.upto vintIntsSpec)

/-- 'cincturelaw18.VintOnce', WHERE WHAT IT READS IS OF BULK AT MOST 1048576: true; the input reads as it did. -/
def vintOnceUptoRow : OpenClaim := { program := "ytalnnaoabhimdaa", sum := "998f3159b146a407eaf63ba79138ddaab01762d4c558c3fa162cccab5ddb77ce", func := "cincture/cincturelaw18.VintOnce", spec := "vintOnce", unfollowed := true, recurses := true, apart := false, narrowed := true }
def VintOnceUptoSaid : Prop := vintOnceUptoRow.holds Try.pinned (OpenSpec.upto vintOnceSpec)

/-- 'cincturelaw18.VintForms', WHERE WHAT IT READS IS OF BULK AT MOST 1048576: true; the input reads as it did. -/
def vintFormsUptoRow : OpenClaim := { program := "ytalnnaoabhimdaa", sum := "998f3159b146a407eaf63ba79138ddaab01762d4c558c3fa162cccab5ddb77ce", func := "cincture/cincturelaw18.VintForms", spec := "vintForms", inPlace := ["internal/bytealg.IndexByteString", "internal/bytealg.IndexString"], unfollowed := true, recurses := true, named := ["internal/bytealg.MaxLen"], apart := false, narrowed := true }
def VintFormsUptoSaid : Prop := vintFormsUptoRow.holds Try.pinned (OpenSpec.upto vintFormsSpec)

/-- 'cincturelaw18.VintBack', WHERE WHAT IT READS IS OF BULK AT MOST 1048576: true; the input reads as it did. -/
def vintBackUptoRow : OpenClaim := { program := "ytalnnaoabhimdaa", sum := "998f3159b146a407eaf63ba79138ddaab01762d4c558c3fa162cccab5ddb77ce", func := "cincture/cincturelaw18.VintBack", spec := "vintBack", inPlace := ["internal/bytealg.IndexByteString", "internal/bytealg.IndexString"], unfollowed := true, recurses := true, named := ["internal/bytealg.MaxLen"], apart := false, narrowed := true }
def VintBackUptoSaid : Prop := vintBackUptoRow.holds Try.pinned (OpenSpec.upto vintBackSpec)

/-- 'cincturelaw18.VintRats', WHERE WHAT IT READS IS OF BULK AT MOST 1048576: true; the input reads as it did. -/
def vintRatsUptoRow : OpenClaim := { program := "ytalnnaoabhimdaa", sum := "998f3159b146a407eaf63ba79138ddaab01762d4c558c3fa162cccab5ddb77ce", func := "cincture/cincturelaw18.VintRats", spec := "vintRats", inPlace := ["internal/bytealg.IndexByteString", "internal/bytealg.IndexString"], unfollowed := true, recurses := true, named := ["internal/bytealg.MaxLen"], apart := false, narrowed := true }
def VintRatsUptoSaid : Prop := vintRatsUptoRow.holds Try.pinned (OpenSpec.upto vintRatsSpec)

end Rows
end Go.Proofs.Ytalnnaoabhimdaa
