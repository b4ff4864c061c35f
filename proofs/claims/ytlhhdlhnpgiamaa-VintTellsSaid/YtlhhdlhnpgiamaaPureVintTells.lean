/- VintTells answers true for every 64-bit number, every string of at most 2^47 - 4096 bytes and every place in it; no further condition. -/
import Derived.Test.YtlhhdlhnpgiamaaPVintTellsx2
import Derived.Test.YtlhhdlhnpgiamaaVTa
namespace Go.Proofs.Ytlhhdlhnpgiamaa.Pure
open Go.RowKit Go.Proofs.Ytlhhdlhnpgiamaa.PVintTells Go.Proofs.YtlhhdlhnpgiamaaW.PrintWords Go.Proofs.YtlhhdlhnpgiamaaW.PrintLast

/-- ∀ (a0 : Int) (a1 : ByteArray) (a2 : Int), (Lit.int .u64 a0).wf = true → a1.size ≤ 140737488351232 → (Lit.int .i64 a2).wf = true → ∃ k, cincturelaw18_VintTells.f k a0 a1 a2 = some true
What it reaches (each with k first where it has rounds; `.mono`: more rounds tell the same; `.l0`, ..: its loops, with `.mono_l`): vint_Get.f, vint_Put.f, cincturelaw18_alive.f, cinctureref2_Get.f, cinctureref2_Put.f, cincturelaw18_VintTells.f -/
theorem VintTells : cincturelaw18_VintTells.Pure :=
  VT.VintTells

end Go.Proofs.Ytlhhdlhnpgiamaa.Pure
