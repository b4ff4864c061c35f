/- The laws of this text hold for every input: each returns true and leaves its arguments as they were. No condition beyond the row's own. -/
import Derived.Test.YtpifafenmgceoaaRows
import Derived.Test.YtpifafenmgceoaaZC
import Derived.WalkKit
import Derived.ProofKit
import Derived.OpenShut
import Derived.ShutString
import Derived.ChangeOld
import Derived.Below
import Derived.SizedLaws
import Derived.Lib.SmallJoins
set_option linter.unusedVariables false
namespace Go.Proofs.Ytpifafenmgceoaa.Close
open Go Go.Proofs Go.ChangeShapes Go.WideShapes Go.ChangeAt Go.RowKit
open Go.ChangeMaps (open_string shut_string)
open Go.Proofs.Ytpifafenmgceoaa.X (PH FnP)
theorem own : ownKnob Try.prog.godebug = none := by kernel_rfl
/-- What a contract gives a row. -/
theorem of_fn {f : Nat} {vs : List Value} (h : ∀ H : PH, FnP Try.prog f vs H fun v _ => v = .bool true) (W : World) :
    Calls Try.prog f vs.toArray W fun e W' => e = .returned (.bool true) ∧ Below W.heap.size W W' := by
  refine (h PH.no W (fun b o hb => by cases hb) (fun b o hb => by cases hb) (fun _ _ _ => rfl)).mono ?_
  rintro e W' ⟨v, H', M', rfl, st, _, _, _, _, _, _, _, rfl⟩
  exact ⟨rfl, ⟨st.os, st.tape, st.output, st.size, fun b hb => st.block b hb rfl⟩⟩

set_option maxRecDepth 100000 in
theorem spanEnds_lifted (os : Os) (started : os.Started) (H : Type) (enc : TypeId × Value → H) :
    ReturnsInHanded {} Try.checked os 5 .any (Rows.spanEndsSpec.pre6 enc Try.prog Try.f5 Rows.spanEndsRow.domain false) (Rows.spanEndsSpec.post enc Try.prog Try.f5 false true false false) := by
  refine returnsInHanded_of_change_sized (C := Try.checked) own started (by kernel_rfl) Try.func5
    (ChangeSpec.witness6 (enc := enc) (C := Try.checked) false ⟨#[], #[.agg #[.string ByteArray.empty, .string ByteArray.empty], .agg #[.string ByteArray.empty, .string ByteArray.empty], .int .i64 0], []⟩ 8 (by kernel_rfl) (by kernel_rfl) (by kernel_rfl) (by kernel_rfl)) ?_
  intro W base args ds gs before hval0 hW hcnd hsz0 _
  have hval : ∀ (j : Nat) t v, Try.f5.params[j]? = some t → args[j]? = some v → Value.okWide Try.prog W .any base t v := hval0
  have hW' := hW
  obtain ⟨p, q, hA0, hV, rfl, hfz, hnd⟩ := hW
  have hA : DataW.TrodAll enc Try.prog W 0 (fun _ => true) true Try.f5.params.toList args.toList ds p := hA0
  rw [Try.params5] at hA hval
  obtain ⟨v0, vs0, d0, ds0, p0, q0, hargs, rfl, rfl, h0, r0⟩ := trodAll_cons hA
  obtain ⟨v1, vs1, d1, ds1, p1, q1, rfl, rfl, rfl, h1, r1⟩ := trodAll_cons r0
  obtain ⟨v2, vs2, d2, ds2, p2, q2, rfl, rfl, rfl, h2, r2⟩ := trodAll_cons r1
  obtain ⟨rfl, rfl, rfl⟩ := trodAll_nil r2
  obtain rfl : args = #[v0, v1, v2] := by cases args; simp_all
  obtain ⟨rfl, rfl⟩ := trodVars_none hV
  obtain ⟨u0, x0, _, _, _, rfl, rfl, rfl, k0, m0⟩ := Joins.open_agg2 Try.underlying23 (by kernel_rfl) (by kernel_rfl) (hval 0 23 v0 rfl rfl) h0
  obtain ⟨a0, e0, rfl, y0⟩ := DataW.trod_string Try.underlying9 k0
  obtain rfl : u0 = .string a0 := by injection e0
  obtain ⟨b0, f0, rfl, z0⟩ := DataW.trod_string Try.underlying9 m0
  obtain rfl : x0 = .string b0 := by injection f0
  obtain ⟨u1, x1, _, _, _, rfl, rfl, rfl, k1, m1⟩ := Joins.open_agg2 Try.underlying23 (by kernel_rfl) (by kernel_rfl) (hval 1 23 v1 rfl rfl) h1
  obtain ⟨a1, e1, rfl, y1⟩ := DataW.trod_string Try.underlying9 k1
  obtain rfl : u1 = .string a1 := by injection e1
  obtain ⟨b1, f1, rfl, z1⟩ := DataW.trod_string Try.underlying9 m1
  obtain rfl : x1 = .string b1 := by injection f1
  obtain ⟨a2, rfl, rfl, rfl, w2⟩ := open_int Try.underlying3 (hval 2 3 v2 rfl rfl) h2
  clear hA0 hval0
  refine (of_fn (fun H => X.SpanEnds_ok H a0 y0 b0 z0 a1 y1 b1 z1 a2 w2) W).mono fun e W' ⟨he, bel⟩ => ?_
  subst he
  exact ⟨_, rfl, _, _, _, [], _, [], hW', trodAll_mk1 (shut_bool Try.underlying4 _), (trodAll_cons_mk (Joins.shut_agg2 Try.underlying23 (by kernel_rfl) (by kernel_rfl) (shut_string Try.underlying9 y0) (shut_string Try.underlying9 z0)) (trodAll_cons_mk (Joins.shut_agg2 Try.underlying23 (by kernel_rfl) (by kernel_rfl) (shut_string Try.underlying9 y1) (shut_string Try.underlying9 z1)) (trodAll_cons_mk (shut_int Try.underlying3 w2) trodAll_mk0))), rfl, bel.frame _, fun h => by cases h⟩
theorem spanEnds_row : Rows.SpanEndsSaid :=
  OpenClaim.holds_of_wide 5 Try.f5 rfl rfl rfl rfl rfl rfl rfl ⟨rfl, rfl, rfl, rfl, rfl⟩ rfl rfl rfl rfl rfl (by kernel_rfl) Try.func5 (by kernel_rfl)
    (of_decide_eq_true (by kernel_rfl)) (by unfold Func.isWrapper; first | (rw [if_pos (by decide +kernel)]; kernel_rfl) | (rw [if_neg (by decide +kernel)]; exact ⟨rfl, rfl⟩))
    (fun os started H enc _ => spanEnds_lifted os started H enc)
end Go.Proofs.Ytpifafenmgceoaa.Close
namespace Go.Proofs.Ytpifafenmgceoaa
/-- The statement, under a short name, for the claim. -/
theorem spanEnds_holds : Rows.SpanEndsSaid := Close.spanEnds_row
#print axioms spanEnds_holds
end Go.Proofs.Ytpifafenmgceoaa
