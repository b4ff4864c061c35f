/- The laws of this text hold for every input: each returns true and leaves its arguments as they were. No condition beyond the row's own. -/
import Derived.Test.YtpifafenmgceoaaGreatDoorTie
import Derived.Test.YtpifafenmgceoaaGreatDoorCards
import Derived.Test.YtpifafenmgceoaaGreatDoorZZ
import Derived.WalkKit
import Derived.ProofKit
import Derived.OpenShut
import Derived.ShutString
import Derived.ChangeOld
import Derived.SizedLaws
import Derived.LaidMore
import Derived.Stop.Joined
import Derived.MakeChecks
import Derived.Lib.SmallJoins
set_option linter.unusedVariables false
namespace Go.Proofs.YtpifafenmgceoaaGreatDoor.Close
open Go Go.Proofs Go.ChangeShapes Go.WideShapes Go.ChangeAt Go.WideMaps Go.WideElems Go.RowKit
open Go.ChangeMaps (open_string shut_string)
open Go.Proofs.YtpifafenmgceoaaGreatDoor.X (PH Tab dbt Sl FnP nums)

abbrev laid : List (String × DataW Unit) := [("math/bits.deBruijn32tab", Rows.laid_math_bits_deBruijn32tab)]
theorem own : ownKnob Tryz.prog.godebug = none := by kernel_rfl
theorem gTab : Tryz.prog.globalNamed "math/bits.deBruijn32tab" = some 1 := by kernel_rfl
theorem tTab : (Tryz.prog.globals[1]?).map (·.type) = some 158 := by kernel_rfl
theorem door_met (os : Os) (args : Array Value) : laidMetH Tryz.prog laid ((World.doorLaid Tryz.prog 400 os).forCall (fun _ _ => 0) ⟨#[], args, []⟩).memory :=
  laidMetH_of_parts3 (fuel := 8) (laidMet_of_run' 8 (by kernel_rfl) (by kernel_rfl)) (by kernel_rfl) (by kernel_rfl)

theorem of_laid {W : World} (h : laidMetH Tryz.prog laid W) : ∃ cs T fz, W.heap[1]? = some (.cells cs T fz) ∧ cs.size = 32 ∧ ∀ i, i < 32 → cs.toList[i]? = some (.int .u8 (dbt.getD i 0 : Nat)) := by
  rw [MakeChecks.laidMetH_plain _ _ _ (by kernel_rfl)] at h
  obtain ⟨ps, ⟨g0, t0, cs0, f0, p0, q0, hg0, ht0, hv0, hd0, _, _⟩, _, _⟩ := h
  obtain rfl := Option.some.inj (gTab.symm.trans hg0)
  obtain rfl := Option.some.inj (tTab.symm.trans ht0)
  obtain ⟨xs, m1, rfl, hx1, hlen, hn, hel⟩ := DataW.trod_array Tryz.underlying158 hd0
  have c5 : Tryz.prog.cellsOf 5 = 1 := by kernel_rfl
  have cT : Tryz.prog.cellsOf 158 = 32 := by kernel_rfl
  rw [cT] at hlen
  simp only [World.var?, hg0, Option.bind_some] at hv0
  split at hv0
  · rename_i cs T fz hb
    injection hv0 with hv0; subst hv0
    refine ⟨cs, T, fz, hb, by simpa using hlen, fun i hi => ?_⟩
    have h0 := hel i hi
    rw [c5] at h0
    obtain ⟨y, hy⟩ : ∃ y, xs[i]? = some y := ⟨xs[i]'(by omega), List.getElem?_eq_getElem (by omega)⟩
    rw [hy] at h0
    obtain ⟨n, e1, e2, _⟩ := DataW.trod_int Tryz.underlying5 h0
    simp only [Prod.mk.injEq] at hx1
    have hx2 := hx1.1
    have hy1 : (xs.map (·.1))[i]? = some y.1 := by rw [List.getElem?_map, hy]; rfl
    have hk : xs.map (·.1) = (dbt.map fun k : Nat => (DataW.lit (.int .u8 (k : Int)) : DataW Unit)) := by
      have : (DataW.agg (xs.map (·.1)) : DataW Unit) = .agg (dbt.map fun k : Nat => (DataW.lit (.int .u8 (k : Int)) : DataW Unit)) := hx2.symm
      injection this
    rw [hk, List.getElem?_map] at hy1
    have hd : dbt[i]? = some (dbt.getD i 0) := by
      have hl : i < dbt.length := hi
      simp [List.getD, hl]
    rw [hd, e2] at hy1
    have hn2 : n = (dbt.getD i 0 : Nat) := by
      simp only [Option.map_some, Option.some.injEq, DataW.lit.injEq, Lit.int.injEq, true_and] at hy1
      exact hy1.symm
    subst hn2
    have := congrArg (fun l => l[0]?) e1
    simp only [Nat.mul_one] at this
    rw [List.getElem?_take, if_pos (by decide), List.getElem?_drop, Nat.add_zero] at this
    simpa using this
  · cases hv0

/-- The table, in a heap of its own. -/
def tabH (W : World) : PH := fun b => if b = 1 then W.heap[1]? else none
theorem tabH_on (W : World) : (tabH W).on W := by
  intro b o h
  simp only [tabH] at h
  split at h
  · rename_i e; rw [e]; exact h
  · cases h
theorem tabH_tab {W : World} (h : laidMetH Tryz.prog laid W) : Tab (tabH W) := by
  obtain ⟨cs, T, fz, h1, h2, h3⟩ := of_laid h
  refine .inr ⟨1, 0, cs, T, fz, rfl, by simp [tabH, h1], by rw [h2]; decide, ?_⟩
  apply List.ext_getElem?
  intro i
  rw [List.drop_zero, List.getElem?_take]
  have hl : dbt.length = 32 := rfl
  rw [hl]
  split
  · rename_i hi
    rw [h3 i hi, X.nums_get (by rw [hl]; exact hi)]
  · rename_i hi
    simp only [nums, List.getElem?_map]
    rw [List.getElem?_eq_none (by omega)]; rfl
/-- What a contract gives a row. -/
theorem of_fn {f : Nat} {vs : List Value} (h : ∀ H : PH, Tab H → FnP Tryz.prog f vs H fun v _ => v = .bool true) {W : World} (hL : laidMetH Tryz.prog laid W) :
    Calls Tryz.prog f vs.toArray W fun e W' => e = .returned (.bool true) ∧ Below W.heap.size W W' := by
  refine (h _ (tabH_tab hL) W (tabH_on W) (fun b o hb => by cases hb) (fun _ _ _ => rfl)).mono ?_
  rintro e W' ⟨v, H', M', rfl, st, _, _, _, _, _, _, _, rfl⟩
  exact ⟨rfl, ⟨st.os, st.tape, st.output, st.size, fun b hb => st.block b hb rfl⟩⟩

set_option maxRecDepth 100000 in
theorem spanRounds_lifted (os : Os) (started : os.Started) (H : Type) (enc : TypeId × Value → H) :
    ReturnsInHanded {} Tryz.checked os 3 .any (fun w args => (Rows.spanRoundsSpec.pre enc Tryz.prog Tryz.f3 [] false w args ∧ laidMetH Tryz.prog laid w) ∧ sizedMet enc Tryz.prog Tryz.f3 (OpenSpec.ofChange Rows.spanRoundsSpec) false w args)
      (Rows.spanRoundsSpec.post enc Tryz.prog Tryz.f3 false true false false) := by
  refine returnsInHanded_of_change_and (C := Tryz.checked) (X := fun w _ => laidMetH Tryz.prog laid w) (fun _ _ _ hh h => h.of_heap hh) own started (by kernel_rfl) Tryz.func3
    (ChangeSpec.witness_shaped (enc := enc) (C := Tryz.checked) (os := os) (X := fun w _ => laidMetH Tryz.prog laid w) false (World.doorLaid Tryz.prog 400 os) #[.agg #[.string ByteArray.empty, .string ByteArray.empty], .int .i64 0] 8 rfl (World.shaped_of_RefB (by kernel_rfl) (by kernel_rfl)) (by kernel_rfl) (by kernel_rfl) (by kernel_rfl) (door_met os _)) ?_
  intro W base args ds gs before hval0 hW _ _ hL _
  have hval : ∀ (j : Nat) t v, Tryz.f3.params[j]? = some t → args[j]? = some v → Value.okWide Tryz.prog W .any base t v := hval0
  have hW' := hW
  obtain ⟨p, q, hA0, hV, rfl, hfz, hnd⟩ := hW
  have hA : DataW.TrodAll enc Tryz.prog W 0 (fun _ => true) true Tryz.f3.params.toList args.toList ds p := hA0
  rw [Tryz.params3] at hA hval
  obtain ⟨v0, vs0, d0, ds0, p0, q0, hargs, rfl, rfl, h0, r0⟩ := trodAll_cons hA
  obtain ⟨v1, vs1, d1, ds1, p1, q1, rfl, rfl, rfl, h1, r1⟩ := trodAll_cons r0
  obtain ⟨rfl, rfl, rfl⟩ := trodAll_nil r1
  obtain rfl : args = #[v0, v1] := by cases args; simp_all
  obtain ⟨rfl, rfl⟩ := trodVars_none hV
  obtain ⟨u0, x0, _, _, _, rfl, rfl, rfl, k0, m0⟩ := Joins.open_agg2 Tryz.underlying23 (by kernel_rfl) (by kernel_rfl) (hval 0 23 v0 rfl rfl) h0
  obtain ⟨a0, e0, rfl, y0⟩ := DataW.trod_string Tryz.underlying9 k0
  obtain rfl : u0 = .string a0 := by injection e0
  obtain ⟨b0, f0, rfl, z0⟩ := DataW.trod_string Tryz.underlying9 m0
  obtain rfl : x0 = .string b0 := by injection f0
  obtain ⟨a1, rfl, rfl, rfl, w1⟩ := open_int Tryz.underlying3 (hval 1 3 v1 rfl rfl) h1
  clear hA0 hval0
  refine (of_fn (fun H hT => X.SpanRounds_ok H hT a0 y0 b0 z0 a1 w1) hL).mono fun e W' ⟨he, bel⟩ => ?_
  subst he
  exact ⟨_, rfl, _, _, _, [], _, [], hW', trodAll_mk1 (shut_bool Tryz.underlying4 _), (trodAll_cons_mk (Joins.shut_agg2 Tryz.underlying23 (by kernel_rfl) (by kernel_rfl) (shut_string Tryz.underlying9 y0) (shut_string Tryz.underlying9 z0)) (trodAll_cons_mk (shut_int Tryz.underlying3 w1) trodAll_mk0)), rfl, bel.frame _, fun h => by cases h⟩
theorem spanRounds_row : Rows.SpanRoundsSaid :=
  OpenClaim.holds_of_wide 3 Tryz.f3 rfl rfl rfl rfl rfl rfl rfl ⟨rfl, rfl, rfl, rfl, rfl⟩ rfl rfl rfl rfl rfl (by kernel_rfl) Tryz.func3 (by kernel_rfl)
    (of_decide_eq_true (by kernel_rfl)) (by unfold Func.isWrapper; first | (rw [if_pos (by decide +kernel)]; kernel_rfl) | (rw [if_neg (by decide +kernel)]; exact ⟨rfl, rfl⟩))
    (fun os started H enc _ => spanRounds_lifted os started H enc)
theorem spanRounds_card : Rows.SpanRoundsCardSaid :=
  Claim7.holds_tied_plain_at .later [] [.data] true (true, "e721d948eded31221d32bbffa99f1e20aa6f3777f8bf5c63f19bf9f14749b9eb") false
    spanRounds_row (fun _ h => by cases h) (by kernel_rfl) (fun _ h => by cases h) spanRounds_row_tie rfl ⟨rfl, rfl⟩ (by kernel_rfl) rfl
    (fun f fn hf hfn => by
      obtain rfl : f = 3 := Option.some.inj ((show Tryz.prog.funcNamed "cincture/cincturelaw5.SpanRounds" = some 3 by kernel_rfl).symm.trans hf) |>.symm
      obtain rfl : fn = Tryz.f3 := (Option.some.inj (Tryz.func3.symm.trans hfn)).symm
      exact ⟨by kernel_rfl, fun j t ht => by
        rw [Tryz.params3] at ht
        have hm : t ∈ [23, 3] := by simpa using Array.mem_of_getElem? ht
        have hall : ([23, 3].all fun u => !Tryz.prog.wantsStandIn u) = true := by kernel_rfl
        exact (show Tryz.prog.wantsStandIn t = false by simpa using List.all_eq_true.1 hall t hm)⟩)
    (by kernel_rfl)
end Go.Proofs.YtpifafenmgceoaaGreatDoor.Close
namespace Go.Proofs.YtpifafenmgceoaaGreatDoor
/-- The statement, under a short name, for the claim. -/
theorem spanRounds_holds : Rows.SpanRoundsCardSaid := Close.spanRounds_card
#print axioms spanRounds_holds
end Go.Proofs.YtpifafenmgceoaaGreatDoor
