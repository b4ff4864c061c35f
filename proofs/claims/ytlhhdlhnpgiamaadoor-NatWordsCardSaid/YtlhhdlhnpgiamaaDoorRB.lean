/- slices.Backward's closure, walked. -/
import Derived.Test.YtlhhdlhnpgiamaaDoorRA
import Derived.Test.YtlhhdlhnpgiamaaDoorNF
set_option linter.unusedVariables false
namespace Go.Proofs.YtlhhdlhnpgiamaaDoor.X
open Go Go.RowKit Go.Shelf Go.Proofs

attribute [local go_sem] Oper.semAt_some

set_option maxRecDepth 100000 in
set_option maxHeartbeats 2000000 in
theorem back_iter (F : Fence) (n : Nat) (hf : F.fn 59) (hro : F.round = none) (hn : 1 ≤ n) (Bs : Nat) (A : Option Addr) (len cap : Nat) (hlen : len ≤ 1000000000) (x : Nat → Nat) (I : Nat → World → Prop)
    (hR : ∀ k W, I k W → W.cell? ⟨Bs, 0, none⟩ = some (.slice A len cap) ∧ (k < len → ∃ b off, A = some ⟨b, off, none⟩ ∧ W.cell? ⟨b, off + (len - 1 - k), none⟩ = some (.int .u32 (x k : Nat)))) :
    Iter F n Tryd.prog 59 #[.pointer (some ⟨Bs, 0, none⟩)] (fun k => #[.int .i64 (len - 1 - k : Nat), .int .u32 (x k : Nat)]) len I := by
  intro l Z Zx W hY h0 hZ
  refine callsIn_of_wp Tryd.func59 rfl hf ?_ hro
  simp only [Tryd.ntmps59, List.size_toArray, List.length_cons, List.length_nil, Nat.reduceAdd, Nat.reduceSub, Array.replicate_succ, Array.replicate_zero, List.push_toArray, List.append_toArray, List.nil_append, List.cons_append]
  have hBs := (hR 0 W h0).1
  gi_wp2
  gi_loopw [3] (fun i wr => ∃ k : Nat, k ≤ len ∧ i = .int .i64 ((len : Int) - 1 - k) ∧ I k wr ∧ Z wr) (fun i _ => (intOf i + 1).toNat)
  case atStart => exact ⟨0, Nat.zero_le _, by simp, h0, hZ⟩
  case round =>
    obtain ⟨k, hk, rfl, hI, hZk⟩ := hrel
    have hb := (hR k wr hI).1
    by_cases hlt : k < len
    · obtain ⟨b, off, rfl, hc⟩ := (hR k wr hI).2 hlt
      obtain ⟨fn, tmps, assign, body, hy, hR2⟩ := hY k wr hI hZk hlt
      have e1 : ((len : Int) - 1 - k).toNat = len - 1 - k := by omega
      have e2 : ((len - 1 - k : Nat) : Int) = (len : Int) - 1 - k := by omega
      rw [e2] at hy
      have p1 : 0 ≤ (len : Int) - 1 - k := by omega
      have p2 : (len : Int) - 1 - k < len := by omega
      gi_wp2
      refine hR2.mono ?_
      rintro e W3 (⟨rfl, hI3, hZ3⟩ | ⟨rfl, hZx⟩)
      · gi_wp2
        go_roundw
        case rel => exact ⟨k + 1, by omega, by simp; omega, hI3, hZ3⟩
        case measure => simp [intOf]; omega
      · gi_wp2
        refine bodyPost_ret (results_none rfl _ _ _) rfl ?_
        exact ⟨⟨_, rfl⟩, .inr ⟨_, hZx⟩⟩
    · obtain rfl : k = len := by omega
      gi_wp2
      go_end0
      exact ⟨⟨_, rfl⟩, .inl ⟨hI, hZk⟩⟩

set_option maxHeartbeats 1000000 in
/-- slices.Backward(s): the slice value is boxed; the function value captures the box -/
theorem back_in (F : Fence) (n : Nat) (hf : F.fn 55) (hro : F.round = none) (a : Option Addr) (len cap : Nat) (w : World) :
    CallsIn F n Tryd.prog 55 #[.slice a len cap] w fun e w' => e = .returned (.func (.func 59) #[] #[.pointer (some ⟨w.heap.size, 0, none⟩)]) ∧ w' = w.alloc (.cells #[.slice a len cap] 23) := by
  refine callsIn_of_wp Tryd.func55 rfl hf ?_ hro
  simp only [Tryd.ntmps55, List.size_toArray, List.length_cons, List.length_nil, Nat.reduceAdd, Nat.reduceSub, Array.replicate_succ, Array.replicate_zero, List.push_toArray, List.append_toArray, List.nil_append, List.cons_append]
  gi_wp2
  go_ret
  exact ⟨rfl, rfl⟩

end Go.Proofs.YtlhhdlhnpgiamaaDoor.X
