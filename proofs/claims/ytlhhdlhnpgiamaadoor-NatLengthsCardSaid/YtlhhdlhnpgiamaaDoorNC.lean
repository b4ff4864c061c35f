/- Package nat: adding. -/
import Derived.Test.YtlhhdlhnpgiamaaDoorNB
import Derived.Test.YtlhhdlhnpgiamaaDoorMC
set_option linter.unusedVariables false
set_option linter.unusedSimpArgs false
namespace Go.Proofs.YtlhhdlhnpgiamaaDoor.X
open Go Go.RowKit Go.Proofs

theorem carry_step {c x y : Nat} : (c + x + y) % 4294967296 + 4294967296 * ((c + x + y) / 4294967296) = c + x + y := by omega

theorem add_ok (H : PH) (va vb : Value) (x y : Nat) (ha : NatV H va x) (hb : NatV H vb y) (hbx : bl x ≤ 4294967296) (hby : bl y ≤ 4294967296) : FnP Tryd.prog 36 [va, vb] H fun v H' => NatV H' v (x + y) := by
  obtain ⟨A, l, c, rfl, hc, hS, hn, rfl⟩ := ha
  obtain ⟨B, m, e, rfl, he, hT, hm, rfl⟩ := hb
  have hlen : l.length ≤ 200000000 := by have := len_le_bl hn; omega
  have hlen2 : m.length ≤ 200000000 := by have := len_le_bl hm; omega
  clear hbx hby hc he
  refine of_nat_Add (by simp) ?_
  simp only [go_sem, Nat.reduceEqDiff, Bool.false_eq_true, Nat.reduceBEq, ↓reduceIte, p_nat_Add]
  refine ev_if (fun h => ?_) (fun h => ?_)
  · simp only [go_sem, Nat.reduceEqDiff, Bool.false_eq_true, Nat.reduceBEq, ↓reduceIte]
    rw [Nat.add_comm]
    revert h hlen hlen2 hn hm hS hT A l c B m e
    intro B m e hT hm A l c hS hn hlen2 hlen h
    replace h : m.length ≤ l.length := by omega
    rw [w64n (l.length + 1) (by omega) (by omega)]
    refine ev_mkO (by omega) (by omega) (by omega) (PH.disj_no _) ?_
    intro g M hO _ _ hd
    simp only [go_sem, Nat.reduceEqDiff, Bool.false_eq_true, Nat.reduceBEq, ↓reduceIte]
    rw [show (((l.length + 1 : Nat) : Int)).toNat = l.length + 1 from rfl] at hO ⊢
    refine ev_loop (fun n s => ∃ i o q M, i ≤ l.length ∧ n = l.length - i ∧ o.length = l.length + 1 ∧ Lim o ∧ q ≤ 1 ∧ val (o.take i) + 4294967296 ^ i * q = val (l.take i) + val (m.take i) ∧ Own .u32 60 M (some ⟨g, 0, none⟩) o (l.length + 1) ∧ PH.disj H M ∧
      s = ⟨[(26, .v (.int .i64 (i : Nat))), (25, .v (.int .i64 (l.length : Nat))), (24, .v (.slice A l.length c)), (6, .v (.int .u64 (q : Nat))), (5, .v (.slice (some ⟨g, 0, none⟩) (l.length + 1) (l.length + 1))), (4, .ptr 4 0), (3, .ptr 3 0), (2, .ptr 2 0)], [(4, [.slice none 0 0]), (3, [.slice B m.length e]), (2, [.slice A l.length c])], H, M⟩)
      l.length _ ⟨0, _, 0, M, by omega, by omega, by simp, Lim.replicate _, by omega, by simp [val], hO, hd, rfl⟩ ⟨rfl, by simp only [go_sem, Nat.reduceEqDiff, Bool.false_eq_true, Nat.reduceBEq, ↓reduceIte, and_self, Option.some.injEq, SV.v.injEq, SV.ptr.injEq, Value.int.injEq, Value.bool.injEq, Value.slice.injEq, true_and, and_true] <;> (repeat' apply And.intro) <;> first | rfl | omega | (simp (disch := omega) only [w64, wu64, wu32, wu8] <;> omega), by simp only [go_sem, Nat.reduceEqDiff, Bool.false_eq_true, Nat.reduceBEq, ↓reduceIte, and_self, Option.some.injEq, SV.v.injEq, SV.ptr.injEq, Value.int.injEq, Value.bool.injEq, Value.slice.injEq, true_and, and_true] <;> (repeat' apply And.intro) <;> rfl, rfl, PH.le.refl _⟩ ?_
    clear hO hd
    rintro n s ⟨i, o, q, M, hi, rfl, ho, hlo, hq, hv, hO, hd, rfl⟩
    simp only [go_sem, Nat.reduceEqDiff, Bool.false_eq_true, Nat.reduceBEq, ↓reduceIte]
    refine ev_if (fun h2 => ?_) (fun h2 => ?_)
    · obtain ⟨b, off, rfl⟩ := hS.base (by omega)
      simp only [go_sem, Nat.reduceEqDiff, Bool.false_eq_true, Nat.reduceBEq, ↓reduceIte]
      refine ev_iaN i rfl (by omega) rfl ?_
      simp only [go_sem, Nat.reduceEqDiff, Bool.false_eq_true, Nat.reduceBEq, ↓reduceIte]
      refine ev_ldS hS rfl (by omega) ?_
      have hx := hn.1.getD i
      have hy := hm.1.getD i
      have el := val_take_succ l i (by omega)
      have em := val_take_ge m i
      simp only [go_sem, Nat.reduceEqDiff, Bool.false_eq_true, Nat.reduceBEq, ↓reduceIte]
      rw [wu64n (l.getD i 0) rfl (by omega), wu64n (q + l.getD i 0) (by omega) (by omega)]
      have step : ∀ z, z = q + l.getD i 0 + m.getD i 0 → val ((o.set i (z % 4294967296)).take (i + 1)) + 4294967296 ^ (i + 1) * (z / 4294967296) = val (l.take (i + 1)) + val (m.take (i + 1)) := by
        intro z hz
        rw [val_take_set o i _ (by omega), el, em, Nat.pow_succ, Nat.mul_assoc, Nat.add_assoc, ← Nat.mul_add, show z % 4294967296 + 4294967296 * (z / 4294967296) = z by omega, hz, Nat.mul_add, Nat.mul_add]
        omega
      refine ev_if (fun h3 => ?_) (fun h3 => ?_)
      · simp only [go_sem, Nat.reduceEqDiff, Bool.false_eq_true, Nat.reduceBEq, ↓reduceIte]
        obtain ⟨b2, off2, rfl⟩ := hT.base (by omega)
        refine ev_iaN i rfl (by omega) rfl ?_
        simp only [go_sem, Nat.reduceEqDiff, Bool.false_eq_true, Nat.reduceBEq, ↓reduceIte]
        refine ev_ldS hT rfl (by omega) ?_
        simp only [go_sem, Nat.reduceEqDiff, Bool.false_eq_true, Nat.reduceBEq, ↓reduceIte]
        rw [wu64n (m.getD i 0) rfl (by omega), wu64n (q + l.getD i 0 + m.getD i 0) (by omega) (by omega)]
        refine ev_iaN i rfl (by omega) rfl ?_
        simp only [go_sem, Nat.reduceEqDiff, Bool.false_eq_true, Nat.reduceBEq, ↓reduceIte]
        rw [u32mod]
        refine ev_stO hO (by omega) ?_
        intro M' hO' _ hd'
        simp only [go_sem, Nat.reduceEqDiff, Bool.false_eq_true, Nat.reduceBEq, ↓reduceIte]
        refine shr_nat (n := 32) rfl (by decide) ?_
        simp only [go_sem, Nat.reduceEqDiff, Bool.false_eq_true, Nat.reduceBEq, ↓reduceIte]
        refine k_next (l.length - (i + 1)) _ (by omega) ⟨i + 1, _, (q + l.getD i 0 + m.getD i 0) / 4294967296, M', by omega, rfl, by simp; omega, hlo.set (by omega), by omega, step _ rfl, hO', hd' _ hd, rfl⟩ ⟨rfl, by simp only [go_sem, Nat.reduceEqDiff, Bool.false_eq_true, Nat.reduceBEq, ↓reduceIte, and_self, Option.some.injEq, SV.v.injEq, SV.ptr.injEq, Value.int.injEq, Value.bool.injEq, Value.slice.injEq, true_and, and_true] <;> (repeat' apply And.intro) <;> first | rfl | omega | (simp (disch := omega) only [w64, wu64, wu32, wu8] <;> omega), by simp only [go_sem, Nat.reduceEqDiff, Bool.false_eq_true, Nat.reduceBEq, ↓reduceIte, and_self, Option.some.injEq, SV.v.injEq, SV.ptr.injEq, Value.int.injEq, Value.bool.injEq, Value.slice.injEq, true_and, and_true] <;> (repeat' apply And.intro) <;> rfl, rfl, PH.le.refl _⟩
      · simp only [go_sem, Nat.reduceEqDiff, Bool.false_eq_true, Nat.reduceBEq, ↓reduceIte]
        have hz : m.getD i 0 = 0 := getD_big (by omega)
        rw [show q + l.getD i 0 = q + l.getD i 0 + m.getD i 0 by omega]
        refine ev_iaN i rfl (by omega) rfl ?_
        simp only [go_sem, Nat.reduceEqDiff, Bool.false_eq_true, Nat.reduceBEq, ↓reduceIte]
        rw [u32mod]
        refine ev_stO hO (by omega) ?_
        intro M' hO' _ hd'
        simp only [go_sem, Nat.reduceEqDiff, Bool.false_eq_true, Nat.reduceBEq, ↓reduceIte]
        refine shr_nat (n := 32) rfl (by decide) ?_
        simp only [go_sem, Nat.reduceEqDiff, Bool.false_eq_true, Nat.reduceBEq, ↓reduceIte]
        refine k_next (l.length - (i + 1)) _ (by omega) ⟨i + 1, _, (q + l.getD i 0 + m.getD i 0) / 4294967296, M', by omega, rfl, by simp; omega, hlo.set (by omega), by omega, step _ rfl, hO', hd' _ hd, rfl⟩ ⟨rfl, by simp only [go_sem, Nat.reduceEqDiff, Bool.false_eq_true, Nat.reduceBEq, ↓reduceIte, and_self, Option.some.injEq, SV.v.injEq, SV.ptr.injEq, Value.int.injEq, Value.bool.injEq, Value.slice.injEq, true_and, and_true] <;> (repeat' apply And.intro) <;> first | rfl | omega | (simp (disch := omega) only [w64, wu64, wu32, wu8] <;> omega), by simp only [go_sem, Nat.reduceEqDiff, Bool.false_eq_true, Nat.reduceBEq, ↓reduceIte, and_self, Option.some.injEq, SV.v.injEq, SV.ptr.injEq, Value.int.injEq, Value.bool.injEq, Value.slice.injEq, true_and, and_true] <;> (repeat' apply And.intro) <;> rfl, rfl, PH.le.refl _⟩
    · have hil : i = l.length := by omega
      subst hil
      simp only [go_sem, Nat.reduceEqDiff, Bool.false_eq_true, Nat.reduceBEq, ↓reduceIte]
      refine ev_iaN l.length rfl (by omega) rfl ?_
      simp only [go_sem, Nat.reduceEqDiff, Bool.false_eq_true, Nat.reduceBEq, ↓reduceIte]
      rw [u32mod]
      refine ev_stO hO (by omega) ?_
      intro M' hO' _ hd'
      simp only [go_sem, Nat.reduceEqDiff, Bool.false_eq_true, Nat.reduceBEq, ↓reduceIte]
      refine ev_cutA hO' (by simp; omega) (hlo.set (by omega)) (by omega) (hd' _ hd) ?_
      intro v H' hl hN
      have hN2 := hN
      obtain ⟨A', l', c', rfl, _⟩ := hN2
      simp only [go_sem, Nat.reduceEqDiff, Bool.false_eq_true, Nat.reduceBEq, ↓reduceIte]
      refine ⟨by trivial, ?_⟩
      have e1 := val_take_set o l.length (q % 4294967296) (by omega)
      rw [List.take_of_length_le (by simp; omega)] at e1
      rw [e1, show q % 4294967296 = q by omega, hv, List.take_length, List.take_of_length_le h] at hN
      exact hN
  · simp only [go_sem, Nat.reduceEqDiff, Bool.false_eq_true, Nat.reduceBEq, ↓reduceIte]
    replace h : m.length ≤ l.length := by omega
    rw [w64n (l.length + 1) (by omega) (by omega)]
    refine ev_mkO (by omega) (by omega) (by omega) (PH.disj_no _) ?_
    intro g M hO _ _ hd
    simp only [go_sem, Nat.reduceEqDiff, Bool.false_eq_true, Nat.reduceBEq, ↓reduceIte]
    rw [show (((l.length + 1 : Nat) : Int)).toNat = l.length + 1 from rfl] at hO ⊢
    refine ev_loop (fun n s => ∃ i o q M, i ≤ l.length ∧ n = l.length - i ∧ o.length = l.length + 1 ∧ Lim o ∧ q ≤ 1 ∧ val (o.take i) + 4294967296 ^ i * q = val (l.take i) + val (m.take i) ∧ Own .u32 60 M (some ⟨g, 0, none⟩) o (l.length + 1) ∧ PH.disj H M ∧
      s = ⟨[(26, .v (.int .i64 (i : Nat))), (25, .v (.int .i64 (l.length : Nat))), (24, .v (.slice A l.length c)), (6, .v (.int .u64 (q : Nat))), (5, .v (.slice (some ⟨g, 0, none⟩) (l.length + 1) (l.length + 1))), (4, .ptr 4 0), (3, .ptr 3 0), (2, .ptr 2 0)], [(4, [.slice none 0 0]), (3, [.slice B m.length e]), (2, [.slice A l.length c])], H, M⟩)
      l.length _ ⟨0, _, 0, M, by omega, by omega, by simp, Lim.replicate _, by omega, by simp [val], hO, hd, rfl⟩ ⟨rfl, by simp only [go_sem, Nat.reduceEqDiff, Bool.false_eq_true, Nat.reduceBEq, ↓reduceIte, and_self, Option.some.injEq, SV.v.injEq, SV.ptr.injEq, Value.int.injEq, Value.bool.injEq, Value.slice.injEq, true_and, and_true] <;> (repeat' apply And.intro) <;> first | rfl | omega | (simp (disch := omega) only [w64, wu64, wu32, wu8] <;> omega), by simp only [go_sem, Nat.reduceEqDiff, Bool.false_eq_true, Nat.reduceBEq, ↓reduceIte, and_self, Option.some.injEq, SV.v.injEq, SV.ptr.injEq, Value.int.injEq, Value.bool.injEq, Value.slice.injEq, true_and, and_true] <;> (repeat' apply And.intro) <;> rfl, rfl, PH.le.refl _⟩ ?_
    clear hO hd
    rintro n s ⟨i, o, q, M, hi, rfl, ho, hlo, hq, hv, hO, hd, rfl⟩
    simp only [go_sem, Nat.reduceEqDiff, Bool.false_eq_true, Nat.reduceBEq, ↓reduceIte]
    refine ev_if (fun h2 => ?_) (fun h2 => ?_)
    · obtain ⟨b, off, rfl⟩ := hS.base (by omega)
      simp only [go_sem, Nat.reduceEqDiff, Bool.false_eq_true, Nat.reduceBEq, ↓reduceIte]
      refine ev_iaN i rfl (by omega) rfl ?_
      simp only [go_sem, Nat.reduceEqDiff, Bool.false_eq_true, Nat.reduceBEq, ↓reduceIte]
      refine ev_ldS hS rfl (by omega) ?_
      have hx := hn.1.getD i
      have hy := hm.1.getD i
      have el := val_take_succ l i (by omega)
      have em := val_take_ge m i
      simp only [go_sem, Nat.reduceEqDiff, Bool.false_eq_true, Nat.reduceBEq, ↓reduceIte]
      rw [wu64n (l.getD i 0) rfl (by omega), wu64n (q + l.getD i 0) (by omega) (by omega)]
      have step : ∀ z, z = q + l.getD i 0 + m.getD i 0 → val ((o.set i (z % 4294967296)).take (i + 1)) + 4294967296 ^ (i + 1) * (z / 4294967296) = val (l.take (i + 1)) + val (m.take (i + 1)) := by
        intro z hz
        rw [val_take_set o i _ (by omega), el, em, Nat.pow_succ, Nat.mul_assoc, Nat.add_assoc, ← Nat.mul_add, show z % 4294967296 + 4294967296 * (z / 4294967296) = z by omega, hz, Nat.mul_add, Nat.mul_add]
        omega
      refine ev_if (fun h3 => ?_) (fun h3 => ?_)
      · simp only [go_sem, Nat.reduceEqDiff, Bool.false_eq_true, Nat.reduceBEq, ↓reduceIte]
        obtain ⟨b2, off2, rfl⟩ := hT.base (by omega)
        refine ev_iaN i rfl (by omega) rfl ?_
        simp only [go_sem, Nat.reduceEqDiff, Bool.false_eq_true, Nat.reduceBEq, ↓reduceIte]
        refine ev_ldS hT rfl (by omega) ?_
        simp only [go_sem, Nat.reduceEqDiff, Bool.false_eq_true, Nat.reduceBEq, ↓reduceIte]
        rw [wu64n (m.getD i 0) rfl (by omega), wu64n (q + l.getD i 0 + m.getD i 0) (by omega) (by omega)]
        refine ev_iaN i rfl (by omega) rfl ?_
        simp only [go_sem, Nat.reduceEqDiff, Bool.false_eq_true, Nat.reduceBEq, ↓reduceIte]
        rw [u32mod]
        refine ev_stO hO (by omega) ?_
        intro M' hO' _ hd'
        simp only [go_sem, Nat.reduceEqDiff, Bool.false_eq_true, Nat.reduceBEq, ↓reduceIte]
        refine shr_nat (n := 32) rfl (by decide) ?_
        simp only [go_sem, Nat.reduceEqDiff, Bool.false_eq_true, Nat.reduceBEq, ↓reduceIte]
        refine k_next (l.length - (i + 1)) _ (by omega) ⟨i + 1, _, (q + l.getD i 0 + m.getD i 0) / 4294967296, M', by omega, rfl, by simp; omega, hlo.set (by omega), by omega, step _ rfl, hO', hd' _ hd, rfl⟩ ⟨rfl, by simp only [go_sem, Nat.reduceEqDiff, Bool.false_eq_true, Nat.reduceBEq, ↓reduceIte, and_self, Option.some.injEq, SV.v.injEq, SV.ptr.injEq, Value.int.injEq, Value.bool.injEq, Value.slice.injEq, true_and, and_true] <;> (repeat' apply And.intro) <;> first | rfl | omega | (simp (disch := omega) only [w64, wu64, wu32, wu8] <;> omega), by simp only [go_sem, Nat.reduceEqDiff, Bool.false_eq_true, Nat.reduceBEq, ↓reduceIte, and_self, Option.some.injEq, SV.v.injEq, SV.ptr.injEq, Value.int.injEq, Value.bool.injEq, Value.slice.injEq, true_and, and_true] <;> (repeat' apply And.intro) <;> rfl, rfl, PH.le.refl _⟩
      · simp only [go_sem, Nat.reduceEqDiff, Bool.false_eq_true, Nat.reduceBEq, ↓reduceIte]
        have hz : m.getD i 0 = 0 := getD_big (by omega)
        rw [show q + l.getD i 0 = q + l.getD i 0 + m.getD i 0 by omega]
        refine ev_iaN i rfl (by omega) rfl ?_
        simp only [go_sem, Nat.reduceEqDiff, Bool.false_eq_true, Nat.reduceBEq, ↓reduceIte]
        rw [u32mod]
        refine ev_stO hO (by omega) ?_
        intro M' hO' _ hd'
        simp only [go_sem, Nat.reduceEqDiff, Bool.false_eq_true, Nat.reduceBEq, ↓reduceIte]
        refine shr_nat (n := 32) rfl (by decide) ?_
        simp only [go_sem, Nat.reduceEqDiff, Bool.false_eq_true, Nat.reduceBEq, ↓reduceIte]
        refine k_next (l.length - (i + 1)) _ (by omega) ⟨i + 1, _, (q + l.getD i 0 + m.getD i 0) / 4294967296, M', by omega, rfl, by simp; omega, hlo.set (by omega), by omega, step _ rfl, hO', hd' _ hd, rfl⟩ ⟨rfl, by simp only [go_sem, Nat.reduceEqDiff, Bool.false_eq_true, Nat.reduceBEq, ↓reduceIte, and_self, Option.some.injEq, SV.v.injEq, SV.ptr.injEq, Value.int.injEq, Value.bool.injEq, Value.slice.injEq, true_and, and_true] <;> (repeat' apply And.intro) <;> first | rfl | omega | (simp (disch := omega) only [w64, wu64, wu32, wu8] <;> omega), by simp only [go_sem, Nat.reduceEqDiff, Bool.false_eq_true, Nat.reduceBEq, ↓reduceIte, and_self, Option.some.injEq, SV.v.injEq, SV.ptr.injEq, Value.int.injEq, Value.bool.injEq, Value.slice.injEq, true_and, and_true] <;> (repeat' apply And.intro) <;> rfl, rfl, PH.le.refl _⟩
    · have hil : i = l.length := by omega
      subst hil
      simp only [go_sem, Nat.reduceEqDiff, Bool.false_eq_true, Nat.reduceBEq, ↓reduceIte]
      refine ev_iaN l.length rfl (by omega) rfl ?_
      simp only [go_sem, Nat.reduceEqDiff, Bool.false_eq_true, Nat.reduceBEq, ↓reduceIte]
      rw [u32mod]
      refine ev_stO hO (by omega) ?_
      intro M' hO' _ hd'
      simp only [go_sem, Nat.reduceEqDiff, Bool.false_eq_true, Nat.reduceBEq, ↓reduceIte]
      refine ev_cutA hO' (by simp; omega) (hlo.set (by omega)) (by omega) (hd' _ hd) ?_
      intro v H' hl hN
      have hN2 := hN
      obtain ⟨A', l', c', rfl, _⟩ := hN2
      simp only [go_sem, Nat.reduceEqDiff, Bool.false_eq_true, Nat.reduceBEq, ↓reduceIte]
      refine ⟨by trivial, ?_⟩
      have e1 := val_take_set o l.length (q % 4294967296) (by omega)
      rw [List.take_of_length_le (by simp; omega)] at e1
      rw [e1, show q % 4294967296 = q by omega, hv, List.take_length, List.take_of_length_le h] at hN
      exact hN

end Go.Proofs.YtlhhdlhnpgiamaaDoor.X
