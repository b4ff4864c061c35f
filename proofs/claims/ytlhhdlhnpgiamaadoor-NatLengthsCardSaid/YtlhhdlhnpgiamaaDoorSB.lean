/- The reference's naturals: sums, products, shifts. -/
import Derived.Test.YtlhhdlhnpgiamaaDoorSA
set_option linter.unusedVariables false
set_option linter.unusedSimpArgs false
namespace Go.Proofs.YtlhhdlhnpgiamaaDoor.X
open Go Go.RowKit Go.Proofs

theorem radd_ok (H : PH) (va vb : Value) (x y : Nat) (ha : RefV H va x) (hb : RefV H vb y) (hbx : bl x ≤ 4294967296) (hby : bl y ≤ 4294967296) : FnP Tryd.prog 40 [va, vb] H fun v H' => RefV H' v (x + y) := by
  obtain ⟨A, l, c, rfl, hc, hS, hn, rfl⟩ := ha
  obtain ⟨B, m, e, rfl, he, hT, hm, rfl⟩ := hb
  have hlen : l.length ≤ 200000000 := by have := len_le_bl hn; omega
  have hlen2 : m.length ≤ 200000000 := by have := len_le_bl hm; omega
  clear hbx hby hc he
  refine of_cinctureref1_AddNat (by simp) ?_
  simp only [go_sem, Nat.reduceEqDiff, Bool.false_eq_true, Nat.reduceBEq, ↓reduceIte, p_cinctureref1_AddNat]
  rw [show (if (l.length : Int) < (m.length : Int) then (m.length : Int) else (l.length : Int)) = ((max l.length m.length : Nat) : Int) by split <;> omega]
  simp (disch := omega) only [nA64, nS64, nM64, nC64, nA64l, nS64l, nM64l, nM64r, nR64l, nL64l, nAu64, nMu64, nMu64r, nSu64, nAu64l, nLu64l, nCu64, nCu32, nCu8, nAu32, nLu32l, nSu8l, toNat_cast]
  obtain ⟨N, hN⟩ : ∃ N, max l.length m.length = N := ⟨_, rfl⟩
  rw [hN]
  refine ev_mkO (by omega) (by omega) (by omega) (PH.disj_no _) ?_
  intro g M hO _ _ hd
  simp only [go_sem, Nat.reduceEqDiff, Bool.false_eq_true, Nat.reduceBEq, ↓reduceIte]
  rw [toNat_cast] at hO ⊢
  refine ev_loop (fun n s => ∃ i o q M, i ≤ N + 1 ∧ n = N + 1 - i ∧ o.length = N + 1 ∧ Lim o ∧ q ≤ 1 ∧ val (o.take i) + 4294967296 ^ i * q = val (l.take i) + val (m.take i) ∧ Own .u32 60 M (some ⟨g, 0, none⟩) o (N + 1) ∧ PH.disj H M ∧
    s = ⟨[(7, .v (.int .i64 (i : Nat))), (6, .v (.int .u64 (q : Nat))), (5, .v (.slice (some ⟨g, 0, none⟩) (N + 1) (N + 1))), (1, .v (.slice B m.length e)), (0, .v (.slice A l.length c))], [], H, M⟩)
    (N + 1) _ ⟨0, _, 0, M, by omega, by omega, by simp, Lim.replicate _, by omega, by simp [val], hO, hd, rfl⟩ ⟨rfl, by simp only [go_sem, Nat.reduceEqDiff, Bool.false_eq_true, Nat.reduceBEq, ↓reduceIte, and_self, Option.some.injEq, SV.v.injEq, SV.ptr.injEq, Value.int.injEq, Value.bool.injEq, Value.slice.injEq, true_and, and_true] <;> (repeat' apply And.intro) <;> first | rfl | omega | (simp (disch := omega) only [w64, wu64, wu32, wu8] <;> omega), by simp only [go_sem, Nat.reduceEqDiff, Bool.false_eq_true, Nat.reduceBEq, ↓reduceIte, and_self, Option.some.injEq, SV.v.injEq, SV.ptr.injEq, Value.int.injEq, Value.bool.injEq, Value.slice.injEq, true_and, and_true] <;> (repeat' apply And.intro) <;> rfl, rfl, PH.le.refl _⟩ ?_
  clear hO hd
  rintro n s ⟨i, o, q, M, hi, rfl, ho, hlo, hq, hv, hO, hd, rfl⟩
  simp only [go_sem, Nat.reduceEqDiff, Bool.false_eq_true, Nat.reduceBEq, ↓reduceIte]
  refine ev_if (fun h2 => ?_) (fun h2 => ?_)
  · have hx := hn.1.getD i
    have hy := hm.1.getD i
    have el := val_take_ge l i
    have em := val_take_ge m i
    have step : ∀ z, z = q + l.getD i 0 + m.getD i 0 → val ((o.set i (z % 4294967296)).take (i + 1)) + 4294967296 ^ (i + 1) * (z / 4294967296) = val (l.take (i + 1)) + val (m.take (i + 1)) := by
      intro z hz
      rw [val_take_set o i _ (by omega), el, em, Nat.pow_succ, Nat.mul_assoc, Nat.add_assoc, ← Nat.mul_add, show z % 4294967296 + 4294967296 * (z / 4294967296) = z by omega, hz, Nat.mul_add, Nat.mul_add]
      omega
    simp only [go_sem, Nat.reduceEqDiff, Bool.false_eq_true, Nat.reduceBEq, ↓reduceIte]
    refine ev_if (fun h3 => ?_) (fun h3 => ?_)
    · simp only [go_sem, Nat.reduceEqDiff, Bool.false_eq_true, Nat.reduceBEq, ↓reduceIte]
      obtain ⟨b, off, rfl⟩ := hS.base (by omega)
      refine ev_iaN i rfl (by omega) rfl ?_
      simp only [go_sem, Nat.reduceEqDiff, Bool.false_eq_true, Nat.reduceBEq, ↓reduceIte]
      refine ev_ldS hS rfl (by omega) ?_
      simp only [go_sem, Nat.reduceEqDiff, Bool.false_eq_true, Nat.reduceBEq, ↓reduceIte]
      simp (disch := omega) only [nA64, nS64, nM64, nC64, nA64l, nS64l, nM64l, nM64r, nR64l, nL64l, nAu64, nMu64, nMu64r, nSu64, nAu64l, nLu64l, nCu64, nCu32, nCu8, nAu32, nLu32l, nSu8l, toNat_cast]
      refine ev_if (fun h4 => ?_) (fun h4 => ?_)
      · simp only [go_sem, Nat.reduceEqDiff, Bool.false_eq_true, Nat.reduceBEq, ↓reduceIte]
        obtain ⟨b2, off2, rfl⟩ := hT.base (by omega)
        refine ev_iaN i rfl (by omega) rfl ?_
        simp only [go_sem, Nat.reduceEqDiff, Bool.false_eq_true, Nat.reduceBEq, ↓reduceIte]
        refine ev_ldS hT rfl (by omega) ?_
        simp only [go_sem, Nat.reduceEqDiff, Bool.false_eq_true, Nat.reduceBEq, ↓reduceIte]
        simp (disch := omega) only [nA64, nS64, nM64, nC64, nA64l, nS64l, nM64l, nM64r, nR64l, nL64l, nAu64, nMu64, nMu64r, nSu64, nAu64l, nLu64l, nCu64, nCu32, nCu8, nAu32, nLu32l, nSu8l, toNat_cast]
        rw [and_lo (by omega), u32mod, Nat.mod_mod]
        refine ev_iaN i rfl (by omega) rfl ?_
        simp only [go_sem, Nat.reduceEqDiff, Bool.false_eq_true, Nat.reduceBEq, ↓reduceIte]
        refine ev_stO hO (by omega) ?_
        intro M' hO' _ hd'
        simp only [go_sem, Nat.reduceEqDiff, Bool.false_eq_true, Nat.reduceBEq, ↓reduceIte]
        refine shr_nat (n := 32) rfl (by decide) ?_
        simp only [go_sem, Nat.reduceEqDiff, Bool.false_eq_true, Nat.reduceBEq, ↓reduceIte]
        simp (disch := omega) only [nA64, nS64, nM64, nC64, nA64l, nS64l, nM64l, nM64r, nR64l, nL64l, nAu64, nMu64, nMu64r, nSu64, nAu64l, nLu64l, nCu64, nCu32, nCu8, nAu32, nLu32l, nSu8l, toNat_cast]
        refine k_next (N + 1 - (i + 1)) _ (by omega) ⟨i + 1, _, (q + l.getD i 0 + m.getD i 0) / 4294967296, M', by omega, rfl, by simp; omega, hlo.set (by omega), by omega, step _ rfl, hO', hd' _ hd, rfl⟩ ⟨rfl, by simp only [go_sem, Nat.reduceEqDiff, Bool.false_eq_true, Nat.reduceBEq, ↓reduceIte, and_self, Option.some.injEq, SV.v.injEq, SV.ptr.injEq, Value.int.injEq, Value.bool.injEq, Value.slice.injEq, true_and, and_true] <;> (repeat' apply And.intro) <;> first | rfl | omega | (simp (disch := omega) only [w64, wu64, wu32, wu8] <;> omega), by simp only [go_sem, Nat.reduceEqDiff, Bool.false_eq_true, Nat.reduceBEq, ↓reduceIte, and_self, Option.some.injEq, SV.v.injEq, SV.ptr.injEq, Value.int.injEq, Value.bool.injEq, Value.slice.injEq, true_and, and_true] <;> (repeat' apply And.intro) <;> rfl, rfl, PH.le.refl _⟩
      · simp only [go_sem, Nat.reduceEqDiff, Bool.false_eq_true, Nat.reduceBEq, ↓reduceIte]
        have hz : m.getD i 0 = 0 := getD_big (by omega)
        rw [show q + l.getD i 0 = q + l.getD i 0 + m.getD i 0 by omega]
        rw [and_lo (by omega), u32mod, Nat.mod_mod]
        refine ev_iaN i rfl (by omega) rfl ?_
        simp only [go_sem, Nat.reduceEqDiff, Bool.false_eq_true, Nat.reduceBEq, ↓reduceIte]
        refine ev_stO hO (by omega) ?_
        intro M' hO' _ hd'
        simp only [go_sem, Nat.reduceEqDiff, Bool.false_eq_true, Nat.reduceBEq, ↓reduceIte]
        refine shr_nat (n := 32) rfl (by decide) ?_
        simp only [go_sem, Nat.reduceEqDiff, Bool.false_eq_true, Nat.reduceBEq, ↓reduceIte]
        simp (disch := omega) only [nA64, nS64, nM64, nC64, nA64l, nS64l, nM64l, nM64r, nR64l, nL64l, nAu64, nMu64, nMu64r, nSu64, nAu64l, nLu64l, nCu64, nCu32, nCu8, nAu32, nLu32l, nSu8l, toNat_cast]
        refine k_next (N + 1 - (i + 1)) _ (by omega) ⟨i + 1, _, (q + l.getD i 0 + m.getD i 0) / 4294967296, M', by omega, rfl, by simp; omega, hlo.set (by omega), by omega, step _ rfl, hO', hd' _ hd, rfl⟩ ⟨rfl, by simp only [go_sem, Nat.reduceEqDiff, Bool.false_eq_true, Nat.reduceBEq, ↓reduceIte, and_self, Option.some.injEq, SV.v.injEq, SV.ptr.injEq, Value.int.injEq, Value.bool.injEq, Value.slice.injEq, true_and, and_true] <;> (repeat' apply And.intro) <;> first | rfl | omega | (simp (disch := omega) only [w64, wu64, wu32, wu8] <;> omega), by simp only [go_sem, Nat.reduceEqDiff, Bool.false_eq_true, Nat.reduceBEq, ↓reduceIte, and_self, Option.some.injEq, SV.v.injEq, SV.ptr.injEq, Value.int.injEq, Value.bool.injEq, Value.slice.injEq, true_and, and_true] <;> (repeat' apply And.intro) <;> rfl, rfl, PH.le.refl _⟩
    · simp only [go_sem, Nat.reduceEqDiff, Bool.false_eq_true, Nat.reduceBEq, ↓reduceIte]
      have hz : l.getD i 0 = 0 := getD_big (by omega)
      rw [show (q : Int) = ((q + l.getD i 0 : Nat) : Int) by omega]
      refine ev_if (fun h4 => ?_) (fun h4 => ?_)
      · simp only [go_sem, Nat.reduceEqDiff, Bool.false_eq_true, Nat.reduceBEq, ↓reduceIte]
        obtain ⟨b2, off2, rfl⟩ := hT.base (by omega)
        refine ev_iaN i rfl (by omega) rfl ?_
        simp only [go_sem, Nat.reduceEqDiff, Bool.false_eq_true, Nat.reduceBEq, ↓reduceIte]
        refine ev_ldS hT rfl (by omega) ?_
        simp only [go_sem, Nat.reduceEqDiff, Bool.false_eq_true, Nat.reduceBEq, ↓reduceIte]
        simp (disch := omega) only [nA64, nS64, nM64, nC64, nA64l, nS64l, nM64l, nM64r, nR64l, nL64l, nAu64, nMu64, nMu64r, nSu64, nAu64l, nLu64l, nCu64, nCu32, nCu8, nAu32, nLu32l, nSu8l, toNat_cast]
        rw [and_lo (by omega), u32mod, Nat.mod_mod]
        refine ev_iaN i rfl (by omega) rfl ?_
        simp only [go_sem, Nat.reduceEqDiff, Bool.false_eq_true, Nat.reduceBEq, ↓reduceIte]
        refine ev_stO hO (by omega) ?_
        intro M' hO' _ hd'
        simp only [go_sem, Nat.reduceEqDiff, Bool.false_eq_true, Nat.reduceBEq, ↓reduceIte]
        refine shr_nat (n := 32) rfl (by decide) ?_
        simp only [go_sem, Nat.reduceEqDiff, Bool.false_eq_true, Nat.reduceBEq, ↓reduceIte]
        simp (disch := omega) only [nA64, nS64, nM64, nC64, nA64l, nS64l, nM64l, nM64r, nR64l, nL64l, nAu64, nMu64, nMu64r, nSu64, nAu64l, nLu64l, nCu64, nCu32, nCu8, nAu32, nLu32l, nSu8l, toNat_cast]
        refine k_next (N + 1 - (i + 1)) _ (by omega) ⟨i + 1, _, (q + l.getD i 0 + m.getD i 0) / 4294967296, M', by omega, rfl, by simp; omega, hlo.set (by omega), by omega, step _ rfl, hO', hd' _ hd, rfl⟩ ⟨rfl, by simp only [go_sem, Nat.reduceEqDiff, Bool.false_eq_true, Nat.reduceBEq, ↓reduceIte, and_self, Option.some.injEq, SV.v.injEq, SV.ptr.injEq, Value.int.injEq, Value.bool.injEq, Value.slice.injEq, true_and, and_true] <;> (repeat' apply And.intro) <;> first | rfl | omega | (simp (disch := omega) only [w64, wu64, wu32, wu8] <;> omega), by simp only [go_sem, Nat.reduceEqDiff, Bool.false_eq_true, Nat.reduceBEq, ↓reduceIte, and_self, Option.some.injEq, SV.v.injEq, SV.ptr.injEq, Value.int.injEq, Value.bool.injEq, Value.slice.injEq, true_and, and_true] <;> (repeat' apply And.intro) <;> rfl, rfl, PH.le.refl _⟩
      · simp only [go_sem, Nat.reduceEqDiff, Bool.false_eq_true, Nat.reduceBEq, ↓reduceIte]
        have hz : m.getD i 0 = 0 := getD_big (by omega)
        rw [show q + l.getD i 0 = q + l.getD i 0 + m.getD i 0 by omega]
        rw [and_lo (by omega), u32mod, Nat.mod_mod]
        refine ev_iaN i rfl (by omega) rfl ?_
        simp only [go_sem, Nat.reduceEqDiff, Bool.false_eq_true, Nat.reduceBEq, ↓reduceIte]
        refine ev_stO hO (by omega) ?_
        intro M' hO' _ hd'
        simp only [go_sem, Nat.reduceEqDiff, Bool.false_eq_true, Nat.reduceBEq, ↓reduceIte]
        refine shr_nat (n := 32) rfl (by decide) ?_
        simp only [go_sem, Nat.reduceEqDiff, Bool.false_eq_true, Nat.reduceBEq, ↓reduceIte]
        simp (disch := omega) only [nA64, nS64, nM64, nC64, nA64l, nS64l, nM64l, nM64r, nR64l, nL64l, nAu64, nMu64, nMu64r, nSu64, nAu64l, nLu64l, nCu64, nCu32, nCu8, nAu32, nLu32l, nSu8l, toNat_cast]
        refine k_next (N + 1 - (i + 1)) _ (by omega) ⟨i + 1, _, (q + l.getD i 0 + m.getD i 0) / 4294967296, M', by omega, rfl, by simp; omega, hlo.set (by omega), by omega, step _ rfl, hO', hd' _ hd, rfl⟩ ⟨rfl, by simp only [go_sem, Nat.reduceEqDiff, Bool.false_eq_true, Nat.reduceBEq, ↓reduceIte, and_self, Option.some.injEq, SV.v.injEq, SV.ptr.injEq, Value.int.injEq, Value.bool.injEq, Value.slice.injEq, true_and, and_true] <;> (repeat' apply And.intro) <;> first | rfl | omega | (simp (disch := omega) only [w64, wu64, wu32, wu8] <;> omega), by simp only [go_sem, Nat.reduceEqDiff, Bool.false_eq_true, Nat.reduceBEq, ↓reduceIte, and_self, Option.some.injEq, SV.v.injEq, SV.ptr.injEq, Value.int.injEq, Value.bool.injEq, Value.slice.injEq, true_and, and_true] <;> (repeat' apply And.intro) <;> rfl, rfl, PH.le.refl _⟩
  · have hil : i = N + 1 := by omega
    subst hil
    simp only [go_sem, Nat.reduceEqDiff, Bool.false_eq_true, Nat.reduceBEq, ↓reduceIte]
    refine ev_trimA hO (by omega) hlo (by omega) hd ?_
    intro v H' hl hN2
    simp only [go_sem, Nat.reduceEqDiff, Bool.false_eq_true, Nat.reduceBEq, ↓reduceIte]
    refine ⟨by trivial, ?_⟩
    rw [List.take_of_length_le (by omega), List.take_of_length_le (by omega), List.take_of_length_le (by omega)] at hv
    have h1 : val l < 4294967296 ^ N := Nat.lt_of_lt_of_le (val_lt hn.1) (Nat.pow_le_pow_right (by decide) (by omega))
    have h2 : val m < 4294967296 ^ N := Nat.lt_of_lt_of_le (val_lt hm.1) (Nat.pow_le_pow_right (by decide) (by omega))
    have hq0 : q = 0 := by
      rcases Nat.eq_zero_or_pos q with h0 | h0
      · exact h0
      · have : q = 1 := by omega
        subst this
        rw [Nat.pow_succ] at hv
        omega
    rw [hq0, Nat.mul_zero, Nat.add_zero] at hv
    rw [← hv]
    exact hN2

theorem rsub_ok (H : PH) (va vb : Value) (x y : Nat) (ha : RefV H va x) (hb : RefV H vb y) (hbx : bl x ≤ 4294967296) (hyx : y ≤ x) : FnP Tryd.prog 39 [va, vb] H fun v H' => RefV H' v (x - y) := by
  have hby : bl y ≤ 4294967296 := Nat.le_trans (bl_mono hyx) hbx
  obtain ⟨A, l, c, rfl, hc, hS, hn, rfl⟩ := ha
  obtain ⟨B, m, e, rfl, he, hT, hm, rfl⟩ := hb
  have hlen : l.length ≤ 200000000 := by have := len_le_bl hn; omega
  have hlen2 : m.length ≤ 200000000 := by have := len_le_bl hm; omega
  clear hbx hby hc he
  refine of_cinctureref1_SubNat (by simp) ?_
  simp only [go_sem, Nat.reduceEqDiff, Bool.false_eq_true, Nat.reduceBEq, ↓reduceIte, p_cinctureref1_SubNat]
  refine ev_mkO (by omega) (by omega) (by omega) (PH.disj_no _) ?_
  intro g M hO _ _ hd
  simp only [go_sem, Nat.reduceEqDiff, Bool.false_eq_true, Nat.reduceBEq, ↓reduceIte]
  rw [toNat_cast] at hO ⊢
  refine ev_loop (fun n s => ∃ i o q M, i ≤ l.length ∧ n = l.length - i ∧ o.length = l.length ∧ Lim o ∧ q ≤ 1 ∧ val (l.take i) + 4294967296 ^ i * q = val (o.take i) + val (m.take i) ∧ Own .u32 60 M (some ⟨g, 0, none⟩) o l.length ∧ PH.disj H M ∧
    s = ⟨[(7, .v (.int .i64 (i : Nat))), (6, .v (.int .u64 (q : Nat))), (5, .v (.slice (some ⟨g, 0, none⟩) l.length l.length)), (1, .v (.slice B m.length e)), (0, .v (.slice A l.length c))], [], H, M⟩)
    l.length _ ⟨0, _, 0, M, by omega, by omega, by simp, Lim.replicate _, by omega, by simp [val], hO, hd, rfl⟩ ⟨rfl, by simp only [go_sem, Nat.reduceEqDiff, Bool.false_eq_true, Nat.reduceBEq, ↓reduceIte, and_self, Option.some.injEq, SV.v.injEq, SV.ptr.injEq, Value.int.injEq, Value.bool.injEq, Value.slice.injEq, true_and, and_true] <;> (repeat' apply And.intro) <;> first | rfl | omega | (simp (disch := omega) only [w64, wu64, wu32, wu8] <;> omega), by simp only [go_sem, Nat.reduceEqDiff, Bool.false_eq_true, Nat.reduceBEq, ↓reduceIte, and_self, Option.some.injEq, SV.v.injEq, SV.ptr.injEq, Value.int.injEq, Value.bool.injEq, Value.slice.injEq, true_and, and_true] <;> (repeat' apply And.intro) <;> rfl, rfl, PH.le.refl _⟩ ?_
  clear hO hd
  rintro n s ⟨i, o, q, M, hi, rfl, ho, hlo, hq, hv, hO, hd, rfl⟩
  simp only [go_sem, Nat.reduceEqDiff, Bool.false_eq_true, Nat.reduceBEq, ↓reduceIte]
  refine ev_if (fun h2 => ?_) (fun h2 => ?_)
  · obtain ⟨b, off, rfl⟩ := hS.base (by omega)
    have hx := hn.1.getD i
    have hy := hm.1.getD i
    have el := val_take_succ l i (by omega)
    have em := val_take_ge m i
    have step : ∀ z w, z < 4294967296 → w ≤ 1 → l.getD i 0 + 4294967296 * w = q + z + m.getD i 0 → val (l.take (i + 1)) + 4294967296 ^ (i + 1) * w = val ((o.set i z).take (i + 1)) + val (m.take (i + 1)) := by
      intro z w _ _ h5
      rw [val_take_set o i _ (by omega), el, em, Nat.pow_succ, Nat.mul_assoc]
      have h6 : 4294967296 ^ i * (l.getD i 0 + 4294967296 * w) = 4294967296 ^ i * (q + z + m.getD i 0) := by rw [h5]
      rw [Nat.mul_add, Nat.mul_add, Nat.mul_add] at h6
      omega
    simp only [go_sem, Nat.reduceEqDiff, Bool.false_eq_true, Nat.reduceBEq, ↓reduceIte]
    refine ev_if (fun h3 => ?_) (fun h3 => ?_)
    · simp only [go_sem, Nat.reduceEqDiff, Bool.false_eq_true, Nat.reduceBEq, ↓reduceIte]
      obtain ⟨b2, off2, rfl⟩ := hT.base (by omega)
      refine ev_iaN i rfl (by omega) rfl ?_
      simp only [go_sem, Nat.reduceEqDiff, Bool.false_eq_true, Nat.reduceBEq, ↓reduceIte]
      refine ev_ldS hT rfl (by omega) ?_
      simp only [go_sem, Nat.reduceEqDiff, Bool.false_eq_true, Nat.reduceBEq, ↓reduceIte]
      simp (disch := omega) only [nA64, nS64, nM64, nC64, nA64l, nS64l, nM64l, nM64r, nR64l, nL64l, nAu64, nMu64, nMu64r, nSu64, nAu64l, nLu64l, nCu64, nCu32, nCu8, nAu32, nLu32l, nSu8l, toNat_cast]
      refine ev_iaN i rfl (by omega) rfl ?_
      simp only [go_sem, Nat.reduceEqDiff, Bool.false_eq_true, Nat.reduceBEq, ↓reduceIte]
      refine ev_ldS hS rfl (by omega) ?_
      simp only [go_sem, Nat.reduceEqDiff, Bool.false_eq_true, Nat.reduceBEq, ↓reduceIte]
      simp (disch := omega) only [nA64, nS64, nM64, nC64, nA64l, nS64l, nM64l, nM64r, nR64l, nL64l, nAu64, nMu64, nMu64r, nSu64, nAu64l, nLu64l, nCu64, nCu32, nCu8, nAu32, nLu32l, nSu8l, toNat_cast]
      refine ev_if (fun h3 => ?_) (fun h3 => ?_)
      · generalize hcc : (4294967296 : Int) = cc
        simp only [go_sem, Nat.reduceEqDiff, Bool.false_eq_true, Nat.reduceBEq, ↓reduceIte]
        obtain ⟨z, hzz⟩ : ∃ z, z = l.getD i 0 + 4294967296 := ⟨_, rfl⟩
        rw [show IntKind.u64.wrap (((l.getD i 0 : Nat) : Int) + cc) = (z : Nat) from wu64n z (by omega) (by omega)]
        simp (disch := omega) only [nA64, nS64, nM64, nC64, nA64l, nS64l, nM64l, nM64r, nR64l, nL64l, nAu64, nMu64, nMu64r, nSu64, nAu64l, nLu64l, nCu64, nCu32, nCu8, nAu32, nLu32l, nSu8l, toNat_cast]
        obtain ⟨w, hw, hw2, hw3⟩ : ∃ w, z - (q + m.getD i 0) = w ∧ l.getD i 0 + 4294967296 * 1 = q + w + m.getD i 0 ∧ w < 4294967296 := ⟨_, rfl, by omega, by omega⟩
        rw [hw]
        clear hw hzz
        subst hcc
        refine ev_iaN i rfl (by omega) rfl ?_
        simp only [go_sem, Nat.reduceEqDiff, Bool.false_eq_true, Nat.reduceBEq, ↓reduceIte]
        refine ev_stO hO (by omega) ?_
        intro M' hO' _ hd'
        simp only [go_sem, Nat.reduceEqDiff, Bool.false_eq_true, Nat.reduceBEq, ↓reduceIte]
        simp (disch := omega) only [nA64, nS64, nM64, nC64, nA64l, nS64l, nM64l, nM64r, nR64l, nL64l, nAu64, nMu64, nMu64r, nSu64, nAu64l, nLu64l, nCu64, nCu32, nCu8, nAu32, nLu32l, nSu8l, toNat_cast]
        refine k_next (l.length - (i + 1)) _ (by omega) ⟨i + 1, _, 1, M', by omega, rfl, by simp; omega, hlo.set hw3, by decide, step _ 1 hw3 (by decide) hw2, hO', hd' _ hd, rfl⟩ ⟨rfl, by simp only [go_sem, Nat.reduceEqDiff, Bool.false_eq_true, Nat.reduceBEq, ↓reduceIte, and_self, Option.some.injEq, SV.v.injEq, SV.ptr.injEq, Value.int.injEq, Value.bool.injEq, Value.slice.injEq, true_and, and_true] <;> (repeat' apply And.intro) <;> first | rfl | omega | (simp (disch := omega) only [w64, wu64, wu32, wu8] <;> omega), by simp only [go_sem, Nat.reduceEqDiff, Bool.false_eq_true, Nat.reduceBEq, ↓reduceIte, and_self, Option.some.injEq, SV.v.injEq, SV.ptr.injEq, Value.int.injEq, Value.bool.injEq, Value.slice.injEq, true_and, and_true] <;> (repeat' apply And.intro) <;> rfl, rfl, PH.le.refl _⟩
      · simp only [go_sem, Nat.reduceEqDiff, Bool.false_eq_true, Nat.reduceBEq, ↓reduceIte]
        simp (disch := omega) only [nA64, nS64, nM64, nC64, nA64l, nS64l, nM64l, nM64r, nR64l, nL64l, nAu64, nMu64, nMu64r, nSu64, nAu64l, nLu64l, nCu64, nCu32, nCu8, nAu32, nLu32l, nSu8l, toNat_cast]
        obtain ⟨w, hw, hw2, hw3⟩ : ∃ w, l.getD i 0 - (q + m.getD i 0) = w ∧ l.getD i 0 + 4294967296 * 0 = q + w + m.getD i 0 ∧ w < 4294967296 := ⟨_, rfl, by omega, by omega⟩
        rw [hw]
        refine ev_iaN i rfl (by omega) rfl ?_
        simp only [go_sem, Nat.reduceEqDiff, Bool.false_eq_true, Nat.reduceBEq, ↓reduceIte]
        refine ev_stO hO (by omega) ?_
        intro M' hO' _ hd'
        simp only [go_sem, Nat.reduceEqDiff, Bool.false_eq_true, Nat.reduceBEq, ↓reduceIte]
        simp (disch := omega) only [nA64, nS64, nM64, nC64, nA64l, nS64l, nM64l, nM64r, nR64l, nL64l, nAu64, nMu64, nMu64r, nSu64, nAu64l, nLu64l, nCu64, nCu32, nCu8, nAu32, nLu32l, nSu8l, toNat_cast]
        refine k_next (l.length - (i + 1)) _ (by omega) ⟨i + 1, _, 0, M', by omega, rfl, by simp; omega, hlo.set hw3, by decide, step _ 0 hw3 (by decide) hw2, hO', hd' _ hd, rfl⟩ ⟨rfl, by simp only [go_sem, Nat.reduceEqDiff, Bool.false_eq_true, Nat.reduceBEq, ↓reduceIte, and_self, Option.some.injEq, SV.v.injEq, SV.ptr.injEq, Value.int.injEq, Value.bool.injEq, Value.slice.injEq, true_and, and_true] <;> (repeat' apply And.intro) <;> first | rfl | omega | (simp (disch := omega) only [w64, wu64, wu32, wu8] <;> omega), by simp only [go_sem, Nat.reduceEqDiff, Bool.false_eq_true, Nat.reduceBEq, ↓reduceIte, and_self, Option.some.injEq, SV.v.injEq, SV.ptr.injEq, Value.int.injEq, Value.bool.injEq, Value.slice.injEq, true_and, and_true] <;> (repeat' apply And.intro) <;> rfl, rfl, PH.le.refl _⟩
    · simp only [go_sem, Nat.reduceEqDiff, Bool.false_eq_true, Nat.reduceBEq, ↓reduceIte]
      have hz : m.getD i 0 = 0 := getD_big (by omega)
      rw [show (q : Int) = ((q + m.getD i 0 : Nat) : Int) by omega]
      refine ev_iaN i rfl (by omega) rfl ?_
      simp only [go_sem, Nat.reduceEqDiff, Bool.false_eq_true, Nat.reduceBEq, ↓reduceIte]
      refine ev_ldS hS rfl (by omega) ?_
      simp only [go_sem, Nat.reduceEqDiff, Bool.false_eq_true, Nat.reduceBEq, ↓reduceIte]
      simp (disch := omega) only [nA64, nS64, nM64, nC64, nA64l, nS64l, nM64l, nM64r, nR64l, nL64l, nAu64, nMu64, nMu64r, nSu64, nAu64l, nLu64l, nCu64, nCu32, nCu8, nAu32, nLu32l, nSu8l, toNat_cast]
      refine ev_if (fun h3 => ?_) (fun h3 => ?_)
      · generalize hcc : (4294967296 : Int) = cc
        simp only [go_sem, Nat.reduceEqDiff, Bool.false_eq_true, Nat.reduceBEq, ↓reduceIte]
        obtain ⟨z, hzz⟩ : ∃ z, z = l.getD i 0 + 4294967296 := ⟨_, rfl⟩
        rw [show IntKind.u64.wrap (((l.getD i 0 : Nat) : Int) + cc) = (z : Nat) from wu64n z (by omega) (by omega)]
        simp (disch := omega) only [nA64, nS64, nM64, nC64, nA64l, nS64l, nM64l, nM64r, nR64l, nL64l, nAu64, nMu64, nMu64r, nSu64, nAu64l, nLu64l, nCu64, nCu32, nCu8, nAu32, nLu32l, nSu8l, toNat_cast]
        obtain ⟨w, hw, hw2, hw3⟩ : ∃ w, z - (q + m.getD i 0) = w ∧ l.getD i 0 + 4294967296 * 1 = q + w + m.getD i 0 ∧ w < 4294967296 := ⟨_, rfl, by omega, by omega⟩
        rw [hw]
        clear hw hzz
        subst hcc
        refine ev_iaN i rfl (by omega) rfl ?_
        simp only [go_sem, Nat.reduceEqDiff, Bool.false_eq_true, Nat.reduceBEq, ↓reduceIte]
        refine ev_stO hO (by omega) ?_
        intro M' hO' _ hd'
        simp only [go_sem, Nat.reduceEqDiff, Bool.false_eq_true, Nat.reduceBEq, ↓reduceIte]
        simp (disch := omega) only [nA64, nS64, nM64, nC64, nA64l, nS64l, nM64l, nM64r, nR64l, nL64l, nAu64, nMu64, nMu64r, nSu64, nAu64l, nLu64l, nCu64, nCu32, nCu8, nAu32, nLu32l, nSu8l, toNat_cast]
        refine k_next (l.length - (i + 1)) _ (by omega) ⟨i + 1, _, 1, M', by omega, rfl, by simp; omega, hlo.set hw3, by decide, step _ 1 hw3 (by decide) hw2, hO', hd' _ hd, rfl⟩ ⟨rfl, by simp only [go_sem, Nat.reduceEqDiff, Bool.false_eq_true, Nat.reduceBEq, ↓reduceIte, and_self, Option.some.injEq, SV.v.injEq, SV.ptr.injEq, Value.int.injEq, Value.bool.injEq, Value.slice.injEq, true_and, and_true] <;> (repeat' apply And.intro) <;> first | rfl | omega | (simp (disch := omega) only [w64, wu64, wu32, wu8] <;> omega), by simp only [go_sem, Nat.reduceEqDiff, Bool.false_eq_true, Nat.reduceBEq, ↓reduceIte, and_self, Option.some.injEq, SV.v.injEq, SV.ptr.injEq, Value.int.injEq, Value.bool.injEq, Value.slice.injEq, true_and, and_true] <;> (repeat' apply And.intro) <;> rfl, rfl, PH.le.refl _⟩
      · simp only [go_sem, Nat.reduceEqDiff, Bool.false_eq_true, Nat.reduceBEq, ↓reduceIte]
        simp (disch := omega) only [nA64, nS64, nM64, nC64, nA64l, nS64l, nM64l, nM64r, nR64l, nL64l, nAu64, nMu64, nMu64r, nSu64, nAu64l, nLu64l, nCu64, nCu32, nCu8, nAu32, nLu32l, nSu8l, toNat_cast]
        obtain ⟨w, hw, hw2, hw3⟩ : ∃ w, l.getD i 0 - (q + m.getD i 0) = w ∧ l.getD i 0 + 4294967296 * 0 = q + w + m.getD i 0 ∧ w < 4294967296 := ⟨_, rfl, by omega, by omega⟩
        rw [hw]
        refine ev_iaN i rfl (by omega) rfl ?_
        simp only [go_sem, Nat.reduceEqDiff, Bool.false_eq_true, Nat.reduceBEq, ↓reduceIte]
        refine ev_stO hO (by omega) ?_
        intro M' hO' _ hd'
        simp only [go_sem, Nat.reduceEqDiff, Bool.false_eq_true, Nat.reduceBEq, ↓reduceIte]
        simp (disch := omega) only [nA64, nS64, nM64, nC64, nA64l, nS64l, nM64l, nM64r, nR64l, nL64l, nAu64, nMu64, nMu64r, nSu64, nAu64l, nLu64l, nCu64, nCu32, nCu8, nAu32, nLu32l, nSu8l, toNat_cast]
        refine k_next (l.length - (i + 1)) _ (by omega) ⟨i + 1, _, 0, M', by omega, rfl, by simp; omega, hlo.set hw3, by decide, step _ 0 hw3 (by decide) hw2, hO', hd' _ hd, rfl⟩ ⟨rfl, by simp only [go_sem, Nat.reduceEqDiff, Bool.false_eq_true, Nat.reduceBEq, ↓reduceIte, and_self, Option.some.injEq, SV.v.injEq, SV.ptr.injEq, Value.int.injEq, Value.bool.injEq, Value.slice.injEq, true_and, and_true] <;> (repeat' apply And.intro) <;> first | rfl | omega | (simp (disch := omega) only [w64, wu64, wu32, wu8] <;> omega), by simp only [go_sem, Nat.reduceEqDiff, Bool.false_eq_true, Nat.reduceBEq, ↓reduceIte, and_self, Option.some.injEq, SV.v.injEq, SV.ptr.injEq, Value.int.injEq, Value.bool.injEq, Value.slice.injEq, true_and, and_true] <;> (repeat' apply And.intro) <;> rfl, rfl, PH.le.refl _⟩
  · have hil : i = l.length := by omega
    subst hil
    simp only [go_sem, Nat.reduceEqDiff, Bool.false_eq_true, Nat.reduceBEq, ↓reduceIte]
    refine ev_trimA hO (by omega) hlo (by omega) hd ?_
    intro v H2 hl hN
    simp only [go_sem, Nat.reduceEqDiff, Bool.false_eq_true, Nat.reduceBEq, ↓reduceIte]
    refine ⟨by trivial, ?_⟩
    have hml : m.length ≤ l.length := len_of_lt hm (Nat.lt_of_le_of_lt hyx (val_lt hn.1))
    rw [List.take_length, List.take_of_length_le (by omega), List.take_of_length_le hml] at hv
    have hq0 : q = 0 := by
      rcases Nat.eq_zero_or_pos q with h0 | h0
      · exact h0
      · have h1 : q = 1 := by omega
        have h2 := val_lt hlo
        rw [ho] at h2
        subst h1
        omega
    rw [hq0, Nat.mul_zero, Nat.add_zero] at hv
    rw [show val l - val m = val o by omega]
    exact hN

theorem rmul_ok (H : PH) (va vb : Value) (x y : Nat) (ha : RefV H va x) (hb : RefV H vb y) (hbx : bl x ≤ 4294967296) (hby : bl y ≤ 4294967296) : FnP Tryd.prog 41 [va, vb] H fun v H' => RefV H' v (x * y) := by
  obtain ⟨A, l, c, rfl, hc, hS, hn, rfl⟩ := ha
  obtain ⟨B, m, e, rfl, he, hT, hm, rfl⟩ := hb
  have hlen : l.length ≤ 200000000 := by have := len_le_bl hn; omega
  have hlen2 : m.length ≤ 200000000 := by have := len_le_bl hm; omega
  clear hbx hby hc he
  refine of_cinctureref1_MulNat (by simp) ?_
  simp only [go_sem, Nat.reduceEqDiff, Bool.false_eq_true, Nat.reduceBEq, ↓reduceIte, p_cinctureref1_MulNat]
  simp (disch := omega) only [nA64, nS64, nM64, nC64, nA64l, nS64l, nM64l, nM64r, nR64l, nL64l, nAu64, nMu64, nMu64r, nSu64, nAu64l, nLu64l, nCu64, nCu32, nCu8, nAu32, nLu32l, nSu8l, toNat_cast]
  refine ev_mkO (by omega) (by omega) (by omega) (PH.disj_no _) ?_
  intro g M hO _ _ hd
  simp only [go_sem, Nat.reduceEqDiff, Bool.false_eq_true, Nat.reduceBEq, ↓reduceIte]
  rw [toNat_cast] at hO ⊢
  refine ev_loop (fun n s => ∃ i o M, i ≤ l.length ∧ n = l.length - i ∧ o.length = l.length + m.length + 1 ∧ Lim o ∧ val o = val (l.take i) * val m ∧ Own .u32 60 M (some ⟨g, 0, none⟩) o (l.length + m.length + 1) ∧ PH.disj H M ∧
    s = ⟨[(6, .v (.int .i64 (i : Nat))), (5, .v (.slice (some ⟨g, 0, none⟩) (l.length + m.length + 1) (l.length + m.length + 1))), (1, .v (.slice B m.length e)), (0, .v (.slice A l.length c))], [], H, M⟩)
    l.length _ ⟨0, _, M, by omega, by omega, by simp, Lim.replicate _, by simp [val, val_replicate], hO, hd, rfl⟩ ⟨rfl, by simp only [go_sem, Nat.reduceEqDiff, Bool.false_eq_true, Nat.reduceBEq, ↓reduceIte, and_self, Option.some.injEq, SV.v.injEq, SV.ptr.injEq, Value.int.injEq, Value.bool.injEq, Value.slice.injEq, true_and, and_true] <;> (repeat' apply And.intro) <;> first | rfl | omega | (simp (disch := omega) only [w64, wu64, wu32, wu8] <;> omega), by simp only [go_sem, Nat.reduceEqDiff, Bool.false_eq_true, Nat.reduceBEq, ↓reduceIte, and_self, Option.some.injEq, SV.v.injEq, SV.ptr.injEq, Value.int.injEq, Value.bool.injEq, Value.slice.injEq, true_and, and_true] <;> (repeat' apply And.intro) <;> rfl, rfl, PH.le.refl _⟩ ?_
  clear hO hd
  rintro n s ⟨i, o, M, hi, rfl, ho, hlo, hv, hO, hd, rfl⟩
  simp only [go_sem, Nat.reduceEqDiff, Bool.false_eq_true, Nat.reduceBEq, ↓reduceIte]
  refine ev_if (fun h2 => ?_) (fun h2 => ?_)
  · obtain ⟨b, off, rfl⟩ := hS.base (by omega)
    simp only [go_sem, Nat.reduceEqDiff, Bool.false_eq_true, Nat.reduceBEq, ↓reduceIte]
    have hx := hn.1.getD i
    have el := val_take_succ l i (by omega)
    have hlt : val (l.take i) * val m < 4294967296 ^ (i + m.length) := by
      have h1 := val_lt (hn.1.take i)
      have h2 := val_lt hm.1
      rw [List.length_take, Nat.min_eq_left hi] at h1
      rw [Nat.pow_add]
      exact Nat.mul_lt_mul'' h1 h2
    refine ev_loop (fun n s => ∃ k p q M, k ≤ m.length ∧ n = m.length - k ∧ p.length = l.length + m.length + 1 ∧ Lim p ∧ q < 4294967296 ∧ p.getD (i + m.length) 0 = 0 ∧ val p + 4294967296 ^ (i + k) * q = val (l.take i) * val m + 4294967296 ^ i * (l.getD i 0 * val (m.take k)) ∧ Own .u32 60 M (some ⟨g, 0, none⟩) p (l.length + m.length + 1) ∧ PH.disj H M ∧
      s = ⟨[(8, .v (.int .i64 (k : Nat))), (7, .v (.int .u64 (q : Nat))), (6, .v (.int .i64 (i : Nat))), (5, .v (.slice (some ⟨g, 0, none⟩) (l.length + m.length + 1) (l.length + m.length + 1))), (1, .v (.slice B m.length e)), (0, .v (.slice (some ⟨b, off, none⟩) l.length c))], [], H, M⟩)
      m.length _ ⟨0, o, 0, M, by omega, by omega, ho, hlo, by omega, getD_zero (n := i + m.length) (by rw [hv]; exact hlt) (Nat.le_refl _), by rw [hv]; simp [val], hO, hd, rfl⟩ ⟨rfl, by simp only [go_sem, Nat.reduceEqDiff, Bool.false_eq_true, Nat.reduceBEq, ↓reduceIte, and_self, Option.some.injEq, SV.v.injEq, SV.ptr.injEq, Value.int.injEq, Value.bool.injEq, Value.slice.injEq, true_and, and_true] <;> (repeat' apply And.intro) <;> first | rfl | omega | (simp (disch := omega) only [w64, wu64, wu32, wu8] <;> omega), by simp only [go_sem, Nat.reduceEqDiff, Bool.false_eq_true, Nat.reduceBEq, ↓reduceIte, and_self, Option.some.injEq, SV.v.injEq, SV.ptr.injEq, Value.int.injEq, Value.bool.injEq, Value.slice.injEq, true_and, and_true] <;> (repeat' apply And.intro) <;> rfl, rfl, PH.le.refl _⟩ ?_
    clear hO hd hlo hv ho
    rintro n s ⟨k, p, q, M, hk, rfl, hp, hlp, hq, hp0, hv, hO, hd, rfl⟩
    simp only [go_sem, Nat.reduceEqDiff, Bool.false_eq_true, Nat.reduceBEq, ↓reduceIte]
    refine ev_if (fun h3 => ?_) (fun h3 => ?_)
    · simp only [go_sem, Nat.reduceEqDiff, Bool.false_eq_true, Nat.reduceBEq, ↓reduceIte]
      obtain ⟨b2, off2, rfl⟩ := hT.base (by omega)
      refine ev_iaN i rfl (by omega) rfl ?_
      simp only [go_sem, Nat.reduceEqDiff, Bool.false_eq_true, Nat.reduceBEq, ↓reduceIte]
      refine ev_ldS hS rfl (by omega) ?_
      simp only [go_sem, Nat.reduceEqDiff, Bool.false_eq_true, Nat.reduceBEq, ↓reduceIte]
      refine ev_iaN k rfl (by omega) rfl ?_
      simp only [go_sem, Nat.reduceEqDiff, Bool.false_eq_true, Nat.reduceBEq, ↓reduceIte]
      refine ev_ldS hT rfl (by omega) ?_
      simp only [go_sem, Nat.reduceEqDiff, Bool.false_eq_true, Nat.reduceBEq, ↓reduceIte]
      have hy := hm.1.getD k
      have hz := hlp.getD (i + k)
      have em := val_take_succ m k (by omega)
      have hb := mul_bound hq hx hy hz
      simp (disch := omega) only [nA64, nS64, nM64, nC64, nA64l, nS64l, nM64l, nM64r, nR64l, nL64l, nAu64, nMu64, nMu64r, nSu64, nAu64l, nLu64l, nCu64, nCu32, nCu8, nAu32, nLu32l, nSu8l, toNat_cast]
      refine ev_iaN (i + k) rfl (by omega) rfl ?_
      simp only [go_sem, Nat.reduceEqDiff, Bool.false_eq_true, Nat.reduceBEq, ↓reduceIte]
      refine ev_ldO hO (by omega) ?_
      simp only [go_sem, Nat.reduceEqDiff, Bool.false_eq_true, Nat.reduceBEq, ↓reduceIte]
      simp (disch := omega) only [nA64, nS64, nM64, nC64, nA64l, nS64l, nM64l, nM64r, nR64l, nL64l, nAu64, nMu64, nMu64r, nSu64, nAu64l, nLu64l, nCu64, nCu32, nCu8, nAu32, nLu32l, nSu8l, toNat_cast]
      generalize hw : q + (l.getD i 0 * m.getD k 0 + p.getD (i + k) 0) = w at *
      rw [and_lo (by omega), u32mod, Nat.mod_mod]
      refine ev_iaN (i + k) rfl (by omega) rfl ?_
      simp only [go_sem, Nat.reduceEqDiff, Bool.false_eq_true, Nat.reduceBEq, ↓reduceIte]
      refine ev_stO hO (by omega) ?_
      intro M' hO' _ hd'
      simp only [go_sem, Nat.reduceEqDiff, Bool.false_eq_true, Nat.reduceBEq, ↓reduceIte]
      refine shr_nat (n := 32) rfl (by decide) ?_
      simp only [go_sem, Nat.reduceEqDiff, Bool.false_eq_true, Nat.reduceBEq, ↓reduceIte]
      simp (disch := omega) only [nA64, nS64, nM64, nC64, nA64l, nS64l, nM64l, nM64r, nR64l, nL64l, nAu64, nMu64, nMu64r, nSu64, nAu64l, nLu64l, nCu64, nCu32, nCu8, nAu32, nLu32l, nSu8l, toNat_cast]
      refine k_next (m.length - (k + 1)) _ (by omega) ⟨k + 1, _, w / 4294967296, M', by omega, rfl, by simp; omega, hlp.set (by omega), by omega, ?_, ?_, hO', hd' _ hd, rfl⟩ ⟨rfl, by simp only [go_sem, Nat.reduceEqDiff, Bool.false_eq_true, Nat.reduceBEq, ↓reduceIte, and_self, Option.some.injEq, SV.v.injEq, SV.ptr.injEq, Value.int.injEq, Value.bool.injEq, Value.slice.injEq, true_and, and_true] <;> (repeat' apply And.intro) <;> first | rfl | omega | (simp (disch := omega) only [w64, wu64, wu32, wu8] <;> omega), by simp only [go_sem, Nat.reduceEqDiff, Bool.false_eq_true, Nat.reduceBEq, ↓reduceIte, and_self, Option.some.injEq, SV.v.injEq, SV.ptr.injEq, Value.int.injEq, Value.bool.injEq, Value.slice.injEq, true_and, and_true] <;> (repeat' apply And.intro) <;> rfl, rfl, PH.le.refl _⟩
      · rw [List.getD, List.getElem?_set_ne (by omega)]; exact hp0
      · have e1 := val_set p (i + k) (w % 4294967296) (by omega)
        rw [em, ← Nat.add_assoc i k 1, Nat.pow_succ, Nat.mul_assoc]
        have e2 : 4294967296 ^ (i + k) * w = 4294967296 ^ (i + k) * (w % 4294967296) + 4294967296 ^ (i + k) * (4294967296 * (w / 4294967296)) := by rw [← Nat.mul_add]; congr 1; omega
        have e3 : 4294967296 ^ (i + k) * w = 4294967296 ^ (i + k) * q + 4294967296 ^ (i + k) * (l.getD i 0 * m.getD k 0) + 4294967296 ^ (i + k) * p.getD (i + k) 0 := by rw [← Nat.mul_add, ← Nat.mul_add]; congr 1; omega
        have e4 : 4294967296 ^ i * (l.getD i 0 * (val (m.take k) + 4294967296 ^ k * m.getD k 0)) = 4294967296 ^ i * (l.getD i 0 * val (m.take k)) + 4294967296 ^ (i + k) * (l.getD i 0 * m.getD k 0) := by
          rw [Nat.mul_add, Nat.mul_add, Nat.pow_add]
          congr 1
          simp only [Nat.mul_assoc, Nat.mul_left_comm]
        rw [e4]
        omega
    · have hkm : k = m.length := by omega
      subst hkm
      simp only [go_sem, Nat.reduceEqDiff, Bool.false_eq_true, Nat.reduceBEq, ↓reduceIte]
      simp (disch := omega) only [nA64, nS64, nM64, nC64, nA64l, nS64l, nM64l, nM64r, nR64l, nL64l, nAu64, nMu64, nMu64r, nSu64, nAu64l, nLu64l, nCu64, nCu32, nCu8, nAu32, nLu32l, nSu8l, toNat_cast]
      refine ev_iaN (i + m.length) rfl (by omega) rfl ?_
      simp only [go_sem, Nat.reduceEqDiff, Bool.false_eq_true, Nat.reduceBEq, ↓reduceIte]
      refine ev_stO hO (by omega) ?_
      intro M' hO' _ hd'
      simp only [go_sem, Nat.reduceEqDiff, Bool.false_eq_true, Nat.reduceBEq, ↓reduceIte]
      simp (disch := omega) only [nA64, nS64, nM64, nC64, nA64l, nS64l, nM64l, nM64r, nR64l, nL64l, nAu64, nMu64, nMu64r, nSu64, nAu64l, nLu64l, nCu64, nCu32, nCu8, nAu32, nLu32l, nSu8l, toNat_cast]
      refine k_next (l.length - (i + 1)) _ (by omega) ⟨i + 1, _, M', by omega, rfl, by simp; omega, hlp.set hq, ?_, hO', hd' _ hd, rfl⟩ ⟨rfl, by simp only [go_sem, Nat.reduceEqDiff, Bool.false_eq_true, Nat.reduceBEq, ↓reduceIte, and_self, Option.some.injEq, SV.v.injEq, SV.ptr.injEq, Value.int.injEq, Value.bool.injEq, Value.slice.injEq, true_and, and_true] <;> (repeat' apply And.intro) <;> first | rfl | omega | (simp (disch := omega) only [w64, wu64, wu32, wu8] <;> omega), by simp only [go_sem, Nat.reduceEqDiff, Bool.false_eq_true, Nat.reduceBEq, ↓reduceIte, and_self, Option.some.injEq, SV.v.injEq, SV.ptr.injEq, Value.int.injEq, Value.bool.injEq, Value.slice.injEq, true_and, and_true] <;> (repeat' apply And.intro) <;> rfl, rfl, PH.le.refl _⟩
      have e1 := val_set p (i + m.length) q (by omega)
      rw [hp0, Nat.mul_zero, Nat.add_zero] at e1
      rw [e1, hv, List.take_length, el, Nat.add_mul, Nat.mul_assoc]
  · have hil : i = l.length := by omega
    subst hil
    simp only [go_sem, Nat.reduceEqDiff, Bool.false_eq_true, Nat.reduceBEq, ↓reduceIte]
    refine ev_trimA hO (by omega) hlo (by omega) hd ?_
    intro v H' hl hN
    simp only [go_sem, Nat.reduceEqDiff, Bool.false_eq_true, Nat.reduceBEq, ↓reduceIte]
    rw [hv, List.take_length] at hN
    exact ⟨by trivial, hN⟩

end Go.Proofs.YtlhhdlhnpgiamaaDoor.X
