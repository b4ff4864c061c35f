/- The reference's naturals: shifts, bytes. -/
import Derived.Test.YtlhhdlhnpgiamaaDoorSB
set_option linter.unusedVariables false
set_option linter.unusedSimpArgs false
namespace Go.Proofs.YtlhhdlhnpgiamaaDoor.X
open Go Go.RowKit Go.Proofs

theorem rshl_ok (H : PH) (va : Value) (x k : Nat) (ha : RefV H va x) (hbx : bl x ≤ 4294967296) (hk : k ≤ 4294967296) : FnP Tryd.prog 33 [va, .int .i64 (k : Nat)] H fun v H' => RefV H' v (x * 2 ^ k) := by
  obtain ⟨A, l, c, rfl, hc, hS, hn, rfl⟩ := ha
  have hlen : l.length ≤ 200000000 := by have := len_le_bl hn; omega
  clear hbx hc
  refine of_cinctureref1_Shl (by simp) ?_
  simp only [go_sem, Nat.reduceEqDiff, Bool.false_eq_true, Nat.reduceBEq, ↓reduceIte, p_cinctureref1_Shl]
  refine quo_nat (a := k) (m := 32) rfl (by decide) (by simp (disch := omega) only [w64, wu64, wu32, wu8]) ?_
  simp only [go_sem, Nat.reduceEqDiff, Bool.false_eq_true, Nat.reduceBEq, ↓reduceIte]
  simp (disch := omega) only [nA64, nS64, nM64, nC64, nA64l, nS64l, nM64l, nM64r, nR64l, nL64l, nAu64, nMu64, nMu64r, nSu64, nAu64l, nLu64l, nCu64, nCu32, nCu8, nAu32, nLu32l, nSu8l, toNat_cast]
  refine ev_mkO (by omega) (by omega) (by omega) (PH.disj_no _) ?_
  intro g M hO _ _ hd
  simp only [go_sem, Nat.reduceEqDiff, Bool.false_eq_true, Nat.reduceBEq, ↓reduceIte]
  rw [toNat_cast] at hO ⊢
  refine ev_loop (fun n s => ∃ i o M, i ≤ l.length ∧ n = l.length - i ∧ o.length = l.length + k / 32 + 1 ∧ Lim o ∧ val o = val (l.take i) * 2 ^ k ∧ Own .u32 60 M (some ⟨g, 0, none⟩) o (l.length + k / 32 + 1) ∧ PH.disj H M ∧
    s = ⟨[(6, .v (.int .i64 (i : Nat))), (5, .v (.slice (some ⟨g, 0, none⟩) (l.length + k / 32 + 1) (l.length + k / 32 + 1))), (1, .v (.int .i64 (k : Nat))), (0, .v (.slice A l.length c))], [], H, M⟩)
    l.length _ ⟨0, _, M, by omega, by omega, by simp, Lim.replicate _, by simp [val, val_replicate], hO, hd, rfl⟩ ⟨rfl, by simp only [go_sem, Nat.reduceEqDiff, Bool.false_eq_true, Nat.reduceBEq, ↓reduceIte, and_self, Option.some.injEq, SV.v.injEq, SV.ptr.injEq, Value.int.injEq, Value.bool.injEq, Value.slice.injEq, true_and, and_true] <;> (repeat' apply And.intro) <;> first | rfl | omega | (simp (disch := omega) only [w64, wu64, wu32, wu8] <;> omega), by simp only [go_sem, Nat.reduceEqDiff, Bool.false_eq_true, Nat.reduceBEq, ↓reduceIte, and_self, Option.some.injEq, SV.v.injEq, SV.ptr.injEq, Value.int.injEq, Value.bool.injEq, Value.slice.injEq, true_and, and_true] <;> (repeat' apply And.intro) <;> rfl, rfl, PH.le.refl _⟩ ?_
  clear hO hd
  rintro n s ⟨i, o, M, hi, rfl, ho, hlo, hv, hO, hd, rfl⟩
  simp only [go_sem, Nat.reduceEqDiff, Bool.false_eq_true, Nat.reduceBEq, ↓reduceIte]
  refine ev_if (fun h2 => ?_) (fun h2 => ?_)
  · obtain ⟨b, off, rfl⟩ := hS.base (by omega)
    simp only [go_sem, Nat.reduceEqDiff, Bool.false_eq_true, Nat.reduceBEq, ↓reduceIte]
    refine ev_iaN i rfl (by omega) rfl ?_
    simp only [go_sem, Nat.reduceEqDiff, Bool.false_eq_true, Nat.reduceBEq, ↓reduceIte]
    refine ev_ldS hS rfl (by omega) ?_
    have hx := hn.1.getD i
    have el := val_take_succ l i (by omega)
    have hlt := val_lt (hn.1.take i)
    rw [List.length_take, Nat.min_eq_left hi] at hlt
    obtain ⟨z1, z2, z3, z4, z5⟩ := shl_step (val (l.take i)) k (k / 32) (k % 32) i (l.getD i 0) o (by omega) (by omega) hx hlt hv hlo (by omega)
    simp only [go_sem, Nat.reduceEqDiff, Bool.false_eq_true, Nat.reduceBEq, ↓reduceIte]
    refine rem_nat (a := k) (m := 32) rfl (by decide) ?_
    simp only [go_sem, Nat.reduceEqDiff, Bool.false_eq_true, Nat.reduceBEq, ↓reduceIte]
    simp (disch := omega) only [nA64, nS64, nM64, nC64, nA64l, nS64l, nM64l, nM64r, nR64l, nL64l, nAu64, nMu64, nMu64r, nSu64, nAu64l, nLu64l, nCu64, nCu32, nCu8, nAu32, nLu32l, nSu8l, toNat_cast]
    refine shl_nat (n := k % 32) (y := l.getD i 0 * 2 ^ (k % 32)) rfl (by show k % 32 ≤ 64; omega) (nCu64 (by omega)) ?_
    simp only [go_sem, Nat.reduceEqDiff, Bool.false_eq_true, Nat.reduceBEq, ↓reduceIte]
    have z6 : l.getD i 0 * 2 ^ (k % 32) / 4294967296 < 4294967296 := by omega
    generalize hy : l.getD i 0 * 2 ^ (k % 32) = y at *
    refine quo_nat (a := k) (m := 32) rfl (by decide) (by simp (disch := omega) only [w64, wu64, wu32, wu8]) ?_
    simp only [go_sem, Nat.reduceEqDiff, Bool.false_eq_true, Nat.reduceBEq, ↓reduceIte]
    simp (disch := omega) only [nA64, nS64, nM64, nC64, nA64l, nS64l, nM64l, nM64r, nR64l, nL64l, nAu64, nMu64, nMu64r, nSu64, nAu64l, nLu64l, nCu64, nCu32, nCu8, nAu32, nLu32l, nSu8l, toNat_cast]
    refine ev_iaN (i + k / 32) rfl (by omega) rfl ?_
    simp only [go_sem, Nat.reduceEqDiff, Bool.false_eq_true, Nat.reduceBEq, ↓reduceIte]
    refine ev_ldO hO (by omega) ?_
    simp only [go_sem, Nat.reduceEqDiff, Bool.false_eq_true, Nat.reduceBEq, ↓reduceIte]
    rw [and_lo (by omega), u32mod, Nat.mod_mod, or32 (hlo.getD _) (Nat.mod_lt _ (by decide)), z2]
    refine ev_iaN (i + k / 32) rfl (by omega) rfl ?_
    simp only [go_sem, Nat.reduceEqDiff, Bool.false_eq_true, Nat.reduceBEq, ↓reduceIte]
    refine ev_stO hO (by omega) ?_
    intro M' hO' _ hd'
    simp only [go_sem, Nat.reduceEqDiff, Bool.false_eq_true, Nat.reduceBEq, ↓reduceIte]
    refine quo_nat (a := k) (m := 32) rfl (by decide) (by simp (disch := omega) only [w64, wu64, wu32, wu8]) ?_
    simp only [go_sem, Nat.reduceEqDiff, Bool.false_eq_true, Nat.reduceBEq, ↓reduceIte]
    simp (disch := omega) only [nA64, nS64, nM64, nC64, nA64l, nS64l, nM64l, nM64r, nR64l, nL64l, nAu64, nMu64, nMu64r, nSu64, nAu64l, nLu64l, nCu64, nCu32, nCu8, nAu32, nLu32l, nSu8l, toNat_cast]
    refine ev_iaN (i + k / 32 + 1) rfl (by omega) rfl ?_
    simp only [go_sem, Nat.reduceEqDiff, Bool.false_eq_true, Nat.reduceBEq, ↓reduceIte]
    refine ev_ldO hO' (by simp; omega) ?_
    simp only [go_sem, Nat.reduceEqDiff, Bool.false_eq_true, Nat.reduceBEq, ↓reduceIte]
    refine shr_nat (n := 32) rfl (by decide) ?_
    simp only [go_sem, Nat.reduceEqDiff, Bool.false_eq_true, Nat.reduceBEq, ↓reduceIte]
    rw [getD_set (by omega), if_neg (by omega), z1, u32mod, Nat.mod_eq_of_lt (show y / 2 ^ 32 < 4294967296 from z6), or32 (by decide) z6, Nat.zero_or]
    refine ev_iaN (i + k / 32 + 1) rfl (by omega) rfl ?_
    simp only [go_sem, Nat.reduceEqDiff, Bool.false_eq_true, Nat.reduceBEq, ↓reduceIte]
    refine ev_stO hO' (by simp; omega) ?_
    intro M2 hO2 _ hd2
    simp only [go_sem, Nat.reduceEqDiff, Bool.false_eq_true, Nat.reduceBEq, ↓reduceIte]
    simp (disch := omega) only [nA64, nS64, nM64, nC64, nA64l, nS64l, nM64l, nM64r, nR64l, nL64l, nAu64, nMu64, nMu64r, nSu64, nAu64l, nLu64l, nCu64, nCu32, nCu8, nAu32, nLu32l, nSu8l, toNat_cast]
    refine k_next (l.length - (i + 1)) _ (by omega) ⟨i + 1, _, M2, by omega, rfl, by simp; omega, (hlo.set z3).set z6, ?_, hO2, hd2 _ (hd' _ hd), rfl⟩ ⟨rfl, by simp only [go_sem, Nat.reduceEqDiff, Bool.false_eq_true, Nat.reduceBEq, ↓reduceIte, and_self, Option.some.injEq, SV.v.injEq, SV.ptr.injEq, Value.int.injEq, Value.bool.injEq, Value.slice.injEq, true_and, and_true] <;> (repeat' apply And.intro) <;> first | rfl | omega | (simp (disch := omega) only [w64, wu64, wu32, wu8] <;> omega), by simp only [go_sem, Nat.reduceEqDiff, Bool.false_eq_true, Nat.reduceBEq, ↓reduceIte, and_self, Option.some.injEq, SV.v.injEq, SV.ptr.injEq, Value.int.injEq, Value.bool.injEq, Value.slice.injEq, true_and, and_true] <;> (repeat' apply And.intro) <;> rfl, rfl, PH.le.refl _⟩
    rw [el]
    exact z5
  · have hil : i = l.length := by omega
    subst hil
    simp only [go_sem, Nat.reduceEqDiff, Bool.false_eq_true, Nat.reduceBEq, ↓reduceIte]
    refine ev_trimA hO (by omega) hlo (by omega) hd ?_
    intro v H' hl hN
    simp only [go_sem, Nat.reduceEqDiff, Bool.false_eq_true, Nat.reduceBEq, ↓reduceIte]
    refine ⟨by trivial, ?_⟩
    rw [hv, List.take_length] at hN
    exact hN

theorem val_two (l : List Nat) (j : Nat) (h : Lim l) : l.getD j 0 + l.getD (j + 1) 0 * 4294967296 = val l / 4294967296 ^ j % 18446744073709551616 := by
  rw [← val_digit l j h, ← val_digit l (j + 1) h, Nat.pow_succ, ← Nat.div_div_eq_div_mul]
  generalize val l / 4294967296 ^ j = y
  omega
theorem shr_digit (l : List Nat) (k i : Nat) (h : Lim l) : (l.getD (i + k / 32) 0 + l.getD (i + k / 32 + 1) 0 * 4294967296) / 2 ^ (k % 32) % 4294967296 = val l / 2 ^ k / 4294967296 ^ i % 4294967296 := by
  rw [val_two l _ h]
  have e : val l / 2 ^ k / 4294967296 ^ i = val l / 4294967296 ^ (i + k / 32) / 2 ^ (k % 32) := by
    rw [Nat.div_div_eq_div_mul, Nat.div_div_eq_div_mul]
    congr 1
    rw [pow32, pow32, ← Nat.pow_add, ← Nat.pow_add]
    congr 1; omega
  rw [e]
  generalize val l / 4294967296 ^ (i + k / 32) = y
  have h4 : k % 32 < 32 := Nat.mod_lt _ (by decide)
  generalize k % 32 = s at *
  have : (18446744073709551616 : Nat) = 2 ^ s * 2 ^ (64 - s) := by rw [← Nat.pow_add, show s + (64 - s) = 64 by omega]
  rw [this, Nat.mod_mul_right_div_self, show (4294967296 : Nat) = 2 ^ 32 from rfl, Nat.mod_mod_of_dvd _ (Nat.pow_dvd_pow 2 (by omega))]

theorem rshr_ok (H : PH) (va : Value) (x k : Nat) (ha : RefV H va x) (hbx : bl x ≤ 4294967296) (hk : k ≤ 4294967296) : FnP Tryd.prog 34 [va, .int .i64 (k : Nat)] H fun v H' => RefV H' v (x / 2 ^ k) := by
  obtain ⟨A, l, c, rfl, hc, hS, hn, rfl⟩ := ha
  have hlen : l.length ≤ 200000000 := by have := len_le_bl hn; omega
  clear hbx hc
  have hlt0 := val_lt hn.1
  refine of_cinctureref1_Shr (by simp) ?_
  simp only [go_sem, Nat.reduceEqDiff, Bool.false_eq_true, Nat.reduceBEq, ↓reduceIte, p_cinctureref1_Shr]
  refine quo_nat (a := k) (m := 32) rfl (by decide) (by simp (disch := omega) only [w64, wu64, wu32, wu8]) ?_
  simp only [go_sem, Nat.reduceEqDiff, Bool.false_eq_true, Nat.reduceBEq, ↓reduceIte]
  refine ev_if (fun h => ?_) (fun h => ?_)
  · simp only [go_sem, Nat.reduceEqDiff, Bool.false_eq_true, Nat.reduceBEq, ↓reduceIte]
    refine ⟨by trivial, ?_⟩
    rw [Nat.div_eq_of_lt]
    · exact RefV.zero _
    · refine Nat.lt_of_lt_of_le hlt0 ?_
      rw [pow32]
      exact Nat.pow_le_pow_right (by decide) (by omega)
  · simp only [go_sem, Nat.reduceEqDiff, Bool.false_eq_true, Nat.reduceBEq, ↓reduceIte]
    refine quo_nat (a := k) (m := 32) rfl (by decide) (by simp (disch := omega) only [w64, wu64, wu32, wu8]) ?_
    obtain ⟨b, off, rfl⟩ := hS.base (by omega)
    simp only [go_sem, Nat.reduceEqDiff, Bool.false_eq_true, Nat.reduceBEq, ↓reduceIte]
    simp (disch := omega) only [nA64, nS64, nM64, nC64, nA64l, nS64l, nM64l, nM64r, nR64l, nL64l, nAu64, nMu64, nMu64r, nSu64, nAu64l, nLu64l, nCu64, nCu32, nCu8, nAu32, nLu32l, nSu8l, toNat_cast]
    refine ev_mkO (by omega) (by omega) (by omega) (PH.disj_no _) ?_
    intro g M hO _ _ hd
    simp only [go_sem, Nat.reduceEqDiff, Bool.false_eq_true, Nat.reduceBEq, ↓reduceIte]
    rw [toNat_cast] at hO ⊢
    have hlt1 : val l / 2 ^ k < 4294967296 ^ (l.length - k / 32) := by
      rw [Nat.div_lt_iff_lt_mul (Nat.two_pow_pos _)]
      refine Nat.lt_of_lt_of_le hlt0 ?_
      rw [pow32, pow32, ← Nat.pow_add]
      exact Nat.pow_le_pow_right (by decide) (by omega)
    obtain ⟨N, hN⟩ : ∃ N, l.length - k / 32 = N := ⟨_, rfl⟩
    rw [hN] at hO hlt1 ⊢
    refine ev_loop (fun n s => ∃ i o M, i ≤ N ∧ n = N - i ∧ o.length = N ∧ Lim o ∧ val (o.take i) = val l / 2 ^ k % 4294967296 ^ i ∧ Own .u32 60 M (some ⟨g, 0, none⟩) o N ∧ PH.disj H M ∧
      s = ⟨[(6, .v (.int .i64 (i : Nat))), (5, .v (.slice (some ⟨g, 0, none⟩) N N)), (1, .v (.int .i64 (k : Nat))), (0, .v (.slice (some ⟨b, off, none⟩) l.length c))], [], H, M⟩)
      N _ ⟨0, _, M, by omega, by omega, by simp, Lim.replicate _, by simp [val, Nat.mod_one], hO, hd, rfl⟩ ⟨rfl, by simp only [go_sem, Nat.reduceEqDiff, Bool.false_eq_true, Nat.reduceBEq, ↓reduceIte, and_self, Option.some.injEq, SV.v.injEq, SV.ptr.injEq, Value.int.injEq, Value.bool.injEq, Value.slice.injEq, true_and, and_true] <;> (repeat' apply And.intro) <;> first | rfl | omega | (simp (disch := omega) only [w64, wu64, wu32, wu8] <;> omega), by simp only [go_sem, Nat.reduceEqDiff, Bool.false_eq_true, Nat.reduceBEq, ↓reduceIte, and_self, Option.some.injEq, SV.v.injEq, SV.ptr.injEq, Value.int.injEq, Value.bool.injEq, Value.slice.injEq, true_and, and_true] <;> (repeat' apply And.intro) <;> rfl, rfl, PH.le.refl _⟩ ?_
    clear hO hd
    rintro n s ⟨i, o, M, hi, rfl, ho, hlo, hv, hO, hd, rfl⟩
    simp only [go_sem, Nat.reduceEqDiff, Bool.false_eq_true, Nat.reduceBEq, ↓reduceIte]
    refine ev_if (fun h2 => ?_) (fun h2 => ?_)
    · simp only [go_sem, Nat.reduceEqDiff, Bool.false_eq_true, Nat.reduceBEq, ↓reduceIte]
      refine quo_nat (a := k) (m := 32) rfl (by decide) (by simp (disch := omega) only [w64, wu64, wu32, wu8]) ?_
      simp only [go_sem, Nat.reduceEqDiff, Bool.false_eq_true, Nat.reduceBEq, ↓reduceIte]
      simp (disch := omega) only [nA64, nS64, nM64, nC64, nA64l, nS64l, nM64l, nM64r, nR64l, nL64l, nAu64, nMu64, nMu64r, nSu64, nAu64l, nLu64l, nCu64, nCu32, nCu8, nAu32, nLu32l, nSu8l, toNat_cast]
      refine ev_iaN (i + k / 32) rfl (by omega) rfl ?_
      simp only [go_sem, Nat.reduceEqDiff, Bool.false_eq_true, Nat.reduceBEq, ↓reduceIte]
      refine ev_ldS hS rfl (by omega) ?_
      have hx := hn.1.getD (i + k / 32)
      have hy := hn.1.getD (i + k / 32 + 1)
      have hdig := shr_digit l k i hn.1
      simp only [go_sem, Nat.reduceEqDiff, Bool.false_eq_true, Nat.reduceBEq, ↓reduceIte]
      simp (disch := omega) only [nA64, nS64, nM64, nC64, nA64l, nS64l, nM64l, nM64r, nR64l, nL64l, nAu64, nMu64, nMu64r, nSu64, nAu64l, nLu64l, nCu64, nCu32, nCu8, nAu32, nLu32l, nSu8l, toNat_cast]
      refine quo_nat (a := k) (m := 32) rfl (by decide) (by simp (disch := omega) only [w64, wu64, wu32, wu8]) ?_
      simp only [go_sem, Nat.reduceEqDiff, Bool.false_eq_true, Nat.reduceBEq, ↓reduceIte]
      simp (disch := omega) only [nA64, nS64, nM64, nC64, nA64l, nS64l, nM64l, nM64r, nR64l, nL64l, nAu64, nMu64, nMu64r, nSu64, nAu64l, nLu64l, nCu64, nCu32, nCu8, nAu32, nLu32l, nSu8l, toNat_cast]
      refine ev_if (fun h3 => ?_) (fun h3 => ?_)
      · simp only [go_sem, Nat.reduceEqDiff, Bool.false_eq_true, Nat.reduceBEq, ↓reduceIte]
        refine quo_nat (a := k) (m := 32) rfl (by decide) (by simp (disch := omega) only [w64, wu64, wu32, wu8]) ?_
        simp only [go_sem, Nat.reduceEqDiff, Bool.false_eq_true, Nat.reduceBEq, ↓reduceIte]
        simp (disch := omega) only [nA64, nS64, nM64, nC64, nA64l, nS64l, nM64l, nM64r, nR64l, nL64l, nAu64, nMu64, nMu64r, nSu64, nAu64l, nLu64l, nCu64, nCu32, nCu8, nAu32, nLu32l, nSu8l, toNat_cast]
        refine ev_iaN (i + k / 32 + 1) rfl (by omega) rfl ?_
        simp only [go_sem, Nat.reduceEqDiff, Bool.false_eq_true, Nat.reduceBEq, ↓reduceIte]
        refine ev_ldS hS rfl (by omega) ?_
        simp only [go_sem, Nat.reduceEqDiff, Bool.false_eq_true, Nat.reduceBEq, ↓reduceIte]
        simp (disch := omega) only [nA64, nS64, nM64, nC64, nA64l, nS64l, nM64l, nM64r, nR64l, nL64l, nAu64, nMu64, nMu64r, nSu64, nAu64l, nLu64l, nCu64, nCu32, nCu8, nAu32, nLu32l, nSu8l, toNat_cast]
        refine shl_nat (n := 32) (y := l.getD (i + k / 32 + 1) 0 * 2 ^ 32) rfl (by decide) (wu64n _ rfl (by omega)) ?_
        simp only [go_sem, Nat.reduceEqDiff, Bool.false_eq_true, Nat.reduceBEq, ↓reduceIte]
        have hz64 : l.getD (i + k / 32) 0 + l.getD (i + k / 32 + 1) 0 * 4294967296 < 2 ^ 64 := by omega
        rw [or64 (by omega) (by omega), or_add _ _ _ hx, show (2 : Nat) ^ 32 = 4294967296 from rfl]
        generalize l.getD (i + k / 32) 0 + l.getD (i + k / 32 + 1) 0 * 4294967296 = z at *
        refine rem_nat (a := k) (m := 32) rfl (by decide) ?_
        simp only [go_sem, Nat.reduceEqDiff, Bool.false_eq_true, Nat.reduceBEq, ↓reduceIte]
        simp (disch := omega) only [nA64, nS64, nM64, nC64, nA64l, nS64l, nM64l, nM64r, nR64l, nL64l, nAu64, nMu64, nMu64r, nSu64, nAu64l, nLu64l, nCu64, nCu32, nCu8, nAu32, nLu32l, nSu8l, toNat_cast]
        refine shr_nat (n := k % 32) rfl (by show k % 32 ≤ 64; omega) ?_
        simp only [go_sem, Nat.reduceEqDiff, Bool.false_eq_true, Nat.reduceBEq, ↓reduceIte]
        rw [and_lo (Nat.lt_of_le_of_lt (Nat.div_le_self _ _) hz64), hdig]
        have hdl : val l / 2 ^ k / 4294967296 ^ i % 4294967296 < 4294967296 := Nat.mod_lt _ (by decide)
        have hmm : val l / 2 ^ k % 4294967296 ^ (i + 1) = val l / 2 ^ k % 4294967296 ^ i + 4294967296 ^ i * (val l / 2 ^ k / 4294967296 ^ i % 4294967296) := by rw [Nat.pow_succ, Nat.mod_mul]
        generalize val l / 2 ^ k / 4294967296 ^ i % 4294967296 = d at *
        simp (disch := omega) only [nA64, nS64, nM64, nC64, nA64l, nS64l, nM64l, nM64r, nR64l, nL64l, nAu64, nMu64, nMu64r, nSu64, nAu64l, nLu64l, nCu64, nCu32, nCu8, nAu32, nLu32l, nSu8l, toNat_cast]
        refine ev_iaN i rfl (by omega) rfl ?_
        simp only [go_sem, Nat.reduceEqDiff, Bool.false_eq_true, Nat.reduceBEq, ↓reduceIte]
        refine ev_stO hO (by omega) ?_
        intro M' hO' _ hd'
        simp only [go_sem, Nat.reduceEqDiff, Bool.false_eq_true, Nat.reduceBEq, ↓reduceIte]
        simp (disch := omega) only [nA64, nS64, nM64, nC64, nA64l, nS64l, nM64l, nM64r, nR64l, nL64l, nAu64, nMu64, nMu64r, nSu64, nAu64l, nLu64l, nCu64, nCu32, nCu8, nAu32, nLu32l, nSu8l, toNat_cast]
        refine k_next (N - (i + 1)) _ (by omega) ⟨i + 1, _, M', by omega, rfl, by simp; omega, hlo.set hdl, ?_, hO', hd' _ hd, rfl⟩ ⟨rfl, by simp only [go_sem, Nat.reduceEqDiff, Bool.false_eq_true, Nat.reduceBEq, ↓reduceIte, and_self, Option.some.injEq, SV.v.injEq, SV.ptr.injEq, Value.int.injEq, Value.bool.injEq, Value.slice.injEq, true_and, and_true] <;> (repeat' apply And.intro) <;> first | rfl | omega | (simp (disch := omega) only [w64, wu64, wu32, wu8] <;> omega), by simp only [go_sem, Nat.reduceEqDiff, Bool.false_eq_true, Nat.reduceBEq, ↓reduceIte, and_self, Option.some.injEq, SV.v.injEq, SV.ptr.injEq, Value.int.injEq, Value.bool.injEq, Value.slice.injEq, true_and, and_true] <;> (repeat' apply And.intro) <;> rfl, rfl, PH.le.refl _⟩
        rw [val_take_set o i _ (by omega), hv, hmm]
      · simp only [go_sem, Nat.reduceEqDiff, Bool.false_eq_true, Nat.reduceBEq, ↓reduceIte]
        have hz0 : l.getD (i + k / 32 + 1) 0 = 0 := getD_big (by omega)
        rw [hz0, Nat.zero_mul, Nat.add_zero] at hdig
        have hz64 : l.getD (i + k / 32) 0 < 2 ^ 64 := by omega
        generalize l.getD (i + k / 32) 0 = z at *
        refine rem_nat (a := k) (m := 32) rfl (by decide) ?_
        simp only [go_sem, Nat.reduceEqDiff, Bool.false_eq_true, Nat.reduceBEq, ↓reduceIte]
        simp (disch := omega) only [nA64, nS64, nM64, nC64, nA64l, nS64l, nM64l, nM64r, nR64l, nL64l, nAu64, nMu64, nMu64r, nSu64, nAu64l, nLu64l, nCu64, nCu32, nCu8, nAu32, nLu32l, nSu8l, toNat_cast]
        refine shr_nat (n := k % 32) rfl (by show k % 32 ≤ 64; omega) ?_
        simp only [go_sem, Nat.reduceEqDiff, Bool.false_eq_true, Nat.reduceBEq, ↓reduceIte]
        rw [and_lo (Nat.lt_of_le_of_lt (Nat.div_le_self _ _) hz64), hdig]
        have hdl : val l / 2 ^ k / 4294967296 ^ i % 4294967296 < 4294967296 := Nat.mod_lt _ (by decide)
        have hmm : val l / 2 ^ k % 4294967296 ^ (i + 1) = val l / 2 ^ k % 4294967296 ^ i + 4294967296 ^ i * (val l / 2 ^ k / 4294967296 ^ i % 4294967296) := by rw [Nat.pow_succ, Nat.mod_mul]
        generalize val l / 2 ^ k / 4294967296 ^ i % 4294967296 = d at *
        simp (disch := omega) only [nA64, nS64, nM64, nC64, nA64l, nS64l, nM64l, nM64r, nR64l, nL64l, nAu64, nMu64, nMu64r, nSu64, nAu64l, nLu64l, nCu64, nCu32, nCu8, nAu32, nLu32l, nSu8l, toNat_cast]
        refine ev_iaN i rfl (by omega) rfl ?_
        simp only [go_sem, Nat.reduceEqDiff, Bool.false_eq_true, Nat.reduceBEq, ↓reduceIte]
        refine ev_stO hO (by omega) ?_
        intro M' hO' _ hd'
        simp only [go_sem, Nat.reduceEqDiff, Bool.false_eq_true, Nat.reduceBEq, ↓reduceIte]
        simp (disch := omega) only [nA64, nS64, nM64, nC64, nA64l, nS64l, nM64l, nM64r, nR64l, nL64l, nAu64, nMu64, nMu64r, nSu64, nAu64l, nLu64l, nCu64, nCu32, nCu8, nAu32, nLu32l, nSu8l, toNat_cast]
        refine k_next (N - (i + 1)) _ (by omega) ⟨i + 1, _, M', by omega, rfl, by simp; omega, hlo.set hdl, ?_, hO', hd' _ hd, rfl⟩ ⟨rfl, by simp only [go_sem, Nat.reduceEqDiff, Bool.false_eq_true, Nat.reduceBEq, ↓reduceIte, and_self, Option.some.injEq, SV.v.injEq, SV.ptr.injEq, Value.int.injEq, Value.bool.injEq, Value.slice.injEq, true_and, and_true] <;> (repeat' apply And.intro) <;> first | rfl | omega | (simp (disch := omega) only [w64, wu64, wu32, wu8] <;> omega), by simp only [go_sem, Nat.reduceEqDiff, Bool.false_eq_true, Nat.reduceBEq, ↓reduceIte, and_self, Option.some.injEq, SV.v.injEq, SV.ptr.injEq, Value.int.injEq, Value.bool.injEq, Value.slice.injEq, true_and, and_true] <;> (repeat' apply And.intro) <;> rfl, rfl, PH.le.refl _⟩
        rw [val_take_set o i _ (by omega), hv, hmm]
    · have hil : i = N := by omega
      subst hil
      simp only [go_sem, Nat.reduceEqDiff, Bool.false_eq_true, Nat.reduceBEq, ↓reduceIte]
      refine ev_trimA hO (by omega) hlo (by omega) hd ?_
      intro v H' hl hN
      simp only [go_sem, Nat.reduceEqDiff, Bool.false_eq_true, Nat.reduceBEq, ↓reduceIte]
      refine ⟨by trivial, ?_⟩
      rw [List.take_of_length_le (by omega), Nat.mod_eq_of_lt hlt1] at hv
      rw [← hv]
      exact hN

theorem rread_ok (H : PH) (t : ByteArray) (ht : t.size ≤ 1000000000) : FnP Tryd.prog 15 [.string t] H fun v H' => ∃ v', v = .tuple #[v', .bool (rdOk (bs t))] ∧ RefV H' v' (if rdOk (bs t) then bv (bs t) else 0) := by
  have hsz := bs_length t
  refine of_cinctureref1_NatRead (by simp) ?_
  simp only [go_sem, Nat.reduceEqDiff, Bool.false_eq_true, Nat.reduceBEq, ↓reduceIte, p_cinctureref1_NatRead]
  refine ev_if (fun h => ?_) (fun h => ?_)
  · simp only [go_sem, Nat.reduceEqDiff, Bool.false_eq_true, Nat.reduceBEq, ↓reduceIte]
    have hb0 := bs_getD t 0
    have he : (bs t).isEmpty = false := by
      cases hq : bs t with
      | nil => rw [hq] at hsz; simp only [List.length_nil] at hsz; omega
      | cons _ _ => rfl
    refine ev_ix (by omega) (by omega) ?_
    simp only [go_sem, Nat.reduceEqDiff, Bool.false_eq_true, Nat.reduceBEq, ↓reduceIte]
    rw [show (0 : Int).toNat = 0 from rfl]
    refine ev_if (fun h3 => ?_) (fun h3 => ?_)
    · simp only [go_sem, Nat.reduceEqDiff, Bool.false_eq_true, Nat.reduceBEq, ↓reduceIte]
      have hk : rdOk (bs t) = false := by unfold rdOk; rw [he, ← hb0, show bAt t 0 = 0 by omega]; rfl
      rw [hk]
      exact ⟨by trivial, _, rfl, RefV.zero _⟩
    · have hk : rdOk (bs t) = true := by unfold rdOk; rw [he, ← hb0, Bool.false_or, bne_iff_ne]; omega
      simp only [go_sem, Nat.reduceEqDiff, Bool.false_eq_true, Nat.reduceBEq, ↓reduceIte]
      refine quo_nat (a := t.size) (m := 4) rfl (by decide) (by simp (disch := omega) only [w64, wu64, wu32, wu8]) ?_
      simp only [go_sem, Nat.reduceEqDiff, Bool.false_eq_true, Nat.reduceBEq, ↓reduceIte]
      simp (disch := omega) only [nA64, nS64, nM64, nC64, nA64l, nS64l, nM64l, nM64r, nR64l, nL64l, nAu64, nMu64, nMu64r, nSu64, nAu64l, nLu64l, nCu64, nCu32, nCu8, nAu32, nLu32l, nSu8l, toNat_cast]
      refine ev_mkO (by omega) (by omega) (by omega) (PH.disj_no _) ?_
      intro g M hO _ _ hd
      simp only [go_sem, Nat.reduceEqDiff, Bool.false_eq_true, Nat.reduceBEq, ↓reduceIte]
      rw [toNat_cast] at hO ⊢
      obtain ⟨N, hN⟩ : ∃ N, t.size / 4 + 1 = N := ⟨_, rfl⟩
      rw [hN] at hO ⊢
      refine ev_loop (fun n s => ∃ i o M, i ≤ t.size ∧ n = t.size - i ∧ o.length = N ∧ Lim o ∧ val o = bv ((bs t).drop (t.size - i)) ∧ Own .u32 60 M (some ⟨g, 0, none⟩) o N ∧ PH.disj H M ∧
        s = ⟨[(5, .v (.int .i64 (i : Nat))), (4, .v (.slice (some ⟨g, 0, none⟩) N N)), (0, .v (.string t))], [], H, M⟩)
        t.size _ ⟨0, _, M, by omega, by omega, by simp, Lim.replicate _, by rw [val_replicate, Nat.sub_zero, List.drop_of_length_le (by omega)]; rfl, hO, hd, rfl⟩ ⟨rfl, by simp only [go_sem, Nat.reduceEqDiff, Bool.false_eq_true, Nat.reduceBEq, ↓reduceIte, and_self, Option.some.injEq, SV.v.injEq, SV.ptr.injEq, Value.int.injEq, Value.bool.injEq, Value.slice.injEq, true_and, and_true] <;> (repeat' apply And.intro) <;> first | rfl | omega | (simp (disch := omega) only [w64, wu64, wu32, wu8] <;> omega), by simp only [go_sem, Nat.reduceEqDiff, Bool.false_eq_true, Nat.reduceBEq, ↓reduceIte, and_self, Option.some.injEq, SV.v.injEq, SV.ptr.injEq, Value.int.injEq, Value.bool.injEq, Value.slice.injEq, true_and, and_true] <;> (repeat' apply And.intro) <;> rfl, rfl, PH.le.refl _⟩ ?_
      clear hO hd
      rintro n s ⟨i, o, M, hi, rfl, ho, hlo, hv, hO, hd, rfl⟩
      simp only [go_sem, Nat.reduceEqDiff, Bool.false_eq_true, Nat.reduceBEq, ↓reduceIte]
      refine ev_if (fun h2 => ?_) (fun h2 => ?_)
      · have hlt : t.size - 1 - i < (bs t).length := by omega
        have hb := bs_getD t (t.size - 1 - i)
        have hmem : (bs t).getD (t.size - 1 - i) 0 ∈ bs t := by rw [List.getD, List.getElem?_eq_getElem hlt]; exact List.getElem_mem hlt
        have hblt : bAt t (t.size - 1 - i) < 256 := by rw [hb]; exact bs_lt t _ hmem
        have hdr := drop_eq (bs t) (t.size - 1 - i) hlt
        rw [← hb, show t.size - 1 - i + 1 = t.size - i by omega] at hdr
        have hV := bv_lt (l := (bs t).drop (t.size - i)) fun d hd => bs_lt t d (List.mem_of_mem_drop hd)
        rw [List.length_drop, show (bs t).length - (t.size - i) = i by omega] at hV
        have hlen4 : i / 4 < o.length := by omega
        obtain ⟨z1, z2, z3, z4⟩ := read_step _ i (bAt t (t.size - 1 - i)) o hblt hV hv hlo hlen4
        generalize hbb : bAt t (t.size - 1 - i) = b at *
        simp only [go_sem, Nat.reduceEqDiff, Bool.false_eq_true, Nat.reduceBEq, ↓reduceIte]
        refine quo_nat (a := i) (m := 4) rfl (by decide) (by simp (disch := omega) only [w64, wu64, wu32, wu8]) ?_
        simp only [go_sem, Nat.reduceEqDiff, Bool.false_eq_true, Nat.reduceBEq, ↓reduceIte]
        refine ev_iaN (i / 4) rfl (by omega) rfl ?_
        simp only [go_sem, Nat.reduceEqDiff, Bool.false_eq_true, Nat.reduceBEq, ↓reduceIte]
        refine ev_ldO hO hlen4 ?_
        simp only [go_sem, Nat.reduceEqDiff, Bool.false_eq_true, Nat.reduceBEq, ↓reduceIte]
        simp (disch := omega) only [nA64, nS64, nM64, nC64, nA64l, nS64l, nM64l, nM64r, nR64l, nL64l, nAu64, nMu64, nMu64r, nSu64, nAu64l, nLu64l, nCu64, nCu32, nCu8, nAu32, nLu32l, nSu8l, toNat_cast]
        refine ev_ix (by omega) (by omega) ?_
        rw [toNat_cast, hbb]
        simp only [go_sem, Nat.reduceEqDiff, Bool.false_eq_true, Nat.reduceBEq, ↓reduceIte]
        simp (disch := omega) only [nA64, nS64, nM64, nC64, nA64l, nS64l, nM64l, nM64r, nR64l, nL64l, nAu64, nMu64, nMu64r, nSu64, nAu64l, nLu64l, nCu64, nCu32, nCu8, nAu32, nLu32l, nSu8l, toNat_cast]
        refine rem_nat (a := i) (m := 4) rfl (by decide) ?_
        simp only [go_sem, Nat.reduceEqDiff, Bool.false_eq_true, Nat.reduceBEq, ↓reduceIte]
        simp (disch := omega) only [nA64, nS64, nM64, nC64, nA64l, nS64l, nM64l, nM64r, nR64l, nL64l, nAu64, nMu64, nMu64r, nSu64, nAu64l, nLu64l, nCu64, nCu32, nCu8, nAu32, nLu32l, nSu8l, toNat_cast]
        refine shl_nat (n := 8 * (i % 4)) (y := b * 2 ^ (8 * (i % 4))) rfl (by show 8 * (i % 4) ≤ 32; omega) (wu32n _ rfl (by omega)) ?_
        simp only [go_sem, Nat.reduceEqDiff, Bool.false_eq_true, Nat.reduceBEq, ↓reduceIte]
        rw [or32 (hlo.getD _) z3, z1]
        refine ev_iaN (i / 4) rfl (by omega) rfl ?_
        simp only [go_sem, Nat.reduceEqDiff, Bool.false_eq_true, Nat.reduceBEq, ↓reduceIte]
        refine ev_stO hO hlen4 ?_
        intro M' hO' _ hd'
        simp only [go_sem, Nat.reduceEqDiff, Bool.false_eq_true, Nat.reduceBEq, ↓reduceIte]
        simp (disch := omega) only [nA64, nS64, nM64, nC64, nA64l, nS64l, nM64l, nM64r, nR64l, nL64l, nAu64, nMu64, nMu64r, nSu64, nAu64l, nLu64l, nCu64, nCu32, nCu8, nAu32, nLu32l, nSu8l, toNat_cast]
        refine k_next (t.size - (i + 1)) _ (by omega) ⟨i + 1, _, M', by omega, rfl, by simp; omega, hlo.set z2, ?_, hO', hd' _ hd, rfl⟩ ⟨rfl, by simp only [go_sem, Nat.reduceEqDiff, Bool.false_eq_true, Nat.reduceBEq, ↓reduceIte, and_self, Option.some.injEq, SV.v.injEq, SV.ptr.injEq, Value.int.injEq, Value.bool.injEq, Value.slice.injEq, true_and, and_true] <;> (repeat' apply And.intro) <;> first | rfl | omega | (simp (disch := omega) only [w64, wu64, wu32, wu8] <;> omega), by simp only [go_sem, Nat.reduceEqDiff, Bool.false_eq_true, Nat.reduceBEq, ↓reduceIte, and_self, Option.some.injEq, SV.v.injEq, SV.ptr.injEq, Value.int.injEq, Value.bool.injEq, Value.slice.injEq, true_and, and_true] <;> (repeat' apply And.intro) <;> rfl, rfl, PH.le.refl _⟩
        rw [z4, show t.size - (i + 1) = t.size - 1 - i by omega, hdr, bv_cons, List.length_drop, show (bs t).length - (t.size - i) = i by omega]
      · have hil : i = t.size := by omega
        subst hil
        rw [Nat.sub_self, List.drop_zero] at hv
        simp only [go_sem, Nat.reduceEqDiff, Bool.false_eq_true, Nat.reduceBEq, ↓reduceIte]
        refine ev_trimA hO (by omega) hlo (by omega) hd ?_
        intro v H' hl hN
        simp only [go_sem, Nat.reduceEqDiff, Bool.false_eq_true, Nat.reduceBEq, ↓reduceIte]
        rw [hk]
        refine ⟨by trivial, _, rfl, ?_⟩
        rw [if_pos rfl, ← hv]; exact hN
  · have hk : rdOk (bs t) = true := by
      have : bs t = [] := List.eq_nil_of_length_eq_zero (by omega)
      rw [this]; rfl
    simp only [go_sem, Nat.reduceEqDiff, Bool.false_eq_true, Nat.reduceBEq, ↓reduceIte]
    refine quo_nat (a := t.size) (m := 4) rfl (by decide) (by simp (disch := omega) only [w64, wu64, wu32, wu8]) ?_
    simp only [go_sem, Nat.reduceEqDiff, Bool.false_eq_true, Nat.reduceBEq, ↓reduceIte]
    simp (disch := omega) only [nA64, nS64, nM64, nC64, nA64l, nS64l, nM64l, nM64r, nR64l, nL64l, nAu64, nMu64, nMu64r, nSu64, nAu64l, nLu64l, nCu64, nCu32, nCu8, nAu32, nLu32l, nSu8l, toNat_cast]
    refine ev_mkO (by omega) (by omega) (by omega) (PH.disj_no _) ?_
    intro g M hO _ _ hd
    simp only [go_sem, Nat.reduceEqDiff, Bool.false_eq_true, Nat.reduceBEq, ↓reduceIte]
    rw [toNat_cast] at hO ⊢
    obtain ⟨N, hN⟩ : ∃ N, t.size / 4 + 1 = N := ⟨_, rfl⟩
    rw [hN] at hO ⊢
    refine ev_loop (fun n s => ∃ i o M, i ≤ t.size ∧ n = t.size - i ∧ o.length = N ∧ Lim o ∧ val o = bv ((bs t).drop (t.size - i)) ∧ Own .u32 60 M (some ⟨g, 0, none⟩) o N ∧ PH.disj H M ∧
      s = ⟨[(5, .v (.int .i64 (i : Nat))), (4, .v (.slice (some ⟨g, 0, none⟩) N N)), (0, .v (.string t))], [], H, M⟩)
      t.size _ ⟨0, _, M, by omega, by omega, by simp, Lim.replicate _, by rw [val_replicate, Nat.sub_zero, List.drop_of_length_le (by omega)]; rfl, hO, hd, rfl⟩ ⟨rfl, by simp only [go_sem, Nat.reduceEqDiff, Bool.false_eq_true, Nat.reduceBEq, ↓reduceIte, and_self, Option.some.injEq, SV.v.injEq, SV.ptr.injEq, Value.int.injEq, Value.bool.injEq, Value.slice.injEq, true_and, and_true] <;> (repeat' apply And.intro) <;> first | rfl | omega | (simp (disch := omega) only [w64, wu64, wu32, wu8] <;> omega), by simp only [go_sem, Nat.reduceEqDiff, Bool.false_eq_true, Nat.reduceBEq, ↓reduceIte, and_self, Option.some.injEq, SV.v.injEq, SV.ptr.injEq, Value.int.injEq, Value.bool.injEq, Value.slice.injEq, true_and, and_true] <;> (repeat' apply And.intro) <;> rfl, rfl, PH.le.refl _⟩ ?_
    clear hO hd
    rintro n s ⟨i, o, M, hi, rfl, ho, hlo, hv, hO, hd, rfl⟩
    simp only [go_sem, Nat.reduceEqDiff, Bool.false_eq_true, Nat.reduceBEq, ↓reduceIte]
    refine ev_if (fun h2 => ?_) (fun h2 => ?_)
    · have hlt : t.size - 1 - i < (bs t).length := by omega
      have hb := bs_getD t (t.size - 1 - i)
      have hmem : (bs t).getD (t.size - 1 - i) 0 ∈ bs t := by rw [List.getD, List.getElem?_eq_getElem hlt]; exact List.getElem_mem hlt
      have hblt : bAt t (t.size - 1 - i) < 256 := by rw [hb]; exact bs_lt t _ hmem
      have hdr := drop_eq (bs t) (t.size - 1 - i) hlt
      rw [← hb, show t.size - 1 - i + 1 = t.size - i by omega] at hdr
      have hV := bv_lt (l := (bs t).drop (t.size - i)) fun d hd => bs_lt t d (List.mem_of_mem_drop hd)
      rw [List.length_drop, show (bs t).length - (t.size - i) = i by omega] at hV
      have hlen4 : i / 4 < o.length := by omega
      obtain ⟨z1, z2, z3, z4⟩ := read_step _ i (bAt t (t.size - 1 - i)) o hblt hV hv hlo hlen4
      generalize hbb : bAt t (t.size - 1 - i) = b at *
      simp only [go_sem, Nat.reduceEqDiff, Bool.false_eq_true, Nat.reduceBEq, ↓reduceIte]
      refine quo_nat (a := i) (m := 4) rfl (by decide) (by simp (disch := omega) only [w64, wu64, wu32, wu8]) ?_
      simp only [go_sem, Nat.reduceEqDiff, Bool.false_eq_true, Nat.reduceBEq, ↓reduceIte]
      refine ev_iaN (i / 4) rfl (by omega) rfl ?_
      simp only [go_sem, Nat.reduceEqDiff, Bool.false_eq_true, Nat.reduceBEq, ↓reduceIte]
      refine ev_ldO hO hlen4 ?_
      simp only [go_sem, Nat.reduceEqDiff, Bool.false_eq_true, Nat.reduceBEq, ↓reduceIte]
      simp (disch := omega) only [nA64, nS64, nM64, nC64, nA64l, nS64l, nM64l, nM64r, nR64l, nL64l, nAu64, nMu64, nMu64r, nSu64, nAu64l, nLu64l, nCu64, nCu32, nCu8, nAu32, nLu32l, nSu8l, toNat_cast]
      refine ev_ix (by omega) (by omega) ?_
      rw [toNat_cast, hbb]
      simp only [go_sem, Nat.reduceEqDiff, Bool.false_eq_true, Nat.reduceBEq, ↓reduceIte]
      simp (disch := omega) only [nA64, nS64, nM64, nC64, nA64l, nS64l, nM64l, nM64r, nR64l, nL64l, nAu64, nMu64, nMu64r, nSu64, nAu64l, nLu64l, nCu64, nCu32, nCu8, nAu32, nLu32l, nSu8l, toNat_cast]
      refine rem_nat (a := i) (m := 4) rfl (by decide) ?_
      simp only [go_sem, Nat.reduceEqDiff, Bool.false_eq_true, Nat.reduceBEq, ↓reduceIte]
      simp (disch := omega) only [nA64, nS64, nM64, nC64, nA64l, nS64l, nM64l, nM64r, nR64l, nL64l, nAu64, nMu64, nMu64r, nSu64, nAu64l, nLu64l, nCu64, nCu32, nCu8, nAu32, nLu32l, nSu8l, toNat_cast]
      refine shl_nat (n := 8 * (i % 4)) (y := b * 2 ^ (8 * (i % 4))) rfl (by show 8 * (i % 4) ≤ 32; omega) (wu32n _ rfl (by omega)) ?_
      simp only [go_sem, Nat.reduceEqDiff, Bool.false_eq_true, Nat.reduceBEq, ↓reduceIte]
      rw [or32 (hlo.getD _) z3, z1]
      refine ev_iaN (i / 4) rfl (by omega) rfl ?_
      simp only [go_sem, Nat.reduceEqDiff, Bool.false_eq_true, Nat.reduceBEq, ↓reduceIte]
      refine ev_stO hO hlen4 ?_
      intro M' hO' _ hd'
      simp only [go_sem, Nat.reduceEqDiff, Bool.false_eq_true, Nat.reduceBEq, ↓reduceIte]
      simp (disch := omega) only [nA64, nS64, nM64, nC64, nA64l, nS64l, nM64l, nM64r, nR64l, nL64l, nAu64, nMu64, nMu64r, nSu64, nAu64l, nLu64l, nCu64, nCu32, nCu8, nAu32, nLu32l, nSu8l, toNat_cast]
      refine k_next (t.size - (i + 1)) _ (by omega) ⟨i + 1, _, M', by omega, rfl, by simp; omega, hlo.set z2, ?_, hO', hd' _ hd, rfl⟩ ⟨rfl, by simp only [go_sem, Nat.reduceEqDiff, Bool.false_eq_true, Nat.reduceBEq, ↓reduceIte, and_self, Option.some.injEq, SV.v.injEq, SV.ptr.injEq, Value.int.injEq, Value.bool.injEq, Value.slice.injEq, true_and, and_true] <;> (repeat' apply And.intro) <;> first | rfl | omega | (simp (disch := omega) only [w64, wu64, wu32, wu8] <;> omega), by simp only [go_sem, Nat.reduceEqDiff, Bool.false_eq_true, Nat.reduceBEq, ↓reduceIte, and_self, Option.some.injEq, SV.v.injEq, SV.ptr.injEq, Value.int.injEq, Value.bool.injEq, Value.slice.injEq, true_and, and_true] <;> (repeat' apply And.intro) <;> rfl, rfl, PH.le.refl _⟩
      rw [z4, show t.size - (i + 1) = t.size - 1 - i by omega, hdr, bv_cons, List.length_drop, show (bs t).length - (t.size - i) = i by omega]
    · have hil : i = t.size := by omega
      subst hil
      rw [Nat.sub_self, List.drop_zero] at hv
      simp only [go_sem, Nat.reduceEqDiff, Bool.false_eq_true, Nat.reduceBEq, ↓reduceIte]
      refine ev_trimA hO (by omega) hlo (by omega) hd ?_
      intro v H' hl hN
      simp only [go_sem, Nat.reduceEqDiff, Bool.false_eq_true, Nat.reduceBEq, ↓reduceIte]
      rw [hk]
      refine ⟨by trivial, _, rfl, ?_⟩
      rw [if_pos rfl, ← hv]; exact hN

theorem rbytes_ok (H : PH) (v : Value) (x : Nat) (hN : RefV H v x) (hb : bl x ≤ 4294967296) : FnP Tryd.prog 21 [v] H fun v _ => v = .string (ofB (btx x)) := by
  have bits := rbits_ok H v x hN hb
  obtain ⟨A, l, c, rfl, hc, hS, hn, rfl⟩ := hN
  have hlen := len_le_bl hn
  have hbl := bl_le_len hn.1
  refine Fn.release (of_cinctureref1_NatBytes (by simp) ?_)
  simp only [go_sem, Nat.reduceEqDiff, Bool.false_eq_true, Nat.reduceBEq, ↓reduceIte, p_cinctureref1_NatBytes]
  refine ev_call bits ?_
  rintro v H' hle rfl hd
  replace hS := hS.le hle
  clear bits hle hd
  have hbx : btx (val l) = (dg 256 ((bl (val l) + 7) / 8) (val l)).reverse := rfl
  generalize hB : bl (val l) = b at *
  simp only [go_sem, Nat.reduceEqDiff, Bool.false_eq_true, Nat.reduceBEq, ↓reduceIte]
  simp (disch := omega) only [nA64, nS64, nM64, nC64, nA64l, nS64l, nM64l, nM64r, nR64l, nL64l, nAu64, nMu64, nMu64r, nSu64, nAu64l, nLu64l, nCu64, nCu32, nCu8, nAu32, nLu32l, nSu8l, toNat_cast]
  refine quo_nat (a := b + 7) (m := 8) rfl (by decide) (by simp (disch := omega) only [w64, wu64, wu32, wu8]) ?_
  simp only [go_sem, Nat.reduceEqDiff, Bool.false_eq_true, Nat.reduceBEq, ↓reduceIte]
  refine ev_mkO (by omega) (by omega) (by omega) (PH.disj_no _) ?_
  intro g M hO _ _ hd
  simp only [go_sem, Nat.reduceEqDiff, Bool.false_eq_true, Nat.reduceBEq, ↓reduceIte]
  rw [toNat_cast] at hO ⊢
  obtain ⟨N, hN⟩ : ∃ N, (b + 7) / 8 = N := ⟨_, rfl⟩
  rw [hN] at hO hbx ⊢
  refine ev_loop (fun n s => ∃ i o M, i ≤ N ∧ n = N - i ∧ o.length = N ∧ o.drop (N - i) = (dg 256 i (val l)).reverse ∧ Own .u8 5 M (some ⟨g, 0, none⟩) o N ∧ PH.disj H' M ∧
    s = ⟨[(5, .v (.int .i64 (i : Nat))), (4, .v (.slice (some ⟨g, 0, none⟩) N N)), (3, .v (.int .i64 (N : Nat))), (0, .v (.slice A l.length c))], [], H', M⟩)
    N _ ⟨0, _, M, by omega, by omega, by simp, by simp [dg], hO, hd, rfl⟩ ⟨rfl, by simp only [go_sem, Nat.reduceEqDiff, Bool.false_eq_true, Nat.reduceBEq, ↓reduceIte, and_self, Option.some.injEq, SV.v.injEq, SV.ptr.injEq, Value.int.injEq, Value.bool.injEq, Value.slice.injEq, true_and, and_true] <;> (repeat' apply And.intro) <;> first | rfl | omega | (simp (disch := omega) only [w64, wu64, wu32, wu8] <;> omega), by simp only [go_sem, Nat.reduceEqDiff, Bool.false_eq_true, Nat.reduceBEq, ↓reduceIte, and_self, Option.some.injEq, SV.v.injEq, SV.ptr.injEq, Value.int.injEq, Value.bool.injEq, Value.slice.injEq, true_and, and_true] <;> (repeat' apply And.intro) <;> rfl, rfl, PH.le.refl _⟩ ?_
  clear hO hd
  rintro n s ⟨i, o, M, hi, rfl, ho, hv, hO, hd, rfl⟩
  simp only [go_sem, Nat.reduceEqDiff, Bool.false_eq_true, Nat.reduceBEq, ↓reduceIte]
  refine ev_if (fun h2 => ?_) (fun h2 => ?_)
  · obtain ⟨b0, off, rfl⟩ := hS.base (by omega)
    simp only [go_sem, Nat.reduceEqDiff, Bool.false_eq_true, Nat.reduceBEq, ↓reduceIte]
    simp (disch := omega) only [nA64, nS64, nM64, nC64, nA64l, nS64l, nM64l, nM64r, nR64l, nL64l, nAu64, nMu64, nMu64r, nSu64, nAu64l, nLu64l, nCu64, nCu32, nCu8, nAu32, nLu32l, nSu8l, toNat_cast]
    refine quo_nat (a := i) (m := 4) rfl (by decide) (by simp (disch := omega) only [w64, wu64, wu32, wu8]) ?_
    simp only [go_sem, Nat.reduceEqDiff, Bool.false_eq_true, Nat.reduceBEq, ↓reduceIte]
    refine ev_iaN (i / 4) rfl (by omega) rfl ?_
    simp only [go_sem, Nat.reduceEqDiff, Bool.false_eq_true, Nat.reduceBEq, ↓reduceIte]
    refine ev_ldS hS rfl (by omega) ?_
    simp only [go_sem, Nat.reduceEqDiff, Bool.false_eq_true, Nat.reduceBEq, ↓reduceIte]
    refine rem_nat (a := i) (m := 4) rfl (by decide) ?_
    simp only [go_sem, Nat.reduceEqDiff, Bool.false_eq_true, Nat.reduceBEq, ↓reduceIte]
    simp (disch := omega) only [nA64, nS64, nM64, nC64, nA64l, nS64l, nM64l, nM64r, nR64l, nL64l, nAu64, nMu64, nMu64r, nSu64, nAu64l, nLu64l, nCu64, nCu32, nCu8, nAu32, nLu32l, nSu8l, toNat_cast]
    refine shr_nat (n := 8 * (i % 4)) rfl (by show 8 * (i % 4) ≤ 32; omega) ?_
    simp only [go_sem, Nat.reduceEqDiff, Bool.false_eq_true, Nat.reduceBEq, ↓reduceIte]
    rw [u8mod, val_byte l i hn.1]
    refine ev_iaN (N - 1 - i) rfl (by omega) rfl ?_
    simp only [go_sem, Nat.reduceEqDiff, Bool.false_eq_true, Nat.reduceBEq, ↓reduceIte]
    refine ev_stO hO (by omega) ?_
    intro M' hO' _ hd'
    simp only [go_sem, Nat.reduceEqDiff, Bool.false_eq_true, Nat.reduceBEq, ↓reduceIte]
    simp (disch := omega) only [nA64, nS64, nM64, nC64, nA64l, nS64l, nM64l, nM64r, nR64l, nL64l, nAu64, nMu64, nMu64r, nSu64, nAu64l, nLu64l, nCu64, nCu32, nCu8, nAu32, nLu32l, nSu8l, toNat_cast]
    refine k_next (N - (i + 1)) _ (by omega) ⟨i + 1, _, M', by omega, rfl, by simp; omega, ?_, hO', hd' _ hd, rfl⟩ ⟨rfl, by simp only [go_sem, Nat.reduceEqDiff, Bool.false_eq_true, Nat.reduceBEq, ↓reduceIte, and_self, Option.some.injEq, SV.v.injEq, SV.ptr.injEq, Value.int.injEq, Value.bool.injEq, Value.slice.injEq, true_and, and_true] <;> (repeat' apply And.intro) <;> first | rfl | omega | (simp (disch := omega) only [w64, wu64, wu32, wu8] <;> omega), by simp only [go_sem, Nat.reduceEqDiff, Bool.false_eq_true, Nat.reduceBEq, ↓reduceIte, and_self, Option.some.injEq, SV.v.injEq, SV.ptr.injEq, Value.int.injEq, Value.bool.injEq, Value.slice.injEq, true_and, and_true] <;> (repeat' apply And.intro) <;> rfl, rfl, PH.le.refl _⟩
    rw [dg_snoc, List.reverse_append, ← hv, show N - (i + 1) = N - 1 - i by omega, drop_eq _ (N - 1 - i) (by simp; omega), show N - 1 - i + 1 = N - i by omega, List.drop_set_of_lt (by omega)]
    simp only [List.reverse_singleton, List.singleton_append]
    congr 1
    simp [List.getD, show N - 1 - i < o.length by omega]
  · have hil : i = N := by omega
    subst hil
    rw [Nat.sub_self, List.drop_zero, ← hbx] at hv
    simp only [go_sem, Nat.reduceEqDiff, Bool.false_eq_true, Nat.reduceBEq, ↓reduceIte]
    refine ev_b2sO hO (by omega) (by rw [hv]; exact btx_lt _) ?_
    simp only [go_sem, Nat.reduceEqDiff, Bool.false_eq_true, Nat.reduceBEq, ↓reduceIte]
    intro _
    rw [hv]

end Go.Proofs.YtlhhdlhnpgiamaaDoor.X
