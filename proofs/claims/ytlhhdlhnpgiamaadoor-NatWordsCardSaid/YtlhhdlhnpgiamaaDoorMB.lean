/- Bits, trailing zeros: plain facts. -/
import Derived.Test.YtlhhdlhnpgiamaaDoorMA
namespace Go.Proofs.YtlhhdlhnpgiamaaDoor.X

/-- trailing zeros -/
def tz (x : Nat) : Nat := if h : x = 0 then 0 else if x % 2 = 1 then 0 else tz (x / 2) + 1
termination_by x
decreasing_by omega

theorem tz_zero : tz 0 = 0 := by unfold tz; rfl
theorem tz_spec {x : Nat} (h : x ≠ 0) : ∃ m, x = 2 ^ tz x * (2 * m + 1) := by
  induction x using Nat.strongRecOn with
  | _ x ih =>
    unfold tz
    rw [dif_neg h]
    split
    · rename_i h1
      exact ⟨x / 2, by rw [Nat.pow_zero]; omega⟩
    · rename_i h1
      obtain ⟨m, hm⟩ := ih (x / 2) (by omega) (by omega)
      refine ⟨m, ?_⟩
      rw [Nat.pow_succ, Nat.mul_comm (2 ^ _) 2, Nat.mul_assoc, ← hm]
      omega
theorem tz_mul (t m : Nat) : tz (2 ^ t * (2 * m + 1)) = t := by
  induction t with
  | zero =>
    unfold tz
    rw [dif_neg (by omega), if_pos (by omega)]
  | succ t ih =>
    unfold tz
    have h0 : 2 ^ (t + 1) * (2 * m + 1) = 2 * (2 ^ t * (2 * m + 1)) := by rw [Nat.pow_succ, Nat.mul_comm (2 ^ t) 2, Nat.mul_assoc]
    have hp : 0 < 2 ^ t * (2 * m + 1) := Nat.mul_pos (Nat.two_pow_pos t) (by omega)
    rw [h0, dif_neg (by omega), if_neg (by omega), Nat.mul_div_cancel_left _ (by decide), ih]
theorem tz_uniq {x t m : Nat} (h : x = 2 ^ t * (2 * m + 1)) : tz x = t := by rw [h, tz_mul]
theorem tz_shift (x k : Nat) (h : x ≠ 0) : tz (x * 2 ^ k) = tz x + k := by
  obtain ⟨m, hm⟩ := tz_spec h
  refine tz_uniq (m := m) ?_
  rw [Nat.pow_add, Nat.mul_right_comm, ← hm]
theorem tz_prod (x y : Nat) (h : x ≠ 0) (k : y ≠ 0) : tz (x * y) = tz x + tz y := by
  obtain ⟨m, hm⟩ := tz_spec h
  obtain ⟨n, hn⟩ := tz_spec k
  refine tz_uniq (m := 2 * m * n + m + n) ?_
  have : x * y = (2 ^ tz x * (2 * m + 1)) * (2 ^ tz y * (2 * n + 1)) := by rw [← hm, ← hn]
  rw [this, Nat.pow_add]
  have e : (2 * m + 1) * (2 * n + 1) = 2 * (2 * m * n + m + n) + 1 := by
    rw [Nat.add_mul, Nat.mul_add]
    have : 2 * m * (2 * n) = 2 * (2 * m * n) := by rw [Nat.mul_left_comm]
    omega
  rw [← e]
  rw [Nat.mul_mul_mul_comm]
theorem pow_tz_le {x : Nat} (h : x ≠ 0) : 2 ^ tz x ≤ x := by
  obtain ⟨m, hm⟩ := tz_spec h
  generalize tz x = t at *
  rw [hm]
  exact Nat.le_mul_of_pos_right _ (by omega)
theorem tz_lt_bl {x : Nat} (h : x ≠ 0) : tz x < bl x := lt_bl_iff.2 (pow_tz_le h)

theorem and_compl (j m : Nat) (h : m < 2 ^ j) : m &&& (2 ^ j - 1 - m) = 0 := by
  apply Nat.eq_of_testBit_eq
  intro i
  rw [Nat.testBit_and, Nat.zero_testBit, show 2 ^ j - 1 - m = 2 ^ j - (m + 1) by omega, Nat.testBit_two_pow_sub_succ h]
  cases m.testBit i <;> simp

theorem and_odd (a b : Nat) : (2 * a + 1) &&& (2 * b + 1) = 2 * (a &&& b) + 1 := by
  apply Nat.eq_of_testBit_eq
  intro i
  cases i with
  | zero => simp [Nat.testBit_and]
  | succ i =>
    rw [Nat.testBit_and, Nat.testBit_succ, Nat.testBit_succ, Nat.testBit_succ]
    rw [show (2 * a + 1) / 2 = a by omega, show (2 * b + 1) / 2 = b by omega, show (2 * (a &&& b) + 1) / 2 = a &&& b by omega, Nat.testBit_and]

theorem and_neg (n x : Nat) (h : x ≠ 0) (hx : x < 2 ^ n) : x &&& (2 ^ n - x) = 2 ^ tz x := by
  obtain ⟨m, hm⟩ := tz_spec h
  have ht : tz x < n := by
    have := Nat.lt_of_le_of_lt (pow_tz_le h) hx
    exact (Nat.pow_lt_pow_iff_right (by decide)).1 this
  generalize tz x = t at *
  obtain ⟨j, rfl⟩ : ∃ j, n = t + (j + 1) := ⟨n - t - 1, by omega⟩
  subst hm
  have hp := Nat.two_pow_pos t
  have hm2 : 2 * m + 1 < 2 ^ (j + 1) := by
    rw [Nat.pow_add] at hx
    exact Nat.lt_of_mul_lt_mul_left hx
  have hm3 : m < 2 ^ j := by rw [Nat.pow_succ] at hm2; omega
  have e : 2 ^ (t + (j + 1)) - 2 ^ t * (2 * m + 1) = 2 ^ t * (2 * (2 ^ j - 1 - m) + 1) := by
    rw [Nat.pow_add, ← Nat.mul_sub]
    congr 1
    rw [Nat.pow_succ]; omega
  rw [e, Nat.mul_comm (2 ^ t) (2 * m + 1), Nat.mul_comm (2 ^ t) (2 * (2 ^ j - 1 - m) + 1), ← Nat.shiftLeft_eq, ← Nat.shiftLeft_eq, ← Nat.shiftLeft_and_distrib, and_odd, and_compl j m hm3, Nat.shiftLeft_eq]
  omega

theorem or_add (i a b : Nat) (h : a < 2 ^ i) : a ||| b * 2 ^ i = a + b * 2 ^ i := by
  have := Nat.two_pow_add_eq_or_of_lt h b
  rw [Nat.mul_comm b, Nat.or_comm]
  omega

end Go.Proofs.YtlhhdlhnpgiamaaDoor.X
