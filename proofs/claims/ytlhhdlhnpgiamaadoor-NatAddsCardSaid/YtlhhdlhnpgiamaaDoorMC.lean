/- Limbs written over: plain facts. -/
import Derived.Test.YtlhhdlhnpgiamaaDoorMB
namespace Go.Proofs.YtlhhdlhnpgiamaaDoor.X

theorem val_set : ∀ (o : List Nat) (j x : Nat), j < o.length → val (o.set j x) + 4294967296 ^ j * o.getD j 0 = val o + 4294967296 ^ j * x
  | [], j, x, h => by simp at h
  | y :: o, 0, x, h => by simp [val]; omega
  | y :: o, j + 1, x, h => by
    have ih := val_set o j x (by simpa using h)
    simp only [List.set_cons_succ, val, List.getD_cons_succ, Nat.pow_succ]
    have e : ∀ q, 4294967296 ^ j * 4294967296 * q = 4294967296 * (4294967296 ^ j * q) := fun q => by rw [Nat.mul_comm (4294967296 ^ j), Nat.mul_assoc]
    rw [e, e]
    omega
theorem val_ge : ∀ (o : List Nat) (j : Nat), 4294967296 ^ j * o.getD j 0 ≤ val o
  | [], j => by simp
  | y :: o, 0 => by simp [val]
  | y :: o, j + 1 => by
    have ih := val_ge o j
    simp only [val, List.getD_cons_succ, Nat.pow_succ]
    rw [Nat.mul_comm (4294967296 ^ j), Nat.mul_assoc]
    omega
theorem getD_lt {o : List Nat} {j q : Nat} (h : val o < 4294967296 ^ j * q) : o.getD j 0 < q := by
  have := val_ge o j
  exact Nat.lt_of_mul_lt_mul_left (Nat.lt_of_le_of_lt this h)
theorem getD_zero {o : List Nat} {n j : Nat} (h : val o < 4294967296 ^ n) (hj : n ≤ j) : o.getD j 0 = 0 := by
  have h1 : val o < 4294967296 ^ j * 1 := by
    rw [Nat.mul_one]
    exact Nat.lt_of_lt_of_le h (Nat.pow_le_pow_right (by decide) hj)
  have := getD_lt h1
  omega
theorem getD_big {o : List Nat} {j : Nat} (h : o.length ≤ j) : o.getD j 0 = 0 := by simp [h]
theorem val_take_set (o : List Nat) (i x : Nat) (h : i < o.length) : val ((o.set i x).take (i + 1)) = val (o.take i) + 4294967296 ^ i * x := by
  rw [val_take_succ _ _ (by simpa using h)]
  have e1 : (o.set i x).take i = o.take i := by
    rw [List.take_set_of_le (by omega)]
  have e2 : (o.set i x).getD i 0 = x := by simp [List.getD, h]
  rw [e1, e2]
theorem val_take_ge (m : List Nat) (i : Nat) : val (m.take (i + 1)) = val (m.take i) + 4294967296 ^ i * m.getD i 0 := by
  by_cases h : i < m.length
  · exact val_take_succ m i h
  · rw [List.take_of_length_le (by omega), List.take_of_length_le (by omega), getD_big (by omega)]; simp

end Go.Proofs.YtlhhdlhnpgiamaaDoor.X
