/- Numbers as bytes: plain facts. -/
import Derived.Test.YtalnnaoabhimdaaZH
import Derived.Test.YtalnnaoabhimdaaZT
import Derived.Test.YtalnnaoabhimdaaZK
import Derived.Test.YtalnnaoabhimdaaZD
import Derived.Test.YtalnnaoabhimdaaZE
set_option linter.unusedVariables false
set_option linter.unusedSimpArgs false
namespace Go.Proofs.Ytalnnaoabhimdaa.X

/-- a number's bytes -/
def vb (v : Nat) : List Nat := if h : v < 128 then [v] else (v % 128 + 128) :: vb (v / 128)
termination_by v
decreasing_by omega
theorem vb_small {v : Nat} (h : v < 128) : vb v = [v] := by rw [vb, dif_pos h]
theorem vb_big {v : Nat} (h : ¬ v < 128) : vb v = (v % 128 + 128) :: vb (v / 128) := by rw [vb, dif_neg h]
theorem vb_lt (v : Nat) : ∀ d ∈ vb v, d < 256 := by
  induction v using Nat.strongRecOn with
  | _ v ih =>
    intro d hd
    by_cases h : v < 128
    · rw [vb_small h] at hd
      simp at hd
      omega
    · rw [vb_big h] at hd
      rcases List.mem_cons.1 hd with rfl | hd
      · omega
      · exact ih (v / 128) (by omega) d hd
theorem vb_pos (v : Nat) : 0 < (vb v).length := by
  by_cases h : v < 128
  · rw [vb_small h]; simp
  · rw [vb_big h]; simp
theorem vb_mono : ∀ {v w : Nat}, v ≤ w → (vb v).length ≤ (vb w).length := by
  intro v
  induction v using Nat.strongRecOn with
  | _ v ih =>
    intro w hw
    by_cases h : v < 128
    · rw [vb_small h]
      exact vb_pos w
    · rw [vb_big h, vb_big (show ¬ w < 128 by omega), List.length_cons, List.length_cons]
      have := ih (v / 128) (by omega) (w := w / 128) (by omega)
      omega
theorem vb_len : ∀ (k v : Nat), v < 128 ^ (k + 1) → (vb v).length ≤ k + 1 := by
  intro k
  induction k with
  | zero =>
    intro v hv
    rw [vb_small (by simpa using hv)]; simp
  | succ k ih =>
    intro v hv
    by_cases h : v < 128
    · rw [vb_small h]; simp
    · rw [vb_big h, List.length_cons]
      have := ih (v / 128) (by rw [Nat.div_lt_iff_lt_mul (by decide), ← Nat.pow_succ]; exact hv)
      omega
theorem vb_len10 {v : Nat} (h : v < 18446744073709551616) : (vb v).length ≤ 10 := vb_len 9 v (by omega)

/-- reading on: the place, what was read -/
def vgt : Nat → Nat → List Nat → Nat × Nat × Int
  | _, _, [] => (0, 0, 4)
  | i, a, c :: l => if (i = 9 ∧ 1 < c) ∨ (0 < i ∧ c = 0) then (0, 0, 6) else if c < 128 then (a + c * 128 ^ i, i + 1, 0) else vgt (i + 1) (a + c % 128 * 128 ^ i) l
theorem vgt_nil (i a : Nat) : vgt i a [] = (0, 0, 4) := rfl
theorem vgt_cons (i a c : Nat) (l : List Nat) : vgt i a (c :: l) = if (i = 9 ∧ 1 < c) ∨ (0 < i ∧ c = 0) then (0, 0, 6) else if c < 128 then (a + c * 128 ^ i, i + 1, 0) else vgt (i + 1) (a + c % 128 * 128 ^ i) l := rfl
theorem p9 : (128 : Nat) ^ 9 = 9223372036854775808 := by decide
theorem p128_le {i : Nat} (h : i ≤ 9) : 128 ^ i ≤ 9223372036854775808 := by rw [← p9]; exact Nat.pow_le_pow_right (by decide) h
theorem vgt_put : ∀ (v i a : Nat) (r : List Nat), i ≤ 9 → (0 < i → 0 < v) → v * 128 ^ i < 18446744073709551616 → vgt i a (vb v ++ r) = (a + v * 128 ^ i, i + (vb v).length, 0) := by
  intro v
  induction v using Nat.strongRecOn with
  | _ v ih =>
    intro i a r hi h0 hv
    have h9 : i = 9 → v < 2 := by
      intro h; subst h; rw [p9] at hv; omega
    by_cases h : v < 128
    · rw [vb_small h, List.cons_append, vgt_cons, if_neg (by omega), if_pos h]; rfl
    · have hi9 : i ≠ 9 := fun e => by have := h9 e; omega
      rw [vb_big h, List.cons_append, vgt_cons, if_neg (by omega), if_neg (by omega)]
      have e1 : v / 128 * 128 ^ (i + 1) + v % 128 * 128 ^ i = v * 128 ^ i := by
        rw [Nat.pow_succ, Nat.mul_comm (128 ^ i) 128, ← Nat.mul_assoc, ← Nat.add_mul]
        congr 1
        omega
      rw [ih (v / 128) (by omega) (i + 1) _ r (by omega) (fun _ => by omega) (by omega), show (v % 128 + 128) % 128 = v % 128 by omega, List.length_cons]
      refine Prod.ext ?_ (Prod.ext ?_ rfl)
      · show a + v % 128 * 128 ^ i + v / 128 * 128 ^ (i + 1) = a + v * 128 ^ i
        omega
      · show i + 1 + (vb (v / 128)).length = i + ((vb (v / 128)).length + 1)
        omega
theorem vgt_once : ∀ (l : List Nat) (i a w n : Nat), i ≤ 9 → (∀ d ∈ l, d < 256) → vgt i a l = (w, n, 0) → ∃ v, w = a + v * 128 ^ i ∧ n = i + (vb v).length ∧ l.take (vb v).length = vb v ∧ (0 < i → 0 < v) ∧ v * 128 ^ i < 18446744073709551616 ∧ (vb v).length ≤ l.length := by
  intro l
  induction l with
  | nil => intro i a w n _ _ h; rw [vgt_nil] at h; injection h with h1 h2; injection h2 with h2 h3; exact absurd h3 (by decide)
  | cons c l ih =>
    intro i a w n hi hl h
    rw [vgt_cons] at h
    have hc := hl c (by simp)
    split at h
    · injection h with h1 h2; injection h2 with h2 h3; exact absurd h3 (by decide)
    · rename_i hno
      split at h
      · rename_i hc2
        injection h with h1 h2; injection h2 with h2 h3
        refine ⟨c, h1.symm, by rw [vb_small hc2]; exact h2.symm, by rw [vb_small hc2]; rfl, by omega, ?_, by rw [vb_small hc2]; simp⟩
        by_cases h9 : i = 9
        · subst h9; rw [p9]; omega
        · have h8 : 128 ^ (i + 1) ≤ 9223372036854775808 := p128_le (by omega)
          rw [Nat.pow_succ] at h8
          have : c * 128 ^ i ≤ 128 * 128 ^ i := Nat.mul_le_mul_right _ (by omega)
          omega
      · rename_i hc2
        obtain ⟨v, k1, k2, k3, k4, k5, k6⟩ := ih (i + 1) _ w n (by omega) (fun d hd => hl d (List.mem_cons_of_mem _ hd)) h
        have hv0 := k4 (by omega)
        have e0 : ¬ (c % 128 + 128 * v) < 128 := by omega
        have e1 : vb (c % 128 + 128 * v) = c :: vb v := by
          rw [vb_big e0, show (c % 128 + 128 * v) % 128 + 128 = c by omega, show (c % 128 + 128 * v) / 128 = v by omega]
        have e2 : (c % 128 + 128 * v) * 128 ^ i = c % 128 * 128 ^ i + v * 128 ^ (i + 1) := by
          rw [Nat.pow_succ, Nat.mul_comm (128 ^ i) 128, ← Nat.mul_assoc, ← Nat.add_mul, Nat.mul_comm v 128]
        refine ⟨c % 128 + 128 * v, by rw [k1, e2]; omega, by rw [e1, List.length_cons]; omega, by rw [e1, List.length_cons, List.take_succ_cons, k3], fun _ => by omega, ?_, by rw [e1, List.length_cons, List.length_cons]; omega⟩
        rw [e2]
        have h8 : 128 ^ (i + 1) ≤ 9223372036854775808 := p128_le (by omega)
        rw [Nat.pow_succ] at h8 k5 ⊢
        have h7 : c % 128 * 128 ^ i < 128 ^ i * 128 := by
          rw [Nat.mul_comm (128 ^ i)]
          exact Nat.mul_lt_mul_of_pos_right (by omega) (Nat.pow_pos (by decide))
        obtain ⟨q, hq⟩ : ∃ q, 18446744073709551616 = q * (128 ^ i * 128) := by
          refine ⟨2 * 128 ^ (9 - (i + 1)), ?_⟩
          rw [← Nat.pow_succ, Nat.mul_assoc, ← Nat.pow_add, show 9 - (i + 1) + (i + 1) = 9 by omega, p9]
        rw [hq] at k5 ⊢
        have hpos : 0 < 128 ^ i * 128 := Nat.mul_pos (Nat.pow_pos (by decide)) (by decide)
        have hvq : v < q := Nat.lt_of_mul_lt_mul_right k5
        have : (v + 1) * (128 ^ i * 128) ≤ q * (128 ^ i * 128) := Nat.mul_le_mul_right _ hvq
        rw [Nat.add_mul, Nat.one_mul] at this
        omega
theorem vgt_cut : ∀ (v i a k : Nat), i ≤ 9 → (0 < i → 0 < v) → v * 128 ^ i < 18446744073709551616 → k < (vb v).length → vgt i a ((vb v).take k) = (0, 0, 4) := by
  intro v
  induction v using Nat.strongRecOn with
  | _ v ih =>
    intro i a k hi h0 hv hk
    cases k with
    | zero => rw [List.take_zero]; rfl
    | succ k =>
      have h : ¬ v < 128 := fun h => by rw [vb_small h] at hk; simp at hk
      have hi9 : i ≠ 9 := fun e => by subst e; rw [p9] at hv; omega
      rw [vb_big h, List.length_cons] at hk
      rw [vb_big h, List.take_succ_cons, vgt_cons, if_neg (by omega), if_neg (by omega)]
      have e1 : v / 128 * 128 ^ (i + 1) + v % 128 * 128 ^ i = v * 128 ^ i := by
        rw [Nat.pow_succ, Nat.mul_comm (128 ^ i) 128, ← Nat.mul_assoc, ← Nat.add_mul]
        congr 1
        omega
      exact ih (v / 128) (by omega) (i + 1) _ k (by omega) (fun _ => by omega) (by omega) (by omega)
theorem vgt_long : ∀ (l : List Nat) (i a : Nat), i ≤ 9 → (∀ d ∈ l, 128 ≤ d) → vgt i a l = if 9 < i + l.length then (0, 0, 6) else (0, 0, 4) := by
  intro l
  induction l with
  | nil => intro i a hi _; rw [vgt_nil, if_neg (by simp; omega)]
  | cons c l ih =>
    intro i a hi hl
    have hc := hl c (by simp)
    rw [vgt_cons, List.length_cons]
    by_cases h9 : i = 9
    · rw [if_pos (by omega), if_pos (by omega)]
    · rw [if_neg (by omega), if_neg (by omega), ih (i + 1) _ (by omega) (fun d hd => hl d (List.mem_cons_of_mem _ hd)), show i + 1 + l.length = i + (l.length + 1) by omega]
/-- what is read below its tenth byte, is below 128 to its place -/
theorem acc_lt {a c i : Nat} (ha : a < 128 ^ i) : a + c % 128 * 128 ^ i < 128 ^ (i + 1) := by
  have : (c % 128 + 1) * 128 ^ i ≤ 128 * 128 ^ i := Nat.mul_le_mul_right _ (by omega)
  rw [Nat.add_mul, Nat.one_mul] at this
  rw [Nat.pow_succ, Nat.mul_comm (128 ^ i) 128]
  omega

/-- reading at a place -/
def vg (l : List Nat) (p : Int) : Nat × Nat × Int :=
  if p < 0 ∨ (l.length : Int) < p then (0, 0, 1) else
  if (vgt 0 0 (l.drop p.toNat)).2.2 = 0 then ((vgt 0 0 (l.drop p.toNat)).1, p.toNat + (vgt 0 0 (l.drop p.toNat)).2.1, 0) else (0, 0, (vgt 0 0 (l.drop p.toNat)).2.2)
theorem vg_at {l : List Nat} {p : Nat} (h : p ≤ l.length) : vg l (p : Int) = if (vgt 0 0 (l.drop p)).2.2 = 0 then ((vgt 0 0 (l.drop p)).1, p + (vgt 0 0 (l.drop p)).2.1, 0) else (0, 0, (vgt 0 0 (l.drop p)).2.2) := by
  unfold vg
  rw [if_neg (by omega), Int.toNat_natCast]
theorem vg_put (a r : List Nat) {v : Nat} (hv : v < 18446744073709551616) : vg (a ++ (vb v ++ r)) (a.length : Int) = (v, a.length + (vb v).length, 0) := by
  rw [vg_at (by simp), List.drop_left', vgt_put v 0 0 r (by decide) (by omega) (by omega)]
  · simp
  · rfl
theorem vg_cut (a : List Nat) {v k : Nat} (hv : v < 18446744073709551616) (hk : k < (vb v).length) : vg (a ++ (vb v).take k) (a.length : Int) = (0, 0, 4) := by
  rw [vg_at (by simp), List.drop_left', vgt_cut v 0 0 k (by decide) (by omega) (by omega) hk]
  · rfl
  · rfl
theorem vg_once {l : List Nat} (hl : ∀ d ∈ l, d < 256) {p : Int} {v e : Nat} (h : vg l p = (v, e, 0)) : 0 ≤ p ∧ v < 18446744073709551616 ∧ e = p.toNat + (vb v).length ∧ e ≤ l.length ∧ (l.drop p.toNat).take (vb v).length = vb v := by
  unfold vg at h
  split at h
  · injection h with h1 h2; injection h2 with h2 h3; exact absurd h3 (by decide)
  · rename_i hp
    split at h
    · rename_i hc
      injection h with h1 h2; injection h2 with h2 h3
      obtain ⟨w, k1, k2, k3, k4, k5, k6⟩ := vgt_once (l.drop p.toNat) 0 0 v (vgt 0 0 (l.drop p.toNat)).2.1 (by decide) (fun d hd => hl d (List.mem_of_mem_drop hd)) (by
        rw [← h1]
        exact Prod.ext rfl (Prod.ext rfl hc))
      rw [Nat.pow_zero, Nat.mul_one, Nat.zero_add] at k1
      subst k1
      rw [List.length_drop] at k6
      refine ⟨by omega, by simpa using k5, by omega, by omega, k3⟩
    · injection h with h1 h2; injection h2 with h2 h3
      rename_i hc
      exact absurd h3 hc
theorem vg_code {l : List Nat} {p : Int} (h : (vg l p).2.2 ≠ 0) : vg l p = (0, 0, (vg l p).2.2) := by
  unfold vg at *
  split
  · rfl
  · rename_i h1
    rw [if_neg h1] at h
    split
    · rename_i h2
      rw [if_pos h2] at h
      exact absurd rfl h
    · rfl
theorem vg_end {l : List Nat} (hl : ∀ d ∈ l, d < 256) {p : Int} (h : (vg l p).2.2 = 0) : (vg l p).1 < 18446744073709551616 ∧ (vg l p).2.1 ≤ l.length ∧ p < ((vg l p).2.1 : Int) ∧ 0 ≤ p := by
  obtain ⟨h1, h2, h3, h4, h5⟩ := vg_once hl (v := (vg l p).1) (e := (vg l p).2.1) (Prod.ext rfl (Prod.ext rfl h))
  have := vb_pos (vg l p).1
  omega

/-- a whole number's bytes, and back -/
def vpi (z : Int) : List Nat := vb (2 * (btx z.natAbs).length + (if z < 0 then 1 else 0)) ++ btx z.natAbs
def vgi (l : List Nat) (p bits : Int) : Int × Nat × Int :=
  if (vg l p).2.2 ≠ 0 then (0, 0, (vg l p).2.2) else
  if max bits 0 / 8 + 1 < (((vg l p).1 / 2 : Nat) : Int) then (0, 0, 15) else
  if l.length - (vg l p).2.1 < (vg l p).1 / 2 then (0, 0, 4) else
  if rdOk ((l.drop (vg l p).2.1).take ((vg l p).1 / 2)) = false ∨ (vg l p).1 = 1 then (0, 0, 2) else
  if max bits 0 < (bl (bv ((l.drop (vg l p).2.1).take ((vg l p).1 / 2))) : Int) then (0, 0, 15) else
  (sg (decide ((vg l p).1 % 2 = 1)) (bv ((l.drop (vg l p).2.1).take ((vg l p).1 / 2))), (vg l p).2.1 + (vg l p).1 / 2, 0)
def vpr (q : Rat) : List Nat := vpi q.num ++ vpi q.den
def vgr (l : List Nat) (p bits : Int) : Rat × Nat × Int :=
  if (vgi l p bits).2.2 ≠ 0 then (0, 0, (vgi l p bits).2.2) else
  if (vgi l (vgi l p bits).2.1 bits).2.2 ≠ 0 then (0, 0, (vgi l (vgi l p bits).2.1 bits).2.2) else
  if (vgi l (vgi l p bits).2.1 bits).1 ≤ 0 ∨ Nat.gcd (vgi l (vgi l p bits).2.1 bits).1.natAbs (vgi l p bits).1.natAbs ≠ 1 then (0, 0, 2) else
  (Rat.divInt (vgi l p bits).1 (vgi l (vgi l p bits).2.1 bits).1, (vgi l (vgi l p bits).2.1 bits).2.1, 0)

theorem btx_rd (x : Nat) : rdOk (btx x) = true := by
  unfold rdOk
  by_cases hx : x = 0
  · subst hx; rfl
  · rw [Bool.or_eq_true]
    right
    have hb := bl_pos hx
    have h1 : (btx x).length = (bl x + 7) / 8 := btx_length x
    have h2 : (btx x).getD 0 0 = x / 256 ^ ((bl x + 7) / 8 - 1) % 256 := by
      unfold btx
      rw [List.getD, List.getElem?_reverse (by rw [dg_length]; omega), dg_length]
      exact dg_getD 256 _ x _ (by omega)
    have h3 : 256 ^ ((bl x + 7) / 8 - 1) ≤ x := by
      rw [show (256 : Nat) = 2 ^ 8 from rfl, ← Nat.pow_mul]
      exact Nat.le_trans (Nat.pow_le_pow_right (by decide) (by omega)) (two_pow_le_bl hx)
    have h4 : x < 256 ^ ((bl x + 7) / 8 - 1) * 256 := by
      rw [← Nat.pow_succ, show (256 : Nat) = 2 ^ 8 from rfl, ← Nat.pow_mul]
      exact Nat.lt_of_lt_of_le (lt_two_pow_bl x) (Nat.pow_le_pow_right (by decide) (by omega))
    have h5 : 0 < x / 256 ^ ((bl x + 7) / 8 - 1) := Nat.div_pos h3 (Nat.pow_pos (by decide))
    have h6 : x / 256 ^ ((bl x + 7) / 8 - 1) < 256 := by
      rw [Nat.div_lt_iff_lt_mul (Nat.pow_pos (by decide)), Nat.mul_comm]; exact h4
    rw [h2, Nat.mod_eq_of_lt h6]
    simpa using Nat.ne_of_gt h5
theorem bv_btx (x : Nat) : bv (btx x) = x := by
  have h := bv_rev (dg 256 ((bl x + 7) / 8) x)
  unfold btx
  rw [h, lv_dg]
  refine Nat.mod_eq_of_lt ?_
  rw [show (256 : Nat) = 2 ^ 8 from rfl, ← Nat.pow_mul]
  exact Nat.lt_of_lt_of_le (lt_two_pow_bl x) (Nat.pow_le_pow_right (by decide) (by omega))
theorem vpi_lt (z : Int) : ∀ d ∈ vpi z, d < 256 := fun d hd => by
  rcases List.mem_append.1 hd with h | h
  · exact vb_lt _ d h
  · exact btx_lt _ d h
theorem vpi_pos (z : Int) : 0 < (vpi z).length := by
  unfold vpi
  rw [List.length_append]
  have := vb_pos (2 * (btx z.natAbs).length + (if z < 0 then 1 else 0))
  omega
/-- a written number is read, wherever it stands -/
theorem vgi_put (a r : List Nat) (z : Int) (bits : Int) (hb : bi z ≤ 1000000) : vgi (a ++ (vpi z ++ r)) (a.length : Int) bits = if max bits 0 < (bi z : Int) then (0, 0, 15) else (z, a.length + (vpi z).length, 0) := by
  have hl : (btx z.natAbs).length = (bi z + 7) / 8 := btx_length _
  have hz0 : z < 0 → (btx z.natAbs).length ≠ 0 := by
    intro h
    have : 0 < bi z := bl_pos (by omega)
    omega
  have e0 : a ++ (vpi z ++ r) = a ++ (vb (2 * (btx z.natAbs).length + (if z < 0 then 1 else 0)) ++ (btx z.natAbs ++ r)) := by unfold vpi; rw [List.append_assoc]
  have hlen : (a ++ (vpi z ++ r)).length = a.length + ((vpi z).length + r.length) := by rw [List.length_append, List.length_append]
  have hvl : (vpi z).length = (vb (2 * (btx z.natAbs).length + (if z < 0 then 1 else 0))).length + (btx z.natAbs).length := by unfold vpi; rw [List.length_append]
  generalize hv : 2 * (btx z.natAbs).length + (if z < 0 then 1 else 0) = v at *
  have hv2 : v / 2 = (btx z.natAbs).length := by rw [← hv]; split <;> omega
  have hvm : decide (v % 2 = 1) = decide (z < 0) := by
    rw [← hv]
    by_cases h : z < 0
    · rw [if_pos h, decide_eq_true h, decide_eq_true (by omega)]
    · rw [if_neg h, decide_eq_false h, decide_eq_false (by omega)]
  have hv1 : v ≠ 1 := by
    rw [← hv]
    by_cases h : z < 0
    · have := hz0 h; rw [if_pos h]; omega
    · rw [if_neg h]; omega
  have hg : vg (a ++ (vpi z ++ r)) (a.length : Int) = (v, a.length + (vb v).length, 0) := by
    rw [e0]
    exact vg_put a _ (by rw [← hv]; split <;> omega)
  have hs : ((a ++ (vpi z ++ r)).drop (a.length + (vb v).length)).take (v / 2) = btx z.natAbs := by
    rw [e0, hv2, ← List.append_assoc, List.drop_left' (by rw [List.length_append]), List.take_left' rfl]
  unfold vgi
  rw [hg]
  simp only [ne_eq, not_true_eq_false, if_false]
  rw [hs, bv_btx, btx_rd, hlen, hvl, hvm, sg_self, hv2, hl]
  rw [if_neg (show ¬ ((a.length + ((vb v).length + (bi z + 7) / 8 + r.length)) - (a.length + (vb v).length) < (bi z + 7) / 8) by omega), if_neg (show ¬ (true = false ∨ v = 1) by simp [hv1])]
  show (if max bits 0 / 8 + 1 < (((bi z + 7) / 8 : Nat) : Int) then ((0 : Int), (0 : Nat), (15 : Int)) else if max bits 0 < (bi z : Int) then (0, 0, 15) else _) = _
  by_cases hbt : max bits 0 < (bi z : Int)
  · rw [if_pos hbt, if_pos hbt]
    split <;> rfl
  · rw [if_neg hbt, if_neg hbt, if_neg (by omega), Nat.add_assoc]
/-- cut anywhere it is too short -/
theorem vgi_cut (a : List Nat) (z : Int) (bits : Int) (hb : bi z ≤ 1000000) (hbt : (bi z : Int) ≤ max bits 0) {k : Nat} (hk : k < (vpi z).length) : vgi (a ++ (vpi z).take k) (a.length : Int) bits = (0, 0, 4) := by
  have hl : (btx z.natAbs).length = (bi z + 7) / 8 := btx_length _
  unfold vpi at hk ⊢
  generalize hv : 2 * (btx z.natAbs).length + (if z < 0 then 1 else 0) = v at *
  have hv2 : v / 2 = (btx z.natAbs).length := by rw [← hv]; split <;> omega
  have hvb : v < 18446744073709551616 := by rw [← hv]; split <;> omega
  rw [List.length_append] at hk
  rw [List.take_append]
  unfold vgi
  by_cases hk2 : k < (vb v).length
  · rw [show k - (vb v).length = 0 by omega, List.take_zero, List.append_nil, vg_cut a hvb hk2]
    rfl
  · rw [List.take_of_length_le (show (vb v).length ≤ k by omega), vg_put a _ hvb]
    simp only [ne_eq, not_true_eq_false, if_false]
    rw [hv2, if_neg (by omega), if_pos]
    rw [List.length_append, List.length_append, List.length_take]
    omega
theorem vgi_once {l : List Nat} (hl : ∀ d ∈ l, d < 256) {p bits : Int} {z : Int} {e : Nat} (h : vgi l p bits = (z, e, 0)) : 0 ≤ p ∧ p < (e : Int) ∧ e ≤ l.length ∧ (l.drop p.toNat).take (e - p.toNat) = vpi z ∧ (bi z : Int) ≤ max bits 0 := by
  unfold vgi at h
  split at h
  · rename_i h1; injection h with h2 h3; injection h3 with h3 h4; exact absurd h4 h1
  · rename_i h1
    have h1' : (vg l p).2.2 = 0 := Classical.not_not.1 h1
    obtain ⟨k1, k2, k3, k4, k5⟩ := vg_once hl (v := (vg l p).1) (e := (vg l p).2.1) (Prod.ext rfl (Prod.ext rfl h1'))
    have kp := vb_pos (vg l p).1
    generalize (vg l p).1 = v at *
    generalize (vg l p).2.1 = f at *
    split at h
    · injection h with h2 h3; injection h3 with h3 h4; exact absurd h4 (by decide)
    · split at h
      · injection h with h2 h3; injection h3 with h3 h4; exact absurd h4 (by decide)
      · rename_i h5
        split at h
        · injection h with h2 h3; injection h3 with h3 h4; exact absurd h4 (by decide)
        · rename_i h6
          split at h
          · injection h with h2 h3; injection h3 with h3 h4; exact absurd h4 (by decide)
          · rename_i h7
            injection h with h2 h3; injection h3 with h3 _
            have hsl : ((l.drop f).take (v / 2)).length = v / 2 := by rw [List.length_take, List.length_drop]; omega
            have hrd : rdOk ((l.drop f).take (v / 2)) = true := by
              cases hr : rdOk ((l.drop f).take (v / 2)) with
              | true => rfl
              | false => exact absurd (.inl hr) h6
            have hbx := btx_bv (l := (l.drop f).take (v / 2)) (fun d hd => hl d (List.mem_of_mem_drop (List.mem_of_mem_take hd))) hrd
            have hbl : bl (bv ((l.drop f).take (v / 2))) = bi z := by rw [← h2]; unfold bi; rw [sg_natAbs]
            have hzn : z.natAbs = bv ((l.drop f).take (v / 2)) := by rw [← h2, sg_natAbs]
            have hpre : (l.drop p.toNat).take (e - p.toNat) = vb v ++ (l.drop f).take (v / 2) := by
              rw [show e - p.toNat = (vb v).length + v / 2 by omega, List.take_add, k5, List.drop_drop, ← k3]
            have hneg : (z < 0) ↔ v % 2 = 1 := by
              rw [← h2]
              by_cases hm : v % 2 = 1
              · rw [decide_eq_true hm]
                refine ⟨fun _ => hm, fun _ => ?_⟩
                have hx : 0 < bv ((l.drop f).take (v / 2)) := by
                  by_cases h0 : bv ((l.drop f).take (v / 2)) = 0
                  · rw [h0] at hbx
                    have : ((l.drop f).take (v / 2)).length = 0 := by rw [← hbx]; rfl
                    exact absurd (.inr (by omega)) h6
                  · omega
                unfold sg; simp; omega
              · rw [decide_eq_false hm]
                refine ⟨fun hlt => ?_, fun h => absurd h hm⟩
                unfold sg at hlt
                simp at hlt
                omega
            refine ⟨k1, by omega, by omega, ?_, by rw [← hbl]; omega⟩
            rw [hpre]
            unfold vpi
            rw [hzn, hbx, hsl]
            congr 2
            by_cases hm : v % 2 = 1
            · rw [if_pos (hneg.2 hm)]; omega
            · rw [if_neg (fun hlt => hm (hneg.1 hlt))]; omega
theorem vgi_code {l : List Nat} {p bits : Int} (h : (vgi l p bits).2.2 ≠ 0) : vgi l p bits = (0, 0, (vgi l p bits).2.2) := by
  unfold vgi at h ⊢
  split
  · rfl
  · rename_i k0
    rw [if_neg k0] at h
    split
    · rfl
    · rename_i k1
      rw [if_neg k1] at h
      split
      · rfl
      · rename_i k2
        rw [if_neg k2] at h
        split
        · rfl
        · rename_i k3
          rw [if_neg k3] at h
          split
          · rfl
          · rename_i k4
            rw [if_neg k4] at h
            exact absurd rfl h

/-- quotients -/
theorem vgr_put (a r : List Nat) (q : Rat) (bits : Int) (hb : br q ≤ 1000000) (hbt : (br q : Int) ≤ max bits 0) : vgr (a ++ (vpr q ++ r)) (a.length : Int) bits = (q, a.length + (vpr q).length, 0) := by
  have k1 := bi_br q
  have k2 := bl_br q
  have kd : bi (q.den : Int) = bl q.den := by rw [bi_cast']
  have e1 : a ++ (vpr q ++ r) = a ++ (vpi q.num ++ (vpi q.den ++ r)) := by unfold vpr; rw [List.append_assoc]
  have e2 : a ++ (vpr q ++ r) = (a ++ vpi q.num) ++ (vpi q.den ++ r) := by rw [e1, List.append_assoc]
  have g1 : vgi (a ++ (vpr q ++ r)) (a.length : Int) bits = (q.num, a.length + (vpi q.num).length, 0) := by
    rw [e1, vgi_put a _ q.num bits (by omega), if_neg (show ¬ max bits 0 < (bi q.num : Int) by omega)]
  have g2 : vgi (a ++ (vpr q ++ r)) ((a.length + (vpi q.num).length : Nat) : Int) bits = ((q.den : Int), a.length + (vpi q.num).length + (vpi q.den).length, 0) := by
    have := vgi_put (a ++ vpi q.num) r q.den bits (by omega)
    rw [← e2, List.length_append] at this
    rw [this, if_neg (show ¬ max bits 0 < (bi (q.den : Int) : Int) by omega)]
  unfold vgr
  rw [g1]
  simp only [ne_eq, not_true_eq_false, if_false]
  rw [g2]
  simp only [ne_eq, not_true_eq_false, if_false]
  have hd := q.den_pos
  have hred : Nat.gcd q.den q.num.natAbs = 1 := by rw [Nat.gcd_comm]; exact q.reduced
  rw [if_neg (by rw [Int.natAbs_natCast, hred]; omega)]
  have e3 : Rat.divInt q.num (q.den : Int) = q := by rw [Rat.divInt_ofNat, Rat.mkRat_self]
  rw [e3]
  unfold vpr
  rw [List.length_append]
  simp only [Nat.add_assoc]
theorem vgr_cut (a : List Nat) (q : Rat) (bits : Int) (hb : br q ≤ 1000000) (hbt : (br q : Int) ≤ max bits 0) {k : Nat} (hk : k < (vpr q).length) : vgr (a ++ (vpr q).take k) (a.length : Int) bits = (0, 0, 4) := by
  have k1 := bi_br q
  have k2 := bl_br q
  have kd : bi (q.den : Int) = bl q.den := by rw [bi_cast']
  unfold vpr at hk ⊢
  rw [List.length_append] at hk
  rw [List.take_append]
  unfold vgr
  by_cases hk2 : k < (vpi q.num).length
  · rw [show k - (vpi q.num).length = 0 by omega, List.take_zero, List.append_nil, vgi_cut a q.num bits (by omega) (by omega) hk2]
    rfl
  · rw [List.take_of_length_le (show (vpi q.num).length ≤ k by omega), vgi_put a _ q.num bits (by omega), if_neg (show ¬ max bits 0 < (bi q.num : Int) by omega)]
    simp only [ne_eq, not_true_eq_false, if_false]
    have := vgi_cut (a ++ vpi q.num) q.den bits (by omega) (by omega) (k := k - (vpi q.num).length) (by omega)
    rw [List.append_assoc, List.length_append] at this
    rw [this]
    rfl
theorem vgr_bits (q : Rat) (hb : br q ≤ 1000000) : vgr (vpr q) 0 ((br q : Int) - 1) = (0, 0, 15) := by
  have k1 := bi_br q
  have k2 := bl_br q
  have kd : bi (q.den : Int) = bl q.den := by rw [bi_cast']
  have hbp : 0 < br q := by have := bl_pos q.den_nz; omega
  have e1 : vpr q = [] ++ (vpi q.num ++ vpi q.den) := rfl
  have g1 := vgi_put [] (vpi q.den) q.num ((br q : Int) - 1) (by omega)
  unfold vgr
  rw [e1]
  rw [List.length_nil] at g1
  rw [show ((0 : Nat) : Int) = 0 from rfl] at g1
  rw [g1]
  by_cases h : br q = bi q.num
  · rw [if_pos (show max ((br q : Int) - 1) 0 < (bi q.num : Int) by omega)]
    rfl
  · rw [if_neg (show ¬ max ((br q : Int) - 1) 0 < (bi q.num : Int) by omega)]
    simp only [ne_eq, not_true_eq_false, if_false]
    have hden : br q = bl q.den := by unfold br at h ⊢; omega
    have g2 := vgi_put (vpi q.num) [] q.den ((br q : Int) - 1) (by omega)
    rw [List.append_nil] at g2
    rw [List.nil_append, Nat.zero_add, g2, if_pos (show max ((br q : Int) - 1) 0 < (bi (q.den : Int) : Int) by omega)]
    rfl
theorem vgr_once {l : List Nat} (hl : ∀ d ∈ l, d < 256) {p bits : Int} {q : Rat} {e : Nat} (h : vgr l p bits = (q, e, 0)) : 0 ≤ p ∧ p < (e : Int) ∧ e ≤ l.length ∧ (l.drop p.toNat).take (e - p.toNat) = vpr q ∧ (br q : Int) ≤ max bits 1 := by
  unfold vgr at h
  split at h
  · rename_i h1; injection h with h2 h3; injection h3 with h3 h4; exact absurd h4 h1
  · rename_i h1
    have h1' : (vgi l p bits).2.2 = 0 := Classical.not_not.1 h1
    obtain ⟨k1, k2, k3, k4, k5⟩ := vgi_once hl (z := (vgi l p bits).1) (e := (vgi l p bits).2.1) (Prod.ext rfl (Prod.ext rfl h1'))
    generalize (vgi l p bits).1 = n at *
    generalize (vgi l p bits).2.1 = f at *
    split at h
    · rename_i h2; injection h with h3 h4; injection h4 with h4 h5; exact absurd h5 h2
    · rename_i h2
      have h2' : (vgi l f bits).2.2 = 0 := Classical.not_not.1 h2
      obtain ⟨m1, m2, m3, m4, m5⟩ := vgi_once hl (z := (vgi l f bits).1) (e := (vgi l f bits).2.1) (Prod.ext rfl (Prod.ext rfl h2'))
      generalize (vgi l f bits).1 = d at *
      generalize (vgi l f bits).2.1 = g at *
      split at h
      · injection h with h3 h4; injection h4 with h4 h5; exact absurd h5 (by decide)
      · rename_i h3
        injection h with h4 h5; injection h5 with h5 _
        have hd : 0 < d := by omega
        have hgc : Nat.gcd d.natAbs n.natAbs = 1 := by
          by_cases hg : Nat.gcd d.natAbs n.natAbs = 1
          · exact hg
          · exact absurd (.inr hg) h3
        obtain ⟨c1, c2⟩ := mk_coprime (z := n) (y := d.natAbs) (by omega) hgc
        have hq : q = mkRat n d.natAbs := by
          rw [← h4]
          conv => lhs; rw [show d = ((d.natAbs : Nat) : Int) by omega]
          rw [Rat.divInt_ofNat]
        have hqn : q.num = n := by rw [hq]; exact c1
        have hqd : (q.den : Int) = d := by rw [hq, c2]; omega
        rw [Int.toNat_natCast] at m4
        refine ⟨k1, by omega, by omega, ?_, ?_⟩
        · unfold vpr
          rw [hqn, hqd, ← k4, ← m4, ← h5]
          rw [show g - p.toNat = (f - p.toNat) + (g - f) by omega, List.take_add, List.drop_drop, show p.toNat + (f - p.toNat) = f by omega]
        · have hbd : bl q.den = bi d := by rw [← hqd, bi_cast']
          unfold br
          rw [hqn, hbd]
          omega
theorem vgr_code {l : List Nat} {p bits : Int} (h : (vgr l p bits).2.2 ≠ 0) : vgr l p bits = (0, 0, (vgr l p bits).2.2) := by
  unfold vgr at h ⊢
  split
  · rfl
  · rename_i k0
    rw [if_neg k0] at h
    split
    · rfl
    · rename_i k1
      rw [if_neg k1] at h
      split
      · rfl
      · rename_i k2
        rw [if_neg k2] at h
        exact absurd rfl h

end Go.Proofs.Ytalnnaoabhimdaa.X
set_option linter.unusedVariables false
set_option linter.unusedSimpArgs false
namespace Go.Proofs.Ytalnnaoabhimdaa.X
open Go Go.RowKit Go.Proofs

theorem ws8' (n : Int) (h0 : 0 ≤ n) (h : n < 2 ^ 8) : IntKind.u8.wrap n = n := wu8 n h0 (by omega)
theorem or8 {a b : Nat} (ha : a < 2 ^ 8) (hb : b < 2 ^ 8) : bitsV .or .u8 (a : Int) (b : Int) = ((a ||| b : Nat) : Int) := bitsV_or 8 (by decide) ws8' ha hb
theorem and8 {a b : Nat} (ha : a < 2 ^ 8) (hb : b < 2 ^ 8) : bitsV .and .u8 (a : Int) (b : Int) = ((a &&& b : Nat) : Int) := bitsV_and 8 (by decide) ws8' ha hb
theorem or128 : ∀ x : Nat, x < 256 → x ||| 128 = x % 128 + 128 := by decide +kernel
theorem and127 (x : Nat) : x &&& 127 = x % 128 := Nat.and_two_pow_sub_one_eq_mod x 7
theorem pow7 (i : Nat) : 2 ^ (7 * i) = 128 ^ i := by rw [Nat.pow_mul]

set_option maxHeartbeats 1000000 in
theorem vput_ok (H : PH) (v : Nat) (hv : v < 18446744073709551616) : FnP Try.prog 11 [.int .u64 (v : Int)] H fun r _ => r = .string (ofB (vb v)) := by
  refine Fn.release (of_vint_Put (by simp) ?_)
  try simp only [go_sem, Nat.reduceEqDiff, Nat.reduceAdd, Bool.false_eq_true, Nat.reduceBEq, ↓reduceIte, p_vint_Put]
  have h10 := vb_len10 hv
  refine ev_loop (fun n s => ∃ (w : Nat) (A : Option Addr) (o : List Nat) (k c : Nat) (M1 : PH), n = w ∧ k = o.length ∧ w < 18446744073709551616 ∧ vb v = o ++ vb w ∧ Own .u8 5 M1 A o c ∧ PH.disj H M1 ∧ (∀ d ∈ o, d < 256) ∧
    s = ⟨[(3, .v (.slice A k c)), (0, .v (.int .u64 (w : Int)))], [], H, M1⟩) v _ ⟨v, none, [], 0, 0, PH.no, rfl, rfl, hv, rfl, Own.nil _ _ _, PH.disj_no _, fun d hd => by (cases hd), rfl⟩ ⟨rfl, by simp only [go_sem, Nat.reduceEqDiff, Nat.reduceAdd, Bool.false_eq_true, Nat.reduceBEq, ↓reduceIte, and_self, Option.some.injEq, SV.v.injEq, SV.ptr.injEq, Value.int.injEq, Value.bool.injEq, Value.slice.injEq, true_and, and_true] <;> (repeat' apply And.intro) <;> first | rfl | omega | (simp (disch := omega) only [w64, wu64, wu32, wu8] <;> omega), by simp only [go_sem, Nat.reduceEqDiff, Nat.reduceAdd, Bool.false_eq_true, Nat.reduceBEq, ↓reduceIte, and_self, Option.some.injEq, SV.v.injEq, SV.ptr.injEq, Value.int.injEq, Value.bool.injEq, Value.slice.injEq, true_and, and_true] <;> (repeat' apply And.intro) <;> rfl, rfl, PH.le.refl _⟩ ?_
  rintro n s ⟨w, A, o, k, c, M1, rfl, rfl, hw, hvb, hO, hd, hob, rfl⟩
  have hlen : o.length + (vb n).length ≤ 10 := by rw [← List.length_append, ← hvb]; exact h10
  try simp only [go_sem, Nat.reduceEqDiff, Nat.reduceAdd, Bool.false_eq_true, Nat.reduceBEq, ↓reduceIte]
  refine ev_if (fun h => ?_) (fun h => ?_)
  · have hn128 : ¬ n < 128 := by omega
    try simp only [go_sem, Nat.reduceEqDiff, Nat.reduceAdd, Bool.false_eq_true, Nat.reduceBEq, ↓reduceIte]
    rw [show bitsV .or .u8 (IntKind.u8.wrap (n : Int)) 128 = ((n % 128 + 128 : Nat) : Int) by rw [u8mod, show (128 : Int) = ((128 : Nat) : Int) from rfl, or8 (by omega) (by decide), or128 _ (by omega), show n % 256 % 128 = n % 128 by omega]]
    refine ev_bslO (k := .u8) (l := [n % 128 + 128]) rfl rfl (by simp) hd ?_
    intro g M3 hO3 hle3 hg3 hd3
    try simp only [go_sem, Nat.reduceEqDiff, Nat.reduceAdd, Bool.false_eq_true, Nat.reduceBEq, ↓reduceIte]
    refine ev_appO (hO.le hle3) (m := [n % 128 + 128]) (hO3.sl hd3) rfl rfl (by simp) (by simp; omega) (by simp; omega) hd3 ?_
    intro B' e' M4 hO4 hB4 hne4 hd4
    try simp only [go_sem, Nat.reduceEqDiff, Nat.reduceAdd, Bool.false_eq_true, Nat.reduceBEq, ↓reduceIte]
    refine shr_nat (n := 7) rfl (by decide) ?_
    try simp only [go_sem, Nat.reduceEqDiff, Nat.reduceAdd, Bool.false_eq_true, Nat.reduceBEq, ↓reduceIte]
    refine k_next (n / 2 ^ 7) _ (by omega) ⟨n / 2 ^ 7, _, o ++ [n % 128 + 128], o.length + 1, _, _, rfl, by simp, by omega, ?_, hO4, hd4, ?_, rfl⟩ ⟨rfl, by simp only [go_sem, Nat.reduceEqDiff, Nat.reduceAdd, Bool.false_eq_true, Nat.reduceBEq, ↓reduceIte, and_self, Option.some.injEq, SV.v.injEq, SV.ptr.injEq, Value.int.injEq, Value.bool.injEq, Value.slice.injEq, true_and, and_true] <;> (repeat' apply And.intro) <;> first | rfl | omega | (simp (disch := omega) only [w64, wu64, wu32, wu8] <;> omega), by simp only [go_sem, Nat.reduceEqDiff, Nat.reduceAdd, Bool.false_eq_true, Nat.reduceBEq, ↓reduceIte, and_self, Option.some.injEq, SV.v.injEq, SV.ptr.injEq, Value.int.injEq, Value.bool.injEq, Value.slice.injEq, true_and, and_true] <;> (repeat' apply And.intro) <;> rfl, rfl, PH.le.refl _⟩
    · rw [hvb, vb_big hn128]; simp
    · intro d hd
      rcases List.mem_append.1 hd with h | h
      · exact hob d h
      · simp at h; omega
  · have hn128 : n < 128 := by omega
    rw [vb_small hn128] at hvb
    try simp only [go_sem, Nat.reduceEqDiff, Nat.reduceAdd, Bool.false_eq_true, Nat.reduceBEq, ↓reduceIte]
    rw [u8mod, Nat.mod_eq_of_lt (show n < 256 by omega)]
    refine ev_bslO (k := .u8) (l := [n]) rfl rfl (by simp) hd ?_
    intro g M3 hO3 hle3 hg3 hd3
    try simp only [go_sem, Nat.reduceEqDiff, Nat.reduceAdd, Bool.false_eq_true, Nat.reduceBEq, ↓reduceIte]
    refine ev_appO (hO.le hle3) (m := [n]) (hO3.sl hd3) rfl rfl (by simp) (by simp; omega) (by simp; omega) hd3 ?_
    intro B' e' M4 hO4 hB4 hne4 hd4
    try simp only [go_sem, Nat.reduceEqDiff, Nat.reduceAdd, Bool.false_eq_true, Nat.reduceBEq, ↓reduceIte]
    refine ev_b2sO hO4 (by simp) (by rw [← hvb]; exact vb_lt v) ?_
    try simp only [go_sem, Nat.reduceEqDiff, Nat.reduceAdd, Bool.false_eq_true, Nat.reduceBEq, ↓reduceIte]
    rw [← hvb]
    intro _
    rfl

set_option maxHeartbeats 1000000 in
theorem vputR_ok (H : PH) (v : Nat) (hv : v < 18446744073709551616) : FnP Try.prog 49 [.int .u64 (v : Int)] H fun r _ => r = .string (ofB (vb v)) := by
  refine Fn.release (of_cinctureref2_Put (by simp) ?_)
  try simp only [go_sem, Nat.reduceEqDiff, Nat.reduceAdd, Bool.false_eq_true, Nat.reduceBEq, ↓reduceIte, p_cinctureref2_Put]
  have h10 := vb_len10 hv
  refine ev_loop (fun n s => ∃ (w : Nat) (A : Option Addr) (o : List Nat) (k c : Nat) (M1 : PH), n = w ∧ k = o.length ∧ w < 18446744073709551616 ∧ vb v = o ++ vb w ∧ Own .u8 5 M1 A o c ∧ PH.disj H M1 ∧ (∀ d ∈ o, d < 256) ∧
    s = ⟨[(3, .v (.slice A k c)), (0, .v (.int .u64 (w : Int)))], [], H, M1⟩) v _ ⟨v, none, [], 0, 0, PH.no, rfl, rfl, hv, rfl, Own.nil _ _ _, PH.disj_no _, fun d hd => by (cases hd), rfl⟩ ⟨rfl, by simp only [go_sem, Nat.reduceEqDiff, Nat.reduceAdd, Bool.false_eq_true, Nat.reduceBEq, ↓reduceIte, and_self, Option.some.injEq, SV.v.injEq, SV.ptr.injEq, Value.int.injEq, Value.bool.injEq, Value.slice.injEq, true_and, and_true] <;> (repeat' apply And.intro) <;> first | rfl | omega | (simp (disch := omega) only [w64, wu64, wu32, wu8] <;> omega), by simp only [go_sem, Nat.reduceEqDiff, Nat.reduceAdd, Bool.false_eq_true, Nat.reduceBEq, ↓reduceIte, and_self, Option.some.injEq, SV.v.injEq, SV.ptr.injEq, Value.int.injEq, Value.bool.injEq, Value.slice.injEq, true_and, and_true] <;> (repeat' apply And.intro) <;> rfl, rfl, PH.le.refl _⟩ ?_
  rintro n s ⟨w, A, o, k, c, M1, rfl, rfl, hw, hvb, hO, hd, hob, rfl⟩
  have hlen : o.length + (vb n).length ≤ 10 := by rw [← List.length_append, ← hvb]; exact h10
  try simp only [go_sem, Nat.reduceEqDiff, Nat.reduceAdd, Bool.false_eq_true, Nat.reduceBEq, ↓reduceIte]
  refine ev_if (fun h => ?_) (fun h => ?_)
  · have hn128 : ¬ n < 128 := by omega
    try simp only [go_sem, Nat.reduceEqDiff, Nat.reduceAdd, Bool.false_eq_true, Nat.reduceBEq, ↓reduceIte]
    rw [show IntKind.u8.wrap (bitsV .or .u64 (bitsV .and .u64 (n : Int) 127) 128) = ((n % 128 + 128 : Nat) : Int) by
      rw [show (127 : Int) = ((127 : Nat) : Int) from rfl, and64 (by omega) (by decide), and127, show (128 : Int) = ((128 : Nat) : Int) from rfl, or64 (by omega) (by decide), or128 _ (by omega), u8mod]
      omega]
    refine ev_bslO (k := .u8) (l := [n % 128 + 128]) rfl rfl (by simp) hd ?_
    intro g M3 hO3 hle3 hg3 hd3
    try simp only [go_sem, Nat.reduceEqDiff, Nat.reduceAdd, Bool.false_eq_true, Nat.reduceBEq, ↓reduceIte]
    refine ev_appO (hO.le hle3) (m := [n % 128 + 128]) (hO3.sl hd3) rfl rfl (by simp) (by simp; omega) (by simp; omega) hd3 ?_
    intro B' e' M4 hO4 hB4 hne4 hd4
    try simp only [go_sem, Nat.reduceEqDiff, Nat.reduceAdd, Bool.false_eq_true, Nat.reduceBEq, ↓reduceIte]
    refine shr_nat (n := 7) rfl (by decide) ?_
    try simp only [go_sem, Nat.reduceEqDiff, Nat.reduceAdd, Bool.false_eq_true, Nat.reduceBEq, ↓reduceIte]
    refine k_next (n / 2 ^ 7) _ (by omega) ⟨n / 2 ^ 7, _, o ++ [n % 128 + 128], o.length + 1, _, _, rfl, by simp, by omega, ?_, hO4, hd4, ?_, rfl⟩ ⟨rfl, by simp only [go_sem, Nat.reduceEqDiff, Nat.reduceAdd, Bool.false_eq_true, Nat.reduceBEq, ↓reduceIte, and_self, Option.some.injEq, SV.v.injEq, SV.ptr.injEq, Value.int.injEq, Value.bool.injEq, Value.slice.injEq, true_and, and_true] <;> (repeat' apply And.intro) <;> first | rfl | omega | (simp (disch := omega) only [w64, wu64, wu32, wu8] <;> omega), by simp only [go_sem, Nat.reduceEqDiff, Nat.reduceAdd, Bool.false_eq_true, Nat.reduceBEq, ↓reduceIte, and_self, Option.some.injEq, SV.v.injEq, SV.ptr.injEq, Value.int.injEq, Value.bool.injEq, Value.slice.injEq, true_and, and_true] <;> (repeat' apply And.intro) <;> rfl, rfl, PH.le.refl _⟩
    · rw [hvb, vb_big hn128]; simp
    · intro d hd
      rcases List.mem_append.1 hd with h | h
      · exact hob d h
      · simp at h; omega
  · have hn128 : n < 128 := by omega
    rw [vb_small hn128] at hvb
    try simp only [go_sem, Nat.reduceEqDiff, Nat.reduceAdd, Bool.false_eq_true, Nat.reduceBEq, ↓reduceIte]
    rw [u8mod, Nat.mod_eq_of_lt (show n < 256 by omega)]
    refine ev_bslO (k := .u8) (l := [n]) rfl rfl (by simp) hd ?_
    intro g M3 hO3 hle3 hg3 hd3
    try simp only [go_sem, Nat.reduceEqDiff, Nat.reduceAdd, Bool.false_eq_true, Nat.reduceBEq, ↓reduceIte]
    refine ev_appO (hO.le hle3) (m := [n]) (hO3.sl hd3) rfl rfl (by simp) (by simp; omega) (by simp; omega) hd3 ?_
    intro B' e' M4 hO4 hB4 hne4 hd4
    try simp only [go_sem, Nat.reduceEqDiff, Nat.reduceAdd, Bool.false_eq_true, Nat.reduceBEq, ↓reduceIte]
    refine ev_b2sO hO4 (by simp) (by rw [← hvb]; exact vb_lt v) ?_
    try simp only [go_sem, Nat.reduceEqDiff, Nat.reduceAdd, Bool.false_eq_true, Nat.reduceBEq, ↓reduceIte]
    rw [← hvb]
    intro _
    rfl

theorem join_low {a c i : Nat} (ha : a < 128 ^ i) (hi : i ≤ 8) (hc : c < 128) : a ||| c * 2 ^ (7 * i) = a + c * 128 ^ i := by
  rw [or_add (7 * i) a c (by rw [pow7]; exact ha), pow7]
theorem vg_neg {l : List Nat} {p : Int} (h : p < 0 ∨ (l.length : Int) < p) : vg l p = (0, 0, 1) := by unfold vg; rw [if_pos h]
theorem getD_of {l : List Nat} {p i : Nat} {x : Nat} {r : List Nat} (h : l.drop (p + i) = x :: r) : l.getD (p + i) 0 = x := by
  have := congrArg (fun l => l[0]?) h
  simp only [List.getElem?_drop, List.getElem?_cons_zero, Nat.add_zero] at this
  rw [List.getD_eq_getElem?_getD, this]; rfl
theorem drop_succ_of {l : List Nat} {p : Nat} {x : Nat} {r : List Nat} (h : l.drop p = x :: r) : l.drop (p + 1) = r := by
  rw [← List.drop_drop, h]; rfl

/-- the answer of a reading -/
def vgV (r : Nat × Nat × Int) : Value := .tuple #[.int .u64 (r.1 : Int), .int .i64 (r.2.1 : Int), .int .i64 r.2.2]
set_option maxHeartbeats 2000000 in
theorem vget_ok (H : PH) (b : ByteArray) (hb : b.size ≤ 1000000000) (p : Int) (h1 : -9223372036854775808 ≤ p) (h2 : p ≤ 9223372036854775807) : FnP Try.prog 10 [.string b, .int .i64 p] H fun v _ => v = vgV (vg (bs b) p) := by
  have hsz := bs_length b
  refine of_vint_Get (by simp) ?_
  try simp only [go_sem, Nat.reduceEqDiff, Nat.reduceAdd, Bool.false_eq_true, Nat.reduceBEq, ↓reduceIte, p_vint_Get]
  refine ev_if (fun h => ?_) (fun h => ?_)
  · try simp only [go_sem, Nat.reduceEqDiff, Nat.reduceAdd, Bool.false_eq_true, Nat.reduceBEq, ↓reduceIte]
    rw [vg_neg (.inl h)]
    exact ⟨by trivial, by trivial⟩
  · try simp only [go_sem, Nat.reduceEqDiff, Nat.reduceAdd, Bool.false_eq_true, Nat.reduceBEq, ↓reduceIte]
    refine ev_if (fun h' => ?_) (fun h' => ?_)
    · try simp only [go_sem, Nat.reduceEqDiff, Nat.reduceAdd, Bool.false_eq_true, Nat.reduceBEq, ↓reduceIte]
      rw [vg_neg (.inr (by omega))]
      exact ⟨by trivial, by trivial⟩
    · obtain ⟨q, rfl⟩ : ∃ q : Nat, p = q := ⟨p.toNat, by omega⟩
      have hvg := vg_at (l := bs b) (p := q) (by omega)
      try simp only [go_sem, Nat.reduceEqDiff, Nat.reduceAdd, Bool.false_eq_true, Nat.reduceBEq, ↓reduceIte]
      refine ev_loop (fun n s => ∃ (i a : Nat), i ≤ 10 ∧ n = 10 - i ∧ q + i ≤ b.size ∧ a < 128 ^ i ∧ (i ≤ 9 → vgt 0 0 ((bs b).drop q) = vgt i a ((bs b).drop (q + i))) ∧ (i = 10 → False) ∧
        s = ⟨[(18, .v (.int .i64 (i : Int))), (7, .v (.int .u64 (a : Int))), (1, .v (.int .i64 (q : Int))), (0, .v (.string b))], [], H, PH.no⟩) 10 _ ⟨0, 0, by decide, rfl, by omega, by decide, fun _ => rfl, by decide, rfl⟩ ⟨rfl, by simp only [go_sem, Nat.reduceEqDiff, Nat.reduceAdd, Bool.false_eq_true, Nat.reduceBEq, ↓reduceIte, and_self, Option.some.injEq, SV.v.injEq, SV.ptr.injEq, Value.int.injEq, Value.bool.injEq, Value.slice.injEq, true_and, and_true] <;> (repeat' apply And.intro) <;> first | rfl | omega | (simp (disch := omega) only [w64, wu64, wu32, wu8] <;> omega), by simp only [go_sem, Nat.reduceEqDiff, Nat.reduceAdd, Bool.false_eq_true, Nat.reduceBEq, ↓reduceIte, and_self, Option.some.injEq, SV.v.injEq, SV.ptr.injEq, Value.int.injEq, Value.bool.injEq, Value.slice.injEq, true_and, and_true] <;> (repeat' apply And.intro) <;> rfl, rfl, PH.le.refl _⟩ ?_
      rintro n s ⟨i, a, hi, rfl, hqi, ha, hvt, hi10, rfl⟩
      try simp only [go_sem, Nat.reduceEqDiff, Nat.reduceAdd, Bool.false_eq_true, Nat.reduceBEq, ↓reduceIte]
      refine ev_if (fun hlt => ?_) (fun hlt => ?_)
      · have hi9 : i ≤ 9 := by omega
        have hvt := hvt hi9
        try simp only [go_sem, Nat.reduceEqDiff, Nat.reduceAdd, Bool.false_eq_true, Nat.reduceBEq, ↓reduceIte]
        rw [w64 ((b.size : Int) - (q : Int)) (by omega) (by omega)]
        refine ev_if (fun hs => ?_) (fun hs => ?_)
        · try simp only [go_sem, Nat.reduceEqDiff, Nat.reduceAdd, Bool.false_eq_true, Nat.reduceBEq, ↓reduceIte]
          have hnil : (bs b).drop (q + i) = [] := List.drop_eq_nil_of_le (by omega)
          rw [hnil, vgt_nil] at hvt
          rw [hvg, hvt]
          exact ⟨by trivial, by trivial⟩
        · have hq : q + i < (bs b).length := by omega
          obtain ⟨c, r, hcr⟩ : ∃ c r, (bs b).drop (q + i) = c :: r := ⟨_, _, drop_eq _ _ hq⟩
          have hcl : c < 256 := bs_lt b c (List.mem_of_mem_drop (by rw [hcr]; simp))
          have hgc := getD_of hcr
          rw [hcr, vgt_cons] at hvt
          try simp only [go_sem, Nat.reduceEqDiff, Nat.reduceAdd, Bool.false_eq_true, Nat.reduceBEq, ↓reduceIte]
          rw [w64 ((q : Int) + (i : Int)) (by omega) (by omega)]
          refine ev_ix (by omega) (by omega) ?_
          rw [show ((q : Int) + (i : Int)).toNat = q + i by omega, bs_getD, hgc]
          try simp only [go_sem, Nat.reduceEqDiff, Nat.reduceAdd, Bool.false_eq_true, Nat.reduceBEq, ↓reduceIte]
          refine rem_nat (a := c) (m := 128) rfl (by decide) ?_
          try simp only [go_sem, Nat.reduceEqDiff, Nat.reduceAdd, Bool.false_eq_true, Nat.reduceBEq, ↓reduceIte]
          rw [wu64 ((c % 128 : Nat) : Int) (by omega) (by omega), w64 (7 * (i : Int)) (by omega) (by omega)]
          have hpi : 128 ^ i ≤ 9223372036854775808 := p128_le hi9
          have hfin : (i = 9 → c ≤ 1) → ∃ y : Nat, IntKind.u64.wrap ((c % 128 * 2 ^ (7 * i) : Nat) : Int) = (y : Int) ∧ bitsV .or .u64 (a : Int) (y : Int) = ((a + c % 128 * 128 ^ i : Nat) : Int) := by
            intro h9
            have hlt2 : c % 128 * 128 ^ i < 18446744073709551616 := by
              by_cases e9 : i = 9
              · subst e9; have := h9 rfl; rw [p9]; omega
              · have h8 : 128 ^ (i + 1) ≤ 9223372036854775808 := p128_le (by omega)
                rw [Nat.pow_succ] at h8
                have : c % 128 * 128 ^ i ≤ 128 * 128 ^ i := Nat.mul_le_mul_right _ (by omega)
                omega
            refine ⟨c % 128 * 2 ^ (7 * i), wu64n _ rfl (by rw [pow7]; omega), ?_⟩
            rw [or64 (by omega) (by rw [pow7]; omega), or_add (7 * i) a (c % 128) (by rw [pow7]; exact ha), pow7]
          refine shl_nat (n := 7 * i) (y := (c % 128 * 2 ^ (7 * i)) % 18446744073709551616) (by omega) (by show 7 * i ≤ 64; omega) (by rw [wu64_mod]; omega) ?_
          try simp only [go_sem, Nat.reduceEqDiff, Nat.reduceAdd, Bool.false_eq_true, Nat.reduceBEq, ↓reduceIte]
          refine ev_if (fun e9 => ?_) (fun e9 => ?_)
          · have hi9' : i = 9 := by omega
            try simp only [go_sem, Nat.reduceEqDiff, Nat.reduceAdd, Bool.false_eq_true, Nat.reduceBEq, ↓reduceIte]
            refine ev_if (fun c1 => ?_) (fun c1 => ?_)
            · try simp only [go_sem, Nat.reduceEqDiff, Nat.reduceAdd, Bool.false_eq_true, Nat.reduceBEq, ↓reduceIte]
              rw [if_pos (by omega)] at hvt
              rw [hvg, hvt]
              exact ⟨by trivial, by trivial⟩
            · try simp only [go_sem, Nat.reduceEqDiff, Nat.reduceAdd, Bool.false_eq_true, Nat.reduceBEq, ↓reduceIte]
              refine ev_if (fun c0 => ?_) (fun c0 => ?_)
              · try simp only [go_sem, Nat.reduceEqDiff, Nat.reduceAdd, Bool.false_eq_true, Nat.reduceBEq, ↓reduceIte]
                refine ev_pos (by omega) ?_
                try simp only [go_sem, Nat.reduceEqDiff, Nat.reduceAdd, Bool.false_eq_true, Nat.reduceBEq, ↓reduceIte]
                rw [if_pos (by omega)] at hvt
                rw [hvg, hvt]
                exact ⟨by trivial, by trivial⟩
              · try simp only [go_sem, Nat.reduceEqDiff, Nat.reduceAdd, Bool.false_eq_true, Nat.reduceBEq, ↓reduceIte]
                refine ev_pos (by omega) ?_
                rw [if_neg (by omega), if_pos (by omega)] at hvt
                obtain ⟨y, hy1, hy2⟩ := hfin (fun _ => by omega)
                have hyy : (c % 128 * 2 ^ (7 * i)) % 18446744073709551616 = y := by rw [wu64_mod] at hy1; omega
                try simp only [go_sem, Nat.reduceEqDiff, Nat.reduceAdd, Bool.false_eq_true, Nat.reduceBEq, ↓reduceIte]
                rw [hyy, hy2, w64 ((q : Int) + (i : Int)) (by omega) (by omega), w64 ((q : Int) + (i : Int) + 1) (by omega) (by omega), hvg, hvt]
                refine ⟨by trivial, ?_⟩
                show _ = vgV (a + c * 128 ^ i, q + (i + 1), 0)
                unfold vgV
                rw [show c % 128 = c by omega, show (q : Int) + (i : Int) + 1 = ((q + (i + 1) : Nat) : Int) by omega]
          · have hi9' : i ≤ 8 := by omega
            try simp only [go_sem, Nat.reduceEqDiff, Nat.reduceAdd, Bool.false_eq_true, Nat.reduceBEq, ↓reduceIte]
            refine ev_if (fun c0 => ?_) (fun c0 => ?_)
            · try simp only [go_sem, Nat.reduceEqDiff, Nat.reduceAdd, Bool.false_eq_true, Nat.reduceBEq, ↓reduceIte]
              refine ev_if (fun i0 => ?_) (fun i0 => ?_)
              · try simp only [go_sem, Nat.reduceEqDiff, Nat.reduceAdd, Bool.false_eq_true, Nat.reduceBEq, ↓reduceIte]
                rw [if_pos (by omega)] at hvt
                rw [hvg, hvt]
                exact ⟨by trivial, by trivial⟩
              · try simp only [go_sem, Nat.reduceEqDiff, Nat.reduceAdd, Bool.false_eq_true, Nat.reduceBEq, ↓reduceIte]
                rw [if_neg (by omega)] at hvt
                obtain ⟨y, hy1, hy2⟩ := hfin (fun _ => by omega)
                have hyy : (c % 128 * 2 ^ (7 * i)) % 18446744073709551616 = y := by rw [wu64_mod] at hy1; omega
                refine ev_if (fun c8 => ?_) (fun c8 => ?_)
                · rw [if_pos (by omega)] at hvt
                  try simp only [go_sem, Nat.reduceEqDiff, Nat.reduceAdd, Bool.false_eq_true, Nat.reduceBEq, ↓reduceIte]
                  rw [hyy, hy2, w64 ((q : Int) + (i : Int)) (by omega) (by omega), w64 ((q : Int) + (i : Int) + 1) (by omega) (by omega), hvg, hvt]
                  refine ⟨by trivial, ?_⟩
                  show _ = vgV (a + c * 128 ^ i, q + (i + 1), 0)
                  unfold vgV
                  rw [show c % 128 = c by omega, show (q : Int) + (i : Int) + 1 = ((q + (i + 1) : Nat) : Int) by omega]
                · rw [if_neg (by omega)] at hvt
                  try simp only [go_sem, Nat.reduceEqDiff, Nat.reduceAdd, Bool.false_eq_true, Nat.reduceBEq, ↓reduceIte]
                  rw [hyy, hy2, w64 ((i : Int) + 1) (by omega) (by omega), show (i : Int) + 1 = ((i + 1 : Nat) : Int) by omega]
                  refine k_next (10 - (i + 1)) _ (by omega) ⟨i + 1, _, by omega, rfl, by omega, acc_lt ha, fun _ => ?_, by omega, rfl⟩ ⟨rfl, by simp only [go_sem, Nat.reduceEqDiff, Nat.reduceAdd, Bool.false_eq_true, Nat.reduceBEq, ↓reduceIte, and_self, Option.some.injEq, SV.v.injEq, SV.ptr.injEq, Value.int.injEq, Value.bool.injEq, Value.slice.injEq, true_and, and_true] <;> (repeat' apply And.intro) <;> first | rfl | omega | (simp (disch := omega) only [w64, wu64, wu32, wu8] <;> omega), by simp only [go_sem, Nat.reduceEqDiff, Nat.reduceAdd, Bool.false_eq_true, Nat.reduceBEq, ↓reduceIte, and_self, Option.some.injEq, SV.v.injEq, SV.ptr.injEq, Value.int.injEq, Value.bool.injEq, Value.slice.injEq, true_and, and_true] <;> (repeat' apply And.intro) <;> rfl, rfl, PH.le.refl _⟩
                  rw [hvt, show q + (i + 1) = q + i + 1 by omega, drop_succ_of hcr]
            · try simp only [go_sem, Nat.reduceEqDiff, Nat.reduceAdd, Bool.false_eq_true, Nat.reduceBEq, ↓reduceIte]
              rw [if_neg (by omega)] at hvt
              obtain ⟨y, hy1, hy2⟩ := hfin (fun _ => by omega)
              have hyy : (c % 128 * 2 ^ (7 * i)) % 18446744073709551616 = y := by rw [wu64_mod] at hy1; omega
              refine ev_if (fun c8 => ?_) (fun c8 => ?_)
              · rw [if_pos (by omega)] at hvt
                try simp only [go_sem, Nat.reduceEqDiff, Nat.reduceAdd, Bool.false_eq_true, Nat.reduceBEq, ↓reduceIte]
                rw [hyy, hy2, w64 ((q : Int) + (i : Int)) (by omega) (by omega), w64 ((q : Int) + (i : Int) + 1) (by omega) (by omega), hvg, hvt]
                refine ⟨by trivial, ?_⟩
                show _ = vgV (a + c * 128 ^ i, q + (i + 1), 0)
                unfold vgV
                rw [show c % 128 = c by omega, show (q : Int) + (i : Int) + 1 = ((q + (i + 1) : Nat) : Int) by omega]
              · rw [if_neg (by omega)] at hvt
                try simp only [go_sem, Nat.reduceEqDiff, Nat.reduceAdd, Bool.false_eq_true, Nat.reduceBEq, ↓reduceIte]
                rw [hyy, hy2, w64 ((i : Int) + 1) (by omega) (by omega), show (i : Int) + 1 = ((i + 1 : Nat) : Int) by omega]
                refine k_next (10 - (i + 1)) _ (by omega) ⟨i + 1, _, by omega, rfl, by omega, acc_lt ha, fun _ => ?_, by omega, rfl⟩ ⟨rfl, by simp only [go_sem, Nat.reduceEqDiff, Nat.reduceAdd, Bool.false_eq_true, Nat.reduceBEq, ↓reduceIte, and_self, Option.some.injEq, SV.v.injEq, SV.ptr.injEq, Value.int.injEq, Value.bool.injEq, Value.slice.injEq, true_and, and_true] <;> (repeat' apply And.intro) <;> first | rfl | omega | (simp (disch := omega) only [w64, wu64, wu32, wu8] <;> omega), by simp only [go_sem, Nat.reduceEqDiff, Nat.reduceAdd, Bool.false_eq_true, Nat.reduceBEq, ↓reduceIte, and_self, Option.some.injEq, SV.v.injEq, SV.ptr.injEq, Value.int.injEq, Value.bool.injEq, Value.slice.injEq, true_and, and_true] <;> (repeat' apply And.intro) <;> rfl, rfl, PH.le.refl _⟩
                rw [hvt, show q + (i + 1) = q + i + 1 by omega, drop_succ_of hcr]
      · exact (hi10 (by omega)).elim

end Go.Proofs.Ytalnnaoabhimdaa.X
set_option linter.unusedVariables false
set_option linter.unusedSimpArgs false
namespace Go.Proofs.Ytalnnaoabhimdaa.X
open Go Go.RowKit Go.Proofs

set_option maxHeartbeats 2000000 in
theorem vgetR_ok (H : PH) (b : ByteArray) (hb : b.size ≤ 1000000000) (p : Int) (h1 : -9223372036854775808 ≤ p) (h2 : p ≤ 9223372036854775807) : FnP Try.prog 38 [.string b, .int .i64 p] H fun v _ => v = vgV (vg (bs b) p) := by
  have hsz := bs_length b
  refine of_cinctureref2_Get (by simp) ?_
  try simp only [go_sem, Nat.reduceEqDiff, Nat.reduceAdd, Bool.false_eq_true, Nat.reduceBEq, ↓reduceIte, p_cinctureref2_Get]
  refine ev_if (fun h => ?_) (fun h => ?_)
  · try simp only [go_sem, Nat.reduceEqDiff, Nat.reduceAdd, Bool.false_eq_true, Nat.reduceBEq, ↓reduceIte]
    rw [vg_neg (.inl h)]
    exact ⟨by trivial, by trivial⟩
  · try simp only [go_sem, Nat.reduceEqDiff, Nat.reduceAdd, Bool.false_eq_true, Nat.reduceBEq, ↓reduceIte]
    refine ev_if (fun h' => ?_) (fun h' => ?_)
    · try simp only [go_sem, Nat.reduceEqDiff, Nat.reduceAdd, Bool.false_eq_true, Nat.reduceBEq, ↓reduceIte]
      rw [vg_neg (.inr (by omega))]
      exact ⟨by trivial, by trivial⟩
    · obtain ⟨q, rfl⟩ : ∃ q : Nat, p = q := ⟨p.toNat, by omega⟩
      have hvg := vg_at (l := bs b) (p := q) (by omega)
      try simp only [go_sem, Nat.reduceEqDiff, Nat.reduceAdd, Bool.false_eq_true, Nat.reduceBEq, ↓reduceIte]
      refine ev_loop (fun n s => ∃ (i a : Nat), i ≤ 9 ∧ n = 10 - i ∧ q + i ≤ b.size ∧ a < 128 ^ i ∧ vgt 0 0 ((bs b).drop q) = vgt i a ((bs b).drop (q + i)) ∧
        s = ⟨[(8, .v (.int .i64 (i : Int))), (7, .v (.int .u64 (a : Int))), (1, .v (.int .i64 (q : Int))), (0, .v (.string b))], [], H, PH.no⟩) 10 _ ⟨0, 0, by decide, rfl, by omega, by decide, rfl, rfl⟩ ⟨rfl, by simp only [go_sem, Nat.reduceEqDiff, Nat.reduceAdd, Bool.false_eq_true, Nat.reduceBEq, ↓reduceIte, and_self, Option.some.injEq, SV.v.injEq, SV.ptr.injEq, Value.int.injEq, Value.bool.injEq, Value.slice.injEq, true_and, and_true] <;> (repeat' apply And.intro) <;> first | rfl | omega | (simp (disch := omega) only [w64, wu64, wu32, wu8] <;> omega), by simp only [go_sem, Nat.reduceEqDiff, Nat.reduceAdd, Bool.false_eq_true, Nat.reduceBEq, ↓reduceIte, and_self, Option.some.injEq, SV.v.injEq, SV.ptr.injEq, Value.int.injEq, Value.bool.injEq, Value.slice.injEq, true_and, and_true] <;> (repeat' apply And.intro) <;> rfl, rfl, PH.le.refl _⟩ ?_
      rintro n s ⟨i, a, hi9, rfl, hqi, ha, hvt, rfl⟩
      try simp only [go_sem, Nat.reduceEqDiff, Nat.reduceAdd, Bool.false_eq_true, Nat.reduceBEq, ↓reduceIte]
      rw [w64 ((q : Int) + (i : Int)) (by omega) (by omega)]
      refine ev_if (fun hs => ?_) (fun hs => ?_)
      · try simp only [go_sem, Nat.reduceEqDiff, Nat.reduceAdd, Bool.false_eq_true, Nat.reduceBEq, ↓reduceIte]
        have hnil : (bs b).drop (q + i) = [] := List.drop_eq_nil_of_le (by omega)
        rw [hnil, vgt_nil] at hvt
        rw [hvg, hvt]
        exact ⟨by trivial, by trivial⟩
      · have hq : q + i < (bs b).length := by omega
        obtain ⟨c, r, hcr⟩ : ∃ c r, (bs b).drop (q + i) = c :: r := ⟨_, _, drop_eq _ _ hq⟩
        have hcl : c < 256 := bs_lt b c (List.mem_of_mem_drop (by rw [hcr]; simp))
        have hgc := getD_of hcr
        rw [hcr, vgt_cons] at hvt
        try simp only [go_sem, Nat.reduceEqDiff, Nat.reduceAdd, Bool.false_eq_true, Nat.reduceBEq, ↓reduceIte]
        rw [w64 ((q : Int) + (i : Int)) (by omega) (by omega)]
        refine ev_ix (by omega) (by omega) ?_
        rw [show ((q : Int) + (i : Int)).toNat = q + i by omega, bs_getD, hgc]
        try simp only [go_sem, Nat.reduceEqDiff, Nat.reduceAdd, Bool.false_eq_true, Nat.reduceBEq, ↓reduceIte]
        have hpi : 128 ^ i ≤ 9223372036854775808 := p128_le hi9
        refine ev_if (fun e9 => ?_) (fun e9 => ?_)
        · try simp only [go_sem, Nat.reduceEqDiff, Nat.reduceAdd, Bool.false_eq_true, Nat.reduceBEq, ↓reduceIte]
          refine ev_if (fun c1 => ?_) (fun c1 => ?_)
          · skip
            try simp only [go_sem, Nat.reduceEqDiff, Nat.reduceAdd, Bool.false_eq_true, Nat.reduceBEq, ↓reduceIte]
            rw [if_pos (by omega)] at hvt
            rw [hvg, hvt]
            exact ⟨by trivial, by trivial⟩
          · try simp only [go_sem, Nat.reduceEqDiff, Nat.reduceAdd, Bool.false_eq_true, Nat.reduceBEq, ↓reduceIte]
            refine ev_if (fun i0 => ?_) (fun i0 => ?_)
            · try simp only [go_sem, Nat.reduceEqDiff, Nat.reduceAdd, Bool.false_eq_true, Nat.reduceBEq, ↓reduceIte]
              refine ev_if (fun c0 => ?_) (fun c0 => ?_)
              · skip
                try simp only [go_sem, Nat.reduceEqDiff, Nat.reduceAdd, Bool.false_eq_true, Nat.reduceBEq, ↓reduceIte]
                rw [if_pos (by omega)] at hvt
                rw [hvg, hvt]
                exact ⟨by trivial, by trivial⟩
              · skip
                rw [if_neg (by omega)] at hvt
                have hlt2 : c % 128 * 128 ^ i < 18446744073709551616 := by
                  by_cases e9 : i = 9
                  · subst e9; rw [p9]; omega
                  · have h8 : 128 ^ (i + 1) ≤ 9223372036854775808 := p128_le (by omega)
                    rw [Nat.pow_succ] at h8
                    have : c % 128 * 128 ^ i ≤ 128 * 128 ^ i := Nat.mul_le_mul_right _ (by omega)
                    omega
                have hor : bitsV .or .u64 (a : Int) ((c % 128 * 2 ^ (7 * i) : Nat) : Int) = ((a + c % 128 * 128 ^ i : Nat) : Int) := by
                  rw [or64 (by omega) (by rw [pow7]; omega), or_add (7 * i) a (c % 128) (by rw [pow7]; exact ha), pow7]
                try simp only [go_sem, Nat.reduceEqDiff, Nat.reduceAdd, Bool.false_eq_true, Nat.reduceBEq, ↓reduceIte]
                rw [show bitsV .and .u8 (c : Int) 127 = ((c % 128 : Nat) : Int) by rw [show (127 : Int) = ((127 : Nat) : Int) from rfl, and8 (by omega) (by decide), and127], wu64 ((c % 128 : Nat) : Int) (by omega) (by omega), w64 (7 * (i : Int)) (by omega) (by omega), wu64 (7 * (i : Int)) (by omega) (by omega)]
                refine shl_nat (n := 7 * i) (y := c % 128 * 2 ^ (7 * i)) (by omega) (by show 7 * i ≤ 64; omega) (wu64n _ rfl (by rw [pow7]; omega)) ?_
                try simp only [go_sem, Nat.reduceEqDiff, Nat.reduceAdd, Bool.false_eq_true, Nat.reduceBEq, ↓reduceIte]
                refine ev_if (fun c8 => ?_) (fun c8 => ?_)
                · rw [if_pos (by omega)] at hvt
                  try simp only [go_sem, Nat.reduceEqDiff, Nat.reduceAdd, Bool.false_eq_true, Nat.reduceBEq, ↓reduceIte]
                  rw [hor, w64 ((q : Int) + (i : Int)) (by omega) (by omega), w64 ((q : Int) + (i : Int) + 1) (by omega) (by omega), hvg, hvt]
                  refine ⟨by trivial, ?_⟩
                  show _ = vgV (a + c * 128 ^ i, q + (i + 1), 0)
                  unfold vgV
                  rw [show c % 128 = c by omega, show (q : Int) + (i : Int) + 1 = ((q + (i + 1) : Nat) : Int) by omega]
                · rw [if_neg (by omega)] at hvt
                  have hi8 : i ≤ 8 := by omega
                  try simp only [go_sem, Nat.reduceEqDiff, Nat.reduceAdd, Bool.false_eq_true, Nat.reduceBEq, ↓reduceIte]
                  rw [hor, w64 ((i : Int) + 1) (by omega) (by omega), show (i : Int) + 1 = ((i + 1 : Nat) : Int) by omega]
                  refine k_next (10 - (i + 1)) _ (by omega) ⟨i + 1, _, by omega, rfl, by omega, acc_lt ha, ?_, rfl⟩ ⟨rfl, by simp only [go_sem, Nat.reduceEqDiff, Nat.reduceAdd, Bool.false_eq_true, Nat.reduceBEq, ↓reduceIte, and_self, Option.some.injEq, SV.v.injEq, SV.ptr.injEq, Value.int.injEq, Value.bool.injEq, Value.slice.injEq, true_and, and_true] <;> (repeat' apply And.intro) <;> first | rfl | omega | (simp (disch := omega) only [w64, wu64, wu32, wu8] <;> omega), by simp only [go_sem, Nat.reduceEqDiff, Nat.reduceAdd, Bool.false_eq_true, Nat.reduceBEq, ↓reduceIte, and_self, Option.some.injEq, SV.v.injEq, SV.ptr.injEq, Value.int.injEq, Value.bool.injEq, Value.slice.injEq, true_and, and_true] <;> (repeat' apply And.intro) <;> rfl, rfl, PH.le.refl _⟩
                  rw [hvt, show q + (i + 1) = q + i + 1 by omega, drop_succ_of hcr]
            · exact absurd (show (0 : Int) < i by omega) i0
        · try simp only [go_sem, Nat.reduceEqDiff, Nat.reduceAdd, Bool.false_eq_true, Nat.reduceBEq, ↓reduceIte]
          refine ev_if (fun i0 => ?_) (fun i0 => ?_)
          · try simp only [go_sem, Nat.reduceEqDiff, Nat.reduceAdd, Bool.false_eq_true, Nat.reduceBEq, ↓reduceIte]
            refine ev_if (fun c0 => ?_) (fun c0 => ?_)
            · skip
              try simp only [go_sem, Nat.reduceEqDiff, Nat.reduceAdd, Bool.false_eq_true, Nat.reduceBEq, ↓reduceIte]
              rw [if_pos (by omega)] at hvt
              rw [hvg, hvt]
              exact ⟨by trivial, by trivial⟩
            · skip
              rw [if_neg (by omega)] at hvt
              have hlt2 : c % 128 * 128 ^ i < 18446744073709551616 := by
                by_cases e9 : i = 9
                · subst e9; rw [p9]; omega
                · have h8 : 128 ^ (i + 1) ≤ 9223372036854775808 := p128_le (by omega)
                  rw [Nat.pow_succ] at h8
                  have : c % 128 * 128 ^ i ≤ 128 * 128 ^ i := Nat.mul_le_mul_right _ (by omega)
                  omega
              have hor : bitsV .or .u64 (a : Int) ((c % 128 * 2 ^ (7 * i) : Nat) : Int) = ((a + c % 128 * 128 ^ i : Nat) : Int) := by
                rw [or64 (by omega) (by rw [pow7]; omega), or_add (7 * i) a (c % 128) (by rw [pow7]; exact ha), pow7]
              try simp only [go_sem, Nat.reduceEqDiff, Nat.reduceAdd, Bool.false_eq_true, Nat.reduceBEq, ↓reduceIte]
              rw [show bitsV .and .u8 (c : Int) 127 = ((c % 128 : Nat) : Int) by rw [show (127 : Int) = ((127 : Nat) : Int) from rfl, and8 (by omega) (by decide), and127], wu64 ((c % 128 : Nat) : Int) (by omega) (by omega), w64 (7 * (i : Int)) (by omega) (by omega), wu64 (7 * (i : Int)) (by omega) (by omega)]
              refine shl_nat (n := 7 * i) (y := c % 128 * 2 ^ (7 * i)) (by omega) (by show 7 * i ≤ 64; omega) (wu64n _ rfl (by rw [pow7]; omega)) ?_
              try simp only [go_sem, Nat.reduceEqDiff, Nat.reduceAdd, Bool.false_eq_true, Nat.reduceBEq, ↓reduceIte]
              refine ev_if (fun c8 => ?_) (fun c8 => ?_)
              · rw [if_pos (by omega)] at hvt
                try simp only [go_sem, Nat.reduceEqDiff, Nat.reduceAdd, Bool.false_eq_true, Nat.reduceBEq, ↓reduceIte]
                rw [hor, w64 ((q : Int) + (i : Int)) (by omega) (by omega), w64 ((q : Int) + (i : Int) + 1) (by omega) (by omega), hvg, hvt]
                refine ⟨by trivial, ?_⟩
                show _ = vgV (a + c * 128 ^ i, q + (i + 1), 0)
                unfold vgV
                rw [show c % 128 = c by omega, show (q : Int) + (i : Int) + 1 = ((q + (i + 1) : Nat) : Int) by omega]
              · rw [if_neg (by omega)] at hvt
                have hi8 : i ≤ 8 := by omega
                try simp only [go_sem, Nat.reduceEqDiff, Nat.reduceAdd, Bool.false_eq_true, Nat.reduceBEq, ↓reduceIte]
                rw [hor, w64 ((i : Int) + 1) (by omega) (by omega), show (i : Int) + 1 = ((i + 1 : Nat) : Int) by omega]
                refine k_next (10 - (i + 1)) _ (by omega) ⟨i + 1, _, by omega, rfl, by omega, acc_lt ha, ?_, rfl⟩ ⟨rfl, by simp only [go_sem, Nat.reduceEqDiff, Nat.reduceAdd, Bool.false_eq_true, Nat.reduceBEq, ↓reduceIte, and_self, Option.some.injEq, SV.v.injEq, SV.ptr.injEq, Value.int.injEq, Value.bool.injEq, Value.slice.injEq, true_and, and_true] <;> (repeat' apply And.intro) <;> first | rfl | omega | (simp (disch := omega) only [w64, wu64, wu32, wu8] <;> omega), by simp only [go_sem, Nat.reduceEqDiff, Nat.reduceAdd, Bool.false_eq_true, Nat.reduceBEq, ↓reduceIte, and_self, Option.some.injEq, SV.v.injEq, SV.ptr.injEq, Value.int.injEq, Value.bool.injEq, Value.slice.injEq, true_and, and_true] <;> (repeat' apply And.intro) <;> rfl, rfl, PH.le.refl _⟩
                rw [hvt, show q + (i + 1) = q + i + 1 by omega, drop_succ_of hcr]
          · skip
            rw [if_neg (by omega)] at hvt
            have hlt2 : c % 128 * 128 ^ i < 18446744073709551616 := by
              by_cases e9 : i = 9
              · subst e9; rw [p9]; omega
              · have h8 : 128 ^ (i + 1) ≤ 9223372036854775808 := p128_le (by omega)
                rw [Nat.pow_succ] at h8
                have : c % 128 * 128 ^ i ≤ 128 * 128 ^ i := Nat.mul_le_mul_right _ (by omega)
                omega
            have hor : bitsV .or .u64 (a : Int) ((c % 128 * 2 ^ (7 * i) : Nat) : Int) = ((a + c % 128 * 128 ^ i : Nat) : Int) := by
              rw [or64 (by omega) (by rw [pow7]; omega), or_add (7 * i) a (c % 128) (by rw [pow7]; exact ha), pow7]
            try simp only [go_sem, Nat.reduceEqDiff, Nat.reduceAdd, Bool.false_eq_true, Nat.reduceBEq, ↓reduceIte]
            rw [show bitsV .and .u8 (c : Int) 127 = ((c % 128 : Nat) : Int) by rw [show (127 : Int) = ((127 : Nat) : Int) from rfl, and8 (by omega) (by decide), and127], wu64 ((c % 128 : Nat) : Int) (by omega) (by omega), w64 (7 * (i : Int)) (by omega) (by omega), wu64 (7 * (i : Int)) (by omega) (by omega)]
            refine shl_nat (n := 7 * i) (y := c % 128 * 2 ^ (7 * i)) (by omega) (by show 7 * i ≤ 64; omega) (wu64n _ rfl (by rw [pow7]; omega)) ?_
            try simp only [go_sem, Nat.reduceEqDiff, Nat.reduceAdd, Bool.false_eq_true, Nat.reduceBEq, ↓reduceIte]
            refine ev_if (fun c8 => ?_) (fun c8 => ?_)
            · rw [if_pos (by omega)] at hvt
              try simp only [go_sem, Nat.reduceEqDiff, Nat.reduceAdd, Bool.false_eq_true, Nat.reduceBEq, ↓reduceIte]
              rw [hor, w64 ((q : Int) + (i : Int)) (by omega) (by omega), w64 ((q : Int) + (i : Int) + 1) (by omega) (by omega), hvg, hvt]
              refine ⟨by trivial, ?_⟩
              show _ = vgV (a + c * 128 ^ i, q + (i + 1), 0)
              unfold vgV
              rw [show c % 128 = c by omega, show (q : Int) + (i : Int) + 1 = ((q + (i + 1) : Nat) : Int) by omega]
            · rw [if_neg (by omega)] at hvt
              have hi8 : i ≤ 8 := by omega
              try simp only [go_sem, Nat.reduceEqDiff, Nat.reduceAdd, Bool.false_eq_true, Nat.reduceBEq, ↓reduceIte]
              rw [hor, w64 ((i : Int) + 1) (by omega) (by omega), show (i : Int) + 1 = ((i + 1 : Nat) : Int) by omega]
              refine k_next (10 - (i + 1)) _ (by omega) ⟨i + 1, _, by omega, rfl, by omega, acc_lt ha, ?_, rfl⟩ ⟨rfl, by simp only [go_sem, Nat.reduceEqDiff, Nat.reduceAdd, Bool.false_eq_true, Nat.reduceBEq, ↓reduceIte, and_self, Option.some.injEq, SV.v.injEq, SV.ptr.injEq, Value.int.injEq, Value.bool.injEq, Value.slice.injEq, true_and, and_true] <;> (repeat' apply And.intro) <;> first | rfl | omega | (simp (disch := omega) only [w64, wu64, wu32, wu8] <;> omega), by simp only [go_sem, Nat.reduceEqDiff, Nat.reduceAdd, Bool.false_eq_true, Nat.reduceBEq, ↓reduceIte, and_self, Option.some.injEq, SV.v.injEq, SV.ptr.injEq, Value.int.injEq, Value.bool.injEq, Value.slice.injEq, true_and, and_true] <;> (repeat' apply And.intro) <;> rfl, rfl, PH.le.refl _⟩
              rw [hvt, show q + (i + 1) = q + i + 1 by omega, drop_succ_of hcr]

theorem ofB_append (a b : List Nat) : ofB a ++ ofB b = ofB (a ++ b) := by
  refine ByteArray.ext ?_
  simp [ofB, ByteArray.data_append]

theorem vputInt_ok (H : PH) (v : Value) (z : Int) (hV : IntV H v z) (hb : bi z ≤ 1000000) : FnP Try.prog 18 [v] H fun r _ => r = .string (ofB (vpi z)) := by
  obtain ⟨A, l, c, b, rfl⟩ := hV.form
  have hl : (btx z.natAbs).length = (bi z + 7) / 8 := btx_length _
  refine of_vint_PutInt (by simp) ?_
  try simp only [go_sem, Nat.reduceEqDiff, Nat.reduceAdd, Bool.false_eq_true, Nat.reduceBEq, ↓reduceIte, p_vint_PutInt]
  first | refine ev_call (wabs_ok _ _ _ hV) ?_ | refine ev_callP (wabs_ok _ _ _ hV) ?_
  rintro v_1 H_1 le_1 g1 _
  replace hV := hV.le le_1
  try simp only [go_sem, Nat.reduceEqDiff, Nat.reduceAdd, Bool.false_eq_true, Nat.reduceBEq, ↓reduceIte]
  first | refine ev_call (bytes_ok _ _ _ g1 (show bl z.natAbs ≤ _ by unfold bi at hb; omega)) ?_ | refine ev_callP (bytes_ok _ _ _ g1 (show bl z.natAbs ≤ _ by unfold bi at hb; omega)) ?_
  rintro v_2 H_2 le_2 rfl _
  replace hV := hV.le le_2
  try simp only [go_sem, Nat.reduceEqDiff, Nat.reduceAdd, Bool.false_eq_true, Nat.reduceBEq, ↓reduceIte]
  rw [ofB_size, wu64 ((btx z.natAbs).length : Int) (by omega) (by omega), wu64 (2 * ((btx z.natAbs).length : Int)) (by omega) (by omega)]
  first | refine ev_call (wsign_ok _ _ _ hV (by omega)) ?_ | refine ev_callP (wsign_ok _ _ _ hV (by omega)) ?_
  rintro v_3 H_3 le_3 rfl _
  try simp only [go_sem, Nat.reduceEqDiff, Nat.reduceAdd, Bool.false_eq_true, Nat.reduceBEq, ↓reduceIte]
  by_cases hz : z < 0
  · refine ev_pos (by unfold sgnI; rw [if_pos hz]; decide) ?_
    try simp only [go_sem, Nat.reduceEqDiff, Nat.reduceAdd, Bool.false_eq_true, Nat.reduceBEq, ↓reduceIte]
    rw [wu64 (2 * ((btx z.natAbs).length : Int) + 1) (by omega) (by omega)]
    obtain ⟨V, hV2⟩ : ∃ V, V = 2 * (btx z.natAbs).length + 1 := ⟨_, rfl⟩
    have hval : 2 * ((btx z.natAbs).length : Int) + 1 = (V : Int) := by omega
    try simp only [go_sem, Nat.reduceEqDiff, Nat.reduceAdd, Bool.false_eq_true, Nat.reduceBEq, ↓reduceIte]
    rw [hval]
    first | refine ev_call (vput_ok _ _ (by omega)) ?_ | refine ev_callP (vput_ok _ _ (by omega)) ?_
    rintro v_4 H_4 le_4 rfl _
    try simp only [go_sem, Nat.reduceEqDiff, Nat.reduceAdd, Bool.false_eq_true, Nat.reduceBEq, ↓reduceIte]
    refine ev_cat (by rw [ofB_size, ofB_size]; have := vb_len10 (v := V) (by omega); omega) ?_
    try simp only [go_sem, Nat.reduceEqDiff, Nat.reduceAdd, Bool.false_eq_true, Nat.reduceBEq, ↓reduceIte]
    rw [ofB_append]
    unfold vpi
    rw [if_pos hz, ← hV2]
    exact ⟨by trivial, by trivial⟩
  · refine ev_neg (by unfold sgnI; rw [if_neg hz]; split <;> decide) ?_
    obtain ⟨V, hV2⟩ : ∃ V, V = 2 * (btx z.natAbs).length := ⟨_, rfl⟩
    have hval : 2 * ((btx z.natAbs).length : Int) = (V : Int) := by omega
    try simp only [go_sem, Nat.reduceEqDiff, Nat.reduceAdd, Bool.false_eq_true, Nat.reduceBEq, ↓reduceIte]
    rw [hval]
    first | refine ev_call (vput_ok _ _ (by omega)) ?_ | refine ev_callP (vput_ok _ _ (by omega)) ?_
    rintro v_4 H_4 le_4 rfl _
    try simp only [go_sem, Nat.reduceEqDiff, Nat.reduceAdd, Bool.false_eq_true, Nat.reduceBEq, ↓reduceIte]
    refine ev_cat (by rw [ofB_size, ofB_size]; have := vb_len10 (v := V) (by omega); omega) ?_
    try simp only [go_sem, Nat.reduceEqDiff, Nat.reduceAdd, Bool.false_eq_true, Nat.reduceBEq, ↓reduceIte]
    rw [ofB_append]
    unfold vpi
    rw [if_neg hz, Nat.add_zero, ← hV2]
    exact ⟨by trivial, by trivial⟩

theorem vputIntR_ok (H : PH) (v : Value) (z : Int) (hV : RInt H v z) (hb : bi z ≤ 1000000) : FnP Try.prog 19 [v] H fun r _ => r = .string (ofB (vpi z)) := by
  obtain ⟨A, l, c, b, rfl⟩ := hV.form
  obtain ⟨g1, _⟩ := hV.abs
  have hl : (btx z.natAbs).length = (bi z + 7) / 8 := btx_length _
  refine of_cinctureref2_PutInt (by simp) ?_
  try simp only [go_sem, Nat.reduceEqDiff, Nat.reduceAdd, Bool.false_eq_true, Nat.reduceBEq, ↓reduceIte, p_cinctureref2_PutInt]
  first | refine ev_call (rbytes_ok _ _ _ g1 (show bl z.natAbs ≤ _ by unfold bi at hb; omega)) ?_ | refine ev_callP (rbytes_ok _ _ _ g1 (show bl z.natAbs ≤ _ by unfold bi at hb; omega)) ?_
  rintro v_5 H_5 le_5 rfl _
  replace hV := hV.le le_5
  try simp only [go_sem, Nat.reduceEqDiff, Nat.reduceAdd, Bool.false_eq_true, Nat.reduceBEq, ↓reduceIte]
  rw [ofB_size, w64 (2 * ((btx z.natAbs).length : Int)) (by omega) (by omega), wu64 (2 * ((btx z.natAbs).length : Int)) (by omega) (by omega)]
  first | refine ev_call (rsign_ok _ _ _ hV) ?_ | refine ev_callP (rsign_ok _ _ _ hV) ?_
  rintro v_6 H_6 le_6 rfl _
  try simp only [go_sem, Nat.reduceEqDiff, Nat.reduceAdd, Bool.false_eq_true, Nat.reduceBEq, ↓reduceIte]
  by_cases hz : z < 0
  · refine ev_pos (by unfold sgnI; rw [if_pos hz]; decide) ?_
    try simp only [go_sem, Nat.reduceEqDiff, Nat.reduceAdd, Bool.false_eq_true, Nat.reduceBEq, ↓reduceIte]
    rw [wu64 (2 * ((btx z.natAbs).length : Int) + 1) (by omega) (by omega)]
    obtain ⟨V, hV2⟩ : ∃ V, V = 2 * (btx z.natAbs).length + 1 := ⟨_, rfl⟩
    have hval : 2 * ((btx z.natAbs).length : Int) + 1 = (V : Int) := by omega
    try simp only [go_sem, Nat.reduceEqDiff, Nat.reduceAdd, Bool.false_eq_true, Nat.reduceBEq, ↓reduceIte]
    rw [hval]
    first | refine ev_call (vputR_ok _ _ (by omega)) ?_ | refine ev_callP (vputR_ok _ _ (by omega)) ?_
    rintro v_7 H_7 le_7 rfl _
    try simp only [go_sem, Nat.reduceEqDiff, Nat.reduceAdd, Bool.false_eq_true, Nat.reduceBEq, ↓reduceIte]
    refine ev_cat (by rw [ofB_size, ofB_size]; have := vb_len10 (v := V) (by omega); omega) ?_
    try simp only [go_sem, Nat.reduceEqDiff, Nat.reduceAdd, Bool.false_eq_true, Nat.reduceBEq, ↓reduceIte]
    rw [ofB_append]
    unfold vpi
    rw [if_pos hz, ← hV2]
    exact ⟨by trivial, by trivial⟩
  · refine ev_neg (by unfold sgnI; rw [if_neg hz]; split <;> decide) ?_
    obtain ⟨V, hV2⟩ : ∃ V, V = 2 * (btx z.natAbs).length := ⟨_, rfl⟩
    have hval : 2 * ((btx z.natAbs).length : Int) = (V : Int) := by omega
    try simp only [go_sem, Nat.reduceEqDiff, Nat.reduceAdd, Bool.false_eq_true, Nat.reduceBEq, ↓reduceIte]
    rw [hval]
    first | refine ev_call (vputR_ok _ _ (by omega)) ?_ | refine ev_callP (vputR_ok _ _ (by omega)) ?_
    rintro v_7 H_7 le_7 rfl _
    try simp only [go_sem, Nat.reduceEqDiff, Nat.reduceAdd, Bool.false_eq_true, Nat.reduceBEq, ↓reduceIte]
    refine ev_cat (by rw [ofB_size, ofB_size]; have := vb_len10 (v := V) (by omega); omega) ?_
    try simp only [go_sem, Nat.reduceEqDiff, Nat.reduceAdd, Bool.false_eq_true, Nat.reduceBEq, ↓reduceIte]
    rw [ofB_append]
    unfold vpi
    rw [if_neg hz, Nat.add_zero, ← hV2]
    exact ⟨by trivial, by trivial⟩

theorem vpi_len {z : Int} (hb : bi z ≤ 1000000) : (vpi z).length ≤ 125020 := by
  have hl : (btx z.natAbs).length = (bi z + 7) / 8 := btx_length _
  unfold vpi
  rw [List.length_append]
  have := vb_len10 (v := 2 * (btx z.natAbs).length + (if z < 0 then 1 else 0)) (by split <;> omega)
  omega
theorem vputRat_ok (H : PH) (v : Value) (q : Rat) (hV : RatV H v q) (hb : br q ≤ 1000000) : FnP Try.prog 22 [v] H fun r _ => r = .string (ofB (vpr q)) := by
  obtain ⟨A, l, c, b, B, m, e, rfl⟩ := hV.form
  have k1 := bi_br q
  have k2 := bl_br q
  have k3 : bi (q.den : Int) = bl q.den := by rw [bi_cast']
  have n1 := vpi_len (z := q.num) (by omega)
  have n2 := vpi_len (z := q.den) (by omega)
  refine of_vint_PutRat (by simp) ?_
  try simp only [go_sem, Nat.reduceEqDiff, Nat.reduceAdd, Bool.false_eq_true, Nat.reduceBEq, ↓reduceIte, p_vint_PutRat]
  first | refine ev_call (rnum_ok _ _ q hV) ?_ | refine ev_callP (rnum_ok _ _ q hV) ?_
  rintro v_8 H_8 le_8 g1 _
  replace hV := hV.le le_8
  try simp only [go_sem, Nat.reduceEqDiff, Nat.reduceAdd, Bool.false_eq_true, Nat.reduceBEq, ↓reduceIte]
  first | refine ev_call (vputInt_ok _ _ _ g1 (by omega)) ?_ | refine ev_callP (vputInt_ok _ _ _ g1 (by omega)) ?_
  rintro v_9 H_9 le_9 rfl _
  replace hV := hV.le le_9
  try simp only [go_sem, Nat.reduceEqDiff, Nat.reduceAdd, Bool.false_eq_true, Nat.reduceBEq, ↓reduceIte]
  first | refine ev_call (rden_ok _ _ q hV (by omega)) ?_ | refine ev_callP (rden_ok _ _ q hV (by omega)) ?_
  rintro v_10 H_10 le_10 g2 _
  try simp only [go_sem, Nat.reduceEqDiff, Nat.reduceAdd, Bool.false_eq_true, Nat.reduceBEq, ↓reduceIte]
  first | refine ev_call (vputInt_ok _ _ _ g2 (by omega)) ?_ | refine ev_callP (vputInt_ok _ _ _ g2 (by omega)) ?_
  rintro v_11 H_11 le_11 rfl _
  try simp only [go_sem, Nat.reduceEqDiff, Nat.reduceAdd, Bool.false_eq_true, Nat.reduceBEq, ↓reduceIte]
  refine ev_cat (by rw [ofB_size, ofB_size]; omega) ?_
  try simp only [go_sem, Nat.reduceEqDiff, Nat.reduceAdd, Bool.false_eq_true, Nat.reduceBEq, ↓reduceIte]
  rw [ofB_append]
  exact ⟨by trivial, by trivial⟩
theorem vputRatR_ok (H : PH) (v : Value) (q : Rat) (hV : RRat H v q) (hb : br q ≤ 1000000) : FnP Try.prog 35 [v] H fun r _ => r = .string (ofB (vpr q)) := by
  obtain ⟨b, A, l, c, B, m, e, rfl⟩ := hV.form
  obtain ⟨h1, _⟩ := hV.parts
  have k1 := bi_br q
  have k2 := bl_br q
  have k3 : bi (q.den : Int) = bl q.den := by rw [bi_cast']
  have n1 := vpi_len (z := q.num) (by omega)
  have n2 := vpi_len (z := q.den) (by omega)
  refine of_cinctureref2_PutRat (by simp) ?_
  try simp only [go_sem, Nat.reduceEqDiff, Nat.reduceAdd, Bool.false_eq_true, Nat.reduceBEq, ↓reduceIte, p_cinctureref2_PutRat]
  first | refine ev_call (vputIntR_ok _ _ _ h1 (by omega)) ?_ | refine ev_callP (vputIntR_ok _ _ _ h1 (by omega)) ?_
  rintro v_12 H_12 le_12 rfl _
  replace hV := hV.le le_12
  try simp only [go_sem, Nat.reduceEqDiff, Nat.reduceAdd, Bool.false_eq_true, Nat.reduceBEq, ↓reduceIte]
  first | refine ev_call (rden_okR _ _ q hV) ?_ | refine ev_callP (rden_okR _ _ q hV) ?_
  rintro v_13 H_13 le_13 g2 _
  try simp only [go_sem, Nat.reduceEqDiff, Nat.reduceAdd, Bool.false_eq_true, Nat.reduceBEq, ↓reduceIte]
  obtain ⟨A2, l2, c2, rfl, _⟩ := g2.form
  have g3 := RInt.nat g2
  try simp only [go_sem, Nat.reduceEqDiff, Nat.reduceAdd, Bool.false_eq_true, Nat.reduceBEq, ↓reduceIte]
  first | refine ev_call (vputIntR_ok _ _ _ g3 (by omega)) ?_ | refine ev_callP (vputIntR_ok _ _ _ g3 (by omega)) ?_
  rintro v_14 H_14 le_14 rfl _
  try simp only [go_sem, Nat.reduceEqDiff, Nat.reduceAdd, Bool.false_eq_true, Nat.reduceBEq, ↓reduceIte]
  refine ev_cat (by rw [ofB_size, ofB_size]; omega) ?_
  try simp only [go_sem, Nat.reduceEqDiff, Nat.reduceAdd, Bool.false_eq_true, Nat.reduceBEq, ↓reduceIte]
  rw [ofB_append]
  exact ⟨by trivial, by trivial⟩

end Go.Proofs.Ytalnnaoabhimdaa.X
set_option linter.unusedVariables false
set_option linter.unusedSimpArgs false
namespace Go.Proofs.Ytalnnaoabhimdaa.X
open Go Go.RowKit Go.Proofs

theorem bs_cut (b : ByteArray) (e n : Nat) : bs (b.extract e (e + n)) = ((bs b).drop e).take n := by
  rw [bs_ext, List.take_drop]
theorem cut_size {b : ByteArray} {e n : Nat} (h : e + n ≤ b.size) : (b.extract e (e + n)).size = n := by
  rw [ByteArray.size_extract]; omega

set_option maxHeartbeats 4000000 in
theorem vgetInt_ok (H : PH) (b : ByteArray) (hb : b.size ≤ 100000000) (p : Int) (h1 : -9223372036854775808 ≤ p) (h2 : p ≤ 9223372036854775807) (bits : Int) (h3 : -9223372036854775808 ≤ bits) (h4 : bits ≤ 9223372036854775807) : FnP Try.prog 12 [.string b, .int .i64 p, .int .i64 bits] H fun v H' => ∃ va, v = .tuple #[va, .int .i64 ((vgi (bs b) p bits).2.1 : Int), .int .i64 (vgi (bs b) p bits).2.2] ∧ IntV H' va (vgi (bs b) p bits).1 := by
  have hsz := bs_length b
  obtain ⟨B, hB⟩ : ∃ B : Nat, max bits 0 = (B : Int) := ⟨(max bits 0).toNat, by omega⟩
  have hBm : (if bits < 0 then 0 else bits) = (B : Int) := by rw [← hB]; split <;> omega
  refine of_vint_GetInt (by simp) ?_
  try simp only [go_sem, Nat.reduceEqDiff, Nat.reduceAdd, Bool.false_eq_true, Nat.reduceBEq, ↓reduceIte, p_vint_GetInt]
  rw [hBm]
  first | refine ev_call (vget_ok _ b (by omega) p h1 h2) ?_ | refine ev_callP (vget_ok _ b (by omega) p h1 h2) ?_
  rintro v_1 H_1 le_1 rfl _
  try simp only [go_sem, Nat.reduceEqDiff, Nat.reduceAdd, Bool.false_eq_true, Nat.reduceBEq, ↓reduceIte]
  unfold vgi
  rw [hB]
  cases hc : decide ((vg (bs b) p).2.2 = 0) with
  | false =>
    have hc : (vg (bs b) p).2.2 ≠ 0 := of_decide_eq_false hc
    have hr := vg_code hc
    generalize (vg (bs b) p).2.2 = c at *
    rw [hr]
    try simp only [go_sem, Nat.reduceEqDiff, Nat.reduceAdd, Bool.false_eq_true, Nat.reduceBEq, ↓reduceIte, vgV]
    refine quo_nat (a := 0) (m := 2) rfl (by decide) (by decide) ?_
    try simp only [go_sem, Nat.reduceEqDiff, Nat.reduceAdd, Bool.false_eq_true, Nat.reduceBEq, ↓reduceIte]
    refine ev_pos hc ?_
    try simp only [go_sem, Nat.reduceEqDiff, Nat.reduceAdd, Bool.false_eq_true, Nat.reduceBEq, ↓reduceIte]
    rw [if_pos hc]
    repeat' (with_reducible refine And.intro ?_ ?_)
    all_goals first | trivial | exact ⟨_, rfl, IntV.zero _⟩
  | true =>
    have hc : (vg (bs b) p).2.2 = 0 := of_decide_eq_true hc
    have hr : vg (bs b) p = ((vg (bs b) p).1, (vg (bs b) p).2.1, 0) := Prod.ext rfl (Prod.ext rfl hc)
    obtain ⟨kv, ke, kp, k0⟩ := vg_end (bs_lt b) hc
    generalize (vg (bs b) p).1 = v at *
    generalize (vg (bs b) p).2.1 = e at *
    rw [hr]
    clear hr
    try simp only [go_sem, Nat.reduceEqDiff, Nat.reduceAdd, Bool.false_eq_true, Nat.reduceBEq, ↓reduceIte, vgV]
    refine quo_nat (a := v) (m := 2) rfl (by decide) (wu64 _ (by omega) (by omega)) ?_
    try simp only [go_sem, Nat.reduceEqDiff, Nat.reduceAdd, Bool.false_eq_true, Nat.reduceBEq, ↓reduceIte]
    refine ev_neg (by simp) ?_
    try simp only [go_sem, Nat.reduceEqDiff, Nat.reduceAdd, Bool.false_eq_true, Nat.reduceBEq, ↓reduceIte]
    refine quo_nat (a := B) (m := 8) rfl (by decide) (w64 _ (by omega) (by omega)) ?_
    try simp only [go_sem, Nat.reduceEqDiff, Nat.reduceAdd, Bool.false_eq_true, Nat.reduceBEq, ↓reduceIte]
    rw [wu64 ((B / 8 : Nat) : Int) (by omega) (by omega), wu64 (((B / 8 : Nat) : Int) + 1) (by omega) (by omega)]
    simp only [ne_eq, not_true_eq_false, if_false]
    refine ev_if (fun c1 => ?_) (fun c1 => ?_)
    · try simp only [go_sem, Nat.reduceEqDiff, Nat.reduceAdd, Bool.false_eq_true, Nat.reduceBEq, ↓reduceIte]
      rw [if_pos (by omega)]
      repeat' (with_reducible refine And.intro ?_ ?_)
      all_goals first | trivial | exact ⟨_, rfl, IntV.zero _⟩
    · rw [if_neg (show ¬ ((B : Int) / 8 + 1 < ((v / 2 : Nat) : Int)) by omega)]
      try simp only [go_sem, Nat.reduceEqDiff, Nat.reduceAdd, Bool.false_eq_true, Nat.reduceBEq, ↓reduceIte]
      rw [w64 ((b.size : Int) - (e : Int)) (by omega) (by omega), wu64 ((b.size : Int) - (e : Int)) (by omega) (by omega)]
      refine ev_if (fun c2 => ?_) (fun c2 => ?_)
      · try simp only [go_sem, Nat.reduceEqDiff, Nat.reduceAdd, Bool.false_eq_true, Nat.reduceBEq, ↓reduceIte]
        rw [if_pos (by omega)]
        repeat' (with_reducible refine And.intro ?_ ?_)
        all_goals first | trivial | exact ⟨_, rfl, IntV.zero _⟩
      · rw [if_neg (show ¬ ((bs b).length - e < v / 2) by omega)]
        try simp only [go_sem, Nat.reduceEqDiff, Nat.reduceAdd, Bool.false_eq_true, Nat.reduceBEq, ↓reduceIte]
        rw [w64 ((v / 2 : Nat) : Int) (by omega) (by omega), w64 ((e : Int) + ((v / 2 : Nat) : Int)) (by omega) (by omega), show (e : Int) + ((v / 2 : Nat) : Int) = ((e + v / 2 : Nat) : Int) by omega]
        refine ev_ss (by omega) (by omega) (by omega) ?_
        rw [Int.toNat_natCast, Int.toNat_natCast]
        try simp only [go_sem, Nat.reduceEqDiff, Nat.reduceAdd, Bool.false_eq_true, Nat.reduceBEq, ↓reduceIte]
        first | refine ev_call (read_ok _ (b.extract e (e + v / 2)) (by rw [cut_size (by omega)]; omega)) ?_ | refine ev_callP (read_ok _ (b.extract e (e + v / 2)) (by rw [cut_size (by omega)]; omega)) ?_
        rintro v_2 H_2 le_2 ⟨va, rfl, g1⟩ _
        try simp only [go_sem, Nat.reduceEqDiff, Nat.reduceAdd, Bool.false_eq_true, Nat.reduceBEq, ↓reduceIte]
        rw [bs_cut] at g1 ⊢
        have hbl := @bl_bv (((bs b).drop e).take (v / 2)) (fun d hd => bs_lt b d (List.mem_of_mem_drop (List.mem_of_mem_take hd)))
        have hln : (((bs b).drop e).take (v / 2)).length ≤ b.size := by rw [List.length_take, List.length_drop]; omega
        generalize ((bs b).drop e).take (v / 2) = s at *
        obtain ⟨A1, l1, c3, rfl⟩ := g1.form
        cases hrd : rdOk s with
        | false =>
          try simp only [go_sem, Nat.reduceEqDiff, Nat.reduceAdd, Bool.false_eq_true, Nat.reduceBEq, ↓reduceIte, hrd]
          refine ev_pos (by decide) ?_
          try simp only [go_sem, Nat.reduceEqDiff, Nat.reduceAdd, Bool.false_eq_true, Nat.reduceBEq, ↓reduceIte]
          rw [if_pos (by simp)]
          repeat' (with_reducible refine And.intro ?_ ?_)
          all_goals first | trivial | exact ⟨_, rfl, IntV.zero _⟩
        | true =>
          rw [hrd, if_pos rfl] at g1
          try simp only [go_sem, Nat.reduceEqDiff, Nat.reduceAdd, Bool.false_eq_true, Nat.reduceBEq, ↓reduceIte, hrd]
          refine ev_neg (by decide) ?_
          try simp only [go_sem, Nat.reduceEqDiff, Nat.reduceAdd, Bool.false_eq_true, Nat.reduceBEq, ↓reduceIte]
          refine ev_if (fun c4 => ?_) (fun c4 => ?_)
          · try simp only [go_sem, Nat.reduceEqDiff, Nat.reduceAdd, Bool.false_eq_true, Nat.reduceBEq, ↓reduceIte]
            rw [if_pos (.inr (by omega))]
            repeat' (with_reducible refine And.intro ?_ ?_)
            all_goals first | trivial | exact ⟨_, rfl, IntV.zero _⟩
          · rw [if_neg (show ¬ (true = false ∨ v = 1) by intro h; rcases h with h | h; cases h; omega)]
            try simp only [go_sem, Nat.reduceEqDiff, Nat.reduceAdd, Bool.false_eq_true, Nat.reduceBEq, ↓reduceIte]
            first | refine ev_call (nbits_ok _ _ _ g1 (by omega)) ?_ | refine ev_callP (nbits_ok _ _ _ g1 (by omega)) ?_
            rintro v_3 H_3 le_3 rfl _
            replace g1 := g1.le le_3
            try simp only [go_sem, Nat.reduceEqDiff, Nat.reduceAdd, Bool.false_eq_true, Nat.reduceBEq, ↓reduceIte]
            refine ev_if (fun c5 => ?_) (fun c5 => ?_)
            · try simp only [go_sem, Nat.reduceEqDiff, Nat.reduceAdd, Bool.false_eq_true, Nat.reduceBEq, ↓reduceIte]
              rw [if_pos (by omega)]
              repeat' (with_reducible refine And.intro ?_ ?_)
              all_goals first | trivial | exact ⟨_, rfl, IntV.zero _⟩
            · rw [if_neg (by omega)]
              try simp only [go_sem, Nat.reduceEqDiff, Nat.reduceAdd, Bool.false_eq_true, Nat.reduceBEq, ↓reduceIte]
              refine rem_nat (a := v) (m := 2) rfl (by decide) ?_
              try simp only [go_sem, Nat.reduceEqDiff, Nat.reduceAdd, Bool.false_eq_true, Nat.reduceBEq, ↓reduceIte]
              refine ev_if (fun c6 => ?_) (fun c6 => ?_)
              · rw [decide_eq_true (show v % 2 = 1 by omega)]
                try simp only [go_sem, Nat.reduceEqDiff, Nat.reduceAdd, Bool.false_eq_true, Nat.reduceBEq, ↓reduceIte]
                first | refine ev_call (from_ok _ true _ _ g1 (by omega)) ?_ | refine ev_callP (from_ok _ true _ _ g1 (by omega)) ?_
                rintro v_4 H_4 le_4 g2 _
                try simp only [go_sem, Nat.reduceEqDiff, Nat.reduceAdd, Bool.false_eq_true, Nat.reduceBEq, ↓reduceIte]
                obtain ⟨A2, l2, c7, t2, rfl⟩ := g2.form
                try simp only [go_sem, Nat.reduceEqDiff, Nat.reduceAdd, Bool.false_eq_true, Nat.reduceBEq, ↓reduceIte]
                rw [w64 ((v / 2 : Nat) : Int) (by omega) (by omega), w64 ((e : Int) + ((v / 2 : Nat) : Int)) (by omega) (by omega), show (e : Int) + ((v / 2 : Nat) : Int) = ((e + v / 2 : Nat) : Int) by omega]
                repeat' (with_reducible refine And.intro ?_ ?_)
                all_goals first | trivial | exact ⟨_, rfl, g2⟩
              · rw [decide_eq_false (show ¬ v % 2 = 1 by omega)]
                try simp only [go_sem, Nat.reduceEqDiff, Nat.reduceAdd, Bool.false_eq_true, Nat.reduceBEq, ↓reduceIte]
                first | refine ev_call (from_ok _ false _ _ g1 (by omega)) ?_ | refine ev_callP (from_ok _ false _ _ g1 (by omega)) ?_
                rintro v_5 H_5 le_5 g2 _
                try simp only [go_sem, Nat.reduceEqDiff, Nat.reduceAdd, Bool.false_eq_true, Nat.reduceBEq, ↓reduceIte]
                obtain ⟨A2, l2, c7, t2, rfl⟩ := g2.form
                try simp only [go_sem, Nat.reduceEqDiff, Nat.reduceAdd, Bool.false_eq_true, Nat.reduceBEq, ↓reduceIte]
                rw [w64 ((v / 2 : Nat) : Int) (by omega) (by omega), w64 ((e : Int) + ((v / 2 : Nat) : Int)) (by omega) (by omega), show (e : Int) + ((v / 2 : Nat) : Int) = ((e + v / 2 : Nat) : Int) by omega]
                repeat' (with_reducible refine And.intro ?_ ?_)
                all_goals first | trivial | exact ⟨_, rfl, g2⟩

set_option maxHeartbeats 4000000 in
theorem vgetIntR_ok (H : PH) (b : ByteArray) (hb : b.size ≤ 100000000) (p : Int) (h1 : -9223372036854775808 ≤ p) (h2 : p ≤ 9223372036854775807) (bits : Int) (h3 : -9223372036854775808 ≤ bits) (h4 : bits ≤ 9223372036854775807) : FnP Try.prog 13 [.string b, .int .i64 p, .int .i64 bits] H fun v H' => ∃ va, v = .tuple #[va, .int .i64 ((vgi (bs b) p bits).2.1 : Int), .int .i64 (vgi (bs b) p bits).2.2] ∧ RInt H' va (vgi (bs b) p bits).1 := by
  have hsz := bs_length b
  obtain ⟨B, hB⟩ : ∃ B : Nat, max bits 0 = (B : Int) := ⟨(max bits 0).toNat, by omega⟩
  have hBm : (if bits < 0 then 0 else bits) = (B : Int) := by rw [← hB]; split <;> omega
  refine of_cinctureref2_GetInt (by simp) ?_
  try simp only [go_sem, Nat.reduceEqDiff, Nat.reduceAdd, Bool.false_eq_true, Nat.reduceBEq, ↓reduceIte, p_cinctureref2_GetInt]
  first | refine ev_call (vgetR_ok _ b (by omega) p h1 h2) ?_ | refine ev_callP (vgetR_ok _ b (by omega) p h1 h2) ?_
  rintro v_6 H_6 le_6 rfl _
  try simp only [go_sem, Nat.reduceEqDiff, Nat.reduceAdd, Bool.false_eq_true, Nat.reduceBEq, ↓reduceIte]
  unfold vgi
  rw [hB]
  cases hc : decide ((vg (bs b) p).2.2 = 0) with
  | false =>
    have hc : (vg (bs b) p).2.2 ≠ 0 := of_decide_eq_false hc
    have hr := vg_code hc
    generalize (vg (bs b) p).2.2 = c at *
    rw [hr]
    try simp only [go_sem, Nat.reduceEqDiff, Nat.reduceAdd, Bool.false_eq_true, Nat.reduceBEq, ↓reduceIte, vgV]
    refine ev_pos hc ?_
    try simp only [go_sem, Nat.reduceEqDiff, Nat.reduceAdd, Bool.false_eq_true, Nat.reduceBEq, ↓reduceIte]
    rw [if_pos hc]
    repeat' (with_reducible refine And.intro ?_ ?_)
    all_goals first | trivial | exact ⟨_, rfl, RInt.zero _⟩
  | true =>
    have hc : (vg (bs b) p).2.2 = 0 := of_decide_eq_true hc
    have hr : vg (bs b) p = ((vg (bs b) p).1, (vg (bs b) p).2.1, 0) := Prod.ext rfl (Prod.ext rfl hc)
    obtain ⟨kv, ke, kp, k0⟩ := vg_end (bs_lt b) hc
    generalize (vg (bs b) p).1 = v at *
    generalize (vg (bs b) p).2.1 = e at *
    rw [hr]
    clear hr
    try simp only [go_sem, Nat.reduceEqDiff, Nat.reduceAdd, Bool.false_eq_true, Nat.reduceBEq, ↓reduceIte, vgV]
    refine ev_neg (by simp) ?_
    try simp only [go_sem, Nat.reduceEqDiff, Nat.reduceAdd, Bool.false_eq_true, Nat.reduceBEq, ↓reduceIte]
    rw [hBm]
    refine quo_nat (a := v) (m := 2) rfl (by decide) (wu64 _ (by omega) (by omega)) ?_
    try simp only [go_sem, Nat.reduceEqDiff, Nat.reduceAdd, Bool.false_eq_true, Nat.reduceBEq, ↓reduceIte]
    refine quo_nat (a := B) (m := 8) rfl (by decide) (w64 _ (by omega) (by omega)) ?_
    try simp only [go_sem, Nat.reduceEqDiff, Nat.reduceAdd, Bool.false_eq_true, Nat.reduceBEq, ↓reduceIte]
    rw [wu64 ((B / 8 : Nat) : Int) (by omega) (by omega), wu64 (((B / 8 : Nat) : Int) + 1) (by omega) (by omega)]
    simp only [ne_eq, not_true_eq_false, if_false]
    refine ev_if (fun c1 => ?_) (fun c1 => ?_)
    · try simp only [go_sem, Nat.reduceEqDiff, Nat.reduceAdd, Bool.false_eq_true, Nat.reduceBEq, ↓reduceIte]
      rw [if_pos (by omega)]
      repeat' (with_reducible refine And.intro ?_ ?_)
      all_goals first | trivial | exact ⟨_, rfl, RInt.zero _⟩
    · rw [if_neg (show ¬ ((B : Int) / 8 + 1 < ((v / 2 : Nat) : Int)) by omega)]
      try simp only [go_sem, Nat.reduceEqDiff, Nat.reduceAdd, Bool.false_eq_true, Nat.reduceBEq, ↓reduceIte]
      refine quo_nat (a := v) (m := 2) rfl (by decide) (wu64 _ (by omega) (by omega)) ?_
      try simp only [go_sem, Nat.reduceEqDiff, Nat.reduceAdd, Bool.false_eq_true, Nat.reduceBEq, ↓reduceIte]
      rw [w64 ((b.size : Int) - (e : Int)) (by omega) (by omega), wu64 ((b.size : Int) - (e : Int)) (by omega) (by omega)]
      refine ev_if (fun c2 => ?_) (fun c2 => ?_)
      · try simp only [go_sem, Nat.reduceEqDiff, Nat.reduceAdd, Bool.false_eq_true, Nat.reduceBEq, ↓reduceIte]
        rw [if_pos (by omega)]
        repeat' (with_reducible refine And.intro ?_ ?_)
        all_goals first | trivial | exact ⟨_, rfl, RInt.zero _⟩
      · rw [if_neg (show ¬ ((bs b).length - e < v / 2) by omega)]
        try simp only [go_sem, Nat.reduceEqDiff, Nat.reduceAdd, Bool.false_eq_true, Nat.reduceBEq, ↓reduceIte]
        refine quo_nat (a := v) (m := 2) rfl (by decide) (wu64 _ (by omega) (by omega)) ?_
        try simp only [go_sem, Nat.reduceEqDiff, Nat.reduceAdd, Bool.false_eq_true, Nat.reduceBEq, ↓reduceIte]
        rw [w64 ((v / 2 : Nat) : Int) (by omega) (by omega), w64 ((e : Int) + ((v / 2 : Nat) : Int)) (by omega) (by omega), show (e : Int) + ((v / 2 : Nat) : Int) = ((e + v / 2 : Nat) : Int) by omega]
        refine ev_ss (by omega) (by omega) (by omega) ?_
        rw [Int.toNat_natCast, Int.toNat_natCast]
        try simp only [go_sem, Nat.reduceEqDiff, Nat.reduceAdd, Bool.false_eq_true, Nat.reduceBEq, ↓reduceIte]
        first | refine ev_call (rread_ok _ (b.extract e (e + v / 2)) (by rw [cut_size (by omega)]; omega)) ?_ | refine ev_callP (rread_ok _ (b.extract e (e + v / 2)) (by rw [cut_size (by omega)]; omega)) ?_
        rintro v_7 H_7 le_7 ⟨va, rfl, g1⟩ _
        try simp only [go_sem, Nat.reduceEqDiff, Nat.reduceAdd, Bool.false_eq_true, Nat.reduceBEq, ↓reduceIte]
        rw [bs_cut] at g1 ⊢
        have hbl := @bl_bv (((bs b).drop e).take (v / 2)) (fun d hd => bs_lt b d (List.mem_of_mem_drop (List.mem_of_mem_take hd)))
        have hln : (((bs b).drop e).take (v / 2)).length ≤ b.size := by rw [List.length_take, List.length_drop]; omega
        have hl0 : v / 2 = 0 → bv (((bs b).drop e).take (v / 2)) = 0 := fun h => by rw [h, List.take_zero]; rfl
        generalize ((bs b).drop e).take (v / 2) = s at *
        obtain ⟨A1, l1, c3, rfl, _⟩ := g1.form
        cases hrd : rdOk s with
        | false =>
          try simp only [go_sem, Nat.reduceEqDiff, Nat.reduceAdd, Bool.false_eq_true, Nat.reduceBEq, ↓reduceIte, hrd]
          rw [if_pos (by simp)]
          repeat' (with_reducible refine And.intro ?_ ?_)
          all_goals first | trivial | exact ⟨_, rfl, RInt.zero _⟩
        | true =>
          rw [hrd, if_pos rfl] at g1
          try simp only [go_sem, Nat.reduceEqDiff, Nat.reduceAdd, Bool.false_eq_true, Nat.reduceBEq, ↓reduceIte, hrd]
          refine ev_if (fun c4 => ?_) (fun c4 => ?_)
          · try simp only [go_sem, Nat.reduceEqDiff, Nat.reduceAdd, Bool.false_eq_true, Nat.reduceBEq, ↓reduceIte]
            refine rem_nat (a := v) (m := 2) rfl (by decide) ?_
            try simp only [go_sem, Nat.reduceEqDiff, Nat.reduceAdd, Bool.false_eq_true, Nat.reduceBEq, ↓reduceIte]
            refine ev_if (fun c8 => ?_) (fun c8 => ?_)
            · try simp only [go_sem, Nat.reduceEqDiff, Nat.reduceAdd, Bool.false_eq_true, Nat.reduceBEq, ↓reduceIte]
              rw [if_pos (.inr (by omega))]
              repeat' (with_reducible refine And.intro ?_ ?_)
              all_goals first | trivial | exact ⟨_, rfl, RInt.zero _⟩
            · skip
              rw [if_neg (show ¬ (true = false ∨ v = 1) by intro h; rcases h with h | h; cases h; omega)]
              try simp only [go_sem, Nat.reduceEqDiff, Nat.reduceAdd, Bool.false_eq_true, Nat.reduceBEq, ↓reduceIte]
              first | refine ev_call (rbits_ok _ _ _ g1 (by omega)) ?_ | refine ev_callP (rbits_ok _ _ _ g1 (by omega)) ?_
              rintro v_8 H_8 le_8 rfl _
              replace g1 := g1.le le_8
              try simp only [go_sem, Nat.reduceEqDiff, Nat.reduceAdd, Bool.false_eq_true, Nat.reduceBEq, ↓reduceIte]
              refine ev_if (fun c5 => ?_) (fun c5 => ?_)
              · try simp only [go_sem, Nat.reduceEqDiff, Nat.reduceAdd, Bool.false_eq_true, Nat.reduceBEq, ↓reduceIte]
                rw [if_pos (by omega)]
                repeat' (with_reducible refine And.intro ?_ ?_)
                all_goals first | trivial | exact ⟨_, rfl, RInt.zero _⟩
              · rw [if_neg (by omega)]
                try simp only [go_sem, Nat.reduceEqDiff, Nat.reduceAdd, Bool.false_eq_true, Nat.reduceBEq, ↓reduceIte]
                refine rem_nat (a := v) (m := 2) rfl (by decide) ?_
                try simp only [go_sem, Nat.reduceEqDiff, Nat.reduceAdd, Bool.false_eq_true, Nat.reduceBEq, ↓reduceIte]
                refine ev_if (fun c6 => ?_) (fun c6 => ?_)
                · rw [decide_eq_true (show v % 2 = 1 by omega)]
                  try simp only [go_sem, Nat.reduceEqDiff, Nat.reduceAdd, Bool.false_eq_true, Nat.reduceBEq, ↓reduceIte]
                  first | refine ev_call (rfrom_ok _ true _ _ g1) ?_ | refine ev_callP (rfrom_ok _ true _ _ g1) ?_
                  rintro v_9 H_9 le_9 g2 _
                  try simp only [go_sem, Nat.reduceEqDiff, Nat.reduceAdd, Bool.false_eq_true, Nat.reduceBEq, ↓reduceIte]
                  obtain ⟨A2, l2, c7, t2, rfl⟩ := g2.form
                  try simp only [go_sem, Nat.reduceEqDiff, Nat.reduceAdd, Bool.false_eq_true, Nat.reduceBEq, ↓reduceIte]
                  rw [w64 ((e : Int) + ((v / 2 : Nat) : Int)) (by omega) (by omega), show (e : Int) + ((v / 2 : Nat) : Int) = ((e + v / 2 : Nat) : Int) by omega]
                  repeat' (with_reducible refine And.intro ?_ ?_)
                  all_goals first | trivial | exact ⟨_, rfl, g2⟩
                · rw [decide_eq_false (show ¬ v % 2 = 1 by omega)]
                  try simp only [go_sem, Nat.reduceEqDiff, Nat.reduceAdd, Bool.false_eq_true, Nat.reduceBEq, ↓reduceIte]
                  first | refine ev_call (rfrom_ok _ false _ _ g1) ?_ | refine ev_callP (rfrom_ok _ false _ _ g1) ?_
                  rintro v_10 H_10 le_10 g2 _
                  try simp only [go_sem, Nat.reduceEqDiff, Nat.reduceAdd, Bool.false_eq_true, Nat.reduceBEq, ↓reduceIte]
                  obtain ⟨A2, l2, c7, t2, rfl⟩ := g2.form
                  try simp only [go_sem, Nat.reduceEqDiff, Nat.reduceAdd, Bool.false_eq_true, Nat.reduceBEq, ↓reduceIte]
                  rw [w64 ((e : Int) + ((v / 2 : Nat) : Int)) (by omega) (by omega), show (e : Int) + ((v / 2 : Nat) : Int) = ((e + v / 2 : Nat) : Int) by omega]
                  repeat' (with_reducible refine And.intro ?_ ?_)
                  all_goals first | trivial | exact ⟨_, rfl, g2⟩
          · skip
            rw [if_neg (show ¬ (true = false ∨ v = 1) by intro h; rcases h with h | h; cases h; omega)]
            try simp only [go_sem, Nat.reduceEqDiff, Nat.reduceAdd, Bool.false_eq_true, Nat.reduceBEq, ↓reduceIte]
            first | refine ev_call (rbits_ok _ _ _ g1 (by omega)) ?_ | refine ev_callP (rbits_ok _ _ _ g1 (by omega)) ?_
            rintro v_8 H_8 le_8 rfl _
            replace g1 := g1.le le_8
            try simp only [go_sem, Nat.reduceEqDiff, Nat.reduceAdd, Bool.false_eq_true, Nat.reduceBEq, ↓reduceIte]
            refine ev_if (fun c5 => ?_) (fun c5 => ?_)
            · try simp only [go_sem, Nat.reduceEqDiff, Nat.reduceAdd, Bool.false_eq_true, Nat.reduceBEq, ↓reduceIte]
              rw [if_pos (by omega)]
              repeat' (with_reducible refine And.intro ?_ ?_)
              all_goals first | trivial | exact ⟨_, rfl, RInt.zero _⟩
            · rw [if_neg (by omega)]
              try simp only [go_sem, Nat.reduceEqDiff, Nat.reduceAdd, Bool.false_eq_true, Nat.reduceBEq, ↓reduceIte]
              refine rem_nat (a := v) (m := 2) rfl (by decide) ?_
              try simp only [go_sem, Nat.reduceEqDiff, Nat.reduceAdd, Bool.false_eq_true, Nat.reduceBEq, ↓reduceIte]
              refine ev_if (fun c6 => ?_) (fun c6 => ?_)
              · rw [decide_eq_true (show v % 2 = 1 by omega)]
                try simp only [go_sem, Nat.reduceEqDiff, Nat.reduceAdd, Bool.false_eq_true, Nat.reduceBEq, ↓reduceIte]
                first | refine ev_call (rfrom_ok _ true _ _ g1) ?_ | refine ev_callP (rfrom_ok _ true _ _ g1) ?_
                rintro v_9 H_9 le_9 g2 _
                try simp only [go_sem, Nat.reduceEqDiff, Nat.reduceAdd, Bool.false_eq_true, Nat.reduceBEq, ↓reduceIte]
                obtain ⟨A2, l2, c7, t2, rfl⟩ := g2.form
                try simp only [go_sem, Nat.reduceEqDiff, Nat.reduceAdd, Bool.false_eq_true, Nat.reduceBEq, ↓reduceIte]
                rw [w64 ((e : Int) + ((v / 2 : Nat) : Int)) (by omega) (by omega), show (e : Int) + ((v / 2 : Nat) : Int) = ((e + v / 2 : Nat) : Int) by omega]
                repeat' (with_reducible refine And.intro ?_ ?_)
                all_goals first | trivial | exact ⟨_, rfl, g2⟩
              · rw [decide_eq_false (show ¬ v % 2 = 1 by omega)]
                try simp only [go_sem, Nat.reduceEqDiff, Nat.reduceAdd, Bool.false_eq_true, Nat.reduceBEq, ↓reduceIte]
                first | refine ev_call (rfrom_ok _ false _ _ g1) ?_ | refine ev_callP (rfrom_ok _ false _ _ g1) ?_
                rintro v_10 H_10 le_10 g2 _
                try simp only [go_sem, Nat.reduceEqDiff, Nat.reduceAdd, Bool.false_eq_true, Nat.reduceBEq, ↓reduceIte]
                obtain ⟨A2, l2, c7, t2, rfl⟩ := g2.form
                try simp only [go_sem, Nat.reduceEqDiff, Nat.reduceAdd, Bool.false_eq_true, Nat.reduceBEq, ↓reduceIte]
                rw [w64 ((e : Int) + ((v / 2 : Nat) : Int)) (by omega) (by omega), show (e : Int) + ((v / 2 : Nat) : Int) = ((e + v / 2 : Nat) : Int) by omega]
                repeat' (with_reducible refine And.intro ?_ ?_)
                all_goals first | trivial | exact ⟨_, rfl, g2⟩

theorem IntV.num {H : PH} {v : Value} {z w : Int} (h : IntV H v z) (e : z = w) : IntV H v w := e ▸ h
set_option maxHeartbeats 4000000 in
theorem vgetRat_ok (H : PH) (b : ByteArray) (hb : b.size ≤ 100000000) (p : Int) (h1 : -9223372036854775808 ≤ p) (h2 : p ≤ 9223372036854775807) (bits : Int) (h3 : -9223372036854775808 ≤ bits) (h4 : bits ≤ 9223372036854775807) : FnP Try.prog 21 [.string b, .int .i64 p, .int .i64 bits] H fun v H' => ∃ va, v = .tuple #[va, .int .i64 ((vgr (bs b) p bits).2.1 : Int), .int .i64 (vgr (bs b) p bits).2.2] ∧ RatV H' va (vgr (bs b) p bits).1 := by
  have hsz := bs_length b
  refine of_vint_GetRat (by simp) ?_
  try simp only [go_sem, Nat.reduceEqDiff, Nat.reduceAdd, Bool.false_eq_true, Nat.reduceBEq, ↓reduceIte, p_vint_GetRat]
  first | refine ev_call (vgetInt_ok _ b hb p h1 h2 bits h3 h4) ?_ | refine ev_callP (vgetInt_ok _ b hb p h1 h2 bits h3 h4) ?_
  rintro v_11 H_11 le_11 ⟨va, rfl, g1⟩ _
  try simp only [go_sem, Nat.reduceEqDiff, Nat.reduceAdd, Bool.false_eq_true, Nat.reduceBEq, ↓reduceIte]
  unfold vgr
  obtain ⟨A1, l1, c1, t1, rfl⟩ := g1.form
  cases hc : decide ((vgi (bs b) p bits).2.2 = 0) with
  | false =>
    have hc : (vgi (bs b) p bits).2.2 ≠ 0 := of_decide_eq_false hc
    try simp only [go_sem, Nat.reduceEqDiff, Nat.reduceAdd, Bool.false_eq_true, Nat.reduceBEq, ↓reduceIte]
    refine ev_pos hc ?_
    try simp only [go_sem, Nat.reduceEqDiff, Nat.reduceAdd, Bool.false_eq_true, Nat.reduceBEq, ↓reduceIte]
    rw [if_pos hc]
    repeat' (with_reducible refine And.intro ?_ ?_)
    all_goals first | trivial | exact ⟨_, rfl, RatV.zero _⟩
  | true =>
    have hc : (vgi (bs b) p bits).2.2 = 0 := of_decide_eq_true hc
    obtain ⟨k1, k2, k3, k4, k5⟩ := vgi_once (bs_lt b) (z := (vgi (bs b) p bits).1) (e := (vgi (bs b) p bits).2.1) (Prod.ext rfl (Prod.ext rfl hc))
    have kb : bi (vgi (bs b) p bits).1 ≤ 8 * b.size := by
      have hl : (btx (vgi (bs b) p bits).1.natAbs).length = (bi (vgi (bs b) p bits).1 + 7) / 8 := btx_length _
      have h5 := congrArg List.length k4
      unfold vpi at h5
      rw [List.length_append, List.length_take, List.length_drop] at h5
      omega
    try simp only [go_sem, Nat.reduceEqDiff, Nat.reduceAdd, Bool.false_eq_true, Nat.reduceBEq, ↓reduceIte]
    refine ev_neg (by rw [hc]; simp) ?_
    rw [if_neg (by rw [hc]; simp)]
    generalize (vgi (bs b) p bits).1 = n at *
    generalize (vgi (bs b) p bits).2.1 = f at *
    generalize (vgi (bs b) p bits).2.2 = c at *
    try simp only [go_sem, Nat.reduceEqDiff, Nat.reduceAdd, Bool.false_eq_true, Nat.reduceBEq, ↓reduceIte]
    first | refine ev_call (vgetInt_ok _ b hb (f : Int) (by omega) (by omega) bits h3 h4) ?_ | refine ev_callP (vgetInt_ok _ b hb (f : Int) (by omega) (by omega) bits h3 h4) ?_
    rintro v_12 H_12 le_12 ⟨vb, rfl, g2⟩ _
    replace g1 := g1.le le_12
    try simp only [go_sem, Nat.reduceEqDiff, Nat.reduceAdd, Bool.false_eq_true, Nat.reduceBEq, ↓reduceIte]
    obtain ⟨A2, l2, c2, t2, rfl⟩ := g2.form
    cases hc2 : decide ((vgi (bs b) (f : Int) bits).2.2 = 0) with
    | false =>
      have hc2 : (vgi (bs b) (f : Int) bits).2.2 ≠ 0 := of_decide_eq_false hc2
      try simp only [go_sem, Nat.reduceEqDiff, Nat.reduceAdd, Bool.false_eq_true, Nat.reduceBEq, ↓reduceIte]
      refine ev_pos hc2 ?_
      try simp only [go_sem, Nat.reduceEqDiff, Nat.reduceAdd, Bool.false_eq_true, Nat.reduceBEq, ↓reduceIte]
      rw [if_pos hc2]
      repeat' (with_reducible refine And.intro ?_ ?_)
      all_goals first | trivial | exact ⟨_, rfl, RatV.zero _⟩
    | true =>
      have hc2 : (vgi (bs b) (f : Int) bits).2.2 = 0 := of_decide_eq_true hc2
      obtain ⟨m1, m2, m3, m4, m5⟩ := vgi_once (bs_lt b) (z := (vgi (bs b) (f : Int) bits).1) (e := (vgi (bs b) (f : Int) bits).2.1) (Prod.ext rfl (Prod.ext rfl hc2))
      have mb : bi (vgi (bs b) (f : Int) bits).1 ≤ 8 * b.size := by
        have hl : (btx (vgi (bs b) (f : Int) bits).1.natAbs).length = (bi (vgi (bs b) (f : Int) bits).1 + 7) / 8 := btx_length _
        have h5 := congrArg List.length m4
        unfold vpi at h5
        rw [List.length_append, List.length_take, List.length_drop] at h5
        omega
      try simp only [go_sem, Nat.reduceEqDiff, Nat.reduceAdd, Bool.false_eq_true, Nat.reduceBEq, ↓reduceIte]
      refine ev_neg (by rw [hc2]; simp) ?_
      rw [if_neg (by rw [hc2]; simp)]
      generalize (vgi (bs b) (f : Int) bits).1 = d at *
      generalize (vgi (bs b) (f : Int) bits).2.1 = g at *
      generalize (vgi (bs b) (f : Int) bits).2.2 = c9 at *
      try simp only [go_sem, Nat.reduceEqDiff, Nat.reduceAdd, Bool.false_eq_true, Nat.reduceBEq, ↓reduceIte]
      by_cases hd0 : d = 0
      · subst hd0
        first | refine ev_call (rnew_ok0 _ _ _ n g1 g2) ?_ | refine ev_callP (rnew_ok0 _ _ _ n g1 g2) ?_
        rintro v_13 H_13 le_13 ⟨v3, rfl, g3⟩ _
        try simp only [go_sem, Nat.reduceEqDiff, Nat.reduceAdd, Bool.false_eq_true, Nat.reduceBEq, ↓reduceIte]
        obtain ⟨A3, l3, c3, t3, B3, m3', e3, rfl⟩ := g3.form
        try simp only [go_sem, Nat.reduceEqDiff, Nat.reduceAdd, Bool.false_eq_true, Nat.reduceBEq, ↓reduceIte]
        rw [if_pos (.inl (by decide))]
        repeat' (with_reducible refine And.intro ?_ ?_)
        all_goals first | trivial | exact ⟨_, rfl, RatV.zero _⟩
      · have hbr := br_divI n d
        first | refine ev_call (rnew_ok1 _ _ _ n d g1 g2 (by omega) (by omega) hd0) ?_ | refine ev_callP (rnew_ok1 _ _ _ n d g1 g2 (by omega) (by omega) hd0) ?_
        rintro v_14 H_14 le_14 ⟨v3, rfl, g3⟩ _
        replace g2 := g2.le le_14
        try simp only [go_sem, Nat.reduceEqDiff, Nat.reduceAdd, Bool.false_eq_true, Nat.reduceBEq, ↓reduceIte]
        obtain ⟨A3, l3, c3, t3, B3, m3', e3, rfl⟩ := g3.form
        have hden : ((Rat.divInt n d).den : Int) = d ↔ ¬ (d ≤ 0 ∨ Nat.gcd d.natAbs n.natAbs ≠ 1) := by
          rw [divI_mk, least_den _ (show d.natAbs ≠ 0 by omega)]
          have hna : (if d < 0 then -n else n).natAbs = n.natAbs := by split <;> omega
          rw [hna]
          have hgp := Nat.gcd_pos_of_pos_left n.natAbs (show 0 < d.natAbs by omega)
          constructor
          · intro h
            obtain ⟨x, hx⟩ : ∃ x, d.natAbs / d.natAbs.gcd n.natAbs = x := ⟨_, rfl⟩
            rw [hx] at h
            have hd : 0 < d := by omega
            intro h5
            rcases h5 with h5 | h5
            · omega
            · have h7 : d.natAbs / d.natAbs.gcd n.natAbs < d.natAbs := Nat.div_lt_self (by omega) (by omega)
              rw [hx] at h7
              omega
          · intro h
            have hg : d.natAbs.gcd n.natAbs = 1 := Classical.not_not.1 fun hg => h (.inr hg)
            rw [hg, Nat.div_one]
            omega
        have k2' := bl_br (Rat.divInt n d)
        try simp only [go_sem, Nat.reduceEqDiff, Nat.reduceAdd, Bool.false_eq_true, Nat.reduceBEq, ↓reduceIte]
        first | refine ev_call (rden_ok _ _ _ g3 (by omega)) ?_ | refine ev_callP (rden_ok _ _ _ g3 (by omega)) ?_
        rintro v_15 H_15 le_15 g4 _
        replace g2 := g2.le le_15
        replace g3 := g3.le le_15
        try simp only [go_sem, Nat.reduceEqDiff, Nat.reduceAdd, Bool.false_eq_true, Nat.reduceBEq, ↓reduceIte]
        first | refine ev_call (wcmp_ok _ _ _ _ d g4 g2 (by rw [bi_cast]; omega) (by omega)) ?_ | refine ev_callP (wcmp_ok _ _ _ _ d g4 g2 (by rw [bi_cast]; omega) (by omega)) ?_
        rintro v_16 H_16 le_16 rfl _
        replace g3 := g3.le le_16
        try simp only [go_sem, Nat.reduceEqDiff, Nat.reduceAdd, Bool.false_eq_true, Nat.reduceBEq, ↓reduceIte]
        by_cases hq : ((Rat.divInt n d).den : Int) = d
        · rw [cmpI_eq hq]
          refine ev_neg (by simp) ?_
          rw [if_neg (hden.1 hq)]
          try simp only [go_sem, Nat.reduceEqDiff, Nat.reduceAdd, Bool.false_eq_true, Nat.reduceBEq, ↓reduceIte]
          repeat' (with_reducible refine And.intro ?_ ?_)
          all_goals first | trivial | exact ⟨_, rfl, g3⟩
        · refine ev_pos (by unfold cmpI; split <;> (try split) <;> omega) ?_
          rw [if_pos (Classical.not_not.1 fun h => hq (hden.2 h))]
          try simp only [go_sem, Nat.reduceEqDiff, Nat.reduceAdd, Bool.false_eq_true, Nat.reduceBEq, ↓reduceIte]
          repeat' (with_reducible refine And.intro ?_ ?_)
          all_goals first | trivial | exact ⟨_, rfl, RatV.zero _⟩

set_option maxHeartbeats 4000000 in
theorem vgetRatR_ok (H : PH) (b : ByteArray) (hb : b.size ≤ 100000000) (p : Int) (h1 : -9223372036854775808 ≤ p) (h2 : p ≤ 9223372036854775807) (bits : Int) (h3 : -9223372036854775808 ≤ bits) (h4 : bits ≤ 9223372036854775807) : FnP Try.prog 33 [.string b, .int .i64 p, .int .i64 bits] H fun v H' => ∃ va, v = .tuple #[va, .int .i64 ((vgr (bs b) p bits).2.1 : Int), .int .i64 (vgr (bs b) p bits).2.2] ∧ RRat H' va (vgr (bs b) p bits).1 := by
  have hsz := bs_length b
  refine of_cinctureref2_GetRat (by simp) ?_
  try simp only [go_sem, Nat.reduceEqDiff, Nat.reduceAdd, Bool.false_eq_true, Nat.reduceBEq, ↓reduceIte, p_cinctureref2_GetRat]
  first | refine ev_call (vgetIntR_ok _ b hb p h1 h2 bits h3 h4) ?_ | refine ev_callP (vgetIntR_ok _ b hb p h1 h2 bits h3 h4) ?_
  rintro v_17 H_17 le_17 ⟨va, rfl, g1⟩ _
  try simp only [go_sem, Nat.reduceEqDiff, Nat.reduceAdd, Bool.false_eq_true, Nat.reduceBEq, ↓reduceIte]
  unfold vgr
  obtain ⟨A1, l1, c1, t1, rfl⟩ := g1.form
  cases hc : decide ((vgi (bs b) p bits).2.2 = 0) with
  | false =>
    have hc : (vgi (bs b) p bits).2.2 ≠ 0 := of_decide_eq_false hc
    try simp only [go_sem, Nat.reduceEqDiff, Nat.reduceAdd, Bool.false_eq_true, Nat.reduceBEq, ↓reduceIte]
    refine ev_pos hc ?_
    try simp only [go_sem, Nat.reduceEqDiff, Nat.reduceAdd, Bool.false_eq_true, Nat.reduceBEq, ↓reduceIte]
    rw [if_pos hc]
    repeat' (with_reducible refine And.intro ?_ ?_)
    all_goals first | trivial | exact ⟨_, rfl, RRat.zero _⟩
  | true =>
    have hc : (vgi (bs b) p bits).2.2 = 0 := of_decide_eq_true hc
    obtain ⟨k1, k2, k3, k4, k5⟩ := vgi_once (bs_lt b) (z := (vgi (bs b) p bits).1) (e := (vgi (bs b) p bits).2.1) (Prod.ext rfl (Prod.ext rfl hc))
    have kb : bi (vgi (bs b) p bits).1 ≤ 8 * b.size := by
      have hl : (btx (vgi (bs b) p bits).1.natAbs).length = (bi (vgi (bs b) p bits).1 + 7) / 8 := btx_length _
      have h5 := congrArg List.length k4
      unfold vpi at h5
      rw [List.length_append, List.length_take, List.length_drop] at h5
      omega
    try simp only [go_sem, Nat.reduceEqDiff, Nat.reduceAdd, Bool.false_eq_true, Nat.reduceBEq, ↓reduceIte]
    refine ev_neg (by rw [hc]; simp) ?_
    rw [if_neg (by rw [hc]; simp)]
    generalize (vgi (bs b) p bits).1 = n at *
    generalize (vgi (bs b) p bits).2.1 = f at *
    generalize (vgi (bs b) p bits).2.2 = c at *
    try simp only [go_sem, Nat.reduceEqDiff, Nat.reduceAdd, Bool.false_eq_true, Nat.reduceBEq, ↓reduceIte]
    first | refine ev_call (vgetIntR_ok _ b hb (f : Int) (by omega) (by omega) bits h3 h4) ?_ | refine ev_callP (vgetIntR_ok _ b hb (f : Int) (by omega) (by omega) bits h3 h4) ?_
    rintro v_18 H_18 le_18 ⟨vb, rfl, g2⟩ _
    replace g1 := g1.le le_18
    try simp only [go_sem, Nat.reduceEqDiff, Nat.reduceAdd, Bool.false_eq_true, Nat.reduceBEq, ↓reduceIte]
    obtain ⟨A2, l2, c2, t2, rfl⟩ := g2.form
    cases hc2 : decide ((vgi (bs b) (f : Int) bits).2.2 = 0) with
    | false =>
      have hc2 : (vgi (bs b) (f : Int) bits).2.2 ≠ 0 := of_decide_eq_false hc2
      try simp only [go_sem, Nat.reduceEqDiff, Nat.reduceAdd, Bool.false_eq_true, Nat.reduceBEq, ↓reduceIte]
      refine ev_pos hc2 ?_
      try simp only [go_sem, Nat.reduceEqDiff, Nat.reduceAdd, Bool.false_eq_true, Nat.reduceBEq, ↓reduceIte]
      rw [if_pos hc2]
      repeat' (with_reducible refine And.intro ?_ ?_)
      all_goals first | trivial | exact ⟨_, rfl, RRat.zero _⟩
    | true =>
      have hc2 : (vgi (bs b) (f : Int) bits).2.2 = 0 := of_decide_eq_true hc2
      obtain ⟨m1, m2, m3, m4, m5⟩ := vgi_once (bs_lt b) (z := (vgi (bs b) (f : Int) bits).1) (e := (vgi (bs b) (f : Int) bits).2.1) (Prod.ext rfl (Prod.ext rfl hc2))
      have mb : bi (vgi (bs b) (f : Int) bits).1 ≤ 8 * b.size := by
        have hl : (btx (vgi (bs b) (f : Int) bits).1.natAbs).length = (bi (vgi (bs b) (f : Int) bits).1 + 7) / 8 := btx_length _
        have h5 := congrArg List.length m4
        unfold vpi at h5
        rw [List.length_append, List.length_take, List.length_drop] at h5
        omega
      try simp only [go_sem, Nat.reduceEqDiff, Nat.reduceAdd, Bool.false_eq_true, Nat.reduceBEq, ↓reduceIte]
      refine ev_neg (by rw [hc2]; simp) ?_
      rw [if_neg (by rw [hc2]; simp)]
      generalize (vgi (bs b) (f : Int) bits).1 = d at *
      generalize (vgi (bs b) (f : Int) bits).2.1 = g at *
      generalize (vgi (bs b) (f : Int) bits).2.2 = c9 at *
      obtain ⟨x1, _⟩ := g1.abs
      obtain ⟨x2, hsg⟩ := g2.abs
      try simp only [go_sem, Nat.reduceEqDiff, Nat.reduceAdd, Bool.false_eq_true, Nat.reduceBEq, ↓reduceIte]
      first | refine ev_call (rsign_ok _ _ _ g2) ?_ | refine ev_callP (rsign_ok _ _ _ g2) ?_
      rintro v_19 H_19 le_19 rfl _
      replace g1 := g1.le le_19
      replace g2 := g2.le le_19
      replace x1 := x1.le le_19
      replace x2 := x2.le le_19
      try simp only [go_sem, Nat.reduceEqDiff, Nat.reduceAdd, Bool.false_eq_true, Nat.reduceBEq, ↓reduceIte]
      refine ev_if (fun h5 => ?_) (fun h5 => ?_)
      · have hd : d ≤ 0 := by
          unfold sgnI at h5
          split at h5
          · omega
          · split at h5 <;> omega
        rw [if_pos (.inl hd)]
        try simp only [go_sem, Nat.reduceEqDiff, Nat.reduceAdd, Bool.false_eq_true, Nat.reduceBEq, ↓reduceIte]
        repeat' (with_reducible refine And.intro ?_ ?_)
        all_goals first | trivial | exact ⟨_, rfl, RRat.zero _⟩
      · have hd : 0 < d := by
          unfold sgnI at h5
          split at h5
          · omega
          · split at h5 <;> omega
        have hgb := @bl_gcd d.natAbs n.natAbs (8 * b.size) (by omega) mb
        try simp only [go_sem, Nat.reduceEqDiff, Nat.reduceAdd, Bool.false_eq_true, Nat.reduceBEq, ↓reduceIte]
        first | refine ev_call (rgcd_ok _ _ _ _ _ x2 x1 (show bl d.natAbs ≤ _ by unfold bi at mb; omega) (show bl n.natAbs ≤ _ by unfold bi at kb; omega)) ?_ | refine ev_callP (rgcd_ok _ _ _ _ _ x2 x1 (show bl d.natAbs ≤ _ by unfold bi at mb; omega) (show bl n.natAbs ≤ _ by unfold bi at kb; omega)) ?_
        rintro v_20 H_20 le_20 g3 _
        replace g1 := g1.le le_20
        replace g2 := g2.le le_20
        replace x2 := x2.le le_20
        try simp only [go_sem, Nat.reduceEqDiff, Nat.reduceAdd, Bool.false_eq_true, Nat.reduceBEq, ↓reduceIte]
        first | refine ev_call (rnatOf_ok _ 1 (by decide)) ?_ | refine ev_callP (rnatOf_ok _ 1 (by decide)) ?_
        rintro v_21 H_21 le_21 g4 _
        replace g1 := g1.le le_21
        replace g2 := g2.le le_21
        replace g3 := g3.le le_21
        replace x2 := x2.le le_21
        try simp only [go_sem, Nat.reduceEqDiff, Nat.reduceAdd, Bool.false_eq_true, Nat.reduceBEq, ↓reduceIte]
        first | refine ev_call (rcmp_ok _ _ _ _ _ g3 g4 (by omega) (by decide)) ?_ | refine ev_callP (rcmp_ok _ _ _ _ _ g3 g4 (by omega) (by decide)) ?_
        rintro v_22 H_22 le_22 rfl _
        replace g1 := g1.le le_22
        replace g2 := g2.le le_22
        replace x2 := x2.le le_22
        try simp only [go_sem, Nat.reduceEqDiff, Nat.reduceAdd, Bool.false_eq_true, Nat.reduceBEq, ↓reduceIte]
        by_cases hg : Nat.gcd d.natAbs n.natAbs = 1
        · refine ev_neg (by rw [hg]; decide) ?_
          rw [if_neg (show ¬ (d ≤ 0 ∨ d.natAbs.gcd n.natAbs ≠ 1) by intro h; rcases h with h | h; omega; exact h hg)]
          try simp only [go_sem, Nat.reduceEqDiff, Nat.reduceAdd, Bool.false_eq_true, Nat.reduceBEq, ↓reduceIte]
          have hdn : d = ((d.natAbs : Nat) : Int) := by omega
          obtain ⟨q1, q2⟩ := mk_coprime (z := n) (y := d.natAbs) (by omega) hg
          have hq : Rat.divInt n d = mkRat n d.natAbs := by
            conv => lhs; rw [hdn]
            rw [Rat.divInt_ofNat]
          rw [hq]
          repeat' (with_reducible refine And.intro ?_ ?_)
          all_goals first | trivial | exact ⟨_, rfl, RRat.mk (by rw [q1]; exact g1) (by rw [q2]; exact x2)⟩
        · refine ev_pos (by unfold cmpN; split <;> (try split) <;> omega) ?_
          rw [if_pos (.inr hg)]
          try simp only [go_sem, Nat.reduceEqDiff, Nat.reduceAdd, Bool.false_eq_true, Nat.reduceBEq, ↓reduceIte]
          repeat' (with_reducible refine And.intro ?_ ?_)
          all_goals first | trivial | exact ⟨_, rfl, RRat.zero _⟩

end Go.Proofs.Ytalnnaoabhimdaa.X
set_option linter.unusedVariables false
set_option linter.unusedSimpArgs false
namespace Go.Proofs.Ytalnnaoabhimdaa.X
open Go Go.RowKit Go.Proofs

/-- a text is a number, not too long -/
def qok (a : ByteArray) : Bool := ratOk (bs a) && decide (a.size ≤ 100)
theorem qok_br {a : ByteArray} (h : qok a = true) : br (rv (bs a)) ≤ 401 ∧ ofB (rtx (rv (bs a))) = a ∧ ratOk (bs a) = true := by
  unfold qok at h
  rw [Bool.and_eq_true, decide_eq_true_eq] at h
  have := rv_br h.1
  rw [bs_length] at this
  exact ⟨by omega, by rw [rtx_rv h.1, ofB_bs], h.1⟩

theorem numQ_ok (H : PH) (a : ByteArray) (hy : a.size ≤ 9223372036854775807) : FnP Try.prog 23 [.string a] H fun v H' => ∃ va ra, v = .tuple #[va, ra, .bool (qok a)] ∧ RatV H' va (if qok a then rv (bs a) else 0) ∧ RRat H' ra (if qok a then rv (bs a) else 0) := by
  refine of_cincturelaw3_Num (by simp) ?_
  try simp only [go_sem, Nat.reduceEqDiff, Nat.reduceAdd, Bool.false_eq_true, Nat.reduceBEq, ↓reduceIte, p_cincturelaw3_Num]
  first | refine ev_call (rparseR_ok _ a hy) ?_ | refine ev_callP (rparseR_ok _ a hy) ?_
  rintro v_1 H_1 le_1 ⟨ra, rfl, h1⟩ _
  try simp only [go_sem, Nat.reduceEqDiff, Nat.reduceAdd, Bool.false_eq_true, Nat.reduceBEq, ↓reduceIte]
  obtain ⟨b1, A1, l1, c1, B1, m1, e1, rfl⟩ := h1.form
  have bad : qok a = false → ∀ H' : PH, ∃ va ra, (Value.tuple #[.agg #[.slice none 0 0, .bool false, .slice none 0 0], .agg #[.bool false, .slice none 0 0, .slice none 0 0], .bool false]) = .tuple #[va, ra, .bool (qok a)] ∧ RatV H' va (if qok a then rv (bs a) else 0) ∧ RRat H' ra (if qok a then rv (bs a) else 0) := by
    intro h H'
    rw [h]
    exact ⟨_, _, rfl, RatV.zero _, RRat.zero _⟩
  cases hk : ratOk (bs a) with
  | false =>
    try simp only [go_sem, Nat.reduceEqDiff, Nat.reduceAdd, Bool.false_eq_true, Nat.reduceBEq, ↓reduceIte, hk]
    exact ⟨by trivial, bad (by unfold qok; rw [hk]; rfl) _⟩
  | true =>
    try simp only [go_sem, Nat.reduceEqDiff, Nat.reduceAdd, Bool.false_eq_true, Nat.reduceBEq, ↓reduceIte, hk]
    refine ev_if (fun h => ?_) (fun h => ?_)
    · try simp only [go_sem, Nat.reduceEqDiff, Nat.reduceAdd, Bool.false_eq_true, Nat.reduceBEq, ↓reduceIte]
      exact ⟨by trivial, bad (by unfold qok; rw [hk, decide_eq_false (show ¬ a.size ≤ 100 by omega)]; rfl) _⟩
    · have hn : qok a = true := by unfold qok; rw [hk, decide_eq_true (show a.size ≤ 100 by omega)]; rfl
      try simp only [go_sem, Nat.reduceEqDiff, Nat.reduceAdd, Bool.false_eq_true, Nat.reduceBEq, ↓reduceIte]
      first | refine ev_call (rparse'_ok _ a hy) ?_ | refine ev_callP (rparse'_ok _ a hy) ?_
      rintro v_2 H_2 le_2 ⟨va, rfl, h2⟩ _
      replace h1 := h1.le le_2
      try simp only [go_sem, Nat.reduceEqDiff, Nat.reduceAdd, Bool.false_eq_true, Nat.reduceBEq, ↓reduceIte]
      obtain ⟨A2, l2, c2, b2, B2, m2, e2, rfl⟩ := h2.form
      rw [hk, if_pos rfl] at h1 h2
      try simp only [go_sem, Nat.reduceEqDiff, Nat.reduceAdd, Bool.false_eq_true, Nat.reduceBEq, ↓reduceIte]
      rw [hn]
      repeat' (with_reducible refine And.intro ?_ ?_)
      all_goals first | trivial | exact ⟨_, _, rfl, h2, h1⟩

theorem isQ_ok (H : PH) (va vb : Value) (q : Rat) (ha : RatV H va q) (hb : RRat H vb q) (hbp : br q ≤ 4294967000) : FnP Try.prog 34 [va, vb] H fun v _ => v = .bool true := by
  obtain ⟨A, l, c, b, B, m, e, rfl⟩ := ha.form
  obtain ⟨b1, A1, l1, c1, B1, m1, e1, rfl⟩ := hb.form
  refine of_cincturelaw3_Is (by simp) ?_
  try simp only [go_sem, Nat.reduceEqDiff, Nat.reduceAdd, Bool.false_eq_true, Nat.reduceBEq, ↓reduceIte, p_cincturelaw3_Is]
  first | refine ev_call (rtext_ok' _ _ _ ha hbp) ?_ | refine ev_callP (rtext_ok' _ _ _ ha hbp) ?_
  rintro v_3 H_3 le_3 rfl _
  replace hb := hb.le le_3
  try simp only [go_sem, Nat.reduceEqDiff, Nat.reduceAdd, Bool.false_eq_true, Nat.reduceBEq, ↓reduceIte]
  first | refine ev_call (rtextR_ok _ _ _ hb hbp) ?_ | refine ev_callP (rtextR_ok _ _ _ hb hbp) ?_
  rintro v_4 H_4 le_4 rfl _
  try simp only [go_sem, Nat.reduceEqDiff, Nat.reduceAdd, Bool.false_eq_true, Nat.reduceBEq, ↓reduceIte]
  refine ev_pos (by trivial) ?_
  try simp only [go_sem, Nat.reduceEqDiff, Nat.reduceAdd, Bool.false_eq_true, Nat.reduceBEq, ↓reduceIte]
  exact ⟨by trivial, by trivial⟩

/-- a number from lo to hi, made of any number -/
def wth (n lo hi : Int) : Int := lo + (if n.tmod (hi - lo + 1) < 0 then n.tmod (hi - lo + 1) + (hi - lo + 1) else n.tmod (hi - lo + 1))
theorem wth_bd {n lo hi : Int} (h : lo ≤ hi) : lo ≤ wth n lo hi ∧ wth n lo hi ≤ hi := by
  unfold wth
  have h1 := Int.lt_tmod_of_pos n (show 0 < hi - lo + 1 by omega)
  have h2 := Int.tmod_lt_of_pos n (show 0 < hi - lo + 1 by omega)
  split <;> omega

theorem within_ok (H : PH) (n lo hi : Int) (h1 : -9223372036854775808 ≤ n) (h2 : n ≤ 9223372036854775807) (h3 : -1000 ≤ lo) (h4 : lo ≤ hi) (h5 : hi ≤ 1000) : FnP Try.prog 20 [.int .i64 n, .int .i64 lo, .int .i64 hi] H fun v _ => v = .int .i64 (wth n lo hi) := by
  have b1 := Int.lt_tmod_of_pos n (show 0 < hi - lo + 1 by omega)
  have b2 := Int.tmod_lt_of_pos n (show 0 < hi - lo + 1 by omega)
  refine of_cincturebook_Within (by simp) ?_
  try simp only [go_sem, Nat.reduceEqDiff, Nat.reduceAdd, Bool.false_eq_true, Nat.reduceBEq, ↓reduceIte, p_cincturebook_Within]
  rw [w64 (hi - lo) (by omega) (by omega), w64 (hi - lo + 1) (by omega) (by omega)]
  refine ev_rem (by omega) ?_
  try simp only [go_sem, Nat.reduceEqDiff, Nat.reduceAdd, Bool.false_eq_true, Nat.reduceBEq, ↓reduceIte]
  refine ev_if (fun h => ?_) (fun h => ?_)
  · try simp only [go_sem, Nat.reduceEqDiff, Nat.reduceAdd, Bool.false_eq_true, Nat.reduceBEq, ↓reduceIte]
    rw [w64 (hi - lo) (by omega) (by omega), w64 (hi - lo + 1) (by omega) (by omega), w64 (n.tmod (hi - lo + 1) + (hi - lo + 1)) (by omega) (by omega), w64 (lo + (n.tmod (hi - lo + 1) + (hi - lo + 1))) (by omega) (by omega)]
    refine ⟨by trivial, ?_⟩
    unfold wth
    rw [if_pos h]
  · try simp only [go_sem, Nat.reduceEqDiff, Nat.reduceAdd, Bool.false_eq_true, Nat.reduceBEq, ↓reduceIte]
    rw [w64 (lo + n.tmod (hi - lo + 1)) (by omega) (by omega)]
    refine ⟨by trivial, ?_⟩
    unfold wth
    rw [if_neg h]

end Go.Proofs.Ytalnnaoabhimdaa.X
