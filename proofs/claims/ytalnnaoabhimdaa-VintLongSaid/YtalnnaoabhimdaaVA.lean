/- Numbers as bytes: plain facts. -/
import Derived.Test.YtalnnaoabhimdaaVH
import Derived.Test.YtalnnaoabhimdaaVT
import Derived.Test.YtalnnaoabhimdaaVK
import Derived.Test.YtalnnaoabhimdaaVD
set_option linter.unusedVariables false
set_option linter.unusedSimpArgs false
namespace Go.Proofs.Ytalnnaoabhimdaa.X

/-- a number's bytes -/
def vb (v : Nat) : List Nat := if h : v < 128 then [v] else (v % 128 + 128) :: vb (v / 128)
termination_by v
decreasing_by omega
theorem vb_small {v : Nat} (h : v < 128) : vb v = [v] := by rw [vb, dif_pos h]
theorem vb_big {v : Nat} (h : ¬ v < 128) : vb v = (v % 128 + 128) :: vb (v / 128) := by rw [vb, dif_neg h]
theorem vb_lt (v : Nat) : ∀ d ∈ vb v, d < 256 := by
  induction v using Nat.strongRecOn with
  | _ v ih =>
    intro d hd
    by_cases h : v < 128
    · rw [vb_small h] at hd
      simp at hd
      omega
    · rw [vb_big h] at hd
      rcases List.mem_cons.1 hd with rfl | hd
      · omega
      · exact ih (v / 128) (by omega) d hd
theorem vb_pos (v : Nat) : 0 < (vb v).length := by
  by_cases h : v < 128
  · rw [vb_small h]; simp
  · rw [vb_big h]; simp
theorem vb_mono : ∀ {v w : Nat}, v ≤ w → (vb v).length ≤ (vb w).length := by
  intro v
  induction v using Nat.strongRecOn with
  | _ v ih =>
    intro w hw
    by_cases h : v < 128
    · rw [vb_small h]
      exact vb_pos w
    · rw [vb_big h, vb_big (show ¬ w < 128 by omega), List.length_cons, List.length_cons]
      have := ih (v / 128) (by omega) (w := w / 128) (by omega)
      omega
theorem vb_len : ∀ (k v : Nat), v < 128 ^ (k + 1) → (vb v).length ≤ k + 1 := by
  intro k
  induction k with
  | zero =>
    intro v hv
    rw [vb_small (by simpa using hv)]; simp
  | succ k ih =>
    intro v hv
    by_cases h : v < 128
    · rw [vb_small h]; simp
    · rw [vb_big h, List.length_cons]
      have := ih (v / 128) (by rw [Nat.div_lt_iff_lt_mul (by decide), ← Nat.pow_succ]; exact hv)
      omega
theorem vb_len10 {v : Nat} (h : v < 18446744073709551616) : (vb v).length ≤ 10 := vb_len 9 v (by omega)

/-- reading on: the place, what was read -/
def vgt : Nat → Nat → List Nat → Nat × Nat × Int
  | _, _, [] => (0, 0, 4)
  | i, a, c :: l => if (i = 9 ∧ 1 < c) ∨ (0 < i ∧ c = 0) then (0, 0, 6) else if c < 128 then (a + c * 128 ^ i, i + 1, 0) else vgt (i + 1) (a + c % 128 * 128 ^ i) l
theorem vgt_nil (i a : Nat) : vgt i a [] = (0, 0, 4) := rfl
theorem vgt_cons (i a c : Nat) (l : List Nat) : vgt i a (c :: l) = if (i = 9 ∧ 1 < c) ∨ (0 < i ∧ c = 0) then (0, 0, 6) else if c < 128 then (a + c * 128 ^ i, i + 1, 0) else vgt (i + 1) (a + c % 128 * 128 ^ i) l := rfl
theorem p9 : (128 : Nat) ^ 9 = 9223372036854775808 := by decide
theorem p128_le {i : Nat} (h : i ≤ 9) : 128 ^ i ≤ 9223372036854775808 := by rw [← p9]; exact Nat.pow_le_pow_right (by decide) h
theorem vgt_put : ∀ (v i a : Nat) (r : List Nat), i ≤ 9 → (0 < i → 0 < v) → v * 128 ^ i < 18446744073709551616 → vgt i a (vb v ++ r) = (a + v * 128 ^ i, i + (vb v).length, 0) := by
  intro v
  induction v using Nat.strongRecOn with
  | _ v ih =>
    intro i a r hi h0 hv
    have h9 : i = 9 → v < 2 := by
      intro h; subst h; rw [p9] at hv; omega
    by_cases h : v < 128
    · rw [vb_small h, List.cons_append, vgt_cons, if_neg (by omega), if_pos h]; rfl
    · have hi9 : i ≠ 9 := fun e => by have := h9 e; omega
      rw [vb_big h, List.cons_append, vgt_cons, if_neg (by omega), if_neg (by omega)]
      have e1 : v / 128 * 128 ^ (i + 1) + v % 128 * 128 ^ i = v * 128 ^ i := by
        rw [Nat.pow_succ, Nat.mul_comm (128 ^ i) 128, ← Nat.mul_assoc, ← Nat.add_mul]
        congr 1
        omega
      rw [ih (v / 128) (by omega) (i + 1) _ r (by omega) (fun _ => by omega) (by omega), show (v % 128 + 128) % 128 = v % 128 by omega, List.length_cons]
      refine Prod.ext ?_ (Prod.ext ?_ rfl)
      · show a + v % 128 * 128 ^ i + v / 128 * 128 ^ (i + 1) = a + v * 128 ^ i
        omega
      · show i + 1 + (vb (v / 128)).length = i + ((vb (v / 128)).length + 1)
        omega
theorem vgt_once : ∀ (l : List Nat) (i a w n : Nat), i ≤ 9 → (∀ d ∈ l, d < 256) → vgt i a l = (w, n, 0) → ∃ v, w = a + v * 128 ^ i ∧ n = i + (vb v).length ∧ l.take (vb v).length = vb v ∧ (0 < i → 0 < v) ∧ v * 128 ^ i < 18446744073709551616 ∧ (vb v).length ≤ l.length := by
  intro l
  induction l with
  | nil => intro i a w n _ _ h; rw [vgt_nil] at h; injection h with h1 h2; injection h2 with h2 h3; exact absurd h3 (by decide)
  | cons c l ih =>
    intro i a w n hi hl h
    rw [vgt_cons] at h
    have hc := hl c (by simp)
    split at h
    · injection h with h1 h2; injection h2 with h2 h3; exact absurd h3 (by decide)
    · rename_i hno
      split at h
      · rename_i hc2
        injection h with h1 h2; injection h2 with h2 h3
        refine ⟨c, h1.symm, by rw [vb_small hc2]; exact h2.symm, by rw [vb_small hc2]; rfl, by omega, ?_, by rw [vb_small hc2]; simp⟩
        by_cases h9 : i = 9
        · subst h9; rw [p9]; omega
        · have h8 : 128 ^ (i + 1) ≤ 9223372036854775808 := p128_le (by omega)
          rw [Nat.pow_succ] at h8
          have : c * 128 ^ i ≤ 128 * 128 ^ i := Nat.mul_le_mul_right _ (by omega)
          omega
      · rename_i hc2
        obtain ⟨v, k1, k2, k3, k4, k5, k6⟩ := ih (i + 1) _ w n (by omega) (fun d hd => hl d (List.mem_cons_of_mem _ hd)) h
        have hv0 := k4 (by omega)
        have e0 : ¬ (c % 128 + 128 * v) < 128 := by omega
        have e1 : vb (c % 128 + 128 * v) = c :: vb v := by
          rw [vb_big e0, show (c % 128 + 128 * v) % 128 + 128 = c by omega, show (c % 128 + 128 * v) / 128 = v by omega]
        have e2 : (c % 128 + 128 * v) * 128 ^ i = c % 128 * 128 ^ i + v * 128 ^ (i + 1) := by
          rw [Nat.pow_succ, Nat.mul_comm (128 ^ i) 128, ← Nat.mul_assoc, ← Nat.add_mul, Nat.mul_comm v 128]
        refine ⟨c % 128 + 128 * v, by rw [k1, e2]; omega, by rw [e1, List.length_cons]; omega, by rw [e1, List.length_cons, List.take_succ_cons, k3], fun _ => by omega, ?_, by rw [e1, List.length_cons, List.length_cons]; omega⟩
        rw [e2]
        have h8 : 128 ^ (i + 1) ≤ 9223372036854775808 := p128_le (by omega)
        rw [Nat.pow_succ] at h8 k5 ⊢
        have h7 : c % 128 * 128 ^ i < 128 ^ i * 128 := by
          rw [Nat.mul_comm (128 ^ i)]
          exact Nat.mul_lt_mul_of_pos_right (by omega) (Nat.pow_pos (by decide))
        obtain ⟨q, hq⟩ : ∃ q, 18446744073709551616 = q * (128 ^ i * 128) := by
          refine ⟨2 * 128 ^ (9 - (i + 1)), ?_⟩
          rw [← Nat.pow_succ, Nat.mul_assoc, ← Nat.pow_add, show 9 - (i + 1) + (i + 1) = 9 by omega, p9]
        rw [hq] at k5 ⊢
        have hpos : 0 < 128 ^ i * 128 := Nat.mul_pos (Nat.pow_pos (by decide)) (by decide)
        have hvq : v < q := Nat.lt_of_mul_lt_mul_right k5
        have : (v + 1) * (128 ^ i * 128) ≤ q * (128 ^ i * 128) := Nat.mul_le_mul_right _ hvq
        rw [Nat.add_mul, Nat.one_mul] at this
        omega
theorem vgt_cut : ∀ (v i a k : Nat), i ≤ 9 → (0 < i → 0 < v) → v * 128 ^ i < 18446744073709551616 → k < (vb v).length → vgt i a ((vb v).take k) = (0, 0, 4) := by
  intro v
  induction v using Nat.strongRecOn with
  | _ v ih =>
    intro i a k hi h0 hv hk
    cases k with
    | zero => rw [List.take_zero]; rfl
    | succ k =>
      have h : ¬ v < 128 := fun h => by rw [vb_small h] at hk; simp at hk
      have hi9 : i ≠ 9 := fun e => by subst e; rw [p9] at hv; omega
      rw [vb_big h, List.length_cons] at hk
      rw [vb_big h, List.take_succ_cons, vgt_cons, if_neg (by omega), if_neg (by omega)]
      have e1 : v / 128 * 128 ^ (i + 1) + v % 128 * 128 ^ i = v * 128 ^ i := by
        rw [Nat.pow_succ, Nat.mul_comm (128 ^ i) 128, ← Nat.mul_assoc, ← Nat.add_mul]
        congr 1
        omega
      exact ih (v / 128) (by omega) (i + 1) _ k (by omega) (fun _ => by omega) (by omega) (by omega)
theorem vgt_long : ∀ (l : List Nat) (i a : Nat), i ≤ 9 → (∀ d ∈ l, 128 ≤ d) → vgt i a l = if 9 < i + l.length then (0, 0, 6) else (0, 0, 4) := by
  intro l
  induction l with
  | nil => intro i a hi _; rw [vgt_nil, if_neg (by simp; omega)]
  | cons c l ih =>
    intro i a hi hl
    have hc := hl c (by simp)
    rw [vgt_cons, List.length_cons]
    by_cases h9 : i = 9
    · rw [if_pos (by omega), if_pos (by omega)]
    · rw [if_neg (by omega), if_neg (by omega), ih (i + 1) _ (by omega) (fun d hd => hl d (List.mem_cons_of_mem _ hd)), show i + 1 + l.length = i + (l.length + 1) by omega]
/-- what is read below its tenth byte, is below 128 to its place -/
theorem acc_lt {a c i : Nat} (ha : a < 128 ^ i) : a + c % 128 * 128 ^ i < 128 ^ (i + 1) := by
  have : (c % 128 + 1) * 128 ^ i ≤ 128 * 128 ^ i := Nat.mul_le_mul_right _ (by omega)
  rw [Nat.add_mul, Nat.one_mul] at this
  rw [Nat.pow_succ, Nat.mul_comm (128 ^ i) 128]
  omega

/-- reading at a place -/
def vg (l : List Nat) (p : Int) : Nat × Nat × Int :=
  if p < 0 ∨ (l.length : Int) < p then (0, 0, 1) else
  if (vgt 0 0 (l.drop p.toNat)).2.2 = 0 then ((vgt 0 0 (l.drop p.toNat)).1, p.toNat + (vgt 0 0 (l.drop p.toNat)).2.1, 0) else (0, 0, (vgt 0 0 (l.drop p.toNat)).2.2)
theorem vg_at {l : List Nat} {p : Nat} (h : p ≤ l.length) : vg l (p : Int) = if (vgt 0 0 (l.drop p)).2.2 = 0 then ((vgt 0 0 (l.drop p)).1, p + (vgt 0 0 (l.drop p)).2.1, 0) else (0, 0, (vgt 0 0 (l.drop p)).2.2) := by
  unfold vg
  rw [if_neg (by omega), Int.toNat_natCast]
theorem vg_put (a r : List Nat) {v : Nat} (hv : v < 18446744073709551616) : vg (a ++ (vb v ++ r)) (a.length : Int) = (v, a.length + (vb v).length, 0) := by
  rw [vg_at (by simp), List.drop_left', vgt_put v 0 0 r (by decide) (by omega) (by omega)]
  · simp
  · rfl
theorem vg_cut (a : List Nat) {v k : Nat} (hv : v < 18446744073709551616) (hk : k < (vb v).length) : vg (a ++ (vb v).take k) (a.length : Int) = (0, 0, 4) := by
  rw [vg_at (by simp), List.drop_left', vgt_cut v 0 0 k (by decide) (by omega) (by omega) hk]
  · rfl
  · rfl
theorem vg_once {l : List Nat} (hl : ∀ d ∈ l, d < 256) {p : Int} {v e : Nat} (h : vg l p = (v, e, 0)) : 0 ≤ p ∧ v < 18446744073709551616 ∧ e = p.toNat + (vb v).length ∧ e ≤ l.length ∧ (l.drop p.toNat).take (vb v).length = vb v := by
  unfold vg at h
  split at h
  · injection h with h1 h2; injection h2 with h2 h3; exact absurd h3 (by decide)
  · rename_i hp
    split at h
    · rename_i hc
      injection h with h1 h2; injection h2 with h2 h3
      obtain ⟨w, k1, k2, k3, k4, k5, k6⟩ := vgt_once (l.drop p.toNat) 0 0 v (vgt 0 0 (l.drop p.toNat)).2.1 (by decide) (fun d hd => hl d (List.mem_of_mem_drop hd)) (by
        rw [← h1]
        exact Prod.ext rfl (Prod.ext rfl hc))
      rw [Nat.pow_zero, Nat.mul_one, Nat.zero_add] at k1
      subst k1
      rw [List.length_drop] at k6
      refine ⟨by omega, by simpa using k5, by omega, by omega, k3⟩
    · injection h with h1 h2; injection h2 with h2 h3
      rename_i hc
      exact absurd h3 hc
theorem vg_code {l : List Nat} {p : Int} (h : (vg l p).2.2 ≠ 0) : vg l p = (0, 0, (vg l p).2.2) := by
  unfold vg at *
  split
  · rfl
  · rename_i h1
    rw [if_neg h1] at h
    split
    · rename_i h2
      rw [if_pos h2] at h
      exact absurd rfl h
    · rfl
theorem vg_end {l : List Nat} (hl : ∀ d ∈ l, d < 256) {p : Int} (h : (vg l p).2.2 = 0) : (vg l p).1 < 18446744073709551616 ∧ (vg l p).2.1 ≤ l.length ∧ p < ((vg l p).2.1 : Int) ∧ 0 ≤ p := by
  obtain ⟨h1, h2, h3, h4, h5⟩ := vg_once hl (v := (vg l p).1) (e := (vg l p).2.1) (Prod.ext rfl (Prod.ext rfl h))
  have := vb_pos (vg l p).1
  omega

/-- a whole number's bytes, and back -/
def vpi (z : Int) : List Nat := vb (2 * (btx z.natAbs).length + (if z < 0 then 1 else 0)) ++ btx z.natAbs
def vgi (l : List Nat) (p bits : Int) : Int × Nat × Int :=
  if (vg l p).2.2 ≠ 0 then (0, 0, (vg l p).2.2) else
  if max bits 0 / 8 + 1 < (((vg l p).1 / 2 : Nat) : Int) then (0, 0, 15) else
  if l.length - (vg l p).2.1 < (vg l p).1 / 2 then (0, 0, 4) else
  if rdOk ((l.drop (vg l p).2.1).take ((vg l p).1 / 2)) = false ∨ (vg l p).1 = 1 then (0, 0, 2) else
  if max bits 0 < (bl (bv ((l.drop (vg l p).2.1).take ((vg l p).1 / 2))) : Int) then (0, 0, 15) else
  (sg (decide ((vg l p).1 % 2 = 1)) (bv ((l.drop (vg l p).2.1).take ((vg l p).1 / 2))), (vg l p).2.1 + (vg l p).1 / 2, 0)
def vpr (q : Rat) : List Nat := vpi q.num ++ vpi q.den
def vgr (l : List Nat) (p bits : Int) : Rat × Nat × Int :=
  if (vgi l p bits).2.2 ≠ 0 then (0, 0, (vgi l p bits).2.2) else
  if (vgi l (vgi l p bits).2.1 bits).2.2 ≠ 0 then (0, 0, (vgi l (vgi l p bits).2.1 bits).2.2) else
  if (vgi l (vgi l p bits).2.1 bits).1 ≤ 0 ∨ Nat.gcd (vgi l (vgi l p bits).2.1 bits).1.natAbs (vgi l p bits).1.natAbs ≠ 1 then (0, 0, 2) else
  (Rat.divInt (vgi l p bits).1 (vgi l (vgi l p bits).2.1 bits).1, (vgi l (vgi l p bits).2.1 bits).2.1, 0)

theorem btx_rd (x : Nat) : rdOk (btx x) = true := by
  unfold rdOk
  by_cases hx : x = 0
  · subst hx; rfl
  · rw [Bool.or_eq_true]
    right
    have hb := bl_pos hx
    have h1 : (btx x).length = (bl x + 7) / 8 := btx_length x
    have h2 : (btx x).getD 0 0 = x / 256 ^ ((bl x + 7) / 8 - 1) % 256 := by
      unfold btx
      rw [List.getD, List.getElem?_reverse (by rw [dg_length]; omega), dg_length]
      exact dg_getD 256 _ x _ (by omega)
    have h3 : 256 ^ ((bl x + 7) / 8 - 1) ≤ x := by
      rw [show (256 : Nat) = 2 ^ 8 from rfl, ← Nat.pow_mul]
      exact Nat.le_trans (Nat.pow_le_pow_right (by decide) (by omega)) (two_pow_le_bl hx)
    have h4 : x < 256 ^ ((bl x + 7) / 8 - 1) * 256 := by
      rw [← Nat.pow_succ, show (256 : Nat) = 2 ^ 8 from rfl, ← Nat.pow_mul]
      exact Nat.lt_of_lt_of_le (lt_two_pow_bl x) (Nat.pow_le_pow_right (by decide) (by omega))
    have h5 : 0 < x / 256 ^ ((bl x + 7) / 8 - 1) := Nat.div_pos h3 (Nat.pow_pos (by decide))
    have h6 : x / 256 ^ ((bl x + 7) / 8 - 1) < 256 := by
      rw [Nat.div_lt_iff_lt_mul (Nat.pow_pos (by decide)), Nat.mul_comm]; exact h4
    rw [h2, Nat.mod_eq_of_lt h6]
    simpa using Nat.ne_of_gt h5
theorem bv_btx (x : Nat) : bv (btx x) = x := by
  have h := bv_rev (dg 256 ((bl x + 7) / 8) x)
  unfold btx
  rw [h, lv_dg]
  refine Nat.mod_eq_of_lt ?_
  rw [show (256 : Nat) = 2 ^ 8 from rfl, ← Nat.pow_mul]
  exact Nat.lt_of_lt_of_le (lt_two_pow_bl x) (Nat.pow_le_pow_right (by decide) (by omega))
theorem vpi_lt (z : Int) : ∀ d ∈ vpi z, d < 256 := fun d hd => by
  rcases List.mem_append.1 hd with h | h
  · exact vb_lt _ d h
  · exact btx_lt _ d h
theorem vpi_pos (z : Int) : 0 < (vpi z).length := by
  unfold vpi
  rw [List.length_append]
  have := vb_pos (2 * (btx z.natAbs).length + (if z < 0 then 1 else 0))
  omega
/-- a written number is read, wherever it stands -/
theorem vgi_put (a r : List Nat) (z : Int) (bits : Int) (hb : bi z ≤ 1000000) : vgi (a ++ (vpi z ++ r)) (a.length : Int) bits = if max bits 0 < (bi z : Int) then (0, 0, 15) else (z, a.length + (vpi z).length, 0) := by
  have hl : (btx z.natAbs).length = (bi z + 7) / 8 := btx_length _
  have hz0 : z < 0 → (btx z.natAbs).length ≠ 0 := by
    intro h
    have : 0 < bi z := bl_pos (by omega)
    omega
  have e0 : a ++ (vpi z ++ r) = a ++ (vb (2 * (btx z.natAbs).length + (if z < 0 then 1 else 0)) ++ (btx z.natAbs ++ r)) := by unfold vpi; rw [List.append_assoc]
  have hlen : (a ++ (vpi z ++ r)).length = a.length + ((vpi z).length + r.length) := by rw [List.length_append, List.length_append]
  have hvl : (vpi z).length = (vb (2 * (btx z.natAbs).length + (if z < 0 then 1 else 0))).length + (btx z.natAbs).length := by unfold vpi; rw [List.length_append]
  generalize hv : 2 * (btx z.natAbs).length + (if z < 0 then 1 else 0) = v at *
  have hv2 : v / 2 = (btx z.natAbs).length := by rw [← hv]; split <;> omega
  have hvm : decide (v % 2 = 1) = decide (z < 0) := by
    rw [← hv]
    by_cases h : z < 0
    · rw [if_pos h, decide_eq_true h, decide_eq_true (by omega)]
    · rw [if_neg h, decide_eq_false h, decide_eq_false (by omega)]
  have hv1 : v ≠ 1 := by
    rw [← hv]
    by_cases h : z < 0
    · have := hz0 h; rw [if_pos h]; omega
    · rw [if_neg h]; omega
  have hg : vg (a ++ (vpi z ++ r)) (a.length : Int) = (v, a.length + (vb v).length, 0) := by
    rw [e0]
    exact vg_put a _ (by rw [← hv]; split <;> omega)
  have hs : ((a ++ (vpi z ++ r)).drop (a.length + (vb v).length)).take (v / 2) = btx z.natAbs := by
    rw [e0, hv2, ← List.append_assoc, List.drop_left' (by rw [List.length_append]), List.take_left' rfl]
  unfold vgi
  rw [hg]
  simp only [ne_eq, not_true_eq_false, if_false]
  rw [hs, bv_btx, btx_rd, hlen, hvl, hvm, sg_self, hv2, hl]
  rw [if_neg (show ¬ ((a.length + ((vb v).length + (bi z + 7) / 8 + r.length)) - (a.length + (vb v).length) < (bi z + 7) / 8) by omega), if_neg (show ¬ (true = false ∨ v = 1) by simp [hv1])]
  show (if max bits 0 / 8 + 1 < (((bi z + 7) / 8 : Nat) : Int) then ((0 : Int), (0 : Nat), (15 : Int)) else if max bits 0 < (bi z : Int) then (0, 0, 15) else _) = _
  by_cases hbt : max bits 0 < (bi z : Int)
  · rw [if_pos hbt, if_pos hbt]
    split <;> rfl
  · rw [if_neg hbt, if_neg hbt, if_neg (by omega), Nat.add_assoc]
/-- cut anywhere it is too short -/
theorem vgi_cut (a : List Nat) (z : Int) (bits : Int) (hb : bi z ≤ 1000000) (hbt : (bi z : Int) ≤ max bits 0) {k : Nat} (hk : k < (vpi z).length) : vgi (a ++ (vpi z).take k) (a.length : Int) bits = (0, 0, 4) := by
  have hl : (btx z.natAbs).length = (bi z + 7) / 8 := btx_length _
  unfold vpi at hk ⊢
  generalize hv : 2 * (btx z.natAbs).length + (if z < 0 then 1 else 0) = v at *
  have hv2 : v / 2 = (btx z.natAbs).length := by rw [← hv]; split <;> omega
  have hvb : v < 18446744073709551616 := by rw [← hv]; split <;> omega
  rw [List.length_append] at hk
  rw [List.take_append]
  unfold vgi
  by_cases hk2 : k < (vb v).length
  · rw [show k - (vb v).length = 0 by omega, List.take_zero, List.append_nil, vg_cut a hvb hk2]
    rfl
  · rw [List.take_of_length_le (show (vb v).length ≤ k by omega), vg_put a _ hvb]
    simp only [ne_eq, not_true_eq_false, if_false]
    rw [hv2, if_neg (by omega), if_pos]
    rw [List.length_append, List.length_append, List.length_take]
    omega
theorem vgi_once {l : List Nat} (hl : ∀ d ∈ l, d < 256) {p bits : Int} {z : Int} {e : Nat} (h : vgi l p bits = (z, e, 0)) : 0 ≤ p ∧ p < (e : Int) ∧ e ≤ l.length ∧ (l.drop p.toNat).take (e - p.toNat) = vpi z ∧ (bi z : Int) ≤ max bits 0 := by
  unfold vgi at h
  split at h
  · rename_i h1; injection h with h2 h3; injection h3 with h3 h4; exact absurd h4 h1
  · rename_i h1
    have h1' : (vg l p).2.2 = 0 := Classical.not_not.1 h1
    obtain ⟨k1, k2, k3, k4, k5⟩ := vg_once hl (v := (vg l p).1) (e := (vg l p).2.1) (Prod.ext rfl (Prod.ext rfl h1'))
    have kp := vb_pos (vg l p).1
    generalize (vg l p).1 = v at *
    generalize (vg l p).2.1 = f at *
    split at h
    · injection h with h2 h3; injection h3 with h3 h4; exact absurd h4 (by decide)
    · split at h
      · injection h with h2 h3; injection h3 with h3 h4; exact absurd h4 (by decide)
      · rename_i h5
        split at h
        · injection h with h2 h3; injection h3 with h3 h4; exact absurd h4 (by decide)
        · rename_i h6
          split at h
          · injection h with h2 h3; injection h3 with h3 h4; exact absurd h4 (by decide)
          · rename_i h7
            injection h with h2 h3; injection h3 with h3 _
            have hsl : ((l.drop f).take (v / 2)).length = v / 2 := by rw [List.length_take, List.length_drop]; omega
            have hrd : rdOk ((l.drop f).take (v / 2)) = true := by
              cases hr : rdOk ((l.drop f).take (v / 2)) with
              | true => rfl
              | false => exact absurd (.inl hr) h6
            have hbx := btx_bv (l := (l.drop f).take (v / 2)) (fun d hd => hl d (List.mem_of_mem_drop (List.mem_of_mem_take hd))) hrd
            have hbl : bl (bv ((l.drop f).take (v / 2))) = bi z := by rw [← h2]; unfold bi; rw [sg_natAbs]
            have hzn : z.natAbs = bv ((l.drop f).take (v / 2)) := by rw [← h2, sg_natAbs]
            have hpre : (l.drop p.toNat).take (e - p.toNat) = vb v ++ (l.drop f).take (v / 2) := by
              rw [show e - p.toNat = (vb v).length + v / 2 by omega, List.take_add, k5, List.drop_drop, ← k3]
            have hneg : (z < 0) ↔ v % 2 = 1 := by
              rw [← h2]
              by_cases hm : v % 2 = 1
              · rw [decide_eq_true hm]
                refine ⟨fun _ => hm, fun _ => ?_⟩
                have hx : 0 < bv ((l.drop f).take (v / 2)) := by
                  by_cases h0 : bv ((l.drop f).take (v / 2)) = 0
                  · rw [h0] at hbx
                    have : ((l.drop f).take (v / 2)).length = 0 := by rw [← hbx]; rfl
                    exact absurd (.inr (by omega)) h6
                  · omega
                unfold sg; simp; omega
              · rw [decide_eq_false hm]
                refine ⟨fun hlt => ?_, fun h => absurd h hm⟩
                unfold sg at hlt
                simp at hlt
                omega
            refine ⟨k1, by omega, by omega, ?_, by rw [← hbl]; omega⟩
            rw [hpre]
            unfold vpi
            rw [hzn, hbx, hsl]
            congr 2
            by_cases hm : v % 2 = 1
            · rw [if_pos (hneg.2 hm)]; omega
            · rw [if_neg (fun hlt => hm (hneg.1 hlt))]; omega
theorem vgi_code {l : List Nat} {p bits : Int} (h : (vgi l p bits).2.2 ≠ 0) : vgi l p bits = (0, 0, (vgi l p bits).2.2) := by
  unfold vgi at h ⊢
  split
  · rfl
  · rename_i k0
    rw [if_neg k0] at h
    split
    · rfl
    · rename_i k1
      rw [if_neg k1] at h
      split
      · rfl
      · rename_i k2
        rw [if_neg k2] at h
        split
        · rfl
        · rename_i k3
          rw [if_neg k3] at h
          split
          · rfl
          · rename_i k4
            rw [if_neg k4] at h
            exact absurd rfl h

/-- quotients -/
theorem vgr_put (a r : List Nat) (q : Rat) (bits : Int) (hb : br q ≤ 1000000) (hbt : (br q : Int) ≤ max bits 0) : vgr (a ++ (vpr q ++ r)) (a.length : Int) bits = (q, a.length + (vpr q).length, 0) := by
  have k1 := bi_br q
  have k2 := bl_br q
  have kd : bi (q.den : Int) = bl q.den := by rw [bi_cast']
  have e1 : a ++ (vpr q ++ r) = a ++ (vpi q.num ++ (vpi q.den ++ r)) := by unfold vpr; rw [List.append_assoc]
  have e2 : a ++ (vpr q ++ r) = (a ++ vpi q.num) ++ (vpi q.den ++ r) := by rw [e1, List.append_assoc]
  have g1 : vgi (a ++ (vpr q ++ r)) (a.length : Int) bits = (q.num, a.length + (vpi q.num).length, 0) := by
    rw [e1, vgi_put a _ q.num bits (by omega), if_neg (show ¬ max bits 0 < (bi q.num : Int) by omega)]
  have g2 : vgi (a ++ (vpr q ++ r)) ((a.length + (vpi q.num).length : Nat) : Int) bits = ((q.den : Int), a.length + (vpi q.num).length + (vpi q.den).length, 0) := by
    have := vgi_put (a ++ vpi q.num) r q.den bits (by omega)
    rw [← e2, List.length_append] at this
    rw [this, if_neg (show ¬ max bits 0 < (bi (q.den : Int) : Int) by omega)]
  unfold vgr
  rw [g1]
  simp only [ne_eq, not_true_eq_false, if_false]
  rw [g2]
  simp only [ne_eq, not_true_eq_false, if_false]
  have hd := q.den_pos
  have hred : Nat.gcd q.den q.num.natAbs = 1 := by rw [Nat.gcd_comm]; exact q.reduced
  rw [if_neg (by rw [Int.natAbs_natCast, hred]; omega)]
  have e3 : Rat.divInt q.num (q.den : Int) = q := by rw [Rat.divInt_ofNat, Rat.mkRat_self]
  rw [e3]
  unfold vpr
  rw [List.length_append]
  simp only [Nat.add_assoc]
theorem vgr_cut (a : List Nat) (q : Rat) (bits : Int) (hb : br q ≤ 1000000) (hbt : (br q : Int) ≤ max bits 0) {k : Nat} (hk : k < (vpr q).length) : vgr (a ++ (vpr q).take k) (a.length : Int) bits = (0, 0, 4) := by
  have k1 := bi_br q
  have k2 := bl_br q
  have kd : bi (q.den : Int) = bl q.den := by rw [bi_cast']
  unfold vpr at hk ⊢
  rw [List.length_append] at hk
  rw [List.take_append]
  unfold vgr
  by_cases hk2 : k < (vpi q.num).length
  · rw [show k - (vpi q.num).length = 0 by omega, List.take_zero, List.append_nil, vgi_cut a q.num bits (by omega) (by omega) hk2]
    rfl
  · rw [List.take_of_length_le (show (vpi q.num).length ≤ k by omega), vgi_put a _ q.num bits (by omega), if_neg (show ¬ max bits 0 < (bi q.num : Int) by omega)]
    simp only [ne_eq, not_true_eq_false, if_false]
    have := vgi_cut (a ++ vpi q.num) q.den bits (by omega) (by omega) (k := k - (vpi q.num).length) (by omega)
    rw [List.append_assoc, List.length_append] at this
    rw [this]
    rfl
theorem vgr_bits (q : Rat) (hb : br q ≤ 1000000) : vgr (vpr q) 0 ((br q : Int) - 1) = (0, 0, 15) := by
  have k1 := bi_br q
  have k2 := bl_br q
  have kd : bi (q.den : Int) = bl q.den := by rw [bi_cast']
  have hbp : 0 < br q := by have := bl_pos q.den_nz; omega
  have e1 : vpr q = [] ++ (vpi q.num ++ vpi q.den) := rfl
  have g1 := vgi_put [] (vpi q.den) q.num ((br q : Int) - 1) (by omega)
  unfold vgr
  rw [e1]
  rw [List.length_nil] at g1
  rw [show ((0 : Nat) : Int) = 0 from rfl] at g1
  rw [g1]
  by_cases h : br q = bi q.num
  · rw [if_pos (show max ((br q : Int) - 1) 0 < (bi q.num : Int) by omega)]
    rfl
  · rw [if_neg (show ¬ max ((br q : Int) - 1) 0 < (bi q.num : Int) by omega)]
    simp only [ne_eq, not_true_eq_false, if_false]
    have hden : br q = bl q.den := by unfold br at h ⊢; omega
    have g2 := vgi_put (vpi q.num) [] q.den ((br q : Int) - 1) (by omega)
    rw [List.append_nil] at g2
    rw [List.nil_append, Nat.zero_add, g2, if_pos (show max ((br q : Int) - 1) 0 < (bi (q.den : Int) : Int) by omega)]
    rfl
theorem vgr_once {l : List Nat} (hl : ∀ d ∈ l, d < 256) {p bits : Int} {q : Rat} {e : Nat} (h : vgr l p bits = (q, e, 0)) : 0 ≤ p ∧ p < (e : Int) ∧ e ≤ l.length ∧ (l.drop p.toNat).take (e - p.toNat) = vpr q ∧ (br q : Int) ≤ max bits 1 := by
  unfold vgr at h
  split at h
  · rename_i h1; injection h with h2 h3; injection h3 with h3 h4; exact absurd h4 h1
  · rename_i h1
    have h1' : (vgi l p bits).2.2 = 0 := Classical.not_not.1 h1
    obtain ⟨k1, k2, k3, k4, k5⟩ := vgi_once hl (z := (vgi l p bits).1) (e := (vgi l p bits).2.1) (Prod.ext rfl (Prod.ext rfl h1'))
    generalize (vgi l p bits).1 = n at *
    generalize (vgi l p bits).2.1 = f at *
    split at h
    · rename_i h2; injection h with h3 h4; injection h4 with h4 h5; exact absurd h5 h2
    · rename_i h2
      have h2' : (vgi l f bits).2.2 = 0 := Classical.not_not.1 h2
      obtain ⟨m1, m2, m3, m4, m5⟩ := vgi_once hl (z := (vgi l f bits).1) (e := (vgi l f bits).2.1) (Prod.ext rfl (Prod.ext rfl h2'))
      generalize (vgi l f bits).1 = d at *
      generalize (vgi l f bits).2.1 = g at *
      split at h
      · injection h with h3 h4; injection h4 with h4 h5; exact absurd h5 (by decide)
      · rename_i h3
        injection h with h4 h5; injection h5 with h5 _
        have hd : 0 < d := by omega
        have hgc : Nat.gcd d.natAbs n.natAbs = 1 := by
          by_cases hg : Nat.gcd d.natAbs n.natAbs = 1
          · exact hg
          · exact absurd (.inr hg) h3
        obtain ⟨c1, c2⟩ := mk_coprime (z := n) (y := d.natAbs) (by omega) hgc
        have hq : q = mkRat n d.natAbs := by
          rw [← h4]
          conv => lhs; rw [show d = ((d.natAbs : Nat) : Int) by omega]
          rw [Rat.divInt_ofNat]
        have hqn : q.num = n := by rw [hq]; exact c1
        have hqd : (q.den : Int) = d := by rw [hq, c2]; omega
        rw [Int.toNat_natCast] at m4
        refine ⟨k1, by omega, by omega, ?_, ?_⟩
        · unfold vpr
          rw [hqn, hqd, ← k4, ← m4, ← h5]
          rw [show g - p.toNat = (f - p.toNat) + (g - f) by omega, List.take_add, List.drop_drop, show p.toNat + (f - p.toNat) = f by omega]
        · have hbd : bl q.den = bi d := by rw [← hqd, bi_cast']
          unfold br
          rw [hqn, hbd]
          omega
theorem vgr_code {l : List Nat} {p bits : Int} (h : (vgr l p bits).2.2 ≠ 0) : vgr l p bits = (0, 0, (vgr l p bits).2.2) := by
  unfold vgr at h ⊢
  split
  · rfl
  · rename_i k0
    rw [if_neg k0] at h
    split
    · rfl
    · rename_i k1
      rw [if_neg k1] at h
      split
      · rfl
      · rename_i k2
        rw [if_neg k2] at h
        exact absurd rfl h

end Go.Proofs.Ytalnnaoabhimdaa.X
set_option linter.unusedVariables false
set_option linter.unusedSimpArgs false
namespace Go.Proofs.Ytalnnaoabhimdaa.X
open Go Go.RowKit Go.Proofs

theorem ws8' (n : Int) (h0 : 0 ≤ n) (h : n < 2 ^ 8) : IntKind.u8.wrap n = n := wu8 n h0 (by omega)
theorem or8 {a b : Nat} (ha : a < 2 ^ 8) (hb : b < 2 ^ 8) : bitsV .or .u8 (a : Int) (b : Int) = ((a ||| b : Nat) : Int) := bitsV_or 8 (by decide) ws8' ha hb
theorem and8 {a b : Nat} (ha : a < 2 ^ 8) (hb : b < 2 ^ 8) : bitsV .and .u8 (a : Int) (b : Int) = ((a &&& b : Nat) : Int) := bitsV_and 8 (by decide) ws8' ha hb
theorem or128 : ∀ x : Nat, x < 256 → x ||| 128 = x % 128 + 128 := by decide +kernel
theorem and127 (x : Nat) : x &&& 127 = x % 128 := Nat.and_two_pow_sub_one_eq_mod x 7
theorem pow7 (i : Nat) : 2 ^ (7 * i) = 128 ^ i := by rw [Nat.pow_mul]

set_option maxHeartbeats 1000000 in
theorem vput_ok (H : PH) (v : Nat) (hv : v < 18446744073709551616) : FnP Try.prog 11 [.int .u64 (v : Int)] H fun r _ => r = .string (ofB (vb v)) := by
  refine Fn.release (of_vint_Put (by simp) ?_)
  try simp only [go_sem, Nat.reduceEqDiff, Nat.reduceAdd, Bool.false_eq_true, Nat.reduceBEq, ↓reduceIte, p_vint_Put]
  have h10 := vb_len10 hv
  refine ev_loop (fun n s => ∃ (w : Nat) (A : Option Addr) (o : List Nat) (k c : Nat) (M1 : PH), n = w ∧ k = o.length ∧ w < 18446744073709551616 ∧ vb v = o ++ vb w ∧ Own .u8 5 M1 A o c ∧ PH.disj H M1 ∧ (∀ d ∈ o, d < 256) ∧
    s = ⟨[(3, .v (.slice A k c)), (0, .v (.int .u64 (w : Int)))], [], H, M1⟩) v _ ⟨v, none, [], 0, 0, PH.no, rfl, rfl, hv, rfl, Own.nil _ _ _, PH.disj_no _, fun d hd => by (cases hd), rfl⟩ ⟨rfl, by simp only [go_sem, Nat.reduceEqDiff, Nat.reduceAdd, Bool.false_eq_true, Nat.reduceBEq, ↓reduceIte, and_self, Option.some.injEq, SV.v.injEq, SV.ptr.injEq, Value.int.injEq, Value.bool.injEq, Value.slice.injEq, true_and, and_true] <;> (repeat' apply And.intro) <;> first | rfl | omega | (simp (disch := omega) only [w64, wu64, wu32, wu8] <;> omega), by simp only [go_sem, Nat.reduceEqDiff, Nat.reduceAdd, Bool.false_eq_true, Nat.reduceBEq, ↓reduceIte, and_self, Option.some.injEq, SV.v.injEq, SV.ptr.injEq, Value.int.injEq, Value.bool.injEq, Value.slice.injEq, true_and, and_true] <;> (repeat' apply And.intro) <;> rfl, rfl, PH.le.refl _⟩ ?_
  rintro n s ⟨w, A, o, k, c, M1, rfl, rfl, hw, hvb, hO, hd, hob, rfl⟩
  have hlen : o.length + (vb n).length ≤ 10 := by rw [← List.length_append, ← hvb]; exact h10
  try simp only [go_sem, Nat.reduceEqDiff, Nat.reduceAdd, Bool.false_eq_true, Nat.reduceBEq, ↓reduceIte]
  refine ev_if (fun h => ?_) (fun h => ?_)
  · have hn128 : ¬ n < 128 := by omega
    try simp only [go_sem, Nat.reduceEqDiff, Nat.reduceAdd, Bool.false_eq_true, Nat.reduceBEq, ↓reduceIte]
    rw [show bitsV .or .u8 (IntKind.u8.wrap (n : Int)) 128 = ((n % 128 + 128 : Nat) : Int) by rw [u8mod, show (128 : Int) = ((128 : Nat) : Int) from rfl, or8 (by omega) (by decide), or128 _ (by omega), show n % 256 % 128 = n % 128 by omega]]
    refine ev_bslO (k := .u8) (l := [n % 128 + 128]) rfl rfl (by simp) hd ?_
    intro g M3 hO3 hle3 hg3 hd3
    try simp only [go_sem, Nat.reduceEqDiff, Nat.reduceAdd, Bool.false_eq_true, Nat.reduceBEq, ↓reduceIte]
    refine ev_appO (hO.le hle3) (m := [n % 128 + 128]) (hO3.sl hd3) rfl rfl (by simp) (by simp; omega) (by simp; omega) hd3 ?_
    intro B' e' M4 hO4 hB4 hne4 hd4
    try simp only [go_sem, Nat.reduceEqDiff, Nat.reduceAdd, Bool.false_eq_true, Nat.reduceBEq, ↓reduceIte]
    refine shr_nat (n := 7) rfl (by decide) ?_
    try simp only [go_sem, Nat.reduceEqDiff, Nat.reduceAdd, Bool.false_eq_true, Nat.reduceBEq, ↓reduceIte]
    refine k_next (n / 2 ^ 7) _ (by omega) ⟨n / 2 ^ 7, _, o ++ [n % 128 + 128], o.length + 1, _, _, rfl, by simp, by omega, ?_, hO4, hd4, ?_, rfl⟩ ⟨rfl, by simp only [go_sem, Nat.reduceEqDiff, Nat.reduceAdd, Bool.false_eq_true, Nat.reduceBEq, ↓reduceIte, and_self, Option.some.injEq, SV.v.injEq, SV.ptr.injEq, Value.int.injEq, Value.bool.injEq, Value.slice.injEq, true_and, and_true] <;> (repeat' apply And.intro) <;> first | rfl | omega | (simp (disch := omega) only [w64, wu64, wu32, wu8] <;> omega), by simp only [go_sem, Nat.reduceEqDiff, Nat.reduceAdd, Bool.false_eq_true, Nat.reduceBEq, ↓reduceIte, and_self, Option.some.injEq, SV.v.injEq, SV.ptr.injEq, Value.int.injEq, Value.bool.injEq, Value.slice.injEq, true_and, and_true] <;> (repeat' apply And.intro) <;> rfl, rfl, PH.le.refl _⟩
    · rw [hvb, vb_big hn128]; simp
    · intro d hd
      rcases List.mem_append.1 hd with h | h
      · exact hob d h
      · simp at h; omega
  · have hn128 : n < 128 := by omega
    rw [vb_small hn128] at hvb
    try simp only [go_sem, Nat.reduceEqDiff, Nat.reduceAdd, Bool.false_eq_true, Nat.reduceBEq, ↓reduceIte]
    rw [u8mod, Nat.mod_eq_of_lt (show n < 256 by omega)]
    refine ev_bslO (k := .u8) (l := [n]) rfl rfl (by simp) hd ?_
    intro g M3 hO3 hle3 hg3 hd3
    try simp only [go_sem, Nat.reduceEqDiff, Nat.reduceAdd, Bool.false_eq_true, Nat.reduceBEq, ↓reduceIte]
    refine ev_appO (hO.le hle3) (m := [n]) (hO3.sl hd3) rfl rfl (by simp) (by simp; omega) (by simp; omega) hd3 ?_
    intro B' e' M4 hO4 hB4 hne4 hd4
    try simp only [go_sem, Nat.reduceEqDiff, Nat.reduceAdd, Bool.false_eq_true, Nat.reduceBEq, ↓reduceIte]
    refine ev_b2sO hO4 (by simp) (by rw [← hvb]; exact vb_lt v) ?_
    try simp only [go_sem, Nat.reduceEqDiff, Nat.reduceAdd, Bool.false_eq_true, Nat.reduceBEq, ↓reduceIte]
    rw [← hvb]
    intro _
    rfl

set_option maxHeartbeats 1000000 in
theorem vputR_ok (H : PH) (v : Nat) (hv : v < 18446744073709551616) : FnP Try.prog 49 [.int .u64 (v : Int)] H fun r _ => r = .string (ofB (vb v)) := by
  refine Fn.release (of_cinctureref2_Put (by simp) ?_)
  try simp only [go_sem, Nat.reduceEqDiff, Nat.reduceAdd, Bool.false_eq_true, Nat.reduceBEq, ↓reduceIte, p_cinctureref2_Put]
  have h10 := vb_len10 hv
  refine ev_loop (fun n s => ∃ (w : Nat) (A : Option Addr) (o : List Nat) (k c : Nat) (M1 : PH), n = w ∧ k = o.length ∧ w < 18446744073709551616 ∧ vb v = o ++ vb w ∧ Own .u8 5 M1 A o c ∧ PH.disj H M1 ∧ (∀ d ∈ o, d < 256) ∧
    s = ⟨[(3, .v (.slice A k c)), (0, .v (.int .u64 (w : Int)))], [], H, M1⟩) v _ ⟨v, none, [], 0, 0, PH.no, rfl, rfl, hv, rfl, Own.nil _ _ _, PH.disj_no _, fun d hd => by (cases hd), rfl⟩ ⟨rfl, by simp only [go_sem, Nat.reduceEqDiff, Nat.reduceAdd, Bool.false_eq_true, Nat.reduceBEq, ↓reduceIte, and_self, Option.some.injEq, SV.v.injEq, SV.ptr.injEq, Value.int.injEq, Value.bool.injEq, Value.slice.injEq, true_and, and_true] <;> (repeat' apply And.intro) <;> first | rfl | omega | (simp (disch := omega) only [w64, wu64, wu32, wu8] <;> omega), by simp only [go_sem, Nat.reduceEqDiff, Nat.reduceAdd, Bool.false_eq_true, Nat.reduceBEq, ↓reduceIte, and_self, Option.some.injEq, SV.v.injEq, SV.ptr.injEq, Value.int.injEq, Value.bool.injEq, Value.slice.injEq, true_and, and_true] <;> (repeat' apply And.intro) <;> rfl, rfl, PH.le.refl _⟩ ?_
  rintro n s ⟨w, A, o, k, c, M1, rfl, rfl, hw, hvb, hO, hd, hob, rfl⟩
  have hlen : o.length + (vb n).length ≤ 10 := by rw [← List.length_append, ← hvb]; exact h10
  try simp only [go_sem, Nat.reduceEqDiff, Nat.reduceAdd, Bool.false_eq_true, Nat.reduceBEq, ↓reduceIte]
  refine ev_if (fun h => ?_) (fun h => ?_)
  · have hn128 : ¬ n < 128 := by omega
    try simp only [go_sem, Nat.reduceEqDiff, Nat.reduceAdd, Bool.false_eq_true, Nat.reduceBEq, ↓reduceIte]
    rw [show IntKind.u8.wrap (bitsV .or .u64 (bitsV .and .u64 (n : Int) 127) 128) = ((n % 128 + 128 : Nat) : Int) by
      rw [show (127 : Int) = ((127 : Nat) : Int) from rfl, and64 (by omega) (by decide), and127, show (128 : Int) = ((128 : Nat) : Int) from rfl, or64 (by omega) (by decide), or128 _ (by omega), u8mod]
      omega]
    refine ev_bslO (k := .u8) (l := [n % 128 + 128]) rfl rfl (by simp) hd ?_
    intro g M3 hO3 hle3 hg3 hd3
    try simp only [go_sem, Nat.reduceEqDiff, Nat.reduceAdd, Bool.false_eq_true, Nat.reduceBEq, ↓reduceIte]
    refine ev_appO (hO.le hle3) (m := [n % 128 + 128]) (hO3.sl hd3) rfl rfl (by simp) (by simp; omega) (by simp; omega) hd3 ?_
    intro B' e' M4 hO4 hB4 hne4 hd4
    try simp only [go_sem, Nat.reduceEqDiff, Nat.reduceAdd, Bool.false_eq_true, Nat.reduceBEq, ↓reduceIte]
    refine shr_nat (n := 7) rfl (by decide) ?_
    try simp only [go_sem, Nat.reduceEqDiff, Nat.reduceAdd, Bool.false_eq_true, Nat.reduceBEq, ↓reduceIte]
    refine k_next (n / 2 ^ 7) _ (by omega) ⟨n / 2 ^ 7, _, o ++ [n % 128 + 128], o.length + 1, _, _, rfl, by simp, by omega, ?_, hO4, hd4, ?_, rfl⟩ ⟨rfl, by simp only [go_sem, Nat.reduceEqDiff, Nat.reduceAdd, Bool.false_eq_true, Nat.reduceBEq, ↓reduceIte, and_self, Option.some.injEq, SV.v.injEq, SV.ptr.injEq, Value.int.injEq, Value.bool.injEq, Value.slice.injEq, true_and, and_true] <;> (repeat' apply And.intro) <;> first | rfl | omega | (simp (disch := omega) only [w64, wu64, wu32, wu8] <;> omega), by simp only [go_sem, Nat.reduceEqDiff, Nat.reduceAdd, Bool.false_eq_true, Nat.reduceBEq, ↓reduceIte, and_self, Option.some.injEq, SV.v.injEq, SV.ptr.injEq, Value.int.injEq, Value.bool.injEq, Value.slice.injEq, true_and, and_true] <;> (repeat' apply And.intro) <;> rfl, rfl, PH.le.refl _⟩
    · rw [hvb, vb_big hn128]; simp
    · intro d hd
      rcases List.mem_append.1 hd with h | h
      · exact hob d h
      · simp at h; omega
  · have hn128 : n < 128 := by omega
    rw [vb_small hn128] at hvb
    try simp only [go_sem, Nat.reduceEqDiff, Nat.reduceAdd, Bool.false_eq_true, Nat.reduceBEq, ↓reduceIte]
    rw [u8mod, Nat.mod_eq_of_lt (show n < 256 by omega)]
    refine ev_bslO (k := .u8) (l := [n]) rfl rfl (by simp) hd ?_
    intro g M3 hO3 hle3 hg3 hd3
    try simp only [go_sem, Nat.reduceEqDiff, Nat.reduceAdd, Bool.false_eq_true, Nat.reduceBEq, ↓reduceIte]
    refine ev_appO (hO.le hle3) (m := [n]) (hO3.sl hd3) rfl rfl (by simp) (by simp; omega) (by simp; omega) hd3 ?_
    intro B' e' M4 hO4 hB4 hne4 hd4
    try simp only [go_sem, Nat.reduceEqDiff, Nat.reduceAdd, Bool.false_eq_true, Nat.reduceBEq, ↓reduceIte]
    refine ev_b2sO hO4 (by simp) (by rw [← hvb]; exact vb_lt v) ?_
    try simp only [go_sem, Nat.reduceEqDiff, Nat.reduceAdd, Bool.false_eq_true, Nat.reduceBEq, ↓reduceIte]
    rw [← hvb]
    intro _
    rfl

theorem join_low {a c i : Nat} (ha : a < 128 ^ i) (hi : i ≤ 8) (hc : c < 128) : a ||| c * 2 ^ (7 * i) = a + c * 128 ^ i := by
  rw [or_add (7 * i) a c (by rw [pow7]; exact ha), pow7]
theorem vg_neg {l : List Nat} {p : Int} (h : p < 0 ∨ (l.length : Int) < p) : vg l p = (0, 0, 1) := by unfold vg; rw [if_pos h]
theorem getD_of {l : List Nat} {p i : Nat} {x : Nat} {r : List Nat} (h : l.drop (p + i) = x :: r) : l.getD (p + i) 0 = x := by
  have := congrArg (fun l => l[0]?) h
  simp only [List.getElem?_drop, List.getElem?_cons_zero, Nat.add_zero] at this
  rw [List.getD_eq_getElem?_getD, this]; rfl
theorem drop_succ_of {l : List Nat} {p : Nat} {x : Nat} {r : List Nat} (h : l.drop p = x :: r) : l.drop (p + 1) = r := by
  rw [← List.drop_drop, h]; rfl

/-- the answer of a reading -/
def vgV (r : Nat × Nat × Int) : Value := .tuple #[.int .u64 (r.1 : Int), .int .i64 (r.2.1 : Int), .int .i64 r.2.2]
set_option maxHeartbeats 2000000 in
theorem vget_ok (H : PH) (b : ByteArray) (hb : b.size ≤ 9223372036854775807) (p : Int) (h1 : -9223372036854775808 ≤ p) (h2 : p ≤ 9223372036854775807) : FnP Try.prog 10 [.string b, .int .i64 p] H fun v _ => v = vgV (vg (bs b) p) := by
  have hsz := bs_length b
  refine of_vint_Get (by simp) ?_
  try simp only [go_sem, Nat.reduceEqDiff, Nat.reduceAdd, Bool.false_eq_true, Nat.reduceBEq, ↓reduceIte, p_vint_Get]
  refine ev_if (fun h => ?_) (fun h => ?_)
  · try simp only [go_sem, Nat.reduceEqDiff, Nat.reduceAdd, Bool.false_eq_true, Nat.reduceBEq, ↓reduceIte]
    rw [vg_neg (.inl h)]
    exact ⟨by trivial, by trivial⟩
  · try simp only [go_sem, Nat.reduceEqDiff, Nat.reduceAdd, Bool.false_eq_true, Nat.reduceBEq, ↓reduceIte]
    refine ev_if (fun h' => ?_) (fun h' => ?_)
    · try simp only [go_sem, Nat.reduceEqDiff, Nat.reduceAdd, Bool.false_eq_true, Nat.reduceBEq, ↓reduceIte]
      rw [vg_neg (.inr (by omega))]
      exact ⟨by trivial, by trivial⟩
    · obtain ⟨q, rfl⟩ : ∃ q : Nat, p = q := ⟨p.toNat, by omega⟩
      have hvg := vg_at (l := bs b) (p := q) (by omega)
      try simp only [go_sem, Nat.reduceEqDiff, Nat.reduceAdd, Bool.false_eq_true, Nat.reduceBEq, ↓reduceIte]
      refine ev_loop (fun n s => ∃ (i a : Nat), i ≤ 10 ∧ n = 10 - i ∧ q + i ≤ b.size ∧ a < 128 ^ i ∧ (i ≤ 9 → vgt 0 0 ((bs b).drop q) = vgt i a ((bs b).drop (q + i))) ∧ (i = 10 → False) ∧
        s = ⟨[(18, .v (.int .i64 (i : Int))), (7, .v (.int .u64 (a : Int))), (1, .v (.int .i64 (q : Int))), (0, .v (.string b))], [], H, PH.no⟩) 10 _ ⟨0, 0, by decide, rfl, by omega, by decide, fun _ => rfl, by decide, rfl⟩ ⟨rfl, by simp only [go_sem, Nat.reduceEqDiff, Nat.reduceAdd, Bool.false_eq_true, Nat.reduceBEq, ↓reduceIte, and_self, Option.some.injEq, SV.v.injEq, SV.ptr.injEq, Value.int.injEq, Value.bool.injEq, Value.slice.injEq, true_and, and_true] <;> (repeat' apply And.intro) <;> first | rfl | omega | (simp (disch := omega) only [w64, wu64, wu32, wu8] <;> omega), by simp only [go_sem, Nat.reduceEqDiff, Nat.reduceAdd, Bool.false_eq_true, Nat.reduceBEq, ↓reduceIte, and_self, Option.some.injEq, SV.v.injEq, SV.ptr.injEq, Value.int.injEq, Value.bool.injEq, Value.slice.injEq, true_and, and_true] <;> (repeat' apply And.intro) <;> rfl, rfl, PH.le.refl _⟩ ?_
      rintro n s ⟨i, a, hi, rfl, hqi, ha, hvt, hi10, rfl⟩
      try simp only [go_sem, Nat.reduceEqDiff, Nat.reduceAdd, Bool.false_eq_true, Nat.reduceBEq, ↓reduceIte]
      refine ev_if (fun hlt => ?_) (fun hlt => ?_)
      · have hi9 : i ≤ 9 := by omega
        have hvt := hvt hi9
        try simp only [go_sem, Nat.reduceEqDiff, Nat.reduceAdd, Bool.false_eq_true, Nat.reduceBEq, ↓reduceIte]
        rw [w64 ((b.size : Int) - (q : Int)) (by omega) (by omega)]
        refine ev_if (fun hs => ?_) (fun hs => ?_)
        · try simp only [go_sem, Nat.reduceEqDiff, Nat.reduceAdd, Bool.false_eq_true, Nat.reduceBEq, ↓reduceIte]
          have hnil : (bs b).drop (q + i) = [] := List.drop_eq_nil_of_le (by omega)
          rw [hnil, vgt_nil] at hvt
          rw [hvg, hvt]
          exact ⟨by trivial, by trivial⟩
        · have hq : q + i < (bs b).length := by omega
          obtain ⟨c, r, hcr⟩ : ∃ c r, (bs b).drop (q + i) = c :: r := ⟨_, _, drop_eq _ _ hq⟩
          have hcl : c < 256 := bs_lt b c (List.mem_of_mem_drop (by rw [hcr]; simp))
          have hgc := getD_of hcr
          rw [hcr, vgt_cons] at hvt
          try simp only [go_sem, Nat.reduceEqDiff, Nat.reduceAdd, Bool.false_eq_true, Nat.reduceBEq, ↓reduceIte]
          rw [w64 ((q : Int) + (i : Int)) (by omega) (by omega)]
          refine ev_ix (by omega) (by omega) ?_
          rw [show ((q : Int) + (i : Int)).toNat = q + i by omega, bs_getD, hgc]
          try simp only [go_sem, Nat.reduceEqDiff, Nat.reduceAdd, Bool.false_eq_true, Nat.reduceBEq, ↓reduceIte]
          refine rem_nat (a := c) (m := 128) rfl (by decide) ?_
          try simp only [go_sem, Nat.reduceEqDiff, Nat.reduceAdd, Bool.false_eq_true, Nat.reduceBEq, ↓reduceIte]
          rw [wu64 ((c % 128 : Nat) : Int) (by omega) (by omega), w64 (7 * (i : Int)) (by omega) (by omega)]
          have hpi : 128 ^ i ≤ 9223372036854775808 := p128_le hi9
          have hfin : (i = 9 → c ≤ 1) → ∃ y : Nat, IntKind.u64.wrap ((c % 128 * 2 ^ (7 * i) : Nat) : Int) = (y : Int) ∧ bitsV .or .u64 (a : Int) (y : Int) = ((a + c % 128 * 128 ^ i : Nat) : Int) := by
            intro h9
            have hlt2 : c % 128 * 128 ^ i < 18446744073709551616 := by
              by_cases e9 : i = 9
              · subst e9; have := h9 rfl; rw [p9]; omega
              · have h8 : 128 ^ (i + 1) ≤ 9223372036854775808 := p128_le (by omega)
                rw [Nat.pow_succ] at h8
                have : c % 128 * 128 ^ i ≤ 128 * 128 ^ i := Nat.mul_le_mul_right _ (by omega)
                omega
            refine ⟨c % 128 * 2 ^ (7 * i), wu64n _ rfl (by rw [pow7]; omega), ?_⟩
            rw [or64 (by omega) (by rw [pow7]; omega), or_add (7 * i) a (c % 128) (by rw [pow7]; exact ha), pow7]
          refine shl_nat (n := 7 * i) (y := (c % 128 * 2 ^ (7 * i)) % 18446744073709551616) (by omega) (by show 7 * i ≤ 64; omega) (by rw [wu64_mod]; omega) ?_
          try simp only [go_sem, Nat.reduceEqDiff, Nat.reduceAdd, Bool.false_eq_true, Nat.reduceBEq, ↓reduceIte]
          refine ev_if (fun e9 => ?_) (fun e9 => ?_)
          · have hi9' : i = 9 := by omega
            try simp only [go_sem, Nat.reduceEqDiff, Nat.reduceAdd, Bool.false_eq_true, Nat.reduceBEq, ↓reduceIte]
            refine ev_if (fun c1 => ?_) (fun c1 => ?_)
            · try simp only [go_sem, Nat.reduceEqDiff, Nat.reduceAdd, Bool.false_eq_true, Nat.reduceBEq, ↓reduceIte]
              rw [if_pos (by omega)] at hvt
              rw [hvg, hvt]
              exact ⟨by trivial, by trivial⟩
            · try simp only [go_sem, Nat.reduceEqDiff, Nat.reduceAdd, Bool.false_eq_true, Nat.reduceBEq, ↓reduceIte]
              refine ev_if (fun c0 => ?_) (fun c0 => ?_)
              · try simp only [go_sem, Nat.reduceEqDiff, Nat.reduceAdd, Bool.false_eq_true, Nat.reduceBEq, ↓reduceIte]
                refine ev_pos (by omega) ?_
                try simp only [go_sem, Nat.reduceEqDiff, Nat.reduceAdd, Bool.false_eq_true, Nat.reduceBEq, ↓reduceIte]
                rw [if_pos (by omega)] at hvt
                rw [hvg, hvt]
                exact ⟨by trivial, by trivial⟩
              · try simp only [go_sem, Nat.reduceEqDiff, Nat.reduceAdd, Bool.false_eq_true, Nat.reduceBEq, ↓reduceIte]
                refine ev_pos (by omega) ?_
                rw [if_neg (by omega), if_pos (by omega)] at hvt
                obtain ⟨y, hy1, hy2⟩ := hfin (fun _ => by omega)
                have hyy : (c % 128 * 2 ^ (7 * i)) % 18446744073709551616 = y := by rw [wu64_mod] at hy1; omega
                try simp only [go_sem, Nat.reduceEqDiff, Nat.reduceAdd, Bool.false_eq_true, Nat.reduceBEq, ↓reduceIte]
                rw [hyy, hy2, w64 ((q : Int) + (i : Int)) (by omega) (by omega), w64 ((q : Int) + (i : Int) + 1) (by omega) (by omega), hvg, hvt]
                refine ⟨by trivial, ?_⟩
                show _ = vgV (a + c * 128 ^ i, q + (i + 1), 0)
                unfold vgV
                rw [show c % 128 = c by omega, show (q : Int) + (i : Int) + 1 = ((q + (i + 1) : Nat) : Int) by omega]
          · have hi9' : i ≤ 8 := by omega
            try simp only [go_sem, Nat.reduceEqDiff, Nat.reduceAdd, Bool.false_eq_true, Nat.reduceBEq, ↓reduceIte]
            refine ev_if (fun c0 => ?_) (fun c0 => ?_)
            · try simp only [go_sem, Nat.reduceEqDiff, Nat.reduceAdd, Bool.false_eq_true, Nat.reduceBEq, ↓reduceIte]
              refine ev_if (fun i0 => ?_) (fun i0 => ?_)
              · try simp only [go_sem, Nat.reduceEqDiff, Nat.reduceAdd, Bool.false_eq_true, Nat.reduceBEq, ↓reduceIte]
                rw [if_pos (by omega)] at hvt
                rw [hvg, hvt]
                exact ⟨by trivial, by trivial⟩
              · try simp only [go_sem, Nat.reduceEqDiff, Nat.reduceAdd, Bool.false_eq_true, Nat.reduceBEq, ↓reduceIte]
                rw [if_neg (by omega)] at hvt
                obtain ⟨y, hy1, hy2⟩ := hfin (fun _ => by omega)
                have hyy : (c % 128 * 2 ^ (7 * i)) % 18446744073709551616 = y := by rw [wu64_mod] at hy1; omega
                refine ev_if (fun c8 => ?_) (fun c8 => ?_)
                · rw [if_pos (by omega)] at hvt
                  try simp only [go_sem, Nat.reduceEqDiff, Nat.reduceAdd, Bool.false_eq_true, Nat.reduceBEq, ↓reduceIte]
                  rw [hyy, hy2, w64 ((q : Int) + (i : Int)) (by omega) (by omega), w64 ((q : Int) + (i : Int) + 1) (by omega) (by omega), hvg, hvt]
                  refine ⟨by trivial, ?_⟩
                  show _ = vgV (a + c * 128 ^ i, q + (i + 1), 0)
                  unfold vgV
                  rw [show c % 128 = c by omega, show (q : Int) + (i : Int) + 1 = ((q + (i + 1) : Nat) : Int) by omega]
                · rw [if_neg (by omega)] at hvt
                  try simp only [go_sem, Nat.reduceEqDiff, Nat.reduceAdd, Bool.false_eq_true, Nat.reduceBEq, ↓reduceIte]
                  rw [hyy, hy2, w64 ((i : Int) + 1) (by omega) (by omega), show (i : Int) + 1 = ((i + 1 : Nat) : Int) by omega]
                  refine k_next (10 - (i + 1)) _ (by omega) ⟨i + 1, _, by omega, rfl, by omega, acc_lt ha, fun _ => ?_, by omega, rfl⟩ ⟨rfl, by simp only [go_sem, Nat.reduceEqDiff, Nat.reduceAdd, Bool.false_eq_true, Nat.reduceBEq, ↓reduceIte, and_self, Option.some.injEq, SV.v.injEq, SV.ptr.injEq, Value.int.injEq, Value.bool.injEq, Value.slice.injEq, true_and, and_true] <;> (repeat' apply And.intro) <;> first | rfl | omega | (simp (disch := omega) only [w64, wu64, wu32, wu8] <;> omega), by simp only [go_sem, Nat.reduceEqDiff, Nat.reduceAdd, Bool.false_eq_true, Nat.reduceBEq, ↓reduceIte, and_self, Option.some.injEq, SV.v.injEq, SV.ptr.injEq, Value.int.injEq, Value.bool.injEq, Value.slice.injEq, true_and, and_true] <;> (repeat' apply And.intro) <;> rfl, rfl, PH.le.refl _⟩
                  rw [hvt, show q + (i + 1) = q + i + 1 by omega, drop_succ_of hcr]
            · try simp only [go_sem, Nat.reduceEqDiff, Nat.reduceAdd, Bool.false_eq_true, Nat.reduceBEq, ↓reduceIte]
              rw [if_neg (by omega)] at hvt
              obtain ⟨y, hy1, hy2⟩ := hfin (fun _ => by omega)
              have hyy : (c % 128 * 2 ^ (7 * i)) % 18446744073709551616 = y := by rw [wu64_mod] at hy1; omega
              refine ev_if (fun c8 => ?_) (fun c8 => ?_)
              · rw [if_pos (by omega)] at hvt
                try simp only [go_sem, Nat.reduceEqDiff, Nat.reduceAdd, Bool.false_eq_true, Nat.reduceBEq, ↓reduceIte]
                rw [hyy, hy2, w64 ((q : Int) + (i : Int)) (by omega) (by omega), w64 ((q : Int) + (i : Int) + 1) (by omega) (by omega), hvg, hvt]
                refine ⟨by trivial, ?_⟩
                show _ = vgV (a + c * 128 ^ i, q + (i + 1), 0)
                unfold vgV
                rw [show c % 128 = c by omega, show (q : Int) + (i : Int) + 1 = ((q + (i + 1) : Nat) : Int) by omega]
              · rw [if_neg (by omega)] at hvt
                try simp only [go_sem, Nat.reduceEqDiff, Nat.reduceAdd, Bool.false_eq_true, Nat.reduceBEq, ↓reduceIte]
                rw [hyy, hy2, w64 ((i : Int) + 1) (by omega) (by omega), show (i : Int) + 1 = ((i + 1 : Nat) : Int) by omega]
                refine k_next (10 - (i + 1)) _ (by omega) ⟨i + 1, _, by omega, rfl, by omega, acc_lt ha, fun _ => ?_, by omega, rfl⟩ ⟨rfl, by simp only [go_sem, Nat.reduceEqDiff, Nat.reduceAdd, Bool.false_eq_true, Nat.reduceBEq, ↓reduceIte, and_self, Option.some.injEq, SV.v.injEq, SV.ptr.injEq, Value.int.injEq, Value.bool.injEq, Value.slice.injEq, true_and, and_true] <;> (repeat' apply And.intro) <;> first | rfl | omega | (simp (disch := omega) only [w64, wu64, wu32, wu8] <;> omega), by simp only [go_sem, Nat.reduceEqDiff, Nat.reduceAdd, Bool.false_eq_true, Nat.reduceBEq, ↓reduceIte, and_self, Option.some.injEq, SV.v.injEq, SV.ptr.injEq, Value.int.injEq, Value.bool.injEq, Value.slice.injEq, true_and, and_true] <;> (repeat' apply And.intro) <;> rfl, rfl, PH.le.refl _⟩
                rw [hvt, show q + (i + 1) = q + i + 1 by omega, drop_succ_of hcr]
      · exact (hi10 (by omega)).elim

end Go.Proofs.Ytalnnaoabhimdaa.X
