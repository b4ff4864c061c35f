/- Quotients: plain facts. -/
import Derived.Test.YtpifafenmgceoaaZY
namespace Go.Proofs.Ytpifafenmgceoaa.X

/-- the denominator as package rat keeps it: 0 stands for 1 -/
def dn (q : Rat) : Nat := if q.den = 1 then 0 else q.den
theorem dn_one {q : Rat} (h : q.den = 1) : dn q = 0 := by unfold dn; rw [if_pos h]
theorem dn_ne {q : Rat} (h : q.den ≠ 1) : dn q = q.den := by unfold dn; rw [if_neg h]
theorem dn_zero_iff {q : Rat} : dn q = 0 ↔ q.den = 1 := by
  unfold dn
  have := q.den_nz
  split <;> omega
/-- how many binary digits the parts have -/
def br (q : Rat) : Nat := max (bi q.num) (bl q.den)
theorem bi_br (q : Rat) : bi q.num ≤ br q := Nat.le_max_left _ _
theorem bl_br (q : Rat) : bl q.den ≤ br q := Nat.le_max_right _ _
theorem bl_dn (q : Rat) : bl (dn q) ≤ br q := by
  unfold dn
  split
  · exact Nat.zero_le _
  · exact bl_br q

theorem ediv_sg {z : Int} {g : Nat} (hg : 0 < g) (h : g ∣ z.natAbs) : z / (g : Int) = sg (decide (z < 0)) (z.natAbs / g) := by
  obtain ⟨k, hk⟩ := h
  rw [hk, Nat.mul_div_cancel_left _ hg]
  have e := sg_self z
  rw [hk] at e
  conv => lhs; rw [← e]
  cases decide (z < 0)
  · rw [sg_false, sg_false, Int.natCast_mul]
    exact Int.mul_ediv_cancel_left _ (by omega)
  · rw [sg_true, sg_true, Int.natCast_mul, ← Int.mul_neg]
    exact Int.mul_ediv_cancel_left _ (by omega)

/-- a quotient by the least numbers -/
theorem least_num (z : Int) {y : Nat} (hy : y ≠ 0) : (mkRat z y).num = sg (decide (z < 0)) (z.natAbs / y.gcd z.natAbs) := by
  rw [Rat.num_mkRat, if_neg hy]
  exact ediv_sg (Nat.gcd_pos_of_pos_left _ (Nat.pos_of_ne_zero hy)) (Nat.gcd_dvd_right _ _)
theorem least_den (z : Int) {y : Nat} (hy : y ≠ 0) : (mkRat z y).den = y / y.gcd z.natAbs := by rw [Rat.den_mkRat, if_neg hy]
theorem least_one (z : Int) : (mkRat z 1).num = z ∧ (mkRat z 1).den = 1 := by
  rw [least_num z (by decide), least_den z (by decide), Nat.gcd_one_left, Nat.div_one, sg_self]
  exact ⟨rfl, rfl⟩
theorem br_mk (z : Int) (y : Nat) : br (mkRat z y) ≤ max (bi z) (max (bl y) 1) := by
  by_cases hy : y = 0
  · subst hy
    rw [Rat.mkRat_zero]
    show max (bi 0) (bl 1) ≤ _
    have : bi 0 = 0 := rfl
    have : bl 1 = 1 := rfl
    omega
  · have h1 : bi (mkRat z y).num ≤ bi z := by
      unfold bi
      rw [least_num z hy, sg_natAbs]
      exact bl_mono (Nat.div_le_self _ _)
    have h2 : bl (mkRat z y).den ≤ bl y := by
      rw [least_den z hy]
      exact bl_mono (Nat.div_le_self _ _)
    unfold br
    omega
theorem br_neg (q : Rat) : br (-q) = br q := by
  unfold br
  rw [Rat.neg_num, Rat.neg_den, bi_neg]
theorem br_add (p q : Rat) : br (p + q) ≤ br p + br q + 2 := by
  rw [Rat.add_def']
  have h1 := br_mk (p.num * q.den + q.num * p.den) (p.den * q.den)
  have h2 := bi_add (p.num * q.den) (q.num * p.den)
  have h3 := bi_mul p.num q.den
  have h4 := bi_mul q.num p.den
  have h5 := bl_mul p.den q.den
  have e1 : bi (q.den : Int) = bl q.den := by unfold bi; rw [Int.natAbs_natCast]
  have e2 : bi (p.den : Int) = bl p.den := by unfold bi; rw [Int.natAbs_natCast]
  have a1 := bi_br p; have a2 := bl_br p; have a3 := bi_br q; have a4 := bl_br q
  omega
theorem br_mul (p q : Rat) : br (p * q) ≤ br p + br q + 1 := by
  rw [Rat.mul_def']
  have h1 := br_mk (p.num * q.num) (p.den * q.den)
  have h3 := bi_mul p.num q.num
  have h5 := bl_mul p.den q.den
  have a1 := bi_br p; have a2 := bl_br p; have a3 := bi_br q; have a4 := bl_br q
  omega
theorem br_sub (p q : Rat) : br (p - q) ≤ br p + br q + 2 := by
  rw [Rat.sub_eq_add_neg]
  have := br_add p (-q)
  rwa [br_neg] at this

/-- which one is greater -/
def cmpR (p q : Rat) : Int := if p < q then -1 else if q < p then 1 else 0
theorem cmpI_R (p q : Rat) : cmpI (p.num * q.den) (q.num * p.den) = cmpR p q := by
  unfold cmpI cmpR
  simp only [Rat.lt_iff]

/-! ### texts -/
def rtx (q : Rat) : List Nat := if q.den = 1 then itxt q.num else itxt q.num ++ 47 :: txt q.den
theorem rtx_lt (q : Rat) : ∀ d ∈ rtx q, d < 256 := by
  unfold rtx
  split
  · exact itxt_lt _
  · intro d hd
    rcases List.mem_append.1 hd with h | h
    · exact itxt_lt _ d h
    · rcases List.mem_cons.1 h with rfl | h
      · decide
      · exact txt_lt _ d h
def sl (l : List Nat) : Nat := l.idxOf 47
def ratOk (l : List Nat) : Bool :=
  if sl l = l.length then intOk l
  else (intOk (l.take (sl l)) && decOk (l.drop (sl l + 1))) && (decide (2 ≤ dv (l.drop (sl l + 1))) && decide ((dv (l.drop (sl l + 1))).gcd (iv (l.take (sl l))).natAbs = 1))
def rv (l : List Nat) : Rat := if sl l = l.length then mkRat (iv l) 1 else mkRat (iv (l.take (sl l))) (dv (l.drop (sl l + 1)))
theorem mk_coprime {z : Int} {y : Nat} (hy : y ≠ 0) (h : y.gcd z.natAbs = 1) : (mkRat z y).num = z ∧ (mkRat z y).den = y := by
  rw [least_num z hy, least_den z hy, h, Nat.div_one, Nat.div_one, sg_self]
  exact ⟨rfl, rfl⟩
theorem sl_le (l : List Nat) : sl l ≤ l.length := List.idxOf_le_length
theorem sl_get {l : List Nat} (h : sl l ≠ l.length) : l = l.take (sl l) ++ 47 :: l.drop (sl l + 1) := by
  have h1 : sl l < l.length := by have := sl_le l; omega
  have h2 : l[sl l] = 47 := by unfold sl; exact List.getElem_idxOf h1
  conv => lhs; rw [← List.take_append_drop (sl l) l, List.drop_eq_getElem_cons h1, h2]
theorem ratOk_parts {l : List Nat} (h0 : sl l ≠ l.length) (h : ratOk l = true) : intOk (l.take (sl l)) = true ∧ decOk (l.drop (sl l + 1)) = true ∧ 2 ≤ dv (l.drop (sl l + 1)) ∧ (dv (l.drop (sl l + 1))).gcd (iv (l.take (sl l))).natAbs = 1 := by
  unfold ratOk at h
  rw [if_neg h0, Bool.and_eq_true, Bool.and_eq_true, Bool.and_eq_true, decide_eq_true_eq, decide_eq_true_eq] at h
  exact ⟨h.1.1, h.1.2, h.2.1, h.2.2⟩
theorem rtx_rv {l : List Nat} (h : ratOk l = true) : rtx (rv l) = l := by
  by_cases h0 : sl l = l.length
  · unfold ratOk at h
    rw [if_pos h0] at h
    unfold rv rtx
    obtain ⟨e1, e2⟩ := least_one (iv l)
    rw [if_pos h0, if_pos e2, e1, itxt_iv h]
  · obtain ⟨k1, k2, k3, k4⟩ := ratOk_parts h0 h
    unfold rv rtx
    obtain ⟨e1, e2⟩ := mk_coprime (by omega) k4
    rw [if_neg h0, e2, if_neg (by omega), e1, itxt_iv k1, txt_dv k2]
    exact (sl_get h0).symm

/-! ### powers, quotients, floors -/
theorem bi_cast' (n : Nat) : bi (n : Int) = bl n := by unfold bi; rw [Int.natAbs_natCast]
theorem divI_mk (z w : Int) : Rat.divInt z w = mkRat (if w < 0 then -z else z) w.natAbs := by
  by_cases h : w < 0
  · rw [if_pos h]
    have e : w = -((w.natAbs : Nat) : Int) := by omega
    conv => lhs; rw [e, Rat.divInt_neg', Rat.divInt_ofNat]
  · rw [if_neg h]
    have e : w = ((w.natAbs : Nat) : Int) := by omega
    conv => lhs; rw [e, Rat.divInt_ofNat]
theorem inv_mk (q : Rat) : q⁻¹ = mkRat (sg (decide (q.num < 0)) q.den) q.num.natAbs := by
  conv => lhs; rw [← Rat.num_divInt_den q, Rat.inv_divInt, divI_mk]
  congr 1
  by_cases h1 : q.num < 0
  · rw [if_pos h1, decide_eq_true h1, sg_true]
  · rw [if_neg h1, decide_eq_false h1, sg_false]
theorem div_divI (p q : Rat) : p / q = Rat.divInt (p.num * q.den) (p.den * q.num) := by
  conv => lhs; rw [Rat.div_def, ← Rat.num_divInt_den q, Rat.inv_divInt, ← Rat.num_divInt_den p, Rat.divInt_mul_divInt]
theorem br_divI (z w : Int) : br (Rat.divInt z w) ≤ max (bi z) (max (bi w) 1) := by
  by_cases hw : w = 0
  · subst hw
    rw [Rat.divInt_zero]
    show max (bi 0) (bl 1) ≤ _
    have : bi 0 = 0 := rfl
    have : bl 1 = 1 := rfl
    omega
  · rw [divI_mk]
    have := br_mk (if w < 0 then -z else z) w.natAbs
    have e : bi (if w < 0 then -z else z) = bi z := by
      split
      · exact bi_neg z
      · rfl
    have e2 : bi w = bl w.natAbs := rfl
    omega
theorem br_div (p q : Rat) : br (p / q) ≤ br p + br q + 1 := by
  rw [div_divI]
  have h1 := br_divI (p.num * q.den) (p.den * q.num)
  have h3 := bi_mul p.num q.den
  have h4 := bi_mul p.den q.num
  rw [bi_cast'] at h3 h4
  have a1 := bi_br p; have a2 := bl_br p; have a3 := bi_br q; have a4 := bl_br q
  omega
theorem num_eq_zero (q : Rat) : q.num = 0 ↔ q = 0 := Rat.num_eq_zero
theorem floor_eq (q : Rat) : q.floor = q.num.fdiv q.den := by
  rw [Rat.floor_def, Int.fdiv_eq_ediv_of_nonneg _ (Int.natCast_nonneg _)]
theorem bi_powI (z : Int) (m : Nat) : bi (z ^ m) ≤ m * bi z + 1 := by
  induction m with
  | zero =>
    rw [Int.pow_zero]
    have : bi 1 = 1 := rfl
    omega
  | succ m ih =>
    rw [Int.pow_succ]
    have := bi_mul (z ^ m) z
    rw [Nat.add_mul]
    omega
theorem br_pow (q : Rat) (m : Nat) : br (q ^ m) ≤ m * br q + 1 := by
  have h1 := bi_powI q.num m
  have h2 := bi_powI (q.den : Int) m
  rw [bi_cast', ← Int.natCast_pow, bi_cast'] at h2
  have h3 := Nat.mul_le_mul_left m (bi_br q)
  have h4 := Nat.mul_le_mul_left m (bl_br q)
  unfold br at h3 h4 ⊢
  rw [Rat.num_pow, Rat.den_pow]
  omega
theorem dn_pow (q : Rat) (m : Nat) : dn (q ^ m) = if q.den = 1 ∨ m = 0 then 0 else q.den ^ m := by
  unfold dn
  rw [Rat.den_pow]
  split
  · rename_i h
    rcases Nat.pow_eq_one.1 h with h1 | h1
    · rw [if_pos (.inl h1)]
    · rw [if_pos (.inr h1)]
  · rename_i h
    rw [if_neg fun h1 => h (Nat.pow_eq_one.2 h1)]

end Go.Proofs.Ytpifafenmgceoaa.X
namespace Go.Proofs.Ytpifafenmgceoaa.X

theorem rv_br {l : List Nat} (h : ratOk l = true) : br (rv l) ≤ 4 * l.length + 1 := by
  by_cases h0 : sl l = l.length
  · unfold ratOk at h
    rw [if_pos h0] at h
    unfold rv
    rw [if_pos h0]
    have h1 := br_mk (iv l) 1
    have h2 := bi_iv h
    have h3 : bl 1 = 1 := rfl
    omega
  · obtain ⟨k1, k2, k3, k4⟩ := ratOk_parts h0 h
    unfold rv
    rw [if_neg h0]
    have h1 := br_mk (iv (l.take (sl l))) (dv (l.drop (sl l + 1)))
    have h2 := bi_iv k1
    have h3 : bl (dv (l.drop (sl l + 1))) ≤ 4 * (l.drop (sl l + 1)).length := by
      simp only [decOk, Bool.and_eq_true, List.all_eq_true, decide_eq_true_eq] at k2
      exact bl_dv fun d hd => by have := k2.2.2 d hd; simp [isDig] at this; omega
    rw [List.length_take] at h2
    rw [List.length_drop] at h3
    omega
theorem cmpR_self (p : Rat) : cmpR p p = 0 := by unfold cmpR; rw [if_neg (Rat.lt_irrefl), if_neg (Rat.lt_irrefl)]
theorem cmpR_eq {p q : Rat} (h : p = q) : cmpR p q = 0 := by rw [h, cmpR_self]
theorem cmpR_lt {p q : Rat} (h : p < q) : cmpR p q = -1 := by unfold cmpR; rw [if_pos h]
theorem cmpR_gt {p q : Rat} (h : q < p) : cmpR p q = 1 := by unfold cmpR; rw [if_neg (by grind), if_pos h]
theorem cmpR_cases (p q : Rat) : (p < q ∧ cmpR p q = -1) ∨ (p = q ∧ cmpR p q = 0) ∨ (q < p ∧ cmpR p q = 1) := by
  by_cases h : p < q
  · exact .inl ⟨h, cmpR_lt h⟩
  · by_cases h2 : q < p
    · exact .inr (.inr ⟨h2, cmpR_gt h2⟩)
    · have : p = q := by grind
      exact .inr (.inl ⟨this, cmpR_eq this⟩)
theorem cmpR_bd (p q : Rat) : -1 ≤ cmpR p q ∧ cmpR p q ≤ 1 := by
  rcases cmpR_cases p q with h | h | h <;> omega
theorem sgnI_R (p : Rat) : sgnI p.num = cmpR p 0 := by
  have := cmpI_R p 0
  rw [← this]
  unfold sgnI cmpI
  simp
theorem cmpR_add (p q r : Rat) : cmpR (p + r) (q + r) = cmpR p q := by
  rcases cmpR_cases p q with h | h | h
  · rw [h.2]; exact cmpR_lt (by grind)
  · rw [h.2]; exact cmpR_eq (by grind)
  · rw [h.2]; exact cmpR_gt (by grind)
theorem cmpR_mid1 (p q : Rat) : cmpR p ((p + q) / 2) = cmpR p q := by
  have e : (p + q) / 2 * 2 = p + q := Rat.div_mul_cancel (by decide)
  rcases cmpR_cases p q with h | h | h
  · rw [h.2]; exact cmpR_lt (by grind)
  · rw [h.2]; exact cmpR_eq (by grind)
  · rw [h.2]; exact cmpR_gt (by grind)
theorem cmpR_mid2 (p q : Rat) : cmpR ((p + q) / 2) q = cmpR p q := by
  have e : (p + q) / 2 * 2 = p + q := Rat.div_mul_cancel (by decide)
  rcases cmpR_cases p q with h | h | h
  · rw [h.2]; exact cmpR_lt (by grind)
  · rw [h.2]; exact cmpR_eq (by grind)
  · rw [h.2]; exact cmpR_gt (by grind)
theorem cmpR_mul (p q r : Rat) : cmpR (p * r) (q * r) = cmpR p q * cmpR r 0 := by
  rcases cmpR_cases r 0 with h | h | h
  · rw [h.2]
    rcases cmpR_cases p q with k | k | k
    · rw [k.2]; exact cmpR_gt (by have := Rat.mul_lt_mul_of_pos_right k.1 (show 0 < -r by grind); grind)
    · rw [k.2]; exact cmpR_eq (by grind)
    · rw [k.2]; exact cmpR_lt (by have := Rat.mul_lt_mul_of_pos_right k.1 (show 0 < -r by grind); grind)
  · rw [h.2, h.1]; simp only [Rat.mul_zero, Int.mul_zero]; exact cmpR_self 0
  · rw [h.2]
    rcases cmpR_cases p q with k | k | k
    · rw [k.2]; exact cmpR_lt (by have := Rat.mul_lt_mul_of_pos_right k.1 h.1; grind)
    · rw [k.2]; exact cmpR_eq (by grind)
    · rw [k.2]; exact cmpR_gt (by have := Rat.mul_lt_mul_of_pos_right k.1 h.1; grind)
theorem ring_R (p q r : Rat) : (p + q) * r = r * p + r * q := by grind
theorem sub_R (p q : Rat) : p - q = -(q - p) := by grind

/-- times the same, the same number -/
theorem times_same (p : Rat) {k : Int} (hk : k ≠ 0) : Rat.divInt (p.num * k) ((p.den : Int) * k) = p := by
  rw [Rat.divInt_mul_right hk, Rat.num_divInt_den]
theorem floor_lt (p : Rat) : 0 ≤ p - (p.floor : Rat) ∧ p - (p.floor : Rat) < 1 := by
  have h1 : (p.floor : Rat) ≤ p := Rat.floor_le p
  have h2 : p < ((p.floor + 1 : Int) : Rat) := Rat.lt_floor_add_one p
  rw [Rat.intCast_add] at h2
  constructor
  · grind
  · have : ((1 : Int) : Rat) = 1 := rfl
    grind
theorem divInt_one (z : Int) : Rat.divInt z 1 = (z : Rat) := (Rat.divInt_ofNat z 1).trans (Rat.mkRat_one z)

theorem sl_cons (b : Nat) (l : List Nat) : sl (b :: l) = if b = 47 then 0 else sl l + 1 := by
  unfold sl
  rw [List.idxOf_cons]
  by_cases h : b = 47
  · subst h; rfl
  · rw [if_neg h, beq_false_of_ne h]; rfl
theorem sl_at : ∀ (l : List Nat) (i : Nat), i ≤ sl l → i < l.length → (l.getD i 0 = 47 ↔ sl l = i)
  | [], i, _, h => absurd h (Nat.not_lt_zero i)
  | b :: l, 0, _, _ => by
    rw [sl_cons]
    by_cases h : b = 47
    · rw [if_pos h]; simp [h]
    · rw [if_neg h]; simp [h]
  | b :: l, i + 1, h1, h2 => by
    rw [sl_cons] at h1 ⊢
    by_cases h : b = 47
    · rw [if_pos h] at h1; omega
    · rw [if_neg h] at h1 ⊢
      rw [List.length_cons] at h2
      have := sl_at l i (by omega) (by omega)
      rw [List.getD_cons_succ, this]
      omega

/-! ### the first call -/
theorem alive_ok : ratOk [45, 51, 47, 52] = true := by decide +kernel
theorem alive_rv : rv [45, 51, 47, 52] = mkRat (-3) 4 := by
  have h1 : sl [45, 51, 47, 52] = 2 := by decide
  unfold rv
  rw [h1, if_neg (by decide)]
  rfl
theorem alive_sum : mkRat (-3) 4 + ((1 : Int) : Rat) = mkRat 1 4 := by
  obtain ⟨e1, e2⟩ := mk_coprime (z := -3) (y := 4) (by decide) (by decide +kernel)
  rw [Rat.add_def', e1, e2, Rat.num_intCast, Rat.den_intCast]
  rfl
theorem alive_txt : rtx (mkRat 1 4) = [49, 47, 52] := by
  obtain ⟨e1, e2⟩ := mk_coprime (z := 1) (y := 4) (by decide) (by decide +kernel)
  unfold rtx
  rw [e1, e2, if_neg (by decide), txt_small (by decide) (by decide)]
  unfold itxt
  rw [if_neg (by decide), show (1 : Int).natAbs = 1 from rfl, txt_small (by decide) (by decide)]
  rfl
theorem rtx_zero : ofB (rtx 0) = ⟨#[48]⟩ := rfl

end Go.Proofs.Ytpifafenmgceoaa.X
set_option linter.unusedVariables false
set_option linter.unusedSimpArgs false
namespace Go.Proofs.Ytpifafenmgceoaa.X

theorem intOk_len {l : List Nat} (h : intOk l = true) : l.length ≤ 4001 := by
  unfold intOk at h
  split at h
  · rw [Bool.and_eq_true] at h
    have := h.1
    simp only [decOk, Bool.and_eq_true, decide_eq_true_eq, List.length_drop] at this
    omega
  · simp only [decOk, Bool.and_eq_true, decide_eq_true_eq] at h
    omega
theorem ratOk_len {l : List Nat} (h : ratOk l = true) : l.length ≤ 8002 := by
  by_cases h0 : sl l = l.length
  · unfold ratOk at h
    rw [if_pos h0] at h
    have := intOk_len h
    omega
  · obtain ⟨k1, k2, k3, k4⟩ := ratOk_parts h0 h
    have h1 := intOk_len k1
    simp only [decOk, Bool.and_eq_true, decide_eq_true_eq, List.length_drop] at k2
    have h2 := k2.1.2
    have h3 := sl_le l
    rw [List.length_take] at h1
    omega
theorem rv_max {l : List Nat} (h : ratOk l = true) : br (rv l) ≤ 32009 := by
  have h1 := rv_br h
  have h2 := ratOk_len h
  omega

end Go.Proofs.Ytpifafenmgceoaa.X
set_option linter.unusedVariables false
set_option linter.unusedSimpArgs false
namespace Go.Proofs.Ytpifafenmgceoaa.X

def minR (p q : Rat) : Rat := if q < p then q else p
def maxR (p q : Rat) : Rat := if p < q then q else p
theorem minR_l (p q : Rat) : minR p q ≤ p := by unfold minR; grind
theorem minR_r (p q : Rat) : minR p q ≤ q := by unfold minR; grind
theorem maxR_l (p q : Rat) : p ≤ maxR p q := by unfold maxR; grind
theorem maxR_r (p q : Rat) : q ≤ maxR p q := by unfold maxR; grind
theorem minR_cases (p q : Rat) : minR p q = p ∨ minR p q = q := by unfold minR; grind
theorem maxR_cases (p q : Rat) : maxR p q = p ∨ maxR p q = q := by unfold maxR; grind
theorem le_minR {p q x : Rat} (h : x ≤ p) (k : x ≤ q) : x ≤ minR p q := by unfold minR; grind
theorem maxR_le {p q x : Rat} (h : p ≤ x) (k : q ≤ x) : maxR p q ≤ x := by unfold maxR; grind
theorem min_le_max (p q : Rat) : minR p q ≤ maxR p q := by unfold minR maxR; grind
theorem br_min (p q : Rat) : br (minR p q) ≤ br p + br q := by
  rcases minR_cases p q with h | h <;> rw [h] <;> omega
theorem br_max (p q : Rat) : br (maxR p q) ≤ br p + br q := by
  rcases maxR_cases p q with h | h <;> rw [h] <;> omega
theorem br_min' {p q : Rat} {n : Nat} (h : br p ≤ n) (k : br q ≤ n) : br (minR p q) ≤ n := by
  rcases minR_cases p q with e | e <;> rw [e] <;> omega
theorem br_max' {p q : Rat} {n : Nat} (h : br p ≤ n) (k : br q ≤ n) : br (maxR p q) ≤ n := by
  rcases maxR_cases p q with e | e <;> rw [e] <;> omega
/-- the least and the greatest of some -/
def lstLo (p : Rat) (l : List Rat) : Rat := l.foldl minR p
def lstHi (p : Rat) (l : List Rat) : Rat := l.foldl maxR p

/-- a product's ends -/
def mulLo (a b c d : Rat) : Rat := minR (minR (a * c) (b * d)) (minR (a * d) (b * c))
def mulHi (a b c d : Rat) : Rat := maxR (maxR (a * c) (b * d)) (maxR (a * d) (b * c))
theorem minR_uniq {m n : Rat} (h : m ≤ n) (k : n ≤ m) : m = n := Rat.le_antisymm h k
theorem lst4 (p q r s : Rat) : lstLo p [q, r, s] = minR (minR p s) (minR q r) ∧ lstHi p [q, r, s] = maxR (maxR p s) (maxR q r) := by
  unfold lstLo lstHi
  simp only [List.foldl_cons, List.foldl_nil]
  constructor
  · refine minR_uniq ?_ ?_
    · have h1 := minR_l (minR (minR p q) r) s; have h2 := minR_r (minR (minR p q) r) s; have h3 := minR_l (minR p q) r; have h4 := minR_r (minR p q) r; have h5 := minR_l p q; have h6 := minR_r p q
      refine le_minR (le_minR ?_ h2) (le_minR ?_ ?_) <;> grind
    · have h1 := minR_l (minR p s) (minR q r); have h2 := minR_r (minR p s) (minR q r); have h3 := minR_l p s; have h4 := minR_r p s; have h5 := minR_l q r; have h6 := minR_r q r
      refine le_minR (le_minR (le_minR ?_ ?_) ?_) ?_ <;> grind
  · refine minR_uniq ?_ ?_
    · have h1 := maxR_l (maxR p s) (maxR q r); have h2 := maxR_r (maxR p s) (maxR q r); have h3 := maxR_l p s; have h4 := maxR_r p s; have h5 := maxR_l q r; have h6 := maxR_r q r
      refine maxR_le (maxR_le (maxR_le ?_ ?_) ?_) ?_ <;> grind
    · have h1 := maxR_l (maxR (maxR p q) r) s; have h2 := maxR_r (maxR (maxR p q) r) s; have h3 := maxR_l (maxR p q) r; have h4 := maxR_r (maxR p q) r; have h5 := maxR_l p q; have h6 := maxR_r p q
      refine maxR_le (maxR_le ?_ h2) (maxR_le ?_ ?_) <;> grind
theorem mul_ref (a b c d : Rat) : lstLo (a * c) [a * d, b * c, b * d] = mulLo a b c d ∧ lstHi (a * c) [a * d, b * c, b * d] = mulHi a b c d := lst4 _ _ _ _
/-- times a number -/
theorem scale_ref (a b r : Rat) : mulLo a b r r = minR (a * r) (b * r) ∧ mulHi a b r r = maxR (a * r) (b * r) := by
  unfold mulLo mulHi
  generalize a * r = x
  generalize b * r = y
  constructor
  · unfold minR; grind
  · unfold maxR; grind
theorem lin {a b x : Rat} (y : Rat) (h : a ≤ x) (k : x ≤ b) : minR (a * y) (b * y) ≤ x * y ∧ x * y ≤ maxR (a * y) (b * y) := by
  by_cases hy : 0 ≤ y
  · have h1 := Rat.mul_le_mul_of_nonneg_right h hy
    have h2 := Rat.mul_le_mul_of_nonneg_right k hy
    exact ⟨Rat.le_trans (minR_l _ _) h1, Rat.le_trans h2 (maxR_r _ _)⟩
  · have hy' : 0 ≤ -y := by grind
    have h1 := Rat.mul_le_mul_of_nonneg_right h hy'
    have h2 := Rat.mul_le_mul_of_nonneg_right k hy'
    have h3 : b * y ≤ x * y := by grind
    have h4 : x * y ≤ a * y := by grind
    exact ⟨Rat.le_trans (minR_r _ _) h3, Rat.le_trans h4 (maxR_l _ _)⟩
theorem has_mul {a b c d x y : Rat} (h1 : a ≤ x) (h2 : x ≤ b) (h3 : c ≤ y) (h4 : y ≤ d) : mulLo a b c d ≤ x * y ∧ x * y ≤ mulHi a b c d := by
  have k1 := lin y h1 h2
  have k2 := lin a h3 h4
  have k3 := lin b h3 h4
  rw [Rat.mul_comm y a, Rat.mul_comm c a, Rat.mul_comm d a] at k2
  rw [Rat.mul_comm y b, Rat.mul_comm c b, Rat.mul_comm d b] at k3
  have l1 : mulLo a b c d ≤ a * c := Rat.le_trans (minR_l _ _) (minR_l _ _)
  have l2 : mulLo a b c d ≤ b * d := Rat.le_trans (minR_l _ _) (minR_r _ _)
  have l3 : mulLo a b c d ≤ a * d := Rat.le_trans (minR_r _ _) (minR_l _ _)
  have l4 : mulLo a b c d ≤ b * c := Rat.le_trans (minR_r _ _) (minR_r _ _)
  have u1 : a * c ≤ mulHi a b c d := Rat.le_trans (maxR_l _ _) (maxR_l _ _)
  have u2 : b * d ≤ mulHi a b c d := Rat.le_trans (maxR_r _ _) (maxR_l _ _)
  have u3 : a * d ≤ mulHi a b c d := Rat.le_trans (maxR_l _ _) (maxR_r _ _)
  have u4 : b * c ≤ mulHi a b c d := Rat.le_trans (maxR_r _ _) (maxR_r _ _)
  constructor
  · refine Rat.le_trans (le_minR ?_ ?_) k1.1
    · exact Rat.le_trans (le_minR l1 l3) k2.1
    · exact Rat.le_trans (le_minR l4 l2) k3.1
  · refine Rat.le_trans k1.2 (maxR_le ?_ ?_)
    · exact Rat.le_trans k2.2 (maxR_le u1 u3)
    · exact Rat.le_trans k3.2 (maxR_le u4 u2)
theorem mul_within {a b c d a' b' : Rat} (h1 : a ≤ a') (h2 : a' ≤ b') (h3 : b' ≤ b) (h4 : c ≤ d) : mulLo a b c d ≤ mulLo a' b' c d ∧ mulHi a' b' c d ≤ mulHi a b c d := by
  have e1 := has_mul h1 (Rat.le_trans h2 h3) (Rat.le_refl (a := c)) h4
  have e2 := has_mul (Rat.le_trans h1 h2) h3 h4 (Rat.le_refl (a := d))
  have e3 := has_mul h1 (Rat.le_trans h2 h3) h4 (Rat.le_refl (a := d))
  have e4 := has_mul (Rat.le_trans h1 h2) h3 (Rat.le_refl (a := c)) h4
  exact ⟨le_minR (le_minR e1.1 e2.1) (le_minR e3.1 e4.1), maxR_le (maxR_le e1.2 e2.2) (maxR_le e3.2 e4.2)⟩

/-- powers -/
theorem pow_nonneg {x : Rat} (h : 0 ≤ x) (n : Nat) : 0 ≤ x ^ n := by
  induction n with
  | zero => rw [Rat.pow_zero]; decide
  | succ n ih => rw [Rat.pow_succ]; exact Rat.mul_nonneg ih h
theorem pow_mono {x y : Rat} (h : 0 ≤ x) (k : x ≤ y) (n : Nat) : x ^ n ≤ y ^ n := by
  induction n with
  | zero => rw [Rat.pow_zero, Rat.pow_zero]; exact Rat.le_refl
  | succ n ih =>
    rw [Rat.pow_succ, Rat.pow_succ]
    exact Rat.le_trans (Rat.mul_le_mul_of_nonneg_right ih h) (Rat.mul_le_mul_of_nonneg_left k (pow_nonneg (Rat.le_trans h k) n))
theorem pow_two (x : Rat) (k : Nat) : x ^ (2 * k) = (x * x) ^ k := by
  induction k with
  | zero => rw [Nat.mul_zero, Rat.pow_zero, Rat.pow_zero]
  | succ k ih => rw [Nat.mul_succ, Rat.pow_succ, Rat.pow_succ, Rat.pow_succ, ih, Rat.mul_assoc]
theorem sq_nonneg (x : Rat) : 0 ≤ x * x := by
  by_cases h : 0 ≤ x
  · exact Rat.mul_nonneg h h
  · have h1 : 0 ≤ -x := by grind
    have h2 := Rat.mul_nonneg h1 h1
    rw [Rat.neg_mul, Rat.mul_neg, Rat.neg_neg] at h2
    exact h2
theorem even_nonneg (x : Rat) {n : Nat} (h : n % 2 = 0) : 0 ≤ x ^ n := by
  rw [show n = 2 * (n / 2) by omega, pow_two]
  exact pow_nonneg (sq_nonneg x) _
theorem odd_neg (x : Rat) {n : Nat} (h : n % 2 = 1) : (-x) ^ n = -(x ^ n) := by
  rw [show n = 2 * (n / 2) + 1 by omega, Rat.pow_succ, Rat.pow_succ, pow_two, pow_two, show -x * -x = x * x by grind, Rat.mul_neg]
theorem odd_mono {x y : Rat} (k : x ≤ y) {n : Nat} (h : n % 2 = 1) : x ^ n ≤ y ^ n := by
  have n0 : n ≠ 0 := by omega
  by_cases hx : 0 ≤ x
  · exact pow_mono hx k n
  · by_cases hy : 0 ≤ y
    · have h1 : 0 ≤ (-x) ^ n := pow_nonneg (by grind) n
      rw [odd_neg x h] at h1
      have h2 := pow_nonneg hy n
      grind
    · have h1 : (-y) ^ n ≤ (-x) ^ n := pow_mono (by grind) (by grind) n
      rw [odd_neg x h, odd_neg y h] at h1
      grind
theorem even_mono {x y : Rat} (h : x * x ≤ y * y) {n : Nat} (hn : n % 2 = 0) : x ^ n ≤ y ^ n := by
  rw [show n = 2 * (n / 2) by omega, pow_two, pow_two]
  exact pow_mono (sq_nonneg x) h _
/-- a power's ends -/
def powLo (p q : Rat) (n : Nat) : Rat := if 0 < n ∧ n % 2 = 0 ∧ p ≤ 0 ∧ 0 ≤ q then 0 else minR (p ^ n) (q ^ n)
def powHi (p q : Rat) (n : Nat) : Rat := maxR (p ^ n) (q ^ n)
theorem sq_le {x y : Rat} (h : 0 ≤ x) (k : x ≤ y) : x * x ≤ y * y :=
  Rat.le_trans (Rat.mul_le_mul_of_nonneg_right k h) (Rat.mul_le_mul_of_nonneg_left k (Rat.le_trans h k))
theorem sq_ge {x y : Rat} (h : y ≤ 0) (k : x ≤ y) : y * y ≤ x * x := by
  have := sq_le (x := -y) (y := -x) (by grind) (by grind)
  have e1 : -y * -y = y * y := by grind
  have e2 : -x * -x = x * x := by grind
  rw [e1, e2] at this
  exact this
theorem has_pow {a b x : Rat} (h1 : a ≤ x) (h2 : x ≤ b) (n : Nat) : powLo a b n ≤ x ^ n ∧ x ^ n ≤ powHi a b n := by
  unfold powLo powHi
  by_cases hn : n % 2 = 0
  · constructor
    · split
      · exact even_nonneg x hn
      · rename_i h
        by_cases h0 : n = 0
        · subst h0; rw [Rat.pow_zero, Rat.pow_zero, Rat.pow_zero]; exact minR_l _ _
        · by_cases ha : a ≤ 0
          · have hb : ¬ 0 ≤ b := fun hb => h ⟨by omega, hn, ha, hb⟩
            refine Rat.le_trans (minR_r _ _) (even_mono (sq_ge ?_ h2) hn)
            grind
          · refine Rat.le_trans (minR_l _ _) (even_mono (sq_le ?_ h1) hn)
            grind
    · by_cases hx : 0 ≤ x
      · exact Rat.le_trans (even_mono (sq_le hx h2) hn) (maxR_r _ _)
      · exact Rat.le_trans (even_mono (sq_ge (by grind) h1) hn) (maxR_l _ _)
  · rw [if_neg (fun h => hn h.2.1)]
    exact ⟨Rat.le_trans (minR_l _ _) (odd_mono h1 (by omega)), Rat.le_trans (odd_mono h2 (by omega)) (maxR_r _ _)⟩
theorem pow_ref (p q : Rat) (n : Nat) (hpq : p ≤ q) (hn : 0 < n) (he : n % 2 = 0) (h : p < 0 ∧ 0 < q) : lstLo (p ^ n) [q ^ n, 0] = powLo p q n ∧ lstHi (p ^ n) [q ^ n, 0] = powHi p q n := by
  have a1 := even_nonneg p he
  have a2 := even_nonneg q he
  unfold lstLo lstHi powLo powHi
  simp only [List.foldl_cons, List.foldl_nil]
  rw [if_pos ⟨hn, he, by have := h.1; grind, by have := h.2; grind⟩]
  generalize p ^ n = x at *
  generalize q ^ n = y at *
  unfold minR maxR
  constructor <;> grind
theorem zero_pow' {n : Nat} (h : 0 < n) : (0 : Rat) ^ n = 0 := by
  rw [show n = (n - 1) + 1 by omega, Rat.pow_succ, Rat.mul_zero]
theorem pow_ref2 (p q : Rat) (n : Nat) (hpq : p ≤ q) (h : ¬ (0 < n ∧ n % 2 = 0 ∧ p < 0 ∧ 0 < q)) : lstLo (p ^ n) [q ^ n] = powLo p q n ∧ lstHi (p ^ n) [q ^ n] = powHi p q n := by
  unfold lstLo lstHi powLo powHi
  simp only [List.foldl_cons, List.foldl_nil]
  refine ⟨?_, trivial⟩
  split
  · rename_i k
    have a1 := even_nonneg p k.2.1
    have a2 := even_nonneg q k.2.1
    have : p = 0 ∨ q = 0 := by
      by_cases hp : p < 0
      · by_cases hq : 0 < q
        · exact absurd ⟨k.1, k.2.1, hp, hq⟩ h
        · right; have := k.2.2.2; grind
      · left; have := k.2.2.1; grind
    have hz : p ^ n = 0 ∨ q ^ n = 0 := by
      rcases this with e | e
      · left; rw [e, zero_pow' k.1]
      · right; rw [e, zero_pow' k.1]
    generalize p ^ n = x at *
    generalize q ^ n = y at *
    unfold minR
    grind
  · rfl
theorem pow_within {a b a' b' : Rat} (h1 : a ≤ a') (h2 : a' ≤ b') (h3 : b' ≤ b) (n : Nat) : powLo a b n ≤ powLo a' b' n ∧ powHi a' b' n ≤ powHi a b n := by
  have e1 := has_pow h1 (Rat.le_trans h2 h3) n
  have e2 := has_pow (Rat.le_trans h1 h2) h3 n
  refine ⟨?_, maxR_le e1.2 e2.2⟩
  unfold powLo at *
  by_cases k : 0 < n ∧ n % 2 = 0 ∧ a' ≤ 0 ∧ 0 ≤ b'
  · rw [if_pos k, if_pos ⟨k.1, k.2.1, by have := k.2.2.1; grind, by have := k.2.2.2; grind⟩]
    exact Rat.le_refl
  · rw [if_neg k]
    exact le_minR e1.1 e2.1
theorem powLo_even (p q : Rat) {n : Nat} (h : n % 2 = 0) : 0 ≤ powLo p q n := by
  unfold powLo
  split
  · exact Rat.le_refl
  · exact le_minR (even_nonneg p h) (even_nonneg q h)

/-- from one end to the other -/
def ins (p q : Rat) (k : Int) : Rat := p + (q - p) * ((k : Rat) / ((8 : Int) : Rat))
theorem ins_mono {p q : Rat} (h : p ≤ q) {k l : Int} (hk : k ≤ l) : ins p q k ≤ ins p q l := by
  unfold ins
  have h8 : ((8 : Int) : Rat) = 8 := rfl
  have h1 : (k : Rat) / ((8 : Int) : Rat) ≤ (l : Rat) / ((8 : Int) : Rat) := by
    have h2 := Rat.intCast_le_intCast.2 hk
    have e1 : (k : Rat) / ((8 : Int) : Rat) * ((8 : Int) : Rat) = k := Rat.div_mul_cancel (by decide)
    have e2 : (l : Rat) / ((8 : Int) : Rat) * ((8 : Int) : Rat) = l := Rat.div_mul_cancel (by decide)
    rw [h8] at *
    grind
  have h3 := Rat.mul_le_mul_of_nonneg_left h1 (show 0 ≤ q - p by grind)
  grind
theorem ins_zero (p q : Rat) : ins p q 0 = p := by
  unfold ins
  have : ((0 : Int) : Rat) / ((8 : Int) : Rat) = 0 := by decide +kernel
  rw [this, Rat.mul_zero, Rat.add_zero]
theorem ins_eight (p q : Rat) : ins p q 8 = q := by
  unfold ins
  have : ((8 : Int) : Rat) / ((8 : Int) : Rat) = 1 := by decide +kernel
  rw [this, Rat.mul_one]
  grind
theorem has_ins {p q : Rat} (h : p ≤ q) {k : Int} (h0 : 0 ≤ k) (h8 : k ≤ 8) : p ≤ ins p q k ∧ ins p q k ≤ q := by
  have h1 := ins_mono h h0
  have h2 := ins_mono h h8
  rw [ins_zero] at h1
  rw [ins_eight] at h2
  exact ⟨h1, h2⟩
theorem br_ins {p q : Rat} {k : Int} (h0 : 0 ≤ k) (h8 : k ≤ 8) : br (ins p q k) ≤ 2 * br p + br q + 20 := by
  have h1 := br_add p ((q - p) * ((k : Rat) / ((8 : Int) : Rat)))
  have h2 := br_mul (q - p) ((k : Rat) / ((8 : Int) : Rat))
  have h3 := br_sub q p
  have h4 := br_div (k : Rat) ((8 : Int) : Rat)
  have h5 : br ((8 : Int) : Rat) = 4 := by decide +kernel
  have h6 : br (k : Rat) ≤ 5 := by
    unfold br
    rw [Rat.num_intCast, Rat.den_intCast]
    have : bl 1 = 1 := rfl
    have h7 : bi k ≤ 4 := by
      unfold bi
      rw [bl_le_iff]
      omega
    omega
  unfold ins
  omega
theorem half_R (p : Rat) : p / ((2 : Int) : Rat) = p / 2 := rfl

theorem br_z0 : br 0 = 1 := by decide +kernel
theorem br_powLo (p q : Rat) (n : Nat) : br (powLo p q n) ≤ n * br p + n * br q + 2 := by
  have h1 := br_pow p n
  have h2 := br_pow q n
  have h3 := br_min (p ^ n) (q ^ n)
  unfold powLo
  split
  · rw [br_z0]; omega
  · omega
theorem br_powHi (p q : Rat) (n : Nat) : br (powHi p q n) ≤ n * br p + n * br q + 2 := by
  have h1 := br_pow p n
  have h2 := br_pow q n
  have h3 := br_max (p ^ n) (q ^ n)
  unfold powHi
  omega
theorem br_mulLo (a b c d : Rat) : br (mulLo a b c d) ≤ 2 * (br a + br b + br c + br d) + 4 := by
  have h1 := br_mul a c
  have h2 := br_mul b d
  have h3 := br_mul a d
  have h4 := br_mul b c
  have h5 := br_min (a * c) (b * d)
  have h6 := br_min (a * d) (b * c)
  have h7 := br_min (minR (a * c) (b * d)) (minR (a * d) (b * c))
  unfold mulLo
  omega
theorem br_mulHi (a b c d : Rat) : br (mulHi a b c d) ≤ 2 * (br a + br b + br c + br d) + 4 := by
  have h1 := br_mul a c
  have h2 := br_mul b d
  have h3 := br_mul a d
  have h4 := br_mul b c
  have h5 := br_max (a * c) (b * d)
  have h6 := br_max (a * d) (b * c)
  have h7 := br_max (maxR (a * c) (b * d)) (maxR (a * d) (b * c))
  unfold mulHi
  omega
theorem mul_lohi (a b c d : Rat) : mulLo a b c d ≤ mulHi a b c d := Rat.le_trans (minR_l _ _) (Rat.le_trans (min_le_max _ _) (maxR_l _ _))

end Go.Proofs.Ytpifafenmgceoaa.X
set_option linter.unusedVariables false
set_option linter.unusedSimpArgs false
namespace Go.Proofs.Ytpifafenmgceoaa.X
open Go Go.RowKit

/-- what stands at a slice: n cells a value -/
def ArrV {α : Type} (n : Nat) (P : PH → Value → α → Prop) (H : PH) (A : Option Addr) (l : List α) : Prop :=
  l = [] ∨ ∃ b off cs T fz, A = some ⟨b, off, none⟩ ∧ H b = some (.cells cs T fz) ∧ ∀ i x, l[i]? = some x → ∃ v, ldv (n != 1) n (off + i * n) cs.toList = some v ∧ P H v x
theorem ArrV.le {α : Type} {n : Nat} {P : PH → Value → α → Prop} (hP : ∀ {H H' : PH} {v : Value} {x : α}, P H v x → H.le H' → P H' v x) {H H' : PH} {A : Option Addr} {l : List α} (h : ArrV n P H A l) (hl : H.le H') : ArrV n P H' A l := by
  rcases h with h | ⟨b, off, cs, T, fz, h1, h2, h3⟩
  · exact .inl h
  · refine .inr ⟨b, off, cs, T, fz, h1, hl _ _ h2, fun i x hx => ?_⟩
    obtain ⟨v, k1, k2⟩ := h3 i x hx
    exact ⟨v, k1, hP k2 hl⟩
theorem ArrV.nil {α : Type} {n : Nat} {P : PH → Value → α → Prop} {H : PH} {A : Option Addr} : ArrV n P H A ([] : List α) := .inl rfl
theorem ArrV.open {α : Type} {n : Nat} {P : PH → Value → α → Prop} {H : PH} {A : Option Addr} {l : List α} (h : ArrV n P H A l) (h0 : l ≠ []) : ∃ b off cs T fz, A = some ⟨b, off, none⟩ ∧ H b = some (.cells cs T fz) ∧ ∀ i x, l[i]? = some x → ∃ v, ldv (n != 1) n (off + i * n) cs.toList = some v ∧ P H v x := by
  rcases h with h | h
  · exact absurd h h0
  · exact h
theorem PH.le.le {A B C : PH} (h : A.le B) (k : B.le C) : A.le C := h.trans k
theorem PH.join_l {H M : PH} {b : Nat} {o : Obj} (h : H b = some o) : H.join M b = some o := by
  unfold PH.join
  rw [h]

theorem ev_bslV {X : XT} {s : St} {K : St → Prop} {d : Nat} {T : TypeId} {len : Nat} {cs : List Value} (h : ∀ g, s.H g = none → s.M g = none → X ⟨(d, .v (.slice (some ⟨g, 0, none⟩) len len)) :: s.fr, s.lh, s.H, s.M.set g (.cells cs.toArray T (0, 0))⟩ K) : EvBsl T len cs d X s K := h
theorem PH.join_r {H M : PH} {b : Nat} {o : Obj} (h : H b = none) (k : M b = some o) : H.join M b = some o := by
  unfold PH.join
  rw [h]
  exact k

end Go.Proofs.Ytpifafenmgceoaa.X
