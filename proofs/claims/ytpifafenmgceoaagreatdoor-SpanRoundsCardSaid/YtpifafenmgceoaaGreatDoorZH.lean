/- Quotients: plain facts. -/
import Derived.Test.YtpifafenmgceoaaGreatDoorZY
namespace Go.Proofs.YtpifafenmgceoaaGreatDoor.X

/-- the denominator as package rat keeps it: 0 stands for 1 -/
def dn (q : Rat) : Nat := if q.den = 1 then 0 else q.den
theorem dn_one {q : Rat} (h : q.den = 1) : dn q = 0 := by unfold dn; rw [if_pos h]
theorem dn_ne {q : Rat} (h : q.den ≠ 1) : dn q = q.den := by unfold dn; rw [if_neg h]
theorem dn_zero_iff {q : Rat} : dn q = 0 ↔ q.den = 1 := by
  unfold dn
  have := q.den_nz
  split <;> omega
/-- how many binary digits the parts have -/
def br (q : Rat) : Nat := max (bi q.num) (bl q.den)
theorem bi_br (q : Rat) : bi q.num ≤ br q := Nat.le_max_left _ _
theorem bl_br (q : Rat) : bl q.den ≤ br q := Nat.le_max_right _ _
theorem bl_dn (q : Rat) : bl (dn q) ≤ br q := by
  unfold dn
  split
  · exact Nat.zero_le _
  · exact bl_br q

theorem ediv_sg {z : Int} {g : Nat} (hg : 0 < g) (h : g ∣ z.natAbs) : z / (g : Int) = sg (decide (z < 0)) (z.natAbs / g) := by
  obtain ⟨k, hk⟩ := h
  rw [hk, Nat.mul_div_cancel_left _ hg]
  have e := sg_self z
  rw [hk] at e
  conv => lhs; rw [← e]
  cases decide (z < 0)
  · rw [sg_false, sg_false, Int.natCast_mul]
    exact Int.mul_ediv_cancel_left _ (by omega)
  · rw [sg_true, sg_true, Int.natCast_mul, ← Int.mul_neg]
    exact Int.mul_ediv_cancel_left _ (by omega)

/-- a quotient by the least numbers -/
theorem least_num (z : Int) {y : Nat} (hy : y ≠ 0) : (mkRat z y).num = sg (decide (z < 0)) (z.natAbs / y.gcd z.natAbs) := by
  rw [Rat.num_mkRat, if_neg hy]
  exact ediv_sg (Nat.gcd_pos_of_pos_left _ (Nat.pos_of_ne_zero hy)) (Nat.gcd_dvd_right _ _)
theorem least_den (z : Int) {y : Nat} (hy : y ≠ 0) : (mkRat z y).den = y / y.gcd z.natAbs := by rw [Rat.den_mkRat, if_neg hy]
theorem least_one (z : Int) : (mkRat z 1).num = z ∧ (mkRat z 1).den = 1 := by
  rw [least_num z (by decide), least_den z (by decide), Nat.gcd_one_left, Nat.div_one, sg_self]
  exact ⟨rfl, rfl⟩
theorem br_mk (z : Int) (y : Nat) : br (mkRat z y) ≤ max (bi z) (max (bl y) 1) := by
  by_cases hy : y = 0
  · subst hy
    rw [Rat.mkRat_zero]
    show max (bi 0) (bl 1) ≤ _
    have : bi 0 = 0 := rfl
    have : bl 1 = 1 := rfl
    omega
  · have h1 : bi (mkRat z y).num ≤ bi z := by
      unfold bi
      rw [least_num z hy, sg_natAbs]
      exact bl_mono (Nat.div_le_self _ _)
    have h2 : bl (mkRat z y).den ≤ bl y := by
      rw [least_den z hy]
      exact bl_mono (Nat.div_le_self _ _)
    unfold br
    omega
theorem br_neg (q : Rat) : br (-q) = br q := by
  unfold br
  rw [Rat.neg_num, Rat.neg_den, bi_neg]
theorem br_add (p q : Rat) : br (p + q) ≤ br p + br q + 2 := by
  rw [Rat.add_def']
  have h1 := br_mk (p.num * q.den + q.num * p.den) (p.den * q.den)
  have h2 := bi_add (p.num * q.den) (q.num * p.den)
  have h3 := bi_mul p.num q.den
  have h4 := bi_mul q.num p.den
  have h5 := bl_mul p.den q.den
  have e1 : bi (q.den : Int) = bl q.den := by unfold bi; rw [Int.natAbs_natCast]
  have e2 : bi (p.den : Int) = bl p.den := by unfold bi; rw [Int.natAbs_natCast]
  have a1 := bi_br p; have a2 := bl_br p; have a3 := bi_br q; have a4 := bl_br q
  omega
theorem br_mul (p q : Rat) : br (p * q) ≤ br p + br q + 1 := by
  rw [Rat.mul_def']
  have h1 := br_mk (p.num * q.num) (p.den * q.den)
  have h3 := bi_mul p.num q.num
  have h5 := bl_mul p.den q.den
  have a1 := bi_br p; have a2 := bl_br p; have a3 := bi_br q; have a4 := bl_br q
  omega
theorem br_sub (p q : Rat) : br (p - q) ≤ br p + br q + 2 := by
  rw [Rat.sub_eq_add_neg]
  have := br_add p (-q)
  rwa [br_neg] at this

/-- which one is greater -/
def cmpR (p q : Rat) : Int := if p < q then -1 else if q < p then 1 else 0
theorem cmpI_R (p q : Rat) : cmpI (p.num * q.den) (q.num * p.den) = cmpR p q := by
  unfold cmpI cmpR
  simp only [Rat.lt_iff]

/-! ### texts -/
def rtx (q : Rat) : List Nat := if q.den = 1 then itxt q.num else itxt q.num ++ 47 :: txt q.den
theorem rtx_lt (q : Rat) : ∀ d ∈ rtx q, d < 256 := by
  unfold rtx
  split
  · exact itxt_lt _
  · intro d hd
    rcases List.mem_append.1 hd with h | h
    · exact itxt_lt _ d h
    · rcases List.mem_cons.1 h with rfl | h
      · decide
      · exact txt_lt _ d h
def sl (l : List Nat) : Nat := l.idxOf 47
def ratOk (l : List Nat) : Bool :=
  if sl l = l.length then intOk l
  else (intOk (l.take (sl l)) && decOk (l.drop (sl l + 1))) && (decide (2 ≤ dv (l.drop (sl l + 1))) && decide ((dv (l.drop (sl l + 1))).gcd (iv (l.take (sl l))).natAbs = 1))
def rv (l : List Nat) : Rat := if sl l = l.length then mkRat (iv l) 1 else mkRat (iv (l.take (sl l))) (dv (l.drop (sl l + 1)))
theorem mk_coprime {z : Int} {y : Nat} (hy : y ≠ 0) (h : y.gcd z.natAbs = 1) : (mkRat z y).num = z ∧ (mkRat z y).den = y := by
  rw [least_num z hy, least_den z hy, h, Nat.div_one, Nat.div_one, sg_self]
  exact ⟨rfl, rfl⟩
theorem sl_le (l : List Nat) : sl l ≤ l.length := List.idxOf_le_length
theorem sl_get {l : List Nat} (h : sl l ≠ l.length) : l = l.take (sl l) ++ 47 :: l.drop (sl l + 1) := by
  have h1 : sl l < l.length := by have := sl_le l; omega
  have h2 : l[sl l] = 47 := by unfold sl; exact List.getElem_idxOf h1
  conv => lhs; rw [← List.take_append_drop (sl l) l, List.drop_eq_getElem_cons h1, h2]
theorem ratOk_parts {l : List Nat} (h0 : sl l ≠ l.length) (h : ratOk l = true) : intOk (l.take (sl l)) = true ∧ decOk (l.drop (sl l + 1)) = true ∧ 2 ≤ dv (l.drop (sl l + 1)) ∧ (dv (l.drop (sl l + 1))).gcd (iv (l.take (sl l))).natAbs = 1 := by
  unfold ratOk at h
  rw [if_neg h0, Bool.and_eq_true, Bool.and_eq_true, Bool.and_eq_true, decide_eq_true_eq, decide_eq_true_eq] at h
  exact ⟨h.1.1, h.1.2, h.2.1, h.2.2⟩
theorem rtx_rv {l : List Nat} (h : ratOk l = true) : rtx (rv l) = l := by
  by_cases h0 : sl l = l.length
  · unfold ratOk at h
    rw [if_pos h0] at h
    unfold rv rtx
    obtain ⟨e1, e2⟩ := least_one (iv l)
    rw [if_pos h0, if_pos e2, e1, itxt_iv h]
  · obtain ⟨k1, k2, k3, k4⟩ := ratOk_parts h0 h
    unfold rv rtx
    obtain ⟨e1, e2⟩ := mk_coprime (by omega) k4
    rw [if_neg h0, e2, if_neg (by omega), e1, itxt_iv k1, txt_dv k2]
    exact (sl_get h0).symm

/-! ### powers, quotients, floors -/
theorem bi_cast' (n : Nat) : bi (n : Int) = bl n := by unfold bi; rw [Int.natAbs_natCast]
theorem divI_mk (z w : Int) : Rat.divInt z w = mkRat (if w < 0 then -z else z) w.natAbs := by
  by_cases h : w < 0
  · rw [if_pos h]
    have e : w = -((w.natAbs : Nat) : Int) := by omega
    conv => lhs; rw [e, Rat.divInt_neg', Rat.divInt_ofNat]
  · rw [if_neg h]
    have e : w = ((w.natAbs : Nat) : Int) := by omega
    conv => lhs; rw [e, Rat.divInt_ofNat]
theorem inv_mk (q : Rat) : q⁻¹ = mkRat (sg (decide (q.num < 0)) q.den) q.num.natAbs := by
  conv => lhs; rw [← Rat.num_divInt_den q, Rat.inv_divInt, divI_mk]
  congr 1
  by_cases h1 : q.num < 0
  · rw [if_pos h1, decide_eq_true h1, sg_true]
  · rw [if_neg h1, decide_eq_false h1, sg_false]
theorem div_divI (p q : Rat) : p / q = Rat.divInt (p.num * q.den) (p.den * q.num) := by
  conv => lhs; rw [Rat.div_def, ← Rat.num_divInt_den q, Rat.inv_divInt, ← Rat.num_divInt_den p, Rat.divInt_mul_divInt]
theorem br_divI (z w : Int) : br (Rat.divInt z w) ≤ max (bi z) (max (bi w) 1) := by
  by_cases hw : w = 0
  · subst hw
    rw [Rat.divInt_zero]
    show max (bi 0) (bl 1) ≤ _
    have : bi 0 = 0 := rfl
    have : bl 1 = 1 := rfl
    omega
  · rw [divI_mk]
    have := br_mk (if w < 0 then -z else z) w.natAbs
    have e : bi (if w < 0 then -z else z) = bi z := by
      split
      · exact bi_neg z
      · rfl
    have e2 : bi w = bl w.natAbs := rfl
    omega
theorem br_div (p q : Rat) : br (p / q) ≤ br p + br q + 1 := by
  rw [div_divI]
  have h1 := br_divI (p.num * q.den) (p.den * q.num)
  have h3 := bi_mul p.num q.den
  have h4 := bi_mul p.den q.num
  rw [bi_cast'] at h3 h4
  have a1 := bi_br p; have a2 := bl_br p; have a3 := bi_br q; have a4 := bl_br q
  omega
theorem num_eq_zero (q : Rat) : q.num = 0 ↔ q = 0 := Rat.num_eq_zero
theorem floor_eq (q : Rat) : q.floor = q.num.fdiv q.den := by
  rw [Rat.floor_def, Int.fdiv_eq_ediv_of_nonneg _ (Int.natCast_nonneg _)]
theorem bi_powI (z : Int) (m : Nat) : bi (z ^ m) ≤ m * bi z + 1 := by
  induction m with
  | zero =>
    rw [Int.pow_zero]
    have : bi 1 = 1 := rfl
    omega
  | succ m ih =>
    rw [Int.pow_succ]
    have := bi_mul (z ^ m) z
    rw [Nat.add_mul]
    omega
theorem br_pow (q : Rat) (m : Nat) : br (q ^ m) ≤ m * br q + 1 := by
  have h1 := bi_powI q.num m
  have h2 := bi_powI (q.den : Int) m
  rw [bi_cast', ← Int.natCast_pow, bi_cast'] at h2
  have h3 := Nat.mul_le_mul_left m (bi_br q)
  have h4 := Nat.mul_le_mul_left m (bl_br q)
  unfold br at h3 h4 ⊢
  rw [Rat.num_pow, Rat.den_pow]
  omega
theorem dn_pow (q : Rat) (m : Nat) : dn (q ^ m) = if q.den = 1 ∨ m = 0 then 0 else q.den ^ m := by
  unfold dn
  rw [Rat.den_pow]
  split
  · rename_i h
    rcases Nat.pow_eq_one.1 h with h1 | h1
    · rw [if_pos (.inl h1)]
    · rw [if_pos (.inr h1)]
  · rename_i h
    rw [if_neg fun h1 => h (Nat.pow_eq_one.2 h1)]

end Go.Proofs.YtpifafenmgceoaaGreatDoor.X
namespace Go.Proofs.YtpifafenmgceoaaGreatDoor.X

theorem rv_br {l : List Nat} (h : ratOk l = true) : br (rv l) ≤ 4 * l.length + 1 := by
  by_cases h0 : sl l = l.length
  · unfold ratOk at h
    rw [if_pos h0] at h
    unfold rv
    rw [if_pos h0]
    have h1 := br_mk (iv l) 1
    have h2 := bi_iv h
    have h3 : bl 1 = 1 := rfl
    omega
  · obtain ⟨k1, k2, k3, k4⟩ := ratOk_parts h0 h
    unfold rv
    rw [if_neg h0]
    have h1 := br_mk (iv (l.take (sl l))) (dv (l.drop (sl l + 1)))
    have h2 := bi_iv k1
    have h3 : bl (dv (l.drop (sl l + 1))) ≤ 4 * (l.drop (sl l + 1)).length := by
      simp only [decOk, Bool.and_eq_true, List.all_eq_true, decide_eq_true_eq] at k2
      exact bl_dv fun d hd => by have := k2.2.2 d hd; simp [isDig] at this; omega
    rw [List.length_take] at h2
    rw [List.length_drop] at h3
    omega
theorem cmpR_self (p : Rat) : cmpR p p = 0 := by unfold cmpR; rw [if_neg (Rat.lt_irrefl), if_neg (Rat.lt_irrefl)]
theorem cmpR_eq {p q : Rat} (h : p = q) : cmpR p q = 0 := by rw [h, cmpR_self]
theorem cmpR_lt {p q : Rat} (h : p < q) : cmpR p q = -1 := by unfold cmpR; rw [if_pos h]
theorem cmpR_gt {p q : Rat} (h : q < p) : cmpR p q = 1 := by unfold cmpR; rw [if_neg (by grind), if_pos h]
theorem cmpR_cases (p q : Rat) : (p < q ∧ cmpR p q = -1) ∨ (p = q ∧ cmpR p q = 0) ∨ (q < p ∧ cmpR p q = 1) := by
  by_cases h : p < q
  · exact .inl ⟨h, cmpR_lt h⟩
  · by_cases h2 : q < p
    · exact .inr (.inr ⟨h2, cmpR_gt h2⟩)
    · have : p = q := by grind
      exact .inr (.inl ⟨this, cmpR_eq this⟩)
theorem cmpR_bd (p q : Rat) : -1 ≤ cmpR p q ∧ cmpR p q ≤ 1 := by
  rcases cmpR_cases p q with h | h | h <;> omega
theorem sgnI_R (p : Rat) : sgnI p.num = cmpR p 0 := by
  have := cmpI_R p 0
  rw [← this]
  unfold sgnI cmpI
  simp
theorem cmpR_add (p q r : Rat) : cmpR (p + r) (q + r) = cmpR p q := by
  rcases cmpR_cases p q with h | h | h
  · rw [h.2]; exact cmpR_lt (by grind)
  · rw [h.2]; exact cmpR_eq (by grind)
  · rw [h.2]; exact cmpR_gt (by grind)
theorem cmpR_mid1 (p q : Rat) : cmpR p ((p + q) / 2) = cmpR p q := by
  have e : (p + q) / 2 * 2 = p + q := Rat.div_mul_cancel (by decide)
  rcases cmpR_cases p q with h | h | h
  · rw [h.2]; exact cmpR_lt (by grind)
  · rw [h.2]; exact cmpR_eq (by grind)
  · rw [h.2]; exact cmpR_gt (by grind)
theorem cmpR_mid2 (p q : Rat) : cmpR ((p + q) / 2) q = cmpR p q := by
  have e : (p + q) / 2 * 2 = p + q := Rat.div_mul_cancel (by decide)
  rcases cmpR_cases p q with h | h | h
  · rw [h.2]; exact cmpR_lt (by grind)
  · rw [h.2]; exact cmpR_eq (by grind)
  · rw [h.2]; exact cmpR_gt (by grind)
theorem cmpR_mul (p q r : Rat) : cmpR (p * r) (q * r) = cmpR p q * cmpR r 0 := by
  rcases cmpR_cases r 0 with h | h | h
  · rw [h.2]
    rcases cmpR_cases p q with k | k | k
    · rw [k.2]; exact cmpR_gt (by have := Rat.mul_lt_mul_of_pos_right k.1 (show 0 < -r by grind); grind)
    · rw [k.2]; exact cmpR_eq (by grind)
    · rw [k.2]; exact cmpR_lt (by have := Rat.mul_lt_mul_of_pos_right k.1 (show 0 < -r by grind); grind)
  · rw [h.2, h.1]; simp only [Rat.mul_zero, Int.mul_zero]; exact cmpR_self 0
  · rw [h.2]
    rcases cmpR_cases p q with k | k | k
    · rw [k.2]; exact cmpR_lt (by have := Rat.mul_lt_mul_of_pos_right k.1 h.1; grind)
    · rw [k.2]; exact cmpR_eq (by grind)
    · rw [k.2]; exact cmpR_gt (by have := Rat.mul_lt_mul_of_pos_right k.1 h.1; grind)
theorem ring_R (p q r : Rat) : (p + q) * r = r * p + r * q := by grind
theorem sub_R (p q : Rat) : p - q = -(q - p) := by grind

/-- times the same, the same number -/
theorem times_same (p : Rat) {k : Int} (hk : k ≠ 0) : Rat.divInt (p.num * k) ((p.den : Int) * k) = p := by
  rw [Rat.divInt_mul_right hk, Rat.num_divInt_den]
theorem floor_lt (p : Rat) : 0 ≤ p - (p.floor : Rat) ∧ p - (p.floor : Rat) < 1 := by
  have h1 : (p.floor : Rat) ≤ p := Rat.floor_le p
  have h2 : p < ((p.floor + 1 : Int) : Rat) := Rat.lt_floor_add_one p
  rw [Rat.intCast_add] at h2
  constructor
  · grind
  · have : ((1 : Int) : Rat) = 1 := rfl
    grind
theorem divInt_one (z : Int) : Rat.divInt z 1 = (z : Rat) := (Rat.divInt_ofNat z 1).trans (Rat.mkRat_one z)

theorem sl_cons (b : Nat) (l : List Nat) : sl (b :: l) = if b = 47 then 0 else sl l + 1 := by
  unfold sl
  rw [List.idxOf_cons]
  by_cases h : b = 47
  · subst h; rfl
  · rw [if_neg h, beq_false_of_ne h]; rfl
theorem sl_at : ∀ (l : List Nat) (i : Nat), i ≤ sl l → i < l.length → (l.getD i 0 = 47 ↔ sl l = i)
  | [], i, _, h => absurd h (Nat.not_lt_zero i)
  | b :: l, 0, _, _ => by
    rw [sl_cons]
    by_cases h : b = 47
    · rw [if_pos h]; simp [h]
    · rw [if_neg h]; simp [h]
  | b :: l, i + 1, h1, h2 => by
    rw [sl_cons] at h1 ⊢
    by_cases h : b = 47
    · rw [if_pos h] at h1; omega
    · rw [if_neg h] at h1 ⊢
      rw [List.length_cons] at h2
      have := sl_at l i (by omega) (by omega)
      rw [List.getD_cons_succ, this]
      omega

/-! ### the first call -/
theorem alive_ok : ratOk [45, 51, 47, 52] = true := by decide +kernel
theorem alive_rv : rv [45, 51, 47, 52] = mkRat (-3) 4 := by
  have h1 : sl [45, 51, 47, 52] = 2 := by decide
  unfold rv
  rw [h1, if_neg (by decide)]
  rfl
theorem alive_sum : mkRat (-3) 4 + ((1 : Int) : Rat) = mkRat 1 4 := by
  obtain ⟨e1, e2⟩ := mk_coprime (z := -3) (y := 4) (by decide) (by decide +kernel)
  rw [Rat.add_def', e1, e2, Rat.num_intCast, Rat.den_intCast]
  rfl
theorem alive_txt : rtx (mkRat 1 4) = [49, 47, 52] := by
  obtain ⟨e1, e2⟩ := mk_coprime (z := 1) (y := 4) (by decide) (by decide +kernel)
  unfold rtx
  rw [e1, e2, if_neg (by decide), txt_small (by decide) (by decide)]
  unfold itxt
  rw [if_neg (by decide), show (1 : Int).natAbs = 1 from rfl, txt_small (by decide) (by decide)]
  rfl
theorem rtx_zero : ofB (rtx 0) = ⟨#[48]⟩ := rfl

end Go.Proofs.YtpifafenmgceoaaGreatDoor.X
set_option linter.unusedVariables false
set_option linter.unusedSimpArgs false
namespace Go.Proofs.YtpifafenmgceoaaGreatDoor.X

theorem intOk_len {l : List Nat} (h : intOk l = true) : l.length ≤ 4001 := by
  unfold intOk at h
  split at h
  · rw [Bool.and_eq_true] at h
    have := h.1
    simp only [decOk, Bool.and_eq_true, decide_eq_true_eq, List.length_drop] at this
    omega
  · simp only [decOk, Bool.and_eq_true, decide_eq_true_eq] at h
    omega
theorem ratOk_len {l : List Nat} (h : ratOk l = true) : l.length ≤ 8002 := by
  by_cases h0 : sl l = l.length
  · unfold ratOk at h
    rw [if_pos h0] at h
    have := intOk_len h
    omega
  · obtain ⟨k1, k2, k3, k4⟩ := ratOk_parts h0 h
    have h1 := intOk_len k1
    simp only [decOk, Bool.and_eq_true, decide_eq_true_eq, List.length_drop] at k2
    have h2 := k2.1.2
    have h3 := sl_le l
    rw [List.length_take] at h1
    omega
theorem rv_max {l : List Nat} (h : ratOk l = true) : br (rv l) ≤ 32009 := by
  have h1 := rv_br h
  have h2 := ratOk_len h
  omega

end Go.Proofs.YtpifafenmgceoaaGreatDoor.X
set_option linter.unusedVariables false
set_option linter.unusedSimpArgs false
namespace Go.Proofs.YtpifafenmgceoaaGreatDoor.X

def minR (p q : Rat) : Rat := if q < p then q else p
def maxR (p q : Rat) : Rat := if p < q then q else p
theorem minR_l (p q : Rat) : minR p q ≤ p := by unfold minR; grind
theorem minR_r (p q : Rat) : minR p q ≤ q := by unfold minR; grind
theorem maxR_l (p q : Rat) : p ≤ maxR p q := by unfold maxR; grind
theorem maxR_r (p q : Rat) : q ≤ maxR p q := by unfold maxR; grind
theorem minR_cases (p q : Rat) : minR p q = p ∨ minR p q = q := by unfold minR; grind
theorem maxR_cases (p q : Rat) : maxR p q = p ∨ maxR p q = q := by unfold maxR; grind
theorem le_minR {p q x : Rat} (h : x ≤ p) (k : x ≤ q) : x ≤ minR p q := by unfold minR; grind
theorem maxR_le {p q x : Rat} (h : p ≤ x) (k : q ≤ x) : maxR p q ≤ x := by unfold maxR; grind
theorem min_le_max (p q : Rat) : minR p q ≤ maxR p q := by unfold minR maxR; grind
theorem br_min (p q : Rat) : br (minR p q) ≤ br p + br q := by
  rcases minR_cases p q with h | h <;> rw [h] <;> omega
theorem br_max (p q : Rat) : br (maxR p q) ≤ br p + br q := by
  rcases maxR_cases p q with h | h <;> rw [h] <;> omega
theorem br_min' {p q : Rat} {n : Nat} (h : br p ≤ n) (k : br q ≤ n) : br (minR p q) ≤ n := by
  rcases minR_cases p q with e | e <;> rw [e] <;> omega
theorem br_max' {p q : Rat} {n : Nat} (h : br p ≤ n) (k : br q ≤ n) : br (maxR p q) ≤ n := by
  rcases maxR_cases p q with e | e <;> rw [e] <;> omega
/-- the least and the greatest of some -/
def lstLo (p : Rat) (l : List Rat) : Rat := l.foldl minR p
def lstHi (p : Rat) (l : List Rat) : Rat := l.foldl maxR p

/-- a product's ends -/
def mulLo (a b c d : Rat) : Rat := minR (minR (a * c) (b * d)) (minR (a * d) (b * c))
def mulHi (a b c d : Rat) : Rat := maxR (maxR (a * c) (b * d)) (maxR (a * d) (b * c))
theorem minR_uniq {m n : Rat} (h : m ≤ n) (k : n ≤ m) : m = n := Rat.le_antisymm h k
theorem lst4 (p q r s : Rat) : lstLo p [q, r, s] = minR (minR p s) (minR q r) ∧ lstHi p [q, r, s] = maxR (maxR p s) (maxR q r) := by
  unfold lstLo lstHi
  simp only [List.foldl_cons, List.foldl_nil]
  constructor
  · refine minR_uniq ?_ ?_
    · have h1 := minR_l (minR (minR p q) r) s; have h2 := minR_r (minR (minR p q) r) s; have h3 := minR_l (minR p q) r; have h4 := minR_r (minR p q) r; have h5 := minR_l p q; have h6 := minR_r p q
      refine le_minR (le_minR ?_ h2) (le_minR ?_ ?_) <;> grind
    · have h1 := minR_l (minR p s) (minR q r); have h2 := minR_r (minR p s) (minR q r); have h3 := minR_l p s; have h4 := minR_r p s; have h5 := minR_l q r; have h6 := minR_r q r
      refine le_minR (le_minR (le_minR ?_ ?_) ?_) ?_ <;> grind
  · refine minR_uniq ?_ ?_
    · have h1 := maxR_l (maxR p s) (maxR q r); have h2 := maxR_r (maxR p s) (maxR q r); have h3 := maxR_l p s; have h4 := maxR_r p s; have h5 := maxR_l q r; have h6 := maxR_r q r
      refine maxR_le (maxR_le (maxR_le ?_ ?_) ?_) ?_ <;> grind
    · have h1 := maxR_l (maxR (maxR p q) r) s; have h2 := maxR_r (maxR (maxR p q) r) s; have h3 := maxR_l (maxR p q) r; have h4 := maxR_r (maxR p q) r; have h5 := maxR_l p q; have h6 := maxR_r p q
      refine maxR_le (maxR_le ?_ h2) (maxR_le ?_ ?_) <;> grind
theorem mul_ref (a b c d : Rat) : lstLo (a * c) [a * d, b * c, b * d] = mulLo a b c d ∧ lstHi (a * c) [a * d, b * c, b * d] = mulHi a b c d := lst4 _ _ _ _
/-- times a number -/
theorem scale_ref (a b r : Rat) : mulLo a b r r = minR (a * r) (b * r) ∧ mulHi a b r r = maxR (a * r) (b * r) := by
  unfold mulLo mulHi
  generalize a * r = x
  generalize b * r = y
  constructor
  · unfold minR; grind
  · unfold maxR; grind
theorem lin {a b x : Rat} (y : Rat) (h : a ≤ x) (k : x ≤ b) : minR (a * y) (b * y) ≤ x * y ∧ x * y ≤ maxR (a * y) (b * y) := by
  by_cases hy : 0 ≤ y
  · have h1 := Rat.mul_le_mul_of_nonneg_right h hy
    have h2 := Rat.mul_le_mul_of_nonneg_right k hy
    exact ⟨Rat.le_trans (minR_l _ _) h1, Rat.le_trans h2 (maxR_r _ _)⟩
  · have hy' : 0 ≤ -y := by grind
    have h1 := Rat.mul_le_mul_of_nonneg_right h hy'
    have h2 := Rat.mul_le_mul_of_nonneg_right k hy'
    have h3 : b * y ≤ x * y := by grind
    have h4 : x * y ≤ a * y := by grind
    exact ⟨Rat.le_trans (minR_r _ _) h3, Rat.le_trans h4 (maxR_l _ _)⟩
theorem has_mul {a b c d x y : Rat} (h1 : a ≤ x) (h2 : x ≤ b) (h3 : c ≤ y) (h4 : y ≤ d) : mulLo a b c d ≤ x * y ∧ x * y ≤ mulHi a b c d := by
  have k1 := lin y h1 h2
  have k2 := lin a h3 h4
  have k3 := lin b h3 h4
  rw [Rat.mul_comm y a, Rat.mul_comm c a, Rat.mul_comm d a] at k2
  rw [Rat.mul_comm y b, Rat.mul_comm c b, Rat.mul_comm d b] at k3
  have l1 : mulLo a b c d ≤ a * c := Rat.le_trans (minR_l _ _) (minR_l _ _)
  have l2 : mulLo a b c d ≤ b * d := Rat.le_trans (minR_l _ _) (minR_r _ _)
  have l3 : mulLo a b c d ≤ a * d := Rat.le_trans (minR_r _ _) (minR_l _ _)
  have l4 : mulLo a b c d ≤ b * c := Rat.le_trans (minR_r _ _) (minR_r _ _)
  have u1 : a * c ≤ mulHi a b c d := Rat.le_trans (maxR_l _ _) (maxR_l _ _)
  have u2 : b * d ≤ mulHi a b c d := Rat.le_trans (maxR_r _ _) (maxR_l _ _)
  have u3 : a * d ≤ mulHi a b c d := Rat.le_trans (maxR_l _ _) (maxR_r _ _)
  have u4 : b * c ≤ mulHi a b c d := Rat.le_trans (maxR_r _ _) (maxR_r _ _)
  constructor
  · refine Rat.le_trans (le_minR ?_ ?_) k1.1
    · exact Rat.le_trans (le_minR l1 l3) k2.1
    · exact Rat.le_trans (le_minR l4 l2) k3.1
  · refine Rat.le_trans k1.2 (maxR_le ?_ ?_)
    · exact Rat.le_trans k2.2 (maxR_le u1 u3)
    · exact Rat.le_trans k3.2 (maxR_le u4 u2)
theorem mul_within {a b c d a' b' : Rat} (h1 : a ≤ a') (h2 : a' ≤ b') (h3 : b' ≤ b) (h4 : c ≤ d) : mulLo a b c d ≤ mulLo a' b' c d ∧ mulHi a' b' c d ≤ mulHi a b c d := by
  have e1 := has_mul h1 (Rat.le_trans h2 h3) (Rat.le_refl (a := c)) h4
  have e2 := has_mul (Rat.le_trans h1 h2) h3 h4 (Rat.le_refl (a := d))
  have e3 := has_mul h1 (Rat.le_trans h2 h3) h4 (Rat.le_refl (a := d))
  have e4 := has_mul (Rat.le_trans h1 h2) h3 (Rat.le_refl (a := c)) h4
  exact ⟨le_minR (le_minR e1.1 e2.1) (le_minR e3.1 e4.1), maxR_le (maxR_le e1.2 e2.2) (maxR_le e3.2 e4.2)⟩

/-- powers -/
theorem pow_nonneg {x : Rat} (h : 0 ≤ x) (n : Nat) : 0 ≤ x ^ n := by
  induction n with
  | zero => rw [Rat.pow_zero]; decide
  | succ n ih => rw [Rat.pow_succ]; exact Rat.mul_nonneg ih h
theorem pow_mono {x y : Rat} (h : 0 ≤ x) (k : x ≤ y) (n : Nat) : x ^ n ≤ y ^ n := by
  induction n with
  | zero => rw [Rat.pow_zero, Rat.pow_zero]; exact Rat.le_refl
  | succ n ih =>
    rw [Rat.pow_succ, Rat.pow_succ]
    exact Rat.le_trans (Rat.mul_le_mul_of_nonneg_right ih h) (Rat.mul_le_mul_of_nonneg_left k (pow_nonneg (Rat.le_trans h k) n))
theorem pow_two (x : Rat) (k : Nat) : x ^ (2 * k) = (x * x) ^ k := by
  induction k with
  | zero => rw [Nat.mul_zero, Rat.pow_zero, Rat.pow_zero]
  | succ k ih => rw [Nat.mul_succ, Rat.pow_succ, Rat.pow_succ, Rat.pow_succ, ih, Rat.mul_assoc]
theorem sq_nonneg (x : Rat) : 0 ≤ x * x := by
  by_cases h : 0 ≤ x
  · exact Rat.mul_nonneg h h
  · have h1 : 0 ≤ -x := by grind
    have h2 := Rat.mul_nonneg h1 h1
    rw [Rat.neg_mul, Rat.mul_neg, Rat.neg_neg] at h2
    exact h2
theorem even_nonneg (x : Rat) {n : Nat} (h : n % 2 = 0) : 0 ≤ x ^ n := by
  rw [show n = 2 * (n / 2) by omega, pow_two]
  exact pow_nonneg (sq_nonneg x) _
theorem odd_neg (x : Rat) {n : Nat} (h : n % 2 = 1) : (-x) ^ n = -(x ^ n) := by
  rw [show n = 2 * (n / 2) + 1 by omega, Rat.pow_succ, Rat.pow_succ, pow_two, pow_two, show -x * -x = x * x by grind, Rat.mul_neg]
theorem odd_mono {x y : Rat} (k : x ≤ y) {n : Nat} (h : n % 2 = 1) : x ^ n ≤ y ^ n := by
  have n0 : n ≠ 0 := by omega
  by_cases hx : 0 ≤ x
  · exact pow_mono hx k n
  · by_cases hy : 0 ≤ y
    · have h1 : 0 ≤ (-x) ^ n := pow_nonneg (by grind) n
      rw [odd_neg x h] at h1
      have h2 := pow_nonneg hy n
      grind
    · have h1 : (-y) ^ n ≤ (-x) ^ n := pow_mono (by grind) (by grind) n
      rw [odd_neg x h, odd_neg y h] at h1
      grind
theorem even_mono {x y : Rat} (h : x * x ≤ y * y) {n : Nat} (hn : n % 2 = 0) : x ^ n ≤ y ^ n := by
  rw [show n = 2 * (n / 2) by omega, pow_two, pow_two]
  exact pow_mono (sq_nonneg x) h _
/-- a power's ends -/
def powLo (p q : Rat) (n : Nat) : Rat := if 0 < n ∧ n % 2 = 0 ∧ p ≤ 0 ∧ 0 ≤ q then 0 else minR (p ^ n) (q ^ n)
def powHi (p q : Rat) (n : Nat) : Rat := maxR (p ^ n) (q ^ n)
theorem sq_le {x y : Rat} (h : 0 ≤ x) (k : x ≤ y) : x * x ≤ y * y :=
  Rat.le_trans (Rat.mul_le_mul_of_nonneg_right k h) (Rat.mul_le_mul_of_nonneg_left k (Rat.le_trans h k))
theorem sq_ge {x y : Rat} (h : y ≤ 0) (k : x ≤ y) : y * y ≤ x * x := by
  have := sq_le (x := -y) (y := -x) (by grind) (by grind)
  have e1 : -y * -y = y * y := by grind
  have e2 : -x * -x = x * x := by grind
  rw [e1, e2] at this
  exact this
theorem has_pow {a b x : Rat} (h1 : a ≤ x) (h2 : x ≤ b) (n : Nat) : powLo a b n ≤ x ^ n ∧ x ^ n ≤ powHi a b n := by
  unfold powLo powHi
  by_cases hn : n % 2 = 0
  · constructor
    · split
      · exact even_nonneg x hn
      · rename_i h
        by_cases h0 : n = 0
        · subst h0; rw [Rat.pow_zero, Rat.pow_zero, Rat.pow_zero]; exact minR_l _ _
        · by_cases ha : a ≤ 0
          · have hb : ¬ 0 ≤ b := fun hb => h ⟨by omega, hn, ha, hb⟩
            refine Rat.le_trans (minR_r _ _) (even_mono (sq_ge ?_ h2) hn)
            grind
          · refine Rat.le_trans (minR_l _ _) (even_mono (sq_le ?_ h1) hn)
            grind
    · by_cases hx : 0 ≤ x
      · exact Rat.le_trans (even_mono (sq_le hx h2) hn) (maxR_r _ _)
      · exact Rat.le_trans (even_mono (sq_ge (by grind) h1) hn) (maxR_l _ _)
  · rw [if_neg (fun h => hn h.2.1)]
    exact ⟨Rat.le_trans (minR_l _ _) (odd_mono h1 (by omega)), Rat.le_trans (odd_mono h2 (by omega)) (maxR_r _ _)⟩
theorem pow_ref (p q : Rat) (n : Nat) (hpq : p ≤ q) (hn : 0 < n) (he : n % 2 = 0) (h : p < 0 ∧ 0 < q) : lstLo (p ^ n) [q ^ n, 0] = powLo p q n ∧ lstHi (p ^ n) [q ^ n, 0] = powHi p q n := by
  have a1 := even_nonneg p he
  have a2 := even_nonneg q he
  unfold lstLo lstHi powLo powHi
  simp only [List.foldl_cons, List.foldl_nil]
  rw [if_pos ⟨hn, he, by have := h.1; grind, by have := h.2; grind⟩]
  generalize p ^ n = x at *
  generalize q ^ n = y at *
  unfold minR maxR
  constructor <;> grind
theorem zero_pow' {n : Nat} (h : 0 < n) : (0 : Rat) ^ n = 0 := by
  rw [show n = (n - 1) + 1 by omega, Rat.pow_succ, Rat.mul_zero]
theorem pow_ref2 (p q : Rat) (n : Nat) (hpq : p ≤ q) (h : ¬ (0 < n ∧ n % 2 = 0 ∧ p < 0 ∧ 0 < q)) : lstLo (p ^ n) [q ^ n] = powLo p q n ∧ lstHi (p ^ n) [q ^ n] = powHi p q n := by
  unfold lstLo lstHi powLo powHi
  simp only [List.foldl_cons, List.foldl_nil]
  refine ⟨?_, trivial⟩
  split
  · rename_i k
    have a1 := even_nonneg p k.2.1
    have a2 := even_nonneg q k.2.1
    have : p = 0 ∨ q = 0 := by
      by_cases hp : p < 0
      · by_cases hq : 0 < q
        · exact absurd ⟨k.1, k.2.1, hp, hq⟩ h
        · right; have := k.2.2.2; grind
      · left; have := k.2.2.1; grind
    have hz : p ^ n = 0 ∨ q ^ n = 0 := by
      rcases this with e | e
      · left; rw [e, zero_pow' k.1]
      · right; rw [e, zero_pow' k.1]
    generalize p ^ n = x at *
    generalize q ^ n = y at *
    unfold minR
    grind
  · rfl
theorem pow_within {a b a' b' : Rat} (h1 : a ≤ a') (h2 : a' ≤ b') (h3 : b' ≤ b) (n : Nat) : powLo a b n ≤ powLo a' b' n ∧ powHi a' b' n ≤ powHi a b n := by
  have e1 := has_pow h1 (Rat.le_trans h2 h3) n
  have e2 := has_pow (Rat.le_trans h1 h2) h3 n
  refine ⟨?_, maxR_le e1.2 e2.2⟩
  unfold powLo at *
  by_cases k : 0 < n ∧ n % 2 = 0 ∧ a' ≤ 0 ∧ 0 ≤ b'
  · rw [if_pos k, if_pos ⟨k.1, k.2.1, by have := k.2.2.1; grind, by have := k.2.2.2; grind⟩]
    exact Rat.le_refl
  · rw [if_neg k]
    exact le_minR e1.1 e2.1
theorem powLo_even (p q : Rat) {n : Nat} (h : n % 2 = 0) : 0 ≤ powLo p q n := by
  unfold powLo
  split
  · exact Rat.le_refl
  · exact le_minR (even_nonneg p h) (even_nonneg q h)

/-- from one end to the other -/
def ins (p q : Rat) (k : Int) : Rat := p + (q - p) * ((k : Rat) / ((8 : Int) : Rat))
theorem ins_mono {p q : Rat} (h : p ≤ q) {k l : Int} (hk : k ≤ l) : ins p q k ≤ ins p q l := by
  unfold ins
  have h8 : ((8 : Int) : Rat) = 8 := rfl
  have h1 : (k : Rat) / ((8 : Int) : Rat) ≤ (l : Rat) / ((8 : Int) : Rat) := by
    have h2 := Rat.intCast_le_intCast.2 hk
    have e1 : (k : Rat) / ((8 : Int) : Rat) * ((8 : Int) : Rat) = k := Rat.div_mul_cancel (by decide)
    have e2 : (l : Rat) / ((8 : Int) : Rat) * ((8 : Int) : Rat) = l := Rat.div_mul_cancel (by decide)
    rw [h8] at *
    grind
  have h3 := Rat.mul_le_mul_of_nonneg_left h1 (show 0 ≤ q - p by grind)
  grind
theorem ins_zero (p q : Rat) : ins p q 0 = p := by
  unfold ins
  have : ((0 : Int) : Rat) / ((8 : Int) : Rat) = 0 := by decide +kernel
  rw [this, Rat.mul_zero, Rat.add_zero]
theorem ins_eight (p q : Rat) : ins p q 8 = q := by
  unfold ins
  have : ((8 : Int) : Rat) / ((8 : Int) : Rat) = 1 := by decide +kernel
  rw [this, Rat.mul_one]
  grind
theorem has_ins {p q : Rat} (h : p ≤ q) {k : Int} (h0 : 0 ≤ k) (h8 : k ≤ 8) : p ≤ ins p q k ∧ ins p q k ≤ q := by
  have h1 := ins_mono h h0
  have h2 := ins_mono h h8
  rw [ins_zero] at h1
  rw [ins_eight] at h2
  exact ⟨h1, h2⟩
theorem br_ins {p q : Rat} {k : Int} (h0 : 0 ≤ k) (h8 : k ≤ 8) : br (ins p q k) ≤ 2 * br p + br q + 20 := by
  have h1 := br_add p ((q - p) * ((k : Rat) / ((8 : Int) : Rat)))
  have h2 := br_mul (q - p) ((k : Rat) / ((8 : Int) : Rat))
  have h3 := br_sub q p
  have h4 := br_div (k : Rat) ((8 : Int) : Rat)
  have h5 : br ((8 : Int) : Rat) = 4 := by decide +kernel
  have h6 : br (k : Rat) ≤ 5 := by
    unfold br
    rw [Rat.num_intCast, Rat.den_intCast]
    have : bl 1 = 1 := rfl
    have h7 : bi k ≤ 4 := by
      unfold bi
      rw [bl_le_iff]
      omega
    omega
  unfold ins
  omega
theorem half_R (p : Rat) : p / ((2 : Int) : Rat) = p / 2 := rfl

theorem br_z0 : br 0 = 1 := by decide +kernel
theorem br_powLo (p q : Rat) (n : Nat) : br (powLo p q n) ≤ n * br p + n * br q + 2 := by
  have h1 := br_pow p n
  have h2 := br_pow q n
  have h3 := br_min (p ^ n) (q ^ n)
  unfold powLo
  split
  · rw [br_z0]; omega
  · omega
theorem br_powHi (p q : Rat) (n : Nat) : br (powHi p q n) ≤ n * br p + n * br q + 2 := by
  have h1 := br_pow p n
  have h2 := br_pow q n
  have h3 := br_max (p ^ n) (q ^ n)
  unfold powHi
  omega
theorem br_mulLo (a b c d : Rat) : br (mulLo a b c d) ≤ 2 * (br a + br b + br c + br d) + 4 := by
  have h1 := br_mul a c
  have h2 := br_mul b d
  have h3 := br_mul a d
  have h4 := br_mul b c
  have h5 := br_min (a * c) (b * d)
  have h6 := br_min (a * d) (b * c)
  have h7 := br_min (minR (a * c) (b * d)) (minR (a * d) (b * c))
  unfold mulLo
  omega
theorem br_mulHi (a b c d : Rat) : br (mulHi a b c d) ≤ 2 * (br a + br b + br c + br d) + 4 := by
  have h1 := br_mul a c
  have h2 := br_mul b d
  have h3 := br_mul a d
  have h4 := br_mul b c
  have h5 := br_max (a * c) (b * d)
  have h6 := br_max (a * d) (b * c)
  have h7 := br_max (maxR (a * c) (b * d)) (maxR (a * d) (b * c))
  unfold mulHi
  omega
theorem mul_lohi (a b c d : Rat) : mulLo a b c d ≤ mulHi a b c d := Rat.le_trans (minR_l _ _) (Rat.le_trans (min_le_max _ _) (maxR_l _ _))

end Go.Proofs.YtpifafenmgceoaaGreatDoor.X
set_option linter.unusedVariables false
set_option linter.unusedSimpArgs false
namespace Go.Proofs.YtpifafenmgceoaaGreatDoor.X
open Go Go.RowKit

/-- what stands at a slice: n cells a value -/
def ArrV {α : Type} (n : Nat) (P : PH → Value → α → Prop) (H : PH) (A : Option Addr) (l : List α) : Prop :=
  l = [] ∨ ∃ b off cs T fz, A = some ⟨b, off, none⟩ ∧ H b = some (.cells cs T fz) ∧ ∀ i x, l[i]? = some x → ∃ v, ldv (n != 1) n (off + i * n) cs.toList = some v ∧ P H v x
theorem ArrV.le {α : Type} {n : Nat} {P : PH → Value → α → Prop} (hP : ∀ {H H' : PH} {v : Value} {x : α}, P H v x → H.le H' → P H' v x) {H H' : PH} {A : Option Addr} {l : List α} (h : ArrV n P H A l) (hl : H.le H') : ArrV n P H' A l := by
  rcases h with h | ⟨b, off, cs, T, fz, h1, h2, h3⟩
  · exact .inl h
  · refine .inr ⟨b, off, cs, T, fz, h1, hl _ _ h2, fun i x hx => ?_⟩
    obtain ⟨v, k1, k2⟩ := h3 i x hx
    exact ⟨v, k1, hP k2 hl⟩
theorem ArrV.nil {α : Type} {n : Nat} {P : PH → Value → α → Prop} {H : PH} {A : Option Addr} : ArrV n P H A ([] : List α) := .inl rfl
theorem ArrV.open {α : Type} {n : Nat} {P : PH → Value → α → Prop} {H : PH} {A : Option Addr} {l : List α} (h : ArrV n P H A l) (h0 : l ≠ []) : ∃ b off cs T fz, A = some ⟨b, off, none⟩ ∧ H b = some (.cells cs T fz) ∧ ∀ i x, l[i]? = some x → ∃ v, ldv (n != 1) n (off + i * n) cs.toList = some v ∧ P H v x := by
  rcases h with h | h
  · exact absurd h h0
  · exact h
theorem PH.le.le {A B C : PH} (h : A.le B) (k : B.le C) : A.le C := h.trans k
theorem PH.join_l {H M : PH} {b : Nat} {o : Obj} (h : H b = some o) : H.join M b = some o := by
  unfold PH.join
  rw [h]

theorem ev_bslV {X : XT} {s : St} {K : St → Prop} {d : Nat} {T : TypeId} {len : Nat} {cs : List Value} (h : ∀ g, s.H g = none → s.M g = none → X ⟨(d, .v (.slice (some ⟨g, 0, none⟩) len len)) :: s.fr, s.lh, s.H, s.M.set g (.cells cs.toArray T (0, 0))⟩ K) : EvBsl T len cs d X s K := h
theorem PH.join_r {H M : PH} {b : Nat} {o : Obj} (h : H b = none) (k : M b = some o) : H.join M b = some o := by
  unfold PH.join
  rw [h]
  exact k

end Go.Proofs.YtpifafenmgceoaaGreatDoor.X
set_option linter.unusedVariables false
set_option linter.unusedSimpArgs false
namespace Go.Proofs.YtpifafenmgceoaaGreatDoor.X

theorem rlt_trans {a b c : Rat} (h : a < b) (k : b < c) : a < c := by grind
theorem rlt_le {a b c : Rat} (h : a < b) (k : b ≤ c) : a < c := by grind
theorem rle_lt {a b c : Rat} (h : a ≤ b) (k : b < c) : a < c := by grind
/-- 2 to the e -/
def tw (e : Int) : Rat := ((2 ^ e.toNat : Nat) : Rat) / ((2 ^ (-e).toNat : Nat) : Rat)
theorem p2_pos (n : Nat) : (0 : Rat) < ((2 ^ n : Nat) : Rat) := Rat.natCast_pos.2 (Nat.two_pow_pos n)
theorem tw_eq (e : Int) : tw e * ((2 ^ (-e).toNat : Nat) : Rat) = ((2 ^ e.toNat : Nat) : Rat) := by
  unfold tw
  exact Rat.div_mul_cancel (Rat.ne_of_gt (p2_pos _))
theorem tw_pos (e : Int) : 0 < tw e := by
  unfold tw
  rw [Rat.div_def]
  exact Rat.mul_pos (p2_pos _) (Rat.inv_pos.2 (p2_pos _))
theorem tw_ne (e : Int) : tw e ≠ 0 := Rat.ne_of_gt (tw_pos e)
theorem tw_add (a b : Int) : tw (a + b) = tw a * tw b := by
  have ha := tw_eq a
  have hb := tw_eq b
  have hc := tw_eq (a + b)
  have pa := p2_pos (-a).toNat
  have pb := p2_pos (-b).toNat
  have pc := p2_pos (-(a + b)).toNat
  have key : ((2 ^ (a + b).toNat : Nat) : Rat) * (((2 ^ (-a).toNat : Nat) : Rat) * ((2 ^ (-b).toNat : Nat) : Rat)) = ((2 ^ a.toNat : Nat) : Rat) * ((2 ^ b.toNat : Nat) : Rat) * ((2 ^ (-(a + b)).toNat : Nat) : Rat) := by
    rw [← Rat.natCast_mul, ← Rat.natCast_mul, ← Rat.natCast_mul, ← Rat.natCast_mul, ← Nat.pow_add, ← Nat.pow_add, ← Nat.pow_add, ← Nat.pow_add]
    congr 2
    omega
  generalize ((2 ^ (a + b).toNat : Nat) : Rat) = x at *
  generalize ((2 ^ a.toNat : Nat) : Rat) = y at *
  generalize ((2 ^ b.toNat : Nat) : Rat) = z at *
  generalize ((2 ^ (-(a + b)).toNat : Nat) : Rat) = x' at *
  generalize ((2 ^ (-a).toNat : Nat) : Rat) = y' at *
  generalize ((2 ^ (-b).toNat : Nat) : Rat) = z' at *
  have h : (tw (a + b) - tw a * tw b) * (x' * y' * z') = 0 := by grind
  rcases Rat.mul_eq_zero.1 h with h | h
  · grind
  · have h1 : 0 < x' * y' * z' := Rat.mul_pos (Rat.mul_pos pc pa) pb
    rw [h] at h1
    exact absurd h1 Rat.lt_irrefl
theorem tw_nat (n : Nat) : tw (n : Int) = ((2 ^ n : Nat) : Rat) := by
  have := tw_eq (n : Int)
  rw [show (-(n : Int)).toNat = 0 by omega, show ((n : Int)).toNat = n by omega] at this
  rw [← this]
  simp
theorem tw_zero : tw 0 = 1 := by decide +kernel
theorem tw_one : tw 1 = 2 := by decide +kernel
theorem tw_succ (e : Int) : tw (e + 1) = 2 * tw e := by rw [tw_add, tw_one, Rat.mul_comm]
theorem tw_pred (e : Int) : tw (e - 1) = tw e / 2 := by
  have := tw_succ (e - 1)
  rw [show e - 1 + 1 = e by omega] at this
  grind

/-- is the denominator a power of 2? -/
def isDy (q : Rat) : Bool := tz q.den == bl q.den - 1
/-- the odd part, and the power of 2 -/
def mo (q : Rat) : Int := q.num / ((2 ^ tz q.num.natAbs : Nat) : Int)
def ex (q : Rat) : Int := if q.num = 0 then 0 else (tz q.num.natAbs : Int) - (tz q.den : Int)

theorem z_split {z : Int} (h : z ≠ 0) : ∃ m : Int, z = m * ((2 ^ tz z.natAbs : Nat) : Int) ∧ m % 2 = 1 ∧ z / ((2 ^ tz z.natAbs : Nat) : Int) = m := by
  obtain ⟨k, hk⟩ := tz_spec (show z.natAbs ≠ 0 by omega)
  have hp : ((2 ^ tz z.natAbs : Nat) : Int) ≠ 0 := by have := Nat.two_pow_pos (tz z.natAbs); omega
  have e : z = (sg (decide (z < 0)) (2 * k + 1)) * ((2 ^ tz z.natAbs : Nat) : Int) := by
    conv => lhs; rw [← sg_self z, hk]
    cases decide (z < 0)
    · rw [sg_false, sg_false, Int.natCast_mul, Int.mul_comm]
    · rw [sg_true, sg_true, Int.natCast_mul, Int.mul_comm, Int.neg_mul]
  refine ⟨_, e, ?_, ?_⟩
  · cases decide (z < 0)
    · rw [sg_false]; omega
    · rw [sg_true]; omega
  · generalize hm : sg (decide (z < 0)) (2 * k + 1) = m at e
    generalize ((2 ^ tz z.natAbs : Nat) : Int) = p at *
    rw [e]
    exact Int.mul_ediv_cancel _ hp
theorem tz_odd {x : Nat} (h : x % 2 = 1) : tz x = 0 := tz_uniq (m := x / 2) (by omega)
theorem odd_num {m : Int} (hm : m % 2 = 1) (e : Int) : ((m : Rat) * tw e).num = m * ((2 ^ e.toNat : Nat) : Int) ∧ ((m : Rat) * tw e).den = 2 ^ (-e).toNat := by
  have e1 : (m : Rat) * tw e = mkRat (m * ((2 ^ e.toNat : Nat) : Int)) (2 ^ (-e).toNat) := by
    rw [Rat.mkRat_eq_div, Rat.intCast_mul, Rat.intCast_natCast]
    unfold tw
    rw [Rat.div_def, Rat.div_def, Rat.mul_assoc]
  rw [e1]
  refine mk_coprime (by have := Nat.two_pow_pos (-e).toNat; omega) ?_
  by_cases h : 0 ≤ e
  · rw [show (-e).toNat = 0 by omega, Nat.pow_zero, Nat.gcd_one_left]
  · rw [show e.toNat = 0 by omega, Nat.pow_zero, Int.natCast_one, Int.mul_one]
    refine Nat.Coprime.pow_left _ ?_
    show Nat.gcd 2 m.natAbs = 1
    rw [Nat.gcd_rec, show m.natAbs % 2 = 1 by omega, Nat.gcd_one_left]
theorem isDy_den {q : Rat} : isDy q = true ↔ ∃ k, q.den = 2 ^ k := by
  unfold isDy
  rw [beq_iff_eq]
  constructor
  · intro h
    obtain ⟨m, hm⟩ := tz_spec q.den_nz
    refine ⟨tz q.den, ?_⟩
    have h1 := lt_two_pow_bl q.den
    have h2 := bl_pos q.den_nz
    rw [show bl q.den = tz q.den + 1 by omega, Nat.pow_succ] at h1
    generalize tz q.den = t at *
    have hp := Nat.two_pow_pos t
    have h3 : 2 ^ t * (2 * m + 1) < 2 ^ t * 2 := by rw [← hm]; exact h1
    have h4 := Nat.lt_of_mul_lt_mul_left h3
    have : m = 0 := by omega
    rw [hm, this, Nat.mul_zero, Nat.zero_add, Nat.mul_one]
  · rintro ⟨k, hk⟩
    rw [hk, tz_uniq (x := 2 ^ k) (t := k) (m := 0) (by omega), bl_eq (x := 2 ^ k) (k := k) (Nat.le_refl _) (by rw [Nat.pow_succ]; have := Nat.two_pow_pos k; omega)]
    omega
theorem odd_parts {m : Int} (hm : m % 2 = 1) (e : Int) : mo ((m : Rat) * tw e) = m ∧ ex ((m : Rat) * tw e) = e ∧ isDy ((m : Rat) * tw e) = true := by
  obtain ⟨h1, h2⟩ := odd_num hm e
  have hp : ((2 ^ e.toNat : Nat) : Int) ≠ 0 := by have := Nat.two_pow_pos e.toNat; omega
  have hna : (m * ((2 ^ e.toNat : Nat) : Int)).natAbs = m.natAbs * 2 ^ e.toNat := by rw [Int.natAbs_mul, Int.natAbs_natCast]
  have htz : tz (m * ((2 ^ e.toNat : Nat) : Int)).natAbs = e.toNat := by
    rw [hna, tz_shift _ _ (by omega), tz_odd (by omega), Nat.zero_add]
  refine ⟨?_, ?_, isDy_den.2 ⟨_, h2⟩⟩
  · unfold mo
    rw [h1, htz]
    exact Int.mul_ediv_cancel _ hp
  · unfold ex
    have h0 : m * ((2 ^ e.toNat : Nat) : Int) ≠ 0 := Int.mul_ne_zero (by omega) hp
    rw [h1, h2, if_neg h0, htz, tz_uniq (x := 2 ^ (-e).toNat) (t := (-e).toNat) (m := 0) (by omega)]
    omega
theorem mo_zero : mo 0 = 0 := by decide +kernel
theorem ex_zero : ex 0 = 0 := by decide +kernel
theorem dy_zero : isDy 0 = true := by decide +kernel
/-- a whole number times a power of 2 -/
theorem z_parts (z : Int) (e : Int) (h : z ≠ 0) : mo ((z : Rat) * tw e) = z / ((2 ^ tz z.natAbs : Nat) : Int) ∧ ex ((z : Rat) * tw e) = e + tz z.natAbs := by
  obtain ⟨m, h1, h2, h3⟩ := z_split h
  have e1 : (z : Rat) * tw e = (m : Rat) * tw (e + tz z.natAbs) := by
    rw [tw_add, tw_nat]
    conv => lhs; rw [h1, Rat.intCast_mul, Rat.intCast_natCast]
    grind
  rw [e1, h3]
  exact ⟨(odd_parts h2 _).1, (odd_parts h2 _).2.1⟩
theorem dy_z (z e : Int) : isDy ((z : Rat) * tw e) = true := by
  by_cases h : z = 0
  · subst h
    rw [Rat.intCast_zero, Rat.zero_mul]
    exact dy_zero
  · obtain ⟨m, h1, h2, h3⟩ := z_split h
    have e1 : (z : Rat) * tw e = (m : Rat) * tw (e + tz z.natAbs) := by
      rw [tw_add, tw_nat]
      conv => lhs; rw [h1, Rat.intCast_mul, Rat.intCast_natCast]
      grind
    rw [e1]
    exact (odd_parts h2 _).2.2
theorem num_den (q : Rat) : q = (q.num : Rat) / (q.den : Rat) := by rw [← Rat.mkRat_eq_div, Rat.mkRat_self]
theorem dy_val {q : Rat} (h : isDy q = true) : (mo q : Rat) * tw (ex q) = q := by
  obtain ⟨k, hk⟩ := isDy_den.1 h
  by_cases h0 : q.num = 0
  · have : q = 0 := (num_eq_zero q).1 h0
    subst this
    rw [mo_zero, Rat.intCast_zero, Rat.zero_mul]
  · obtain ⟨m, h1, h2, h3⟩ := z_split h0
    have e1 : q = (m : Rat) * tw ((tz q.num.natAbs : Int) - k) := by
      conv => lhs; rw [num_den q, hk, h1, Rat.intCast_mul, Rat.intCast_natCast, ← tw_nat, ← tw_nat]
      have e2 : tw ((tz q.num.natAbs : Int) - k) * tw k = tw (tz q.num.natAbs) := by rw [← tw_add]; congr 1; omega
      have := tw_ne k
      rw [← e2]
      grind
    rw [e1]
    obtain ⟨h4, h5, _⟩ := odd_parts h2 ((tz q.num.natAbs : Int) - k)
    rw [h4, h5]
theorem dy_exists {q : Rat} (h : isDy q = true) : ∃ z e : Int, q = (z : Rat) * tw e := ⟨mo q, ex q, (dy_val h).symm⟩
theorem dy_neg {q : Rat} (h : isDy q = true) : isDy (-q) = true := by unfold isDy at *; rw [Rat.neg_den]; exact h
theorem mo_neg (q : Rat) : mo (-q) = -(mo q) := by
  unfold mo
  rw [Rat.neg_num, Int.natAbs_neg]
  by_cases h : q.num = 0
  · rw [h]; simp
  · obtain ⟨m, h1, h2, h3⟩ := z_split h
    rw [h3]
    generalize hp : ((2 ^ tz q.num.natAbs : Nat) : Int) = p at *
    have hp0 : p ≠ 0 := by have := Nat.two_pow_pos (tz q.num.natAbs); omega
    rw [h1, ← Int.neg_mul]
    exact Int.mul_ediv_cancel _ hp0
theorem ex_neg (q : Rat) : ex (-q) = ex q := by
  unfold ex
  rw [Rat.neg_num, Int.natAbs_neg, Rat.neg_den]
  by_cases h : q.num = 0
  · rw [if_pos h, if_pos (by omega)]
  · rw [if_neg h, if_neg (by omega)]
theorem bi_mo (q : Rat) : bi (mo q) ≤ br q := by
  refine Nat.le_trans ?_ (bi_br q)
  unfold mo bi
  by_cases h : q.num = 0
  · rw [h]; simp [bl_zero]
  · obtain ⟨m, h1, h2, h3⟩ := z_split h
    rw [h3]
    conv => rhs; rw [h1, Int.natAbs_mul, Int.natAbs_natCast]
    exact bl_mono (Nat.le_mul_of_pos_right _ (Nat.two_pow_pos _))
theorem ex_bd (q : Rat) : -(br q : Int) ≤ ex q ∧ ex q ≤ br q := by
  unfold ex
  have h1 := bi_br q
  have h2 := bl_br q
  have h3 := tz_lt_bl q.den_nz
  split
  · omega
  · have h4 := tz_lt_bl (show q.num.natAbs ≠ 0 by omega)
    unfold bi at h1
    omega
theorem mo_zero_iff {q : Rat} (h : isDy q = true) : mo q = 0 ↔ q = 0 := by
  constructor
  · intro h0
    rw [← dy_val h, h0, Rat.intCast_zero, Rat.zero_mul]
  · rintro rfl; exact mo_zero
theorem sgn_mul_pos (z : Int) {p : Rat} (hp : 0 < p) : cmpR ((z : Rat) * p) 0 = sgnI z := by
  have h := sgnI_R (z : Rat)
  rw [Rat.num_intCast] at h
  rw [h]
  have h1 := cmpR_mul (z : Rat) 0 p
  rw [Rat.zero_mul, cmpR_gt hp, Int.mul_one] at h1
  exact h1
theorem sgn_mo {q : Rat} (h : isDy q = true) : sgnI (mo q) = cmpR q 0 := by
  conv => rhs; rw [← dy_val h]
  rw [sgn_mul_pos _ (tw_pos _)]
theorem cmpR_sub (p q : Rat) : cmpR (p - q) 0 = cmpR p q := by
  have := cmpR_add p q (-q)
  rw [← this]
  congr 1
  · grind
  · grind
theorem dy_add {p q : Rat} (hp : isDy p = true) (hq : isDy q = true) : isDy (p + q) = true := by
  have h1 := dy_val hp
  have h2 := dy_val hq
  have e1 : tw (ex p) = tw (ex p - min (ex p) (ex q)) * tw (min (ex p) (ex q)) := by rw [← tw_add]; congr 1; omega
  have e2 : tw (ex q) = tw (ex q - min (ex p) (ex q)) * tw (min (ex p) (ex q)) := by rw [← tw_add]; congr 1; omega
  obtain ⟨n1, hn1⟩ : ∃ n : Nat, ex p - min (ex p) (ex q) = n := ⟨(ex p - min (ex p) (ex q)).toNat, by omega⟩
  obtain ⟨n2, hn2⟩ : ∃ n : Nat, ex q - min (ex p) (ex q) = n := ⟨(ex q - min (ex p) (ex q)).toNat, by omega⟩
  have : p + q = (((mo p * ((2 ^ n1 : Nat) : Int) + mo q * ((2 ^ n2 : Nat) : Int)) : Int) : Rat) * tw (min (ex p) (ex q)) := by
    rw [Rat.intCast_add, Rat.intCast_mul, Rat.intCast_mul, Rat.intCast_natCast, Rat.intCast_natCast, ← tw_nat, ← tw_nat, ← hn1, ← hn2]
    conv => lhs; rw [← h1, ← h2, e1, e2]
    grind
  rw [this]
  exact dy_z _ _
theorem dy_mul {p q : Rat} (hp : isDy p = true) (hq : isDy q = true) : isDy (p * q) = true := by
  have : p * q = ((mo p * mo q : Int) : Rat) * tw (ex p + ex q) := by
    conv => lhs; rw [← dy_val hp, ← dy_val hq]
    rw [Rat.intCast_mul, tw_add]
    grind
  rw [this]
  exact dy_z _ _

end Go.Proofs.YtpifafenmgceoaaGreatDoor.X
set_option linter.unusedVariables false
set_option linter.unusedSimpArgs false
namespace Go.Proofs.YtpifafenmgceoaaGreatDoor.X

theorem tw_lt {a b : Int} (h : a < b) : tw a < tw b := by
  obtain ⟨k, hk⟩ : ∃ k : Nat, b = a + ((k + 1 : Nat) : Int) := ⟨(b - a - 1).toNat, by omega⟩
  rw [hk, tw_add, tw_nat]
  have h1 := tw_pos a
  have h2 : (1 : Rat) < ((2 ^ (k + 1) : Nat) : Rat) := by
    have : ((1 : Nat) : Rat) < ((2 ^ (k + 1) : Nat) : Rat) := Rat.natCast_lt_natCast.2 (by rw [Nat.pow_succ]; have := Nat.two_pow_pos k; omega)
    simpa using this
  have h3 := Rat.mul_lt_mul_of_pos_left h2 h1
  rwa [Rat.mul_one] at h3
theorem tw_lt_iff {a b : Int} : tw a < tw b ↔ a < b := by
  constructor
  · intro h
    by_cases h1 : a < b
    · exact h1
    · by_cases h2 : a = b
      · subst h2; exact absurd h Rat.lt_irrefl
      · have := tw_lt (show b < a by omega)
        exact absurd (rlt_trans h this) Rat.lt_irrefl
  · exact tw_lt

/-- how often 2 to the e goes in, downwards and upwards -/
def nq (a : Rat) (e : Int) : Int := (a / tw e).floor
def cl (a : Rat) (e : Int) : Int := -(nq (-a) e)
theorem div_le {k : Int} {a : Rat} {e : Int} : (k : Rat) ≤ a / tw e ↔ (k : Rat) * tw e ≤ a := by
  have hp := tw_pos e
  have h : a / tw e * tw e = a := Rat.div_mul_cancel (tw_ne e)
  constructor
  · intro h1
    have := Rat.mul_le_mul_of_nonneg_right h1 (Rat.le_of_lt hp)
    rwa [h] at this
  · intro h1
    rw [← h] at h1
    exact Rat.le_of_mul_le_mul_right h1 hp
theorem le_nq {k : Int} {a : Rat} {e : Int} : k ≤ nq a e ↔ (k : Rat) * tw e ≤ a := by
  unfold nq
  rw [Rat.le_floor_iff, div_le]
theorem nq_lt {k : Int} {a : Rat} {e : Int} : nq a e < k ↔ a < (k : Rat) * tw e := by
  rw [← Int.not_le, le_nq, Rat.not_le]
theorem cl_le {k : Int} {a : Rat} {e : Int} : cl a e ≤ k ↔ a ≤ (k : Rat) * tw e := by
  have h := @le_nq (-k) (-a) e
  have e1 : cl a e ≤ k ↔ -k ≤ nq (-a) e := by unfold cl; omega
  rw [e1, h, Rat.intCast_neg, Rat.neg_mul]
  constructor <;> intro h <;> grind
theorem lt_cl {k : Int} {a : Rat} {e : Int} : k < cl a e ↔ (k : Rat) * tw e < a := by
  rw [← Int.not_le, cl_le, Rat.not_le]
theorem nq_le (a : Rat) (e : Int) : (nq a e : Rat) * tw e ≤ a := le_nq.1 (Int.le_refl _)
theorem lt_nq (a : Rat) (e : Int) : a < ((nq a e + 1 : Int) : Rat) * tw e := nq_lt.1 (by omega)
theorem le_cl (a : Rat) (e : Int) : a ≤ (cl a e : Rat) * tw e := cl_le.1 (Int.le_refl _)
theorem cl_lt (a : Rat) (e : Int) : ((cl a e - 1 : Int) : Rat) * tw e < a := lt_cl.1 (by omega)
theorem nq_neg (a : Rat) (e : Int) : nq (-a) e = -(cl a e) := by unfold cl; omega
theorem nq_uniq {k : Int} {a : Rat} {e : Int} (h1 : (k : Rat) * tw e ≤ a) (h2 : a < ((k + 1 : Int) : Rat) * tw e) : nq a e = k := by
  have := le_nq.2 h1
  have := nq_lt.2 h2
  omega
theorem cl_uniq {k : Int} {a : Rat} {e : Int} (h1 : ((k - 1 : Int) : Rat) * tw e < a) (h2 : a ≤ (k : Rat) * tw e) : cl a e = k := by
  have := lt_cl.2 h1
  have := cl_le.2 h2
  omega
theorem nq_self (k e : Int) : nq ((k : Rat) * tw e) e = k := by
  refine nq_uniq (Rat.le_refl) ?_
  refine Rat.mul_lt_mul_of_pos_right ?_ (tw_pos e)
  exact Rat.intCast_lt_intCast.2 (by omega)
theorem cl_self (k e : Int) : cl ((k : Rat) * tw e) e = k := by
  refine cl_uniq ?_ (Rat.le_refl)
  refine Rat.mul_lt_mul_of_pos_right ?_ (tw_pos e)
  exact Rat.intCast_lt_intCast.2 (by omega)
theorem nq_half (a : Rat) (e : Int) : nq a (e + 1) = nq a e / 2 := by
  have h1 := nq_le a e
  have h2 := lt_nq a e
  refine nq_uniq ?_ ?_
  · refine (fun h => ?_) (le_nq.1 (show nq a e / 2 * 2 ≤ nq a e by omega))
    rw [Rat.intCast_mul] at h
    rw [tw_succ]
    generalize ((nq a e / 2 : Int) : Rat) = x at *
    have : ((2 : Int) : Rat) = 2 := rfl
    rw [this] at h
    grind
  · refine (fun h => ?_) (nq_lt.1 (show nq a e < (nq a e / 2 + 1) * 2 by omega))
    rw [Rat.intCast_mul] at h
    rw [tw_succ]
    generalize ((nq a e / 2 + 1 : Int) : Rat) = x at *
    have : ((2 : Int) : Rat) = 2 := rfl
    rw [this] at h
    grind
theorem p2_tw (n : Nat) (e : Int) : (((2 ^ n : Nat) : Int) : Rat) * tw e = tw (e + n) := by
  rw [tw_add, tw_nat, Rat.intCast_natCast, Rat.mul_comm]
theorem z_mono {k l : Int} (h : k ≤ l) (e : Int) : (k : Rat) * tw e ≤ (l : Rat) * tw e :=
  Rat.mul_le_mul_of_nonneg_right (Rat.intCast_le_intCast.2 h) (Rat.le_of_lt (tw_pos e))

/-- where rounding begins -/
def e0 (a : Rat) (n : Nat) : Int := (bl a.num.natAbs : Int) - bl a.den - n
def e1 (a : Rat) (n : Nat) : Int := if bl (nq a (e0 a n)).natAbs ≤ n then e0 a n else e0 a n + 1
theorem e0_bd {a : Rat} (ha : 0 < a) (n : Nat) : tw (e0 a n + n - 1) ≤ a ∧ a < tw (e0 a n + n + 1) := by
  have hn : 0 < a.num := by
    have := sgnI_R a
    rw [cmpR_gt ha] at this
    unfold sgnI at this
    split at this
    · omega
    · split at this <;> omega
  have hd := a.den_nz
  obtain ⟨A, hA⟩ : ∃ A : Nat, a.num = A := ⟨a.num.natAbs, by omega⟩
  have hA0 : A ≠ 0 := by omega
  have e : a * (a.den : Rat) = (A : Rat) := by
    conv => lhs; lhs; rw [num_den a, hA, Rat.intCast_natCast]
    exact Rat.div_mul_cancel (by have : (0 : Rat) < a.den := Rat.natCast_pos.2 (by omega); exact Rat.ne_of_gt this)
  have hdp : (0 : Rat) < a.den := Rat.natCast_pos.2 (by omega)
  have b1 := two_pow_le_bl hA0
  have b2 := lt_two_pow_bl A
  have b3 := two_pow_le_bl hd
  have b4 := lt_two_pow_bl a.den
  have p1 := bl_pos hA0
  have p2 := bl_pos hd
  have c1 : tw ((bl A : Int) - 1) ≤ (A : Rat) := by
    rw [show (bl A : Int) - 1 = ((bl A - 1 : Nat) : Int) by omega, tw_nat]; exact Rat.natCast_le_natCast.2 b1
  have c2 : (A : Rat) < tw (bl A) := by rw [tw_nat]; exact Rat.natCast_lt_natCast.2 b2
  have c3 : tw ((bl a.den : Int) - 1) ≤ (a.den : Rat) := by
    rw [show (bl a.den : Int) - 1 = ((bl a.den - 1 : Nat) : Int) by omega, tw_nat]; exact Rat.natCast_le_natCast.2 b3
  have c4 : (a.den : Rat) < tw (bl a.den) := by rw [tw_nat]; exact Rat.natCast_lt_natCast.2 b4
  have hna : a.num.natAbs = A := by omega
  unfold e0
  rw [hna]
  constructor
  · refine Rat.le_of_mul_le_mul_right ?_ hdp
    rw [e]
    have h1 := Rat.mul_le_mul_of_nonneg_left (Rat.le_of_lt c4) (Rat.le_of_lt (tw_pos ((bl A : Int) - bl a.den - n + n - 1)))
    rw [← tw_add, show (bl A : Int) - bl a.den - n + n - 1 + bl a.den = (bl A : Int) - 1 by omega] at h1
    exact Rat.le_trans h1 c1
  · refine Rat.lt_of_mul_lt_mul_right ?_ (Rat.le_of_lt hdp)
    rw [e]
    have h1 := Rat.mul_le_mul_of_nonneg_left c3 (Rat.le_of_lt (tw_pos ((bl A : Int) - bl a.den - n + n + 1)))
    rw [← tw_add, show (bl A : Int) - bl a.den - n + n + 1 + (bl a.den - 1) = (bl A : Int) by omega] at h1
    exact rlt_le c2 h1
theorem nq_pos {a : Rat} (ha : 0 < a) (e : Int) : 0 ≤ nq a e := le_nq.2 (by rw [Rat.intCast_zero, Rat.zero_mul]; exact Rat.le_of_lt ha)
theorem cl_pos {a : Rat} (ha : 0 < a) (e : Int) : 0 < cl a e := lt_cl.2 (by rw [Rat.intCast_zero, Rat.zero_mul]; exact ha)
theorem nq_bl {a : Rat} (ha : 0 < a) (e : Int) (n : Nat) : bl (nq a e).natAbs ≤ n ↔ a < tw (e + n) := by
  rw [bl_le_iff, ← p2_tw, ← nq_lt]
  have := nq_pos ha e
  omega
theorem cl_bl {a : Rat} (ha : 0 < a) (e : Int) (n : Nat) : (cl a e ≤ ((2 ^ n : Nat) : Int)) ↔ a ≤ tw (e + n) := by
  rw [← p2_tw, ← cl_le]
/-- e is where a has just n digits ahead of the point -/
def At (a : Rat) (n : Nat) (e : Int) : Prop := tw (e + n - 1) ≤ a ∧ a < tw (e + n)
theorem e1_at {a : Rat} (ha : 0 < a) (n : Nat) : At a n (e1 a n) := by
  obtain ⟨h1, h2⟩ := e0_bd ha n
  unfold e1 At
  split
  · rename_i h
    exact ⟨h1, (nq_bl ha _ _).1 h⟩
  · rename_i h
    rw [nq_bl ha, Rat.not_lt] at h
    rw [show e0 a n + 1 + n - 1 = e0 a n + n by omega, show e0 a n + 1 + n = e0 a n + n + 1 by omega]
    exact ⟨h, h2⟩
theorem At.uniq {a : Rat} {n : Nat} {e f : Int} (h : At a n e) (k : At a n f) : e = f := by
  have h1 := tw_lt_iff.1 (rle_lt h.1 k.2)
  have h2 := tw_lt_iff.1 (rle_lt k.1 h.2)
  omega
theorem At.eq {a : Rat} (ha : 0 < a) {n : Nat} {e : Int} (h : At a n e) : e1 a n = e := (e1_at ha n).uniq h

/-- the nearest one of n digits below (or above) a number above 0 -/
def nearR (a : Rat) (n : Nat) (up : Bool) : Rat := ((if up then cl a (e1 a n) else nq a (e1 a n) : Int) : Rat) * tw (e1 a n)
def rndR (a : Rat) (n : Nat) (up : Bool) : Rat := if a = 0 then 0 else if a < 0 then -(nearR (-a) n (!up)) else nearR a n up
theorem near_dn (a : Rat) (n : Nat) : nearR a n false = (nq a (e1 a n) : Rat) * tw (e1 a n) := rfl
theorem near_up (a : Rat) (n : Nat) : nearR a n true = (cl a (e1 a n) : Rat) * tw (e1 a n) := rfl
theorem rnd_pos {a : Rat} (ha : 0 < a) (n : Nat) (up : Bool) : rndR a n up = nearR a n up := by
  unfold rndR
  rw [if_neg (Rat.ne_of_gt ha), if_neg (by grind)]
theorem rnd_zero (n : Nat) (up : Bool) : rndR 0 n up = 0 := by unfold rndR; rw [if_pos rfl]
theorem rnd_lt {a : Rat} (ha : a < 0) (n : Nat) (up : Bool) : rndR a n up = -(nearR (-a) n (!up)) := by
  unfold rndR
  rw [if_neg (Rat.ne_of_lt ha), if_pos ha]
theorem rnd_neg (a : Rat) (n : Nat) (up : Bool) : rndR (-a) n up = -(rndR a n (!up)) := by
  rcases cmpR_cases a 0 with h | h | h
  · rw [rnd_lt h.1, rnd_pos (by grind), Bool.not_not, Rat.neg_neg]
  · rw [h.1, rnd_zero, Rat.neg_zero, rnd_zero]
  · rw [rnd_pos h.1, rnd_lt (by grind), Rat.neg_neg]
theorem near_step (a : Rat) (e : Int) : cl a e = if (nq a e : Rat) * tw e < a then nq a e + 1 else nq a e := by
  split
  · rename_i h
    refine cl_uniq ?_ ?_
    · rw [show nq a e + 1 - 1 = nq a e by omega]; exact h
    · exact Rat.le_of_lt (lt_nq a e)
  · rename_i h
    have e : (nq a e : Rat) * tw e = a := Rat.le_antisymm (nq_le a e) (Rat.not_lt.1 h)
    conv => lhs; rw [← e]
    exact cl_self _ _

/-- where the document's search stops -/
def stop (n : Nat) (q : Int) : Prop := bl q.natAbs ≤ n ∨ bl q.natAbs ≤ tz q.natAbs + 1
theorem pow_of_tz {x : Nat} (h0 : x ≠ 0) (h : bl x ≤ tz x + 1) : x = 2 ^ (bl x - 1) := by
  obtain ⟨m, hm⟩ := tz_spec h0
  have h1 := lt_two_pow_bl x
  have h2 := tz_lt_bl h0
  rw [show bl x = tz x + 1 by omega, Nat.pow_succ] at h1
  rw [show bl x - 1 = tz x by omega]
  generalize tz x = t at *
  have h3 : 2 ^ t * (2 * m + 1) < 2 ^ t * 2 := by rw [← hm]; exact h1
  have h4 := Nat.lt_of_mul_lt_mul_left h3
  have : m = 0 := by omega
  rw [hm, this, Nat.mul_zero, Nat.zero_add, Nat.mul_one]
theorem stop_pow (n k : Nat) : stop n ((2 ^ k : Nat) : Int) := by
  right
  rw [Int.natAbs_natCast, tz_uniq (x := 2 ^ k) (t := k) (m := 0) (by omega), bl_eq (x := 2 ^ k) (k := k) (Nat.le_refl _) (by rw [Nat.pow_succ]; have := Nat.two_pow_pos k; omega)]
  omega
theorem two_tw (k e : Int) : ((k * 2 : Int) : Rat) * tw e = (k : Rat) * tw (e + 1) := by
  rw [tw_succ, Rat.intCast_mul]
  have : ((2 : Int) : Rat) = 2 := rfl
  rw [this]
  grind
theorem dn_stop {a : Rat} (ha : 0 < a) {n : Nat} (hn : 1 ≤ n) (h : stop n (nq a (e0 a n))) : (nq a (e0 a n) : Rat) * tw (e0 a n) = nearR a n false := by
  rw [near_dn]
  by_cases hb : bl (nq a (e0 a n)).natAbs ≤ n
  · have : e1 a n = e0 a n := by unfold e1; rw [if_pos hb]
    rw [this]
  · have he : e1 a n = e0 a n + 1 := by unfold e1; rw [if_neg hb]
    have h1 : bl (nq a (e0 a n)).natAbs ≤ n + 1 := (nq_bl ha _ _).2 (by rw [show e0 a n + ((n + 1 : Nat) : Int) = e0 a n + n + 1 by omega]; exact (e0_bd ha n).2)
    rcases h with h | h
    · exact absurd h hb
    · have h0 : (nq a (e0 a n)).natAbs ≠ 0 := fun h0 => hb (by rw [h0, bl_zero]; omega)
      have h2 := pow_of_tz h0 h
      rw [show bl (nq a (e0 a n)).natAbs - 1 = (n - 1) + 1 by omega, Nat.pow_succ] at h2
      have h3 := nq_pos ha (e0 a n)
      have h4 : nq a (e0 a n) = ((2 ^ (n - 1) : Nat) : Int) * 2 := by omega
      rw [he, nq_half, h4, two_tw]
      rw [Int.mul_ediv_cancel _ (by decide)]
theorem dn_next {a : Rat} (ha : 0 < a) {n : Nat} (h : ¬ stop n (nq a (e0 a n))) : stop n (nq a (e0 a n + 1)) ∧ (nq a (e0 a n + 1) : Rat) * tw (e0 a n + 1) = nearR a n false := by
  have hb : ¬ bl (nq a (e0 a n)).natAbs ≤ n := fun h1 => h (.inl h1)
  have he : e1 a n = e0 a n + 1 := by unfold e1; rw [if_neg hb]
  have h1 := (e1_at ha n).2
  rw [near_dn, ← he]
  exact ⟨.inl ((nq_bl ha _ _).2 h1), rfl⟩
theorem up_stop {a : Rat} (ha : 0 < a) {n : Nat} (hn : 1 ≤ n) (h : stop n (cl a (e0 a n))) : (cl a (e0 a n) : Rat) * tw (e0 a n) = nearR a n true := by
  rw [near_up]
  have hc := cl_pos ha (e0 a n)
  have l1 := le_cl a (e0 a n)
  have l2 := cl_lt a (e0 a n)
  by_cases hb : bl (nq a (e0 a n)).natAbs ≤ n
  · have : e1 a n = e0 a n := by unfold e1; rw [if_pos hb]
    rw [this]
  · have he : e1 a n = e0 a n + 1 := by unfold e1; rw [if_neg hb]
    have hb' := hb
    rw [nq_bl ha, Rat.not_lt] at hb'
    have g1 : ((2 ^ n : Nat) : Int) ≤ cl a (e0 a n) := by
      have : ((2 ^ n : Nat) : Int) ≤ nq a (e0 a n) := le_nq.2 (by rw [p2_tw]; exact hb')
      have h5 := nq_le a (e0 a n)
      have h6 : ¬ cl a (e0 a n) < nq a (e0 a n) := fun h7 => by
        have h8 : (((cl a (e0 a n)) : Int) : Rat) * tw (e0 a n) < ((nq a (e0 a n) : Int) : Rat) * tw (e0 a n) := Rat.mul_lt_mul_of_pos_right (Rat.intCast_lt_intCast.2 h7) (tw_pos _)
        grind
      omega
    have g2 : cl a (e0 a n) ≤ ((2 ^ (n + 1) : Nat) : Int) := (cl_bl ha _ _).2 (by rw [show e0 a n + ((n + 1 : Nat) : Int) = e0 a n + n + 1 by omega]; exact Rat.le_of_lt (e0_bd ha n).2)
    have hp := Nat.two_pow_pos n
    have h0 : (cl a (e0 a n)).natAbs ≠ 0 := by omega
    rcases h with h | h
    · rw [bl_le_iff] at h; omega
    · have h2 := pow_of_tz h0 h
      have k1 : n < bl (cl a (e0 a n)).natAbs := lt_bl_iff.2 (by omega)
      have k2 : bl (cl a (e0 a n)).natAbs ≤ n + 2 := by
        rw [bl_le_iff, Nat.pow_succ]
        have := Nat.two_pow_pos (n + 1)
        omega
      obtain ⟨j, hj⟩ : ∃ j, bl (cl a (e0 a n)).natAbs - 1 = j + 1 := ⟨bl (cl a (e0 a n)).natAbs - 2, by omega⟩
      rw [hj, Nat.pow_succ] at h2
      have h4 : cl a (e0 a n) = ((2 ^ j : Nat) : Int) * 2 := by omega
      have h5 : cl a (e0 a n + 1) = ((2 ^ j : Nat) : Int) := by
        rw [h4] at l1 l2
        refine cl_uniq ?_ ?_
        · rw [← two_tw]
          exact rle_lt (z_mono (by omega) _) l2
        · rw [← two_tw]; exact l1
      rw [he, h5, h4, two_tw]
theorem up_next {a : Rat} (ha : 0 < a) {n : Nat} (h : ¬ stop n (cl a (e0 a n))) : stop n (cl a (e0 a n + 1)) ∧ (cl a (e0 a n + 1) : Rat) * tw (e0 a n + 1) = nearR a n true := by
  have hc := cl_pos ha (e0 a n)
  have l2 := cl_lt a (e0 a n)
  have g1 : ((2 ^ n : Nat) : Int) < cl a (e0 a n) := by
    have h1 : ¬ bl (cl a (e0 a n)).natAbs ≤ n := fun h1 => h (.inl h1)
    rw [bl_le_iff] at h1
    have h2 : cl a (e0 a n) ≠ ((2 ^ n : Nat) : Int) := fun h2 => h (by rw [h2]; exact stop_pow n n)
    omega
  have hb : ¬ bl (nq a (e0 a n)).natAbs ≤ n := by
    rw [nq_bl ha, ← p2_tw, Rat.not_lt]
    exact Rat.le_of_lt (rle_lt (z_mono (show ((2 ^ n : Nat) : Int) ≤ cl a (e0 a n) - 1 by omega) _) l2)
  have he : e1 a n = e0 a n + 1 := by unfold e1; rw [if_neg hb]
  have h1 := (e1_at ha n).2
  rw [near_up, ← he]
  refine ⟨?_, rfl⟩
  have h2 := (cl_bl ha (e1 a n) n).2 (Rat.le_of_lt h1)
  have h3 := cl_pos ha (e1 a n)
  by_cases h4 : cl a (e1 a n) = ((2 ^ n : Nat) : Int)
  · rw [h4]; exact stop_pow n n
  · left
    rw [bl_le_iff]
    omega

/-- the two ends -/
theorem near_le {a : Rat} (n : Nat) : nearR a n false ≤ a ∧ a ≤ nearR a n true := ⟨nq_le _ _, le_cl _ _⟩
theorem rnd_le (a : Rat) (n : Nat) : rndR a n false ≤ a ∧ a ≤ rndR a n true := by
  rcases cmpR_cases a 0 with h | h | h
  · rw [rnd_lt h.1, rnd_lt h.1]
    have := @near_le (-a) n
    constructor <;> simp only [Bool.not_true, Bool.not_false] <;> grind
  · rw [h.1, rnd_zero, rnd_zero]; exact ⟨Rat.le_refl, Rat.le_refl⟩
  · rw [rnd_pos h.1, rnd_pos h.1]
    exact near_le n
/-- what a number of n digits is -/
def Dig (n : Nat) (x : Rat) : Prop := ∃ k e : Int, x = (k : Rat) * tw e ∧ ((2 ^ (n - 1) : Nat) : Int) ≤ k ∧ k < ((2 ^ n : Nat) : Int)
theorem near_dig {a : Rat} (ha : 0 < a) {n : Nat} (hn : 1 ≤ n) (up : Bool) : Dig n (nearR a n up) := by
  obtain ⟨h1, h2⟩ := e1_at ha n
  have q1 : ((2 ^ (n - 1) : Nat) : Int) ≤ nq a (e1 a n) := le_nq.2 (by rw [p2_tw, show e1 a n + ((n - 1 : Nat) : Int) = e1 a n + n - 1 by omega]; exact h1)
  have q2 : nq a (e1 a n) < ((2 ^ n : Nat) : Int) := nq_lt.2 (by rw [p2_tw]; exact h2)
  cases up with
  | false => exact ⟨_, _, near_dn a n, q1, q2⟩
  | true =>
    have q3 : cl a (e1 a n) ≤ ((2 ^ n : Nat) : Int) := (cl_bl ha _ _).2 (Rat.le_of_lt h2)
    have q4 := near_step a (e1 a n)
    have q5 : ((2 ^ (n - 1) : Nat) : Int) ≤ cl a (e1 a n) := by split at q4 <;> omega
    by_cases h3 : cl a (e1 a n) = ((2 ^ n : Nat) : Int)
    · refine ⟨((2 ^ (n - 1) : Nat) : Int), e1 a n + 1, ?_, Int.le_refl _, ?_⟩
      · rw [near_up, h3, p2_tw, p2_tw]
        congr 1
        omega
      · have : 2 ^ n = 2 ^ (n - 1) * 2 := by rw [← Nat.pow_succ]; congr 1; omega
        have := Nat.two_pow_pos (n - 1)
        omega
    · exact ⟨_, _, near_up a n, q5, by omega⟩
theorem Dig.pos {n : Nat} {x : Rat} (h : Dig n x) : 0 < x := by
  obtain ⟨k, e, rfl, h1, h2⟩ := h
  have := Nat.two_pow_pos (n - 1)
  have h3 := z_mono (show (1 : Int) ≤ k by omega) e
  rw [Rat.intCast_one, Rat.one_mul] at h3
  exact rlt_le (tw_pos e) h3
theorem Dig.fix {n : Nat} (hn : 1 ≤ n) {x : Rat} (h : Dig n x) (up : Bool) : nearR x n up = x := by
  have hp := h.pos
  obtain ⟨k, e, hx, h1, h2⟩ := h
  have ha : At x n e := by
    constructor
    · rw [hx, show e + n - 1 = e + ((n - 1 : Nat) : Int) by omega, ← p2_tw]
      exact z_mono h1 e
    · rw [hx, ← p2_tw]
      exact Rat.mul_lt_mul_of_pos_right (Rat.intCast_lt_intCast.2 h2) (tw_pos e)
  have he := At.eq hp ha
  cases up with
  | false => rw [near_dn, he, hx, nq_self]
  | true => rw [near_up, he, hx, cl_self]
theorem Dig.bits {n : Nat} {x : Rat} (h : Dig n x) : bi (mo x) ≤ n := by
  obtain ⟨k, e, rfl, h1, h2⟩ := h
  have := Nat.two_pow_pos (n - 1)
  have h0 : k ≠ 0 := by omega
  rw [(z_parts k e h0).1]
  obtain ⟨m, g1, g2, g3⟩ := z_split h0
  rw [g3]
  unfold bi
  rw [bl_le_iff]
  have : m.natAbs ≤ k.natAbs := by
    conv => rhs; rw [g1, Int.natAbs_mul, Int.natAbs_natCast]
    exact Nat.le_mul_of_pos_right _ (Nat.two_pow_pos _)
  omega
theorem near_dy {a : Rat} (n : Nat) (up : Bool) : isDy (nearR a n up) = true := dy_z _ _
theorem rnd_dy (a : Rat) (n : Nat) (up : Bool) : isDy (rndR a n up) = true := by
  rcases cmpR_cases a 0 with h | h | h
  · rw [rnd_lt h.1]; exact dy_neg (near_dy _ _)
  · rw [h.1, rnd_zero]; exact dy_zero
  · rw [rnd_pos h.1]; exact near_dy _ _
theorem rnd_bits (a : Rat) {n : Nat} (hn : 1 ≤ n) (up : Bool) : bi (mo (rndR a n up)) ≤ n := by
  rcases cmpR_cases a 0 with h | h | h
  · rw [rnd_lt h.1, mo_neg, bi_neg]; exact (near_dig (by grind) hn _).bits
  · rw [h.1, rnd_zero, mo_zero]; exact Nat.zero_le _
  · rw [rnd_pos h.1]; exact (near_dig h.1 hn _).bits
theorem rnd_fix (a : Rat) {n : Nat} (hn : 1 ≤ n) (up v : Bool) : rndR (rndR a n up) n v = rndR a n up := by
  rcases cmpR_cases a 0 with h | h | h
  · have hd := near_dig (a := -a) (by grind) hn (!up)
    rw [rnd_lt h.1, rnd_neg, rnd_pos hd.pos, hd.fix hn]
  · rw [h.1, rnd_zero, rnd_zero]
  · have hd := near_dig h.1 hn up
    rw [rnd_pos h.1, rnd_pos hd.pos, hd.fix hn]
theorem At.succ {a : Rat} {n : Nat} {e : Int} (h : At a n e) : At a (n + 1) (e - 1) := by
  unfold At at *
  rw [show e - 1 + ((n + 1 : Nat) : Int) - 1 = e + n - 1 by omega, show e - 1 + ((n + 1 : Nat) : Int) = e + n by omega]
  exact h
theorem near_more {a : Rat} (ha : 0 < a) (n : Nat) : nearR a n false ≤ nearR a (n + 1) false ∧ nearR a (n + 1) true ≤ nearR a n true := by
  have he := At.eq ha (e1_at ha n).succ
  rw [near_dn, near_dn, near_up, near_up, he]
  generalize e1 a n = e
  obtain ⟨f, rfl⟩ : ∃ f, e = f + 1 := ⟨e - 1, by omega⟩
  rw [show f + 1 - 1 = f by omega, ← two_tw, ← two_tw]
  constructor
  · refine z_mono (le_nq.2 ?_) _
    rw [two_tw]; exact nq_le _ _
  · refine z_mono (cl_le.2 ?_) _
    rw [two_tw]; exact le_cl _ _
theorem rnd_more (a : Rat) (n : Nat) : rndR a n false ≤ rndR a (n + 1) false ∧ rndR a (n + 1) true ≤ rndR a n true := by
  rcases cmpR_cases a 0 with h | h | h
  · have := near_more (a := -a) (by grind) n
    rw [rnd_lt h.1, rnd_lt h.1, rnd_lt h.1, rnd_lt h.1]
    constructor <;> simp only [Bool.not_true, Bool.not_false] <;> grind
  · rw [h.1, rnd_zero, rnd_zero, rnd_zero, rnd_zero]; exact ⟨Rat.le_refl, Rat.le_refl⟩
  · rw [rnd_pos h.1, rnd_pos h.1, rnd_pos h.1, rnd_pos h.1]
    exact near_more h.1 n

/-- sizes -/
theorem br_tw (e : Int) : br (tw e) ≤ e.natAbs + 1 := by
  have h := odd_num (m := 1) (by decide) e
  rw [Rat.intCast_one, Rat.one_mul, Int.one_mul] at h
  unfold br bi
  rw [h.1, h.2, Int.natAbs_natCast]
  have h1 : bl (2 ^ e.toNat) ≤ e.toNat + 1 := bl_le_iff.2 (Nat.pow_lt_pow_right (by decide) (by omega))
  have h2 : bl (2 ^ (-e).toNat) ≤ (-e).toNat + 1 := bl_le_iff.2 (Nat.pow_lt_pow_right (by decide) (by omega))
  omega
theorem br_int (z : Int) : br (z : Rat) ≤ bi z + 1 := by
  unfold br
  rw [Rat.num_intCast, Rat.den_intCast]
  have : bl 1 = 1 := rfl
  omega
theorem br_z (z e : Int) : br ((z : Rat) * tw e) ≤ bi z + e.natAbs + 3 := by
  have h1 := br_mul (z : Rat) (tw e)
  have h2 := br_int z
  have h3 := br_tw e
  omega
theorem e0_abs (a : Rat) (n : Nat) : (e0 a n).natAbs ≤ br a + n := by
  have h1 := bi_br a
  have h2 := bl_br a
  unfold e0
  unfold bi at h1
  omega
theorem e1_abs (a : Rat) (n : Nat) : (e1 a n).natAbs ≤ br a + n + 1 := by
  have := e0_abs a n
  unfold e1
  split <;> omega
theorem br_near {a : Rat} (ha : 0 < a) {n : Nat} (hn : 1 ≤ n) (up : Bool) : br (nearR a n up) ≤ br a + 2 * n + 6 := by
  have h1 := e1_abs a n
  have h2 : bi (if up then cl a (e1 a n) else nq a (e1 a n)) ≤ n + 1 := by
    have q2 : nq a (e1 a n) < ((2 ^ n : Nat) : Int) := nq_lt.2 (by rw [p2_tw]; exact (e1_at ha n).2)
    have q0 := nq_pos ha (e1 a n)
    have q4 := near_step a (e1 a n)
    unfold bi
    rw [bl_le_iff, Nat.pow_succ]
    have := Nat.two_pow_pos n
    cases up
    · simp only [Bool.false_eq_true, if_false]; omega
    · simp only [if_true]; split at q4 <;> omega
  have h3 := br_z (if up then cl a (e1 a n) else nq a (e1 a n)) (e1 a n)
  unfold nearR
  omega
theorem br_rnd (a : Rat) {n : Nat} (hn : 1 ≤ n) (up : Bool) : br (rndR a n up) ≤ br a + 2 * n + 6 := by
  rcases cmpR_cases a 0 with h | h | h
  · rw [rnd_lt h.1, br_neg]
    have := br_near (a := -a) (by grind) hn (!up)
    rw [br_neg] at this
    exact this
  · rw [h.1, rnd_zero]
    have : br 0 = 1 := by decide +kernel
    omega
  · rw [rnd_pos h.1]; exact br_near h.1 hn up

/-- long division is the greatest whole number below -/
theorem floor_fdiv (z : Int) {w : Int} (hw : 0 < w) : ((z : Rat) / (w : Rat)).floor = z.fdiv w := by
  have hp : (0 : Rat) < (w : Rat) := Rat.intCast_pos.2 hw
  have e := fdiv_fmod z w
  have h1 := Int.fmod_nonneg_of_pos z hw
  have h2 := Int.fmod_lt_of_pos z hw
  have hc : (z : Rat) / (w : Rat) * (w : Rat) = z := Rat.div_mul_cancel (Rat.ne_of_gt hp)
  have k1 : z.fdiv w ≤ ((z : Rat) / (w : Rat)).floor := by
    rw [Rat.le_floor_iff]
    refine Rat.le_of_mul_le_mul_right ?_ hp
    rw [hc, ← Rat.intCast_mul]
    exact Rat.intCast_le_intCast.2 (by omega)
  have k2 : ((z : Rat) / (w : Rat)).floor < z.fdiv w + 1 := by
    rw [Rat.floor_lt_iff]
    refine Rat.lt_of_mul_lt_mul_right ?_ (Rat.le_of_lt hp)
    rw [hc, ← Rat.intCast_mul]
    refine Rat.intCast_lt_intCast.2 ?_
    rw [Int.add_mul, Int.one_mul]
    omega
  omega
theorem nq_fdiv (a : Rat) (e : Int) : (a.num * ((2 ^ (-e).toNat : Nat) : Int)).fdiv ((a.den : Int) * ((2 ^ e.toNat : Nat) : Int)) = nq a e := by
  have hd : (0 : Int) < (a.den : Int) * ((2 ^ e.toNat : Nat) : Int) := by
    have := a.den_pos
    exact Int.mul_pos (by omega) (by have := Nat.two_pow_pos e.toNat; omega)
  rw [← floor_fdiv _ hd]
  unfold nq
  congr 1
  have e1 := tw_eq e
  have e2 := num_den a
  have p1 : (0 : Rat) < a.den := Rat.natCast_pos.2 a.den_pos
  have p2 := p2_pos e.toNat
  have p3 := p2_pos (-e).toNat
  have p4 := tw_pos e
  rw [Rat.intCast_mul, Rat.intCast_mul, Rat.intCast_natCast, Rat.intCast_natCast, Rat.intCast_natCast]
  conv => rhs; lhs; rw [e2]
  generalize ((2 ^ e.toNat : Nat) : Rat) = x at *
  generalize ((2 ^ (-e).toNat : Nat) : Rat) = y at *
  generalize (a.num : Rat) = z at *
  generalize (a.den : Rat) = w at *
  have h1 : z * y / (w * x) * (w * x) = z * y := Rat.div_mul_cancel (Rat.ne_of_gt (Rat.mul_pos p1 p2))
  have h2 : z / w / tw e * (tw e) = z / w := Rat.div_mul_cancel (Rat.ne_of_gt p4)
  have h3 : z / w * w = z := Rat.div_mul_cancel (Rat.ne_of_gt p1)
  have h4 : (z * y / (w * x) - z / w / tw e) * (w * x) = 0 := by
    rw [← e1] at *
    grind
  rcases Rat.mul_eq_zero.1 h4 with h | h
  · grind
  · have := Rat.mul_pos p1 p2
    rw [h] at this
    exact absurd this Rat.lt_irrefl

end Go.Proofs.YtpifafenmgceoaaGreatDoor.X
set_option linter.unusedVariables false
set_option linter.unusedSimpArgs false
namespace Go.Proofs.YtpifafenmgceoaaGreatDoor.X

theorem tw_parts (e : Int) : (tw e).num = ((2 ^ e.toNat : Nat) : Int) ∧ (tw e).den = 2 ^ (-e).toNat := by
  have h := odd_num (m := 1) (by decide) e
  rw [Rat.intCast_one, Rat.one_mul, Int.one_mul] at h
  exact h
theorem e0_neg (q : Rat) (n : Nat) : e0 (-q) n = e0 q n := by
  unfold e0
  rw [Rat.neg_num, Int.natAbs_neg, Rat.neg_den]
theorem stop_neg {n : Nat} {z : Int} : stop n (-z) ↔ stop n z := by unfold stop; rw [Int.natAbs_neg]
theorem ref_stop {q : Rat} (hq : q ≠ 0) {n : Nat} (hn : 1 ≤ n) (h : stop n (nq q (e0 q n))) : (nq q (e0 q n) : Rat) * tw (e0 q n) = rndR q n false := by
  rcases cmpR_cases q 0 with c | c | c
  · have hp : 0 < -q := by have := c.1; grind
    have e : nq q (e0 q n) = -(cl (-q) (e0 (-q) n)) := by rw [e0_neg]; unfold cl; rw [Rat.neg_neg]; omega
    rw [e, stop_neg] at h
    have k := up_stop hp hn h
    rw [rnd_lt c.1, e, Bool.not_false, ← k, Rat.intCast_neg, Rat.neg_mul, e0_neg]
  · exact absurd c.1 hq
  · rw [rnd_pos c.1]
    exact dn_stop c.1 hn h
theorem ref_next {q : Rat} (hq : q ≠ 0) {n : Nat} (h : ¬ stop n (nq q (e0 q n))) : stop n (nq q (e0 q n + 1)) ∧ (nq q (e0 q n + 1) : Rat) * tw (e0 q n + 1) = rndR q n false := by
  rcases cmpR_cases q 0 with c | c | c
  · have hp : 0 < -q := by have := c.1; grind
    have e : ∀ f : Int, nq q f = -(cl (-q) f) := by intro f; unfold cl; rw [Rat.neg_neg]; omega
    rw [e, stop_neg, ← e0_neg] at h
    have k := up_next hp h
    rw [rnd_lt c.1, Bool.not_false, ← k.2, e, stop_neg, e0_neg, Rat.intCast_neg, Rat.neg_mul]
    rw [e0_neg] at k
    exact ⟨k.1, rfl⟩
  · exact absurd c.1 hq
  · rw [rnd_pos c.1]
    exact dn_next c.1 h
theorem div_tw (q : Rat) (e : Int) : q * tw (-e) = q / tw e := by
  have h : tw (-e) * tw e = 1 := by rw [← tw_add, show -e + e = 0 by omega, tw_zero]
  have h2 : q / tw e * tw e = q := Rat.div_mul_cancel (tw_ne e)
  have h3 : (q * tw (-e) - q / tw e) * tw e = 0 := by grind
  rcases Rat.mul_eq_zero.1 h3 with h4 | h4
  · grind
  · exact absurd h4 (tw_ne e)
theorem nq_floor (q : Rat) (e : Int) : (q * tw (-e)).num.fdiv ((q * tw (-e)).den : Int) = nq q e := by
  rw [← floor_eq, div_tw]; rfl
theorem bi_nq {q : Rat} (hq : q ≠ 0) {n : Nat} (hn : 1 ≤ n) {e : Int} (he : e = e0 q n ∨ e = e0 q n + 1) : bi (nq q e) ≤ n + 3 := by
  have key : ∀ a : Rat, 0 < a → ∀ f, f = e0 a n ∨ f = e0 a n + 1 → 0 ≤ nq a f ∧ 0 ≤ cl a f ∧ nq a f ≤ ((2 ^ (n + 1) : Nat) : Int) ∧ cl a f ≤ ((2 ^ (n + 1) : Nat) : Int) := by
    intro a ha f hf
    have h1 := (e0_bd ha n).2
    have h2 : a ≤ tw (f + ((n + 1 : Nat) : Int)) := by
      rcases hf with rfl | rfl
      · rw [show e0 a n + ((n + 1 : Nat) : Int) = e0 a n + n + 1 by omega]; exact Rat.le_of_lt h1
      · refine Rat.le_of_lt (rlt_trans h1 (tw_lt (by omega)))
    have h3 := (cl_bl ha f (n + 1)).2 h2
    have h4 := nq_pos ha f
    have h5 := cl_pos ha f
    have h6 := near_step a f
    exact ⟨h4, by omega, by split at h6 <;> omega, h3⟩
  have fin : ∀ x : Nat, x ≤ 2 ^ (n + 1) → bl x ≤ n + 3 := by
    intro x hx
    rw [bl_le_iff, show n + 3 = n + 1 + 1 + 1 by omega, Nat.pow_succ, Nat.pow_succ]
    have := Nat.two_pow_pos (n + 1)
    omega
  unfold bi
  rcases cmpR_cases q 0 with c | c | c
  · have e1 : nq q e = -(cl (-q) e) := by unfold cl; rw [Rat.neg_neg]; omega
    have k := key (-q) (by have := c.1; grind) e (by rw [e0_neg]; exact he)
    rw [e1, Int.natAbs_neg]
    exact fin _ (by omega)
  · exact absurd c.1 hq
  · have k := key q c.1 e he
    exact fin _ (by omega)

theorem al_ok : ratOk [49, 47, 51] = true := by decide +kernel
theorem al_rv : rv [49, 47, 51] = mkRat 1 3 := by decide +kernel
theorem al_dn : rndR (mkRat 1 3) 2 false = mkRat 1 4 := by decide +kernel
theorem al_up : rndR (mkRat 1 3) 2 true = mkRat 3 8 := by decide +kernel
theorem al_t1 : rtx (mkRat 1 4) = [49, 47, 52] := alive_txt
theorem al_t2 : rtx (mkRat 3 8) = [51, 47, 56] := by
  unfold rtx
  rw [if_neg (by decide +kernel), show (mkRat 3 8).num = 3 by decide +kernel, show (mkRat 3 8).den = 8 by decide +kernel]
  unfold itxt
  rw [if_neg (by decide), show (3 : Int).natAbs = 3 by decide, txt_small (by decide) (by decide), txt_small (by decide) (by decide)]
  rfl

end Go.Proofs.YtpifafenmgceoaaGreatDoor.X
