/- Quotients: plain facts. -/
import Derived.Test.YtccdhgjfcgfgoaaGreatZY
set_option linter.unusedVariables false
set_option linter.unusedSimpArgs false
namespace Go.Proofs.YtccdhgjfcgfgoaaGreat.X

/-- the denominator as package rat keeps it: 0 stands for 1 -/
def dn (q : Rat) : Nat := if q.den = 1 then 0 else q.den
theorem dn_one {q : Rat} (h : q.den = 1) : dn q = 0 := by unfold dn; rw [if_pos h]
theorem dn_ne {q : Rat} (h : q.den ≠ 1) : dn q = q.den := by unfold dn; rw [if_neg h]
theorem dn_zero_iff {q : Rat} : dn q = 0 ↔ q.den = 1 := by
  unfold dn
  have := q.den_nz
  split <;> omega
/-- how many binary digits the parts have -/
def br (q : Rat) : Nat := max (bi q.num) (bl q.den)
theorem bi_br (q : Rat) : bi q.num ≤ br q := Nat.le_max_left _ _
theorem bl_br (q : Rat) : bl q.den ≤ br q := Nat.le_max_right _ _
theorem bl_dn (q : Rat) : bl (dn q) ≤ br q := by
  unfold dn
  split
  · exact Nat.zero_le _
  · exact bl_br q

theorem ediv_sg {z : Int} {g : Nat} (hg : 0 < g) (h : g ∣ z.natAbs) : z / (g : Int) = sg (decide (z < 0)) (z.natAbs / g) := by
  obtain ⟨k, hk⟩ := h
  rw [hk, Nat.mul_div_cancel_left _ hg]
  have e := sg_self z
  rw [hk] at e
  conv => lhs; rw [← e]
  cases decide (z < 0)
  · rw [sg_false, sg_false, Int.natCast_mul]
    exact Int.mul_ediv_cancel_left _ (by omega)
  · rw [sg_true, sg_true, Int.natCast_mul, ← Int.mul_neg]
    exact Int.mul_ediv_cancel_left _ (by omega)

/-- a quotient by the least numbers -/
theorem least_num (z : Int) {y : Nat} (hy : y ≠ 0) : (mkRat z y).num = sg (decide (z < 0)) (z.natAbs / y.gcd z.natAbs) := by
  rw [Rat.num_mkRat, if_neg hy]
  exact ediv_sg (Nat.gcd_pos_of_pos_left _ (Nat.pos_of_ne_zero hy)) (Nat.gcd_dvd_right _ _)
theorem least_den (z : Int) {y : Nat} (hy : y ≠ 0) : (mkRat z y).den = y / y.gcd z.natAbs := by rw [Rat.den_mkRat, if_neg hy]
theorem least_one (z : Int) : (mkRat z 1).num = z ∧ (mkRat z 1).den = 1 := by
  rw [least_num z (by decide), least_den z (by decide), Nat.gcd_one_left, Nat.div_one, sg_self]
  exact ⟨rfl, rfl⟩
theorem br_mk (z : Int) (y : Nat) : br (mkRat z y) ≤ max (bi z) (max (bl y) 1) := by
  by_cases hy : y = 0
  · subst hy
    rw [Rat.mkRat_zero]
    show max (bi 0) (bl 1) ≤ _
    have : bi 0 = 0 := rfl
    have : bl 1 = 1 := rfl
    omega
  · have h1 : bi (mkRat z y).num ≤ bi z := by
      unfold bi
      rw [least_num z hy, sg_natAbs]
      exact bl_mono (Nat.div_le_self _ _)
    have h2 : bl (mkRat z y).den ≤ bl y := by
      rw [least_den z hy]
      exact bl_mono (Nat.div_le_self _ _)
    unfold br
    omega
theorem br_neg (q : Rat) : br (-q) = br q := by
  unfold br
  rw [Rat.neg_num, Rat.neg_den, bi_neg]
theorem br_add (p q : Rat) : br (p + q) ≤ br p + br q + 2 := by
  rw [Rat.add_def']
  have h1 := br_mk (p.num * q.den + q.num * p.den) (p.den * q.den)
  have h2 := bi_add (p.num * q.den) (q.num * p.den)
  have h3 := bi_mul p.num q.den
  have h4 := bi_mul q.num p.den
  have h5 := bl_mul p.den q.den
  have e1 : bi (q.den : Int) = bl q.den := by unfold bi; rw [Int.natAbs_natCast]
  have e2 : bi (p.den : Int) = bl p.den := by unfold bi; rw [Int.natAbs_natCast]
  have a1 := bi_br p; have a2 := bl_br p; have a3 := bi_br q; have a4 := bl_br q
  omega
theorem br_mul (p q : Rat) : br (p * q) ≤ br p + br q + 1 := by
  rw [Rat.mul_def']
  have h1 := br_mk (p.num * q.num) (p.den * q.den)
  have h3 := bi_mul p.num q.num
  have h5 := bl_mul p.den q.den
  have a1 := bi_br p; have a2 := bl_br p; have a3 := bi_br q; have a4 := bl_br q
  omega
theorem br_sub (p q : Rat) : br (p - q) ≤ br p + br q + 2 := by
  rw [Rat.sub_eq_add_neg]
  have := br_add p (-q)
  rwa [br_neg] at this

/-! ### texts -/
def rtx (q : Rat) : List Nat := if q.den = 1 then itxt q.num else itxt q.num ++ 47 :: txt q.den
def sl (l : List Nat) : Nat := l.idxOf 47
def ratOk (l : List Nat) : Bool :=
  if sl l = l.length then intOk l
  else (intOk (l.take (sl l)) && decOk (l.drop (sl l + 1))) && (decide (2 ≤ dv (l.drop (sl l + 1))) && decide ((dv (l.drop (sl l + 1))).gcd (iv (l.take (sl l))).natAbs = 1))
def rv (l : List Nat) : Rat := if sl l = l.length then mkRat (iv l) 1 else mkRat (iv (l.take (sl l))) (dv (l.drop (sl l + 1)))
theorem mk_coprime {z : Int} {y : Nat} (hy : y ≠ 0) (h : y.gcd z.natAbs = 1) : (mkRat z y).num = z ∧ (mkRat z y).den = y := by
  rw [least_num z hy, least_den z hy, h, Nat.div_one, Nat.div_one, sg_self]
  exact ⟨rfl, rfl⟩
theorem sl_le (l : List Nat) : sl l ≤ l.length := List.idxOf_le_length
theorem sl_get {l : List Nat} (h : sl l ≠ l.length) : l = l.take (sl l) ++ 47 :: l.drop (sl l + 1) := by
  have h1 : sl l < l.length := by have := sl_le l; omega
  have h2 : l[sl l] = 47 := by unfold sl; exact List.getElem_idxOf h1
  conv => lhs; rw [← List.take_append_drop (sl l) l, List.drop_eq_getElem_cons h1, h2]
theorem ratOk_parts {l : List Nat} (h0 : sl l ≠ l.length) (h : ratOk l = true) : intOk (l.take (sl l)) = true ∧ decOk (l.drop (sl l + 1)) = true ∧ 2 ≤ dv (l.drop (sl l + 1)) ∧ (dv (l.drop (sl l + 1))).gcd (iv (l.take (sl l))).natAbs = 1 := by
  unfold ratOk at h
  rw [if_neg h0, Bool.and_eq_true, Bool.and_eq_true, Bool.and_eq_true, decide_eq_true_eq, decide_eq_true_eq] at h
  exact ⟨h.1.1, h.1.2, h.2.1, h.2.2⟩
theorem rtx_rv {l : List Nat} (h : ratOk l = true) : rtx (rv l) = l := by
  by_cases h0 : sl l = l.length
  · unfold ratOk at h
    rw [if_pos h0] at h
    unfold rv rtx
    obtain ⟨e1, e2⟩ := least_one (iv l)
    rw [if_pos h0, if_pos e2, e1, itxt_iv h]
  · obtain ⟨k1, k2, k3, k4⟩ := ratOk_parts h0 h
    unfold rv rtx
    obtain ⟨e1, e2⟩ := mk_coprime (by omega) k4
    rw [if_neg h0, e2, if_neg (by omega), e1, itxt_iv k1, txt_dv k2]
    exact (sl_get h0).symm

/-! ### powers, quotients, floors -/
theorem bi_cast' (n : Nat) : bi (n : Int) = bl n := by unfold bi; rw [Int.natAbs_natCast]
theorem divI_mk (z w : Int) : Rat.divInt z w = mkRat (if w < 0 then -z else z) w.natAbs := by
  by_cases h : w < 0
  · rw [if_pos h]
    have e : w = -((w.natAbs : Nat) : Int) := by omega
    conv => lhs; rw [e, Rat.divInt_neg', Rat.divInt_ofNat]
  · rw [if_neg h]
    have e : w = ((w.natAbs : Nat) : Int) := by omega
    conv => lhs; rw [e, Rat.divInt_ofNat]
theorem inv_mk (q : Rat) : q⁻¹ = mkRat (sg (decide (q.num < 0)) q.den) q.num.natAbs := by
  conv => lhs; rw [← Rat.num_divInt_den q, Rat.inv_divInt, divI_mk]
  congr 1
  by_cases h1 : q.num < 0
  · rw [if_pos h1, decide_eq_true h1, sg_true]
  · rw [if_neg h1, decide_eq_false h1, sg_false]
theorem div_divI (p q : Rat) : p / q = Rat.divInt (p.num * q.den) (p.den * q.num) := by
  conv => lhs; rw [Rat.div_def, ← Rat.num_divInt_den q, Rat.inv_divInt, ← Rat.num_divInt_den p, Rat.divInt_mul_divInt]
theorem br_divI (z w : Int) : br (Rat.divInt z w) ≤ max (bi z) (max (bi w) 1) := by
  by_cases hw : w = 0
  · subst hw
    rw [Rat.divInt_zero]
    show max (bi 0) (bl 1) ≤ _
    have : bi 0 = 0 := rfl
    have : bl 1 = 1 := rfl
    omega
  · rw [divI_mk]
    have := br_mk (if w < 0 then -z else z) w.natAbs
    have e : bi (if w < 0 then -z else z) = bi z := by
      split
      · exact bi_neg z
      · rfl
    have e2 : bi w = bl w.natAbs := rfl
    omega
theorem br_div (p q : Rat) : br (p / q) ≤ br p + br q + 1 := by
  rw [div_divI]
  have h1 := br_divI (p.num * q.den) (p.den * q.num)
  have h3 := bi_mul p.num q.den
  have h4 := bi_mul p.den q.num
  rw [bi_cast'] at h3 h4
  have a1 := bi_br p; have a2 := bl_br p; have a3 := bi_br q; have a4 := bl_br q
  omega
theorem num_eq_zero (q : Rat) : q.num = 0 ↔ q = 0 := Rat.num_eq_zero
end Go.Proofs.YtccdhgjfcgfgoaaGreat.X
set_option linter.unusedVariables false
set_option linter.unusedSimpArgs false
namespace Go.Proofs.YtccdhgjfcgfgoaaGreat.X

theorem rv_br {l : List Nat} (h : ratOk l = true) : br (rv l) ≤ 4 * l.length + 1 := by
  by_cases h0 : sl l = l.length
  · unfold ratOk at h
    rw [if_pos h0] at h
    unfold rv
    rw [if_pos h0]
    have h1 := br_mk (iv l) 1
    have h2 := bi_iv h
    have h3 : bl 1 = 1 := rfl
    omega
  · obtain ⟨k1, k2, k3, k4⟩ := ratOk_parts h0 h
    unfold rv
    rw [if_neg h0]
    have h1 := br_mk (iv (l.take (sl l))) (dv (l.drop (sl l + 1)))
    have h2 := bi_iv k1
    have h3 : bl (dv (l.drop (sl l + 1))) ≤ 4 * (l.drop (sl l + 1)).length := by
      simp only [decOk, Bool.and_eq_true, List.all_eq_true, decide_eq_true_eq] at k2
      exact bl_dv fun d hd => by have := k2.2.2 d hd; simp [isDig] at this; omega
    rw [List.length_take] at h2
    rw [List.length_drop] at h3
    omega
theorem sl_cons (b : Nat) (l : List Nat) : sl (b :: l) = if b = 47 then 0 else sl l + 1 := by
  unfold sl
  rw [List.idxOf_cons]
  by_cases h : b = 47
  · subst h; rfl
  · rw [if_neg h, beq_false_of_ne h]; rfl
theorem sl_at : ∀ (l : List Nat) (i : Nat), i ≤ sl l → i < l.length → (l.getD i 0 = 47 ↔ sl l = i)
  | [], i, _, h => absurd h (Nat.not_lt_zero i)
  | b :: l, 0, _, _ => by
    rw [sl_cons]
    by_cases h : b = 47
    · rw [if_pos h]; simp [h]
    · rw [if_neg h]; simp [h]
  | b :: l, i + 1, h1, h2 => by
    rw [sl_cons] at h1 ⊢
    by_cases h : b = 47
    · rw [if_pos h] at h1; omega
    · rw [if_neg h] at h1 ⊢
      rw [List.length_cons] at h2
      have := sl_at l i (by omega) (by omega)
      rw [List.getD_cons_succ, this]
      omega

/-! ### the first call -/
end Go.Proofs.YtccdhgjfcgfgoaaGreat.X
