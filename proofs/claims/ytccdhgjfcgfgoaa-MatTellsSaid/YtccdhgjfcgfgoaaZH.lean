/- Quotients: plain facts. -/
import Derived.Test.YtccdhgjfcgfgoaaZY
namespace Go.Proofs.Ytccdhgjfcgfgoaa.X

/-- the denominator as package rat keeps it: 0 stands for 1 -/
def dn (q : Rat) : Nat := if q.den = 1 then 0 else q.den
theorem dn_one {q : Rat} (h : q.den = 1) : dn q = 0 := by unfold dn; rw [if_pos h]
theorem dn_ne {q : Rat} (h : q.den ≠ 1) : dn q = q.den := by unfold dn; rw [if_neg h]
theorem dn_zero_iff {q : Rat} : dn q = 0 ↔ q.den = 1 := by
  unfold dn
  have := q.den_nz
  split <;> omega
/-- how many binary digits the parts have -/
def br (q : Rat) : Nat := max (bi q.num) (bl q.den)
theorem bi_br (q : Rat) : bi q.num ≤ br q := Nat.le_max_left _ _
theorem bl_br (q : Rat) : bl q.den ≤ br q := Nat.le_max_right _ _
theorem bl_dn (q : Rat) : bl (dn q) ≤ br q := by
  unfold dn
  split
  · exact Nat.zero_le _
  · exact bl_br q

theorem ediv_sg {z : Int} {g : Nat} (hg : 0 < g) (h : g ∣ z.natAbs) : z / (g : Int) = sg (decide (z < 0)) (z.natAbs / g) := by
  obtain ⟨k, hk⟩ := h
  rw [hk, Nat.mul_div_cancel_left _ hg]
  have e := sg_self z
  rw [hk] at e
  conv => lhs; rw [← e]
  cases decide (z < 0)
  · rw [sg_false, sg_false, Int.natCast_mul]
    exact Int.mul_ediv_cancel_left _ (by omega)
  · rw [sg_true, sg_true, Int.natCast_mul, ← Int.mul_neg]
    exact Int.mul_ediv_cancel_left _ (by omega)

/-- a quotient by the least numbers -/
theorem least_num (z : Int) {y : Nat} (hy : y ≠ 0) : (mkRat z y).num = sg (decide (z < 0)) (z.natAbs / y.gcd z.natAbs) := by
  rw [Rat.num_mkRat, if_neg hy]
  exact ediv_sg (Nat.gcd_pos_of_pos_left _ (Nat.pos_of_ne_zero hy)) (Nat.gcd_dvd_right _ _)
theorem least_den (z : Int) {y : Nat} (hy : y ≠ 0) : (mkRat z y).den = y / y.gcd z.natAbs := by rw [Rat.den_mkRat, if_neg hy]
theorem least_one (z : Int) : (mkRat z 1).num = z ∧ (mkRat z 1).den = 1 := by
  rw [least_num z (by decide), least_den z (by decide), Nat.gcd_one_left, Nat.div_one, sg_self]
  exact ⟨rfl, rfl⟩
theorem br_mk (z : Int) (y : Nat) : br (mkRat z y) ≤ max (bi z) (max (bl y) 1) := by
  by_cases hy : y = 0
  · subst hy
    rw [Rat.mkRat_zero]
    show max (bi 0) (bl 1) ≤ _
    have : bi 0 = 0 := rfl
    have : bl 1 = 1 := rfl
    omega
  · have h1 : bi (mkRat z y).num ≤ bi z := by
      unfold bi
      rw [least_num z hy, sg_natAbs]
      exact bl_mono (Nat.div_le_self _ _)
    have h2 : bl (mkRat z y).den ≤ bl y := by
      rw [least_den z hy]
      exact bl_mono (Nat.div_le_self _ _)
    unfold br
    omega
theorem br_neg (q : Rat) : br (-q) = br q := by
  unfold br
  rw [Rat.neg_num, Rat.neg_den, bi_neg]
theorem br_add (p q : Rat) : br (p + q) ≤ br p + br q + 2 := by
  rw [Rat.add_def']
  have h1 := br_mk (p.num * q.den + q.num * p.den) (p.den * q.den)
  have h2 := bi_add (p.num * q.den) (q.num * p.den)
  have h3 := bi_mul p.num q.den
  have h4 := bi_mul q.num p.den
  have h5 := bl_mul p.den q.den
  have e1 : bi (q.den : Int) = bl q.den := by unfold bi; rw [Int.natAbs_natCast]
  have e2 : bi (p.den : Int) = bl p.den := by unfold bi; rw [Int.natAbs_natCast]
  have a1 := bi_br p; have a2 := bl_br p; have a3 := bi_br q; have a4 := bl_br q
  omega
theorem br_mul (p q : Rat) : br (p * q) ≤ br p + br q + 1 := by
  rw [Rat.mul_def']
  have h1 := br_mk (p.num * q.num) (p.den * q.den)
  have h3 := bi_mul p.num q.num
  have h5 := bl_mul p.den q.den
  have a1 := bi_br p; have a2 := bl_br p; have a3 := bi_br q; have a4 := bl_br q
  omega
theorem br_sub (p q : Rat) : br (p - q) ≤ br p + br q + 2 := by
  rw [Rat.sub_eq_add_neg]
  have := br_add p (-q)
  rwa [br_neg] at this

/-- which one is greater -/
def cmpR (p q : Rat) : Int := if p < q then -1 else if q < p then 1 else 0
theorem cmpI_R (p q : Rat) : cmpI (p.num * q.den) (q.num * p.den) = cmpR p q := by
  unfold cmpI cmpR
  simp only [Rat.lt_iff]

/-! ### texts -/
def rtx (q : Rat) : List Nat := if q.den = 1 then itxt q.num else itxt q.num ++ 47 :: txt q.den
theorem rtx_lt (q : Rat) : ∀ d ∈ rtx q, d < 256 := by
  unfold rtx
  split
  · exact itxt_lt _
  · intro d hd
    rcases List.mem_append.1 hd with h | h
    · exact itxt_lt _ d h
    · rcases List.mem_cons.1 h with rfl | h
      · decide
      · exact txt_lt _ d h
def sl (l : List Nat) : Nat := l.idxOf 47
def ratOk (l : List Nat) : Bool :=
  if sl l = l.length then intOk l
  else (intOk (l.take (sl l)) && decOk (l.drop (sl l + 1))) && (decide (2 ≤ dv (l.drop (sl l + 1))) && decide ((dv (l.drop (sl l + 1))).gcd (iv (l.take (sl l))).natAbs = 1))
def rv (l : List Nat) : Rat := if sl l = l.length then mkRat (iv l) 1 else mkRat (iv (l.take (sl l))) (dv (l.drop (sl l + 1)))
theorem mk_coprime {z : Int} {y : Nat} (hy : y ≠ 0) (h : y.gcd z.natAbs = 1) : (mkRat z y).num = z ∧ (mkRat z y).den = y := by
  rw [least_num z hy, least_den z hy, h, Nat.div_one, Nat.div_one, sg_self]
  exact ⟨rfl, rfl⟩
theorem sl_le (l : List Nat) : sl l ≤ l.length := List.idxOf_le_length
theorem sl_get {l : List Nat} (h : sl l ≠ l.length) : l = l.take (sl l) ++ 47 :: l.drop (sl l + 1) := by
  have h1 : sl l < l.length := by have := sl_le l; omega
  have h2 : l[sl l] = 47 := by unfold sl; exact List.getElem_idxOf h1
  conv => lhs; rw [← List.take_append_drop (sl l) l, List.drop_eq_getElem_cons h1, h2]
theorem ratOk_parts {l : List Nat} (h0 : sl l ≠ l.length) (h : ratOk l = true) : intOk (l.take (sl l)) = true ∧ decOk (l.drop (sl l + 1)) = true ∧ 2 ≤ dv (l.drop (sl l + 1)) ∧ (dv (l.drop (sl l + 1))).gcd (iv (l.take (sl l))).natAbs = 1 := by
  unfold ratOk at h
  rw [if_neg h0, Bool.and_eq_true, Bool.and_eq_true, Bool.and_eq_true, decide_eq_true_eq, decide_eq_true_eq] at h
  exact ⟨h.1.1, h.1.2, h.2.1, h.2.2⟩
theorem rtx_rv {l : List Nat} (h : ratOk l = true) : rtx (rv l) = l := by
  by_cases h0 : sl l = l.length
  · unfold ratOk at h
    rw [if_pos h0] at h
    unfold rv rtx
    obtain ⟨e1, e2⟩ := least_one (iv l)
    rw [if_pos h0, if_pos e2, e1, itxt_iv h]
  · obtain ⟨k1, k2, k3, k4⟩ := ratOk_parts h0 h
    unfold rv rtx
    obtain ⟨e1, e2⟩ := mk_coprime (by omega) k4
    rw [if_neg h0, e2, if_neg (by omega), e1, itxt_iv k1, txt_dv k2]
    exact (sl_get h0).symm

/-! ### powers, quotients, floors -/
theorem bi_cast' (n : Nat) : bi (n : Int) = bl n := by unfold bi; rw [Int.natAbs_natCast]
theorem divI_mk (z w : Int) : Rat.divInt z w = mkRat (if w < 0 then -z else z) w.natAbs := by
  by_cases h : w < 0
  · rw [if_pos h]
    have e : w = -((w.natAbs : Nat) : Int) := by omega
    conv => lhs; rw [e, Rat.divInt_neg', Rat.divInt_ofNat]
  · rw [if_neg h]
    have e : w = ((w.natAbs : Nat) : Int) := by omega
    conv => lhs; rw [e, Rat.divInt_ofNat]
theorem inv_mk (q : Rat) : q⁻¹ = mkRat (sg (decide (q.num < 0)) q.den) q.num.natAbs := by
  conv => lhs; rw [← Rat.num_divInt_den q, Rat.inv_divInt, divI_mk]
  congr 1
  by_cases h1 : q.num < 0
  · rw [if_pos h1, decide_eq_true h1, sg_true]
  · rw [if_neg h1, decide_eq_false h1, sg_false]
theorem div_divI (p q : Rat) : p / q = Rat.divInt (p.num * q.den) (p.den * q.num) := by
  conv => lhs; rw [Rat.div_def, ← Rat.num_divInt_den q, Rat.inv_divInt, ← Rat.num_divInt_den p, Rat.divInt_mul_divInt]
theorem br_divI (z w : Int) : br (Rat.divInt z w) ≤ max (bi z) (max (bi w) 1) := by
  by_cases hw : w = 0
  · subst hw
    rw [Rat.divInt_zero]
    show max (bi 0) (bl 1) ≤ _
    have : bi 0 = 0 := rfl
    have : bl 1 = 1 := rfl
    omega
  · rw [divI_mk]
    have := br_mk (if w < 0 then -z else z) w.natAbs
    have e : bi (if w < 0 then -z else z) = bi z := by
      split
      · exact bi_neg z
      · rfl
    have e2 : bi w = bl w.natAbs := rfl
    omega
theorem br_div (p q : Rat) : br (p / q) ≤ br p + br q + 1 := by
  rw [div_divI]
  have h1 := br_divI (p.num * q.den) (p.den * q.num)
  have h3 := bi_mul p.num q.den
  have h4 := bi_mul p.den q.num
  rw [bi_cast'] at h3 h4
  have a1 := bi_br p; have a2 := bl_br p; have a3 := bi_br q; have a4 := bl_br q
  omega
theorem num_eq_zero (q : Rat) : q.num = 0 ↔ q = 0 := Rat.num_eq_zero
theorem floor_eq (q : Rat) : q.floor = q.num.fdiv q.den := by
  rw [Rat.floor_def, Int.fdiv_eq_ediv_of_nonneg _ (Int.natCast_nonneg _)]
theorem bi_powI (z : Int) (m : Nat) : bi (z ^ m) ≤ m * bi z + 1 := by
  induction m with
  | zero =>
    rw [Int.pow_zero]
    have : bi 1 = 1 := rfl
    omega
  | succ m ih =>
    rw [Int.pow_succ]
    have := bi_mul (z ^ m) z
    rw [Nat.add_mul]
    omega
theorem br_pow (q : Rat) (m : Nat) : br (q ^ m) ≤ m * br q + 1 := by
  have h1 := bi_powI q.num m
  have h2 := bi_powI (q.den : Int) m
  rw [bi_cast', ← Int.natCast_pow, bi_cast'] at h2
  have h3 := Nat.mul_le_mul_left m (bi_br q)
  have h4 := Nat.mul_le_mul_left m (bl_br q)
  unfold br at h3 h4 ⊢
  rw [Rat.num_pow, Rat.den_pow]
  omega
theorem dn_pow (q : Rat) (m : Nat) : dn (q ^ m) = if q.den = 1 ∨ m = 0 then 0 else q.den ^ m := by
  unfold dn
  rw [Rat.den_pow]
  split
  · rename_i h
    rcases Nat.pow_eq_one.1 h with h1 | h1
    · rw [if_pos (.inl h1)]
    · rw [if_pos (.inr h1)]
  · rename_i h
    rw [if_neg fun h1 => h (Nat.pow_eq_one.2 h1)]

end Go.Proofs.Ytccdhgjfcgfgoaa.X
namespace Go.Proofs.Ytccdhgjfcgfgoaa.X

theorem rv_br {l : List Nat} (h : ratOk l = true) : br (rv l) ≤ 4 * l.length + 1 := by
  by_cases h0 : sl l = l.length
  · unfold ratOk at h
    rw [if_pos h0] at h
    unfold rv
    rw [if_pos h0]
    have h1 := br_mk (iv l) 1
    have h2 := bi_iv h
    have h3 : bl 1 = 1 := rfl
    omega
  · obtain ⟨k1, k2, k3, k4⟩ := ratOk_parts h0 h
    unfold rv
    rw [if_neg h0]
    have h1 := br_mk (iv (l.take (sl l))) (dv (l.drop (sl l + 1)))
    have h2 := bi_iv k1
    have h3 : bl (dv (l.drop (sl l + 1))) ≤ 4 * (l.drop (sl l + 1)).length := by
      simp only [decOk, Bool.and_eq_true, List.all_eq_true, decide_eq_true_eq] at k2
      exact bl_dv fun d hd => by have := k2.2.2 d hd; simp [isDig] at this; omega
    rw [List.length_take] at h2
    rw [List.length_drop] at h3
    omega
theorem cmpR_self (p : Rat) : cmpR p p = 0 := by unfold cmpR; rw [if_neg (Rat.lt_irrefl), if_neg (Rat.lt_irrefl)]
theorem cmpR_eq {p q : Rat} (h : p = q) : cmpR p q = 0 := by rw [h, cmpR_self]
theorem cmpR_lt {p q : Rat} (h : p < q) : cmpR p q = -1 := by unfold cmpR; rw [if_pos h]
theorem cmpR_gt {p q : Rat} (h : q < p) : cmpR p q = 1 := by unfold cmpR; rw [if_neg (by grind), if_pos h]
theorem cmpR_cases (p q : Rat) : (p < q ∧ cmpR p q = -1) ∨ (p = q ∧ cmpR p q = 0) ∨ (q < p ∧ cmpR p q = 1) := by
  by_cases h : p < q
  · exact .inl ⟨h, cmpR_lt h⟩
  · by_cases h2 : q < p
    · exact .inr (.inr ⟨h2, cmpR_gt h2⟩)
    · have : p = q := by grind
      exact .inr (.inl ⟨this, cmpR_eq this⟩)
theorem cmpR_bd (p q : Rat) : -1 ≤ cmpR p q ∧ cmpR p q ≤ 1 := by
  rcases cmpR_cases p q with h | h | h <;> omega
theorem sgnI_R (p : Rat) : sgnI p.num = cmpR p 0 := by
  have := cmpI_R p 0
  rw [← this]
  unfold sgnI cmpI
  simp
theorem cmpR_add (p q r : Rat) : cmpR (p + r) (q + r) = cmpR p q := by
  rcases cmpR_cases p q with h | h | h
  · rw [h.2]; exact cmpR_lt (by grind)
  · rw [h.2]; exact cmpR_eq (by grind)
  · rw [h.2]; exact cmpR_gt (by grind)
theorem cmpR_mid1 (p q : Rat) : cmpR p ((p + q) / 2) = cmpR p q := by
  have e : (p + q) / 2 * 2 = p + q := Rat.div_mul_cancel (by decide)
  rcases cmpR_cases p q with h | h | h
  · rw [h.2]; exact cmpR_lt (by grind)
  · rw [h.2]; exact cmpR_eq (by grind)
  · rw [h.2]; exact cmpR_gt (by grind)
theorem cmpR_mid2 (p q : Rat) : cmpR ((p + q) / 2) q = cmpR p q := by
  have e : (p + q) / 2 * 2 = p + q := Rat.div_mul_cancel (by decide)
  rcases cmpR_cases p q with h | h | h
  · rw [h.2]; exact cmpR_lt (by grind)
  · rw [h.2]; exact cmpR_eq (by grind)
  · rw [h.2]; exact cmpR_gt (by grind)
theorem cmpR_mul (p q r : Rat) : cmpR (p * r) (q * r) = cmpR p q * cmpR r 0 := by
  rcases cmpR_cases r 0 with h | h | h
  · rw [h.2]
    rcases cmpR_cases p q with k | k | k
    · rw [k.2]; exact cmpR_gt (by have := Rat.mul_lt_mul_of_pos_right k.1 (show 0 < -r by grind); grind)
    · rw [k.2]; exact cmpR_eq (by grind)
    · rw [k.2]; exact cmpR_lt (by have := Rat.mul_lt_mul_of_pos_right k.1 (show 0 < -r by grind); grind)
  · rw [h.2, h.1]; simp only [Rat.mul_zero, Int.mul_zero]; exact cmpR_self 0
  · rw [h.2]
    rcases cmpR_cases p q with k | k | k
    · rw [k.2]; exact cmpR_lt (by have := Rat.mul_lt_mul_of_pos_right k.1 h.1; grind)
    · rw [k.2]; exact cmpR_eq (by grind)
    · rw [k.2]; exact cmpR_gt (by have := Rat.mul_lt_mul_of_pos_right k.1 h.1; grind)
theorem ring_R (p q r : Rat) : (p + q) * r = r * p + r * q := by grind
theorem sub_R (p q : Rat) : p - q = -(q - p) := by grind

/-- times the same, the same number -/
theorem times_same (p : Rat) {k : Int} (hk : k ≠ 0) : Rat.divInt (p.num * k) ((p.den : Int) * k) = p := by
  rw [Rat.divInt_mul_right hk, Rat.num_divInt_den]
theorem floor_lt (p : Rat) : 0 ≤ p - (p.floor : Rat) ∧ p - (p.floor : Rat) < 1 := by
  have h1 : (p.floor : Rat) ≤ p := Rat.floor_le p
  have h2 : p < ((p.floor + 1 : Int) : Rat) := Rat.lt_floor_add_one p
  rw [Rat.intCast_add] at h2
  constructor
  · grind
  · have : ((1 : Int) : Rat) = 1 := rfl
    grind
theorem divInt_one (z : Int) : Rat.divInt z 1 = (z : Rat) := (Rat.divInt_ofNat z 1).trans (Rat.mkRat_one z)

theorem sl_cons (b : Nat) (l : List Nat) : sl (b :: l) = if b = 47 then 0 else sl l + 1 := by
  unfold sl
  rw [List.idxOf_cons]
  by_cases h : b = 47
  · subst h; rfl
  · rw [if_neg h, beq_false_of_ne h]; rfl
theorem sl_at : ∀ (l : List Nat) (i : Nat), i ≤ sl l → i < l.length → (l.getD i 0 = 47 ↔ sl l = i)
  | [], i, _, h => absurd h (Nat.not_lt_zero i)
  | b :: l, 0, _, _ => by
    rw [sl_cons]
    by_cases h : b = 47
    · rw [if_pos h]; simp [h]
    · rw [if_neg h]; simp [h]
  | b :: l, i + 1, h1, h2 => by
    rw [sl_cons] at h1 ⊢
    by_cases h : b = 47
    · rw [if_pos h] at h1; omega
    · rw [if_neg h] at h1 ⊢
      rw [List.length_cons] at h2
      have := sl_at l i (by omega) (by omega)
      rw [List.getD_cons_succ, this]
      omega

/-! ### the first call -/
theorem alive_ok : ratOk [45, 51, 47, 52] = true := by decide +kernel
theorem alive_rv : rv [45, 51, 47, 52] = mkRat (-3) 4 := by
  have h1 : sl [45, 51, 47, 52] = 2 := by decide
  unfold rv
  rw [h1, if_neg (by decide)]
  rfl
theorem alive_sum : mkRat (-3) 4 + ((1 : Int) : Rat) = mkRat 1 4 := by
  obtain ⟨e1, e2⟩ := mk_coprime (z := -3) (y := 4) (by decide) (by decide +kernel)
  rw [Rat.add_def', e1, e2, Rat.num_intCast, Rat.den_intCast]
  rfl
theorem alive_txt : rtx (mkRat 1 4) = [49, 47, 52] := by
  obtain ⟨e1, e2⟩ := mk_coprime (z := 1) (y := 4) (by decide) (by decide +kernel)
  unfold rtx
  rw [e1, e2, if_neg (by decide), txt_small (by decide) (by decide)]
  unfold itxt
  rw [if_neg (by decide), show (1 : Int).natAbs = 1 from rfl, txt_small (by decide) (by decide)]
  rfl
theorem rtx_zero : ofB (rtx 0) = ⟨#[48]⟩ := rfl

end Go.Proofs.Ytccdhgjfcgfgoaa.X
