/- Digits: plain facts. -/
import Derived.Test.YtlhhdlhnpgiamaaDoorMD
namespace Go.Proofs.YtlhhdlhnpgiamaaDoor.X

/-- k digits to base B, the lowest first -/
def dg (B : Nat) : Nat → Nat → List Nat
  | 0, _ => []
  | k + 1, x => x % B :: dg B k (x / B)
theorem dg_length (B : Nat) : ∀ k x, (dg B k x).length = k
  | 0, _ => rfl
  | k + 1, x => by simp [dg, dg_length B k]
theorem dg_add (B : Nat) : ∀ a b x, dg B (a + b) x = dg B a x ++ dg B b (x / B ^ a)
  | 0, b, x => by simp [dg]
  | a + 1, b, x => by
    rw [show a + 1 + b = (a + b) + 1 by omega]
    simp only [dg, List.cons_append]
    rw [dg_add B a b, Nat.div_div_eq_div_mul, Nat.pow_succ, Nat.mul_comm B]
theorem dg_snoc (B k x : Nat) : dg B (k + 1) x = dg B k x ++ [x / B ^ k % B] := by rw [dg_add]; rfl
theorem dg_getD (B : Nat) : ∀ k x i, i < k → (dg B k x).getD i 0 = x / B ^ i % B
  | 0, _, _, h => by omega
  | k + 1, x, 0, _ => by simp [dg]
  | k + 1, x, i + 1, h => by
    simp only [dg, List.getD_cons_succ]
    rw [dg_getD B k _ i (by omega), Nat.div_div_eq_div_mul, Nat.pow_succ, Nat.mul_comm B]
theorem dg_lt (B : Nat) (hB : 0 < B) : ∀ k x, ∀ d ∈ dg B k x, d < B
  | 0, _, d, h => by simp [dg] at h
  | k + 1, x, d, h => by
    simp only [dg, List.mem_cons] at h
    rcases h with rfl | h
    · exact Nat.mod_lt _ hB
    · exact dg_lt B hB k _ d h
/-- the value of digits, the lowest first -/
def lv (B : Nat) : List Nat → Nat
  | [] => 0
  | d :: l => d + B * lv B l
theorem lv_dg (B : Nat) : ∀ k x, lv B (dg B k x) = x % B ^ k
  | 0, x => by simp [dg, lv, Nat.mod_one]
  | k + 1, x => by
    simp only [dg, lv]
    rw [lv_dg B k, Nat.pow_succ, Nat.mul_comm (B ^ k), Nat.mod_mul]
theorem lv_append (B : Nat) : ∀ a b, lv B (a ++ b) = lv B a + B ^ a.length * lv B b
  | [], b => by simp [lv]
  | d :: a, b => by
    simp only [List.cons_append, lv, lv_append B a b, List.length_cons, Nat.pow_succ, Nat.mul_add]
    rw [Nat.mul_comm (B ^ a.length) B, Nat.mul_assoc]; omega
theorem lv_lt (B : Nat) : ∀ l : List Nat, (∀ d ∈ l, d < B) → lv B l < B ^ l.length
  | [], _ => by simp [lv]
  | d :: l, h => by
    have h1 := lv_lt B l fun x hx => h x (List.mem_cons_of_mem _ hx)
    have h2 := h d List.mem_cons_self
    simp only [lv, List.length_cons, Nat.pow_succ]
    have : B * (lv B l + 1) ≤ B ^ l.length * B := by rw [Nat.mul_comm]; exact Nat.mul_le_mul_right _ h1
    rw [Nat.mul_add] at this; omega
theorem dg_lv (B : Nat) (hB : 0 < B) : ∀ l : List Nat, (∀ d ∈ l, d < B) → dg B l.length (lv B l) = l
  | [], _ => rfl
  | d :: l, h => by
    have h2 := h d List.mem_cons_self
    simp only [List.length_cons, lv, dg]
    rw [Nat.add_mul_mod_self_left, Nat.mod_eq_of_lt h2, Nat.add_mul_div_left _ _ hB, Nat.div_eq_of_lt h2, Nat.zero_add, dg_lv B hB l fun x hx => h x (List.mem_cons_of_mem _ hx)]
theorem lv_snoc (B : Nat) (l : List Nat) (d : Nat) : lv B (l ++ [d]) = lv B l + B ^ l.length * d := by rw [lv_append]; simp [lv]

/-! ### decimal text -/
/-- how many decimal digits -/
def nd (x : Nat) : Nat := if h : x = 0 then 0 else nd (x / 10) + 1
termination_by x
decreasing_by omega
theorem nd_zero : nd 0 = 0 := by unfold nd; rfl
theorem nd_pos {x : Nat} (h : x ≠ 0) : nd x = nd (x / 10) + 1 := by rw [nd, dif_neg h]
theorem lt_nd (x : Nat) : x < 10 ^ nd x := by
  induction x using Nat.strongRecOn with
  | _ x ih =>
    by_cases h : x = 0
    · subst h; rw [nd_zero]; decide
    · rw [nd_pos h, Nat.pow_succ]
      have := ih (x / 10) (by omega)
      omega
theorem nd_le {x : Nat} (h : x ≠ 0) : 10 ^ (nd x - 1) ≤ x := by
  induction x using Nat.strongRecOn with
  | _ x ih =>
    rw [nd_pos h, Nat.add_sub_cancel]
    by_cases h2 : x / 10 = 0
    · rw [h2, nd_zero]; omega
    · have h3 := ih (x / 10) (by omega) h2
      have h4 := nd_pos h2
      rw [h4, Nat.add_sub_cancel] at h3
      rw [h4, Nat.pow_succ]; omega
theorem nd_uniq {x k : Nat} (h1 : x < 10 ^ k) (h2 : k = 0 ∨ 10 ^ (k - 1) ≤ x) : nd x = k := by
  by_cases hx : x = 0
  · subst hx
    rcases h2 with h2 | h2
    · rw [h2, nd_zero]
    · have := Nat.pow_pos (n := k - 1) (show 0 < 10 by decide); omega
  · have a1 := lt_nd x
    have a2 := nd_le hx
    have e1 := nd_pos hx
    have hk : k ≠ 0 := by rintro rfl; rw [Nat.pow_zero] at h1; omega
    have h3 : 10 ^ (k - 1) ≤ x := h2.resolve_left hk
    have b1 := (Nat.pow_lt_pow_iff_right (by decide : 1 < 10)).1 (Nat.lt_of_le_of_lt h3 a1)
    have b2 := (Nat.pow_lt_pow_iff_right (by decide : 1 < 10)).1 (Nat.lt_of_le_of_lt a2 h1)
    omega
/-- decimal digits, the lowest first, none for 0 -/
def ds (k x : Nat) : List Nat := (dg 10 k x).map (48 + ·)
theorem ds_length (k x : Nat) : (ds k x).length = k := by simp [ds, dg_length]
theorem ds_add (a b x : Nat) : ds (a + b) x = ds a x ++ ds b (x / 10 ^ a) := by simp [ds, dg_add]
theorem ds_snoc (k x : Nat) : ds (k + 1) x = ds k x ++ [48 + x / 10 ^ k % 10] := by simp [ds, dg_snoc]
theorem ds_lt (k x : Nat) : ∀ d ∈ ds k x, d < 256 := by
  intro d hd
  simp only [ds, List.mem_map] at hd
  obtain ⟨y, hy, rfl⟩ := hd
  have := dg_lt 10 (by decide) k x y hy
  omega
/-- decimal text -/
def txt (x : Nat) : List Nat := if x = 0 then [48] else (ds (nd x) x).reverse
theorem txt_lt (x : Nat) : ∀ d ∈ txt x, d < 256 := by
  unfold txt
  split
  · intro d hd; simp at hd; omega
  · intro d hd; exact ds_lt _ _ d (by simpa using hd)
theorem ds_getD {k x i : Nat} (h : i < k) : (ds k x).getD i 0 = 48 + x / 10 ^ i % 10 := by
  have e := dg_getD 10 k x i h
  have hl : i < (dg 10 k x).length := by rw [dg_length]; exact h
  rw [List.getD, List.getElem?_eq_getElem hl] at e
  simp only [ds, List.getD, List.getElem?_map, List.getElem?_eq_getElem hl]
  simpa using e
/-- the top digit is not 0 -/
theorem ds_top {x : Nat} (h : x ≠ 0) : (ds (nd x) x).getD (nd x - 1) 0 ≠ 48 := by
  have e := nd_pos h
  rw [ds_getD (by omega)]
  have h1 := nd_le h
  have h2 := lt_nd x
  have h3 : 0 < x / 10 ^ (nd x - 1) := Nat.div_pos h1 (Nat.pow_pos (by decide))
  have h4 : x / 10 ^ (nd x - 1) < 10 := by
    rw [Nat.div_lt_iff_lt_mul (Nat.pow_pos (by decide)), Nat.mul_comm, ← Nat.pow_succ, show (nd x - 1).succ = nd x by omega]
    exact h2
  omega
theorem dv_rev : ∀ (l : List Nat), dv l.reverse = lv 10 (l.map (· - 48))
  | [] => rfl
  | d :: l => by
    rw [List.reverse_cons, dv_snoc, dv_rev l]
    simp only [List.map_cons, lv]
    omega
theorem dv_eq_lv (l : List Nat) : dv l = lv 10 (l.reverse.map (· - 48)) := by
  rw [← dv_rev, List.reverse_reverse]
theorem dv_ds {k x : Nat} (h : x < 10 ^ k) : dv (ds k x).reverse = x := by
  rw [dv_eq_lv, List.reverse_reverse]
  have : (ds k x).map (· - 48) = dg 10 k x := by
    simp only [ds, List.map_map]
    conv => rhs; rw [← List.map_id (dg 10 k x)]
    apply List.map_congr_left
    intro d _
    simp
  rw [this, lv_dg, Nat.mod_eq_of_lt h]
theorem dv_txt (x : Nat) : dv (txt x) = x := by
  unfold txt
  split
  · rename_i h; subst h; rfl
  · exact dv_ds (lt_nd x)
theorem digits_ds {l : List Nat} (h : ∀ d ∈ l, isDig d = true) : l = (ds l.length (dv l)).reverse := by
  have h1 : ∀ d ∈ l.reverse.map (· - 48), d < 10 := by
    intro d hd
    simp only [List.mem_map, List.mem_reverse] at hd
    obtain ⟨y, hy, rfl⟩ := hd
    have := h y hy
    simp [isDig] at this; omega
  have h2 := dg_lv 10 (by decide) _ h1
  rw [← dv_eq_lv, List.length_map, List.length_reverse] at h2
  unfold ds
  rw [h2, List.map_map]
  rw [show List.map ((fun x => 48 + x) ∘ fun x => x - 48) l.reverse = l.reverse from ?_]
  · rw [List.reverse_reverse]
  · conv => rhs; rw [← List.map_id l.reverse]
    apply List.map_congr_left
    intro d hd
    have := h d (by simpa using hd)
    simp [isDig] at this
    simp; omega
theorem txt_dv {l : List Nat} (h : decOk l = true) : txt (dv l) = l := by
  simp only [decOk, Bool.and_eq_true, Bool.or_eq_true, decide_eq_true_eq, List.all_eq_true, bne_iff_ne, Bool.not_eq_true', List.isEmpty_eq_false_iff] at h
  obtain ⟨⟨h1, h2⟩, h3, h4⟩ := h
  have e := digits_ds h4
  have hlen : 0 < l.length := List.length_pos_iff.2 h1
  have h6 : dv l < 10 ^ l.length := dv_lt fun d hd => by have := h4 d hd; simp [isDig] at this; omega
  have h7 : l.getD 0 0 = 48 + dv l / 10 ^ (l.length - 1) % 10 := by
    have h8 : l.getD 0 0 = (ds l.length (dv l)).reverse.getD 0 0 := by rw [← e]
    rw [h8, List.getD, List.getElem?_reverse (by rw [ds_length]; exact hlen), ds_length]
    exact ds_getD (k := l.length) (x := dv l) (i := l.length - 1 - 0) (by omega)
  by_cases hz : dv l = 0
  · have hl1 : l.length = 1 := by
      rcases h3 with h3 | h3
      · rw [h7, hz] at h3; simp at h3
      · omega
    rw [hz] at e ⊢
    rw [e, hl1]; rfl
  · have hnd : nd (dv l) = l.length := by
      refine nd_uniq h6 (.inr ?_)
      rcases h3 with h3 | h3
      · rw [h7] at h3
        have h5 : dv l / 10 ^ (l.length - 1) ≠ 0 := by intro e0; rw [e0] at h3; simp at h3
        have h9 : 0 < dv l / 10 ^ (l.length - 1) := Nat.pos_of_ne_zero h5
        exact (Nat.div_pos_iff.1 h9).2
      · rw [show l.length - 1 = 0 by omega, Nat.pow_zero]; omega
    unfold txt
    rw [if_neg hz, hnd, ← e]
theorem txt_inj {x y : Nat} (h : txt x = txt y) : x = y := by rw [← dv_txt x, ← dv_txt y, h]
/-- what is left when 0s behind are struck -/
theorem ds_strip {x k m : Nat} (h : x < 10 ^ k) (hm : m ≤ k) (hz : ∀ i, m ≤ i → i < k → (ds k x).getD i 0 = 48) (ht : m = 0 ∨ (ds k x).getD (m - 1) 0 ≠ 48) : m = nd x ∧ (ds k x).take m = ds (nd x) x := by
  have e1 : (ds k x).take m = ds m x := by
    conv => lhs; rw [show k = m + (k - m) by omega, ds_add]
    rw [List.take_left' (ds_length _ _)]
  have e2 : x < 10 ^ m := by
    have key : ∀ j, j ≤ k - m → x < 10 ^ (k - j) := by
      intro j
      induction j with
      | zero => intro _; simpa using h
      | succ j ih =>
        intro hj
        have h1 := ih (by omega)
        have h2 := hz (k - (j + 1)) (by omega) (by omega)
        rw [ds_getD (by omega)] at h2
        have h3 : x / 10 ^ (k - (j + 1)) < 10 := by
          rw [Nat.div_lt_iff_lt_mul (Nat.pow_pos (by decide)), Nat.mul_comm, ← Nat.pow_succ, show (k - (j + 1)).succ = k - j by omega]
          exact h1
        generalize hy : x / 10 ^ (k - (j + 1)) = y at *
        have h4 : y = 0 := by clear h h1 hz ht ih e1; omega
        rw [← hy] at h4
        exact (Nat.div_eq_zero_iff.1 h4).resolve_left (Nat.ne_of_gt (Nat.pow_pos (by decide)))
    have := key (k - m) (Nat.le_refl _)
    rwa [show k - (k - m) = m by omega] at this
  have e3 : nd x = m := by
    refine nd_uniq e2 ?_
    by_cases hm0 : m = 0
    · exact .inl hm0
    · right
      have h1 := ht.resolve_left hm0
      rw [ds_getD (by omega)] at h1
      have h5 : x / 10 ^ (m - 1) ≠ 0 := by intro e0; rw [e0] at h1; simp at h1
      exact (Nat.div_pos_iff.1 (Nat.pos_of_ne_zero h5)).2
  exact ⟨e3.symm, by rw [e1, e3]⟩

end Go.Proofs.YtlhhdlhnpgiamaaDoor.X
