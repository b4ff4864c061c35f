/- Numbers as limbs: plain facts. -/
import Derived.IntWalk
namespace Go.Proofs.YtlhhdlhnpgiamaaDoor.X

/-- how many binary digits -/
def bl (x : Nat) : Nat := if x = 0 then 0 else Nat.log2 x + 1

theorem bl_zero : bl 0 = 0 := rfl
theorem lt_two_pow_bl (x : Nat) : x < 2 ^ bl x := by
  unfold bl
  split
  · subst_vars; simp
  · exact Nat.lt_log2_self
theorem two_pow_le_bl {x : Nat} (h : x ≠ 0) : 2 ^ (bl x - 1) ≤ x := by
  unfold bl
  rw [if_neg h]
  simpa using Nat.log2_self_le h
theorem bl_pos {x : Nat} (h : x ≠ 0) : 0 < bl x := by unfold bl; rw [if_neg h]; omega
theorem bl_le_iff {x k : Nat} : bl x ≤ k ↔ x < 2 ^ k := by
  constructor
  · intro h
    exact Nat.lt_of_lt_of_le (lt_two_pow_bl x) (Nat.pow_le_pow_right (by decide) h)
  · intro h
    by_cases hx : x = 0
    · subst hx; simp [bl_zero]
    · have := two_pow_le_bl hx
      have h2 : 2 ^ (bl x - 1) < 2 ^ k := Nat.lt_of_le_of_lt this h
      have h3 := (Nat.pow_lt_pow_iff_right (by decide : 1 < 2)).1 h2
      omega
theorem lt_bl_iff {x k : Nat} : k < bl x ↔ 2 ^ k ≤ x := by
  have := @bl_le_iff x k
  omega
theorem bl_eq_zero {x : Nat} : bl x = 0 ↔ x = 0 := by
  constructor
  · intro h
    by_cases hx : x = 0
    · exact hx
    · have := bl_pos hx; omega
  · rintro rfl; rfl
theorem bl_mono {x y : Nat} (h : x ≤ y) : bl x ≤ bl y := bl_le_iff.2 (Nat.lt_of_le_of_lt h (lt_two_pow_bl y))
theorem bl_eq {x k : Nat} (h1 : 2 ^ k ≤ x) (h2 : x < 2 ^ (k + 1)) : bl x = k + 1 := by
  have := lt_bl_iff.2 h1
  have := bl_le_iff.2 h2
  omega
theorem bl_add (x y : Nat) : bl (x + y) ≤ max (bl x) (bl y) + 1 := by
  rw [bl_le_iff, Nat.pow_succ]
  have h1 : x < 2 ^ max (bl x) (bl y) := bl_le_iff.1 (by omega)
  have h2 : y < 2 ^ max (bl x) (bl y) := bl_le_iff.1 (by omega)
  omega
theorem bl_mul (x y : Nat) : bl (x * y) ≤ bl x + bl y := by
  rw [bl_le_iff, Nat.pow_add]
  exact Nat.mul_lt_mul'' (lt_two_pow_bl x) (lt_two_pow_bl y)
theorem bl_shift (x k : Nat) (h : x ≠ 0) : bl (x * 2 ^ k) = bl x + k := by
  have h1 := two_pow_le_bl h
  have h2 := lt_two_pow_bl x
  have h3 := bl_pos h
  have h4 := Nat.two_pow_pos k
  obtain ⟨m, hm⟩ : ∃ m, bl x = m + 1 := ⟨bl x - 1, by omega⟩
  rw [hm] at h1 h2 ⊢
  simp at h1
  rw [show m + 1 + k = (m + k) + 1 by omega]
  refine bl_eq ?_ ?_
  · rw [Nat.pow_add]; exact Nat.mul_le_mul_right _ h1
  · rw [show m + k + 1 = (m + 1) + k by omega, Nat.pow_add]; exact Nat.mul_lt_mul_of_pos_right h2 h4

def val : List Nat → Nat
  | [] => 0
  | x :: l => x + 4294967296 * val l
def Lim (l : List Nat) : Prop := ∀ x ∈ l, x < 4294967296
def Norm (l : List Nat) : Prop := Lim l ∧ (∀ h : l ≠ [], l.getLast h ≠ 0)

theorem Lim.nil : Lim [] := fun _ h => by cases h
theorem Lim.cons {x : Nat} {l : List Nat} (hx : x < 4294967296) (h : Lim l) : Lim (x :: l) := fun y hy => by
  rcases List.mem_cons.1 hy with rfl | hy
  · exact hx
  · exact h y hy
theorem Lim.head {x : Nat} {l : List Nat} (h : Lim (x :: l)) : x < 4294967296 := h x List.mem_cons_self
theorem Lim.tail {x : Nat} {l : List Nat} (h : Lim (x :: l)) : Lim l := fun y hy => h y (List.mem_cons_of_mem _ hy)
theorem Lim.append {a b : List Nat} (ha : Lim a) (hb : Lim b) : Lim (a ++ b) := fun y hy => (List.mem_append.1 hy).elim (ha y) (hb y)
theorem Lim.take {a : List Nat} (ha : Lim a) (n : Nat) : Lim (a.take n) := fun y hy => ha y (List.mem_of_mem_take hy)
theorem Lim.drop {a : List Nat} (ha : Lim a) (n : Nat) : Lim (a.drop n) := fun y hy => ha y (List.mem_of_mem_drop hy)
theorem Lim.set {a : List Nat} (ha : Lim a) {i x : Nat} (hx : x < 4294967296) : Lim (a.set i x) := fun y hy => by
  rcases List.mem_or_eq_of_mem_set hy with h | rfl
  · exact ha y h
  · exact hx
theorem Lim.getD {a : List Nat} (ha : Lim a) (i : Nat) : a.getD i 0 < 4294967296 := by
  rw [List.getD_eq_getElem?_getD]
  cases h : a[i]? with
  | none => decide
  | some x => exact ha x (List.mem_of_getElem? h)
theorem Lim.replicate (n : Nat) : Lim (List.replicate n 0) := fun y hy => by rw [List.eq_of_mem_replicate hy]; decide
theorem Norm.nil : Norm [] := ⟨.nil, fun h => absurd rfl h⟩

theorem val_append (a b : List Nat) : val (a ++ b) = val a + 4294967296 ^ a.length * val b := by
  induction a with
  | nil => simp [val]
  | cons x a ih =>
    simp only [List.cons_append, val, ih, List.length_cons, Nat.pow_succ, Nat.mul_add]
    rw [Nat.mul_comm (4294967296 ^ a.length) 4294967296, Nat.mul_assoc]
    omega
theorem val_lt {l : List Nat} (h : Lim l) : val l < 4294967296 ^ l.length := by
  induction l with
  | nil => simp [val]
  | cons x l ih =>
    have h1 := ih h.tail
    have h2 := h.head
    simp only [val, List.length_cons, Nat.pow_succ]
    have : 4294967296 * (val l + 1) ≤ 4294967296 ^ l.length * 4294967296 := by rw [Nat.mul_comm]; exact Nat.mul_le_mul_right _ h1
    omega
theorem val_replicate (n : Nat) : val (List.replicate n 0) = 0 := by
  induction n with
  | zero => rfl
  | succ n ih => simp [List.replicate_succ, val, ih]
theorem val_take_drop (l : List Nat) (n : Nat) (h : n ≤ l.length) : val l = val (l.take n) + 4294967296 ^ n * val (l.drop n) := by
  have := val_append (l.take n) (l.drop n)
  rw [List.take_append_drop, List.length_take, Nat.min_eq_left h] at this
  exact this
theorem take_succ' (l : List Nat) (i : Nat) (h : i < l.length) : l.take (i + 1) = l.take i ++ [l.getD i 0] := by
  rw [List.take_succ_eq_append_getElem h]; simp [h]
theorem drop_eq (l : List Nat) (i : Nat) (h : i < l.length) : l.drop i = l.getD i 0 :: l.drop (i + 1) := by
  rw [List.drop_eq_getElem_cons h]; simp [h]
theorem val_take_succ (l : List Nat) (i : Nat) (h : i < l.length) : val (l.take (i + 1)) = val (l.take i) + 4294967296 ^ i * l.getD i 0 := by
  rw [take_succ' l i h, val_append, List.length_take, Nat.min_eq_left (by omega)]
  simp [val]
theorem val_pos {l : List Nat} (h : Norm l) (hne : l ≠ []) : 4294967296 ^ (l.length - 1) ≤ val l := by
  obtain ⟨h1, h2⟩ := h
  have h3 := h2 hne
  have e := List.dropLast_concat_getLast hne
  have : val l = val l.dropLast + 4294967296 ^ l.dropLast.length * (l.getLast hne) := by
    conv => lhs; rw [← e]
    rw [val_append]; simp [val]
  rw [this, List.length_dropLast]
  have : 1 ≤ l.getLast hne := by omega
  calc 4294967296 ^ (l.length - 1) = 4294967296 ^ (l.length - 1) * 1 := by omega
    _ ≤ 4294967296 ^ (l.length - 1) * l.getLast hne := Nat.mul_le_mul_left _ this
    _ ≤ _ := Nat.le_add_left _ _
theorem val_eq_zero {l : List Nat} (h : Norm l) : val l = 0 ↔ l = [] := by
  constructor
  · intro hv
    by_cases hne : l = []
    · exact hne
    · have := val_pos h hne
      have : 0 < 4294967296 ^ (l.length - 1) := Nat.pow_pos (by decide)
      omega
  · rintro rfl; rfl
theorem len_of_lt {l : List Nat} (h : Norm l) {k : Nat} (hv : val l < 4294967296 ^ k) : l.length ≤ k := by
  by_cases hne : l = []
  · subst hne; simp
  · have h1 := val_pos h hne
    have h2 : 4294967296 ^ (l.length - 1) < 4294967296 ^ k := Nat.lt_of_le_of_lt h1 hv
    have := (Nat.pow_lt_pow_iff_right (by decide : 1 < 4294967296)).1 h2
    omega
theorem pow32 (k : Nat) : (4294967296 : Nat) ^ k = 2 ^ (32 * k) := by
  rw [Nat.pow_mul]
theorem len_le_bl {l : List Nat} (h : Norm l) : 32 * l.length ≤ bl (val l) + 31 := by
  by_cases hne : l = []
  · subst hne; simp
  · have h1 := val_pos h hne
    rw [pow32] at h1
    have := lt_bl_iff.2 h1
    have : 0 < l.length := List.length_pos_iff.2 hne
    omega
theorem bl_le_len {l : List Nat} (h : Lim l) : bl (val l) ≤ 32 * l.length := by
  have := val_lt h
  rw [pow32] at this
  exact bl_le_iff.2 this
theorem Norm.uniq : ∀ {l l' : List Nat}, Norm l → Norm l' → val l = val l' → l = l'
  | [], l', h, h', hv => by
    have : val l' = 0 := by rw [← hv]; rfl
    exact ((val_eq_zero h').1 this).symm
  | x :: l, [], h, h', hv => by
    have := (val_eq_zero h).1 (by rw [hv]; rfl)
    cases this
  | x :: l, y :: l', h, h', hv => by
    simp only [val] at hv
    have h1 := h.1.head
    have h2 := h'.1.head
    have hxy : x = y := by omega
    have hll : val l = val l' := by omega
    have n1 : Norm l := ⟨h.1.tail, fun hne => by have := h.2 (by simp); rwa [List.getLast_cons hne] at this⟩
    have n2 : Norm l' := ⟨h'.1.tail, fun hne => by have := h'.2 (by simp); rwa [List.getLast_cons hne] at this⟩
    rw [hxy, Norm.uniq n1 n2 hll]
theorem norm_take_of {l : List Nat} {n : Nat} (h : Lim l) (hn : n ≤ l.length) (hz : n = 0 ∨ l.getD (n - 1) 0 ≠ 0) : Norm (l.take n) := by
  refine ⟨h.take n, fun hne => ?_⟩
  rw [List.getLast_eq_getElem]
  have hl : (l.take n).length = n := by simp; omega
  have hpos : 0 < n := by
    rcases Nat.eq_zero_or_pos n with h0 | h0
    · subst h0; simp at hne
    · exact h0
  rcases hz with h0 | hz
  · omega
  · have hlt : n - 1 < l.length := by omega
    have hz' : l[n - 1] ≠ 0 := by
      have e : l.getD (n - 1) 0 = l[n - 1] := by simp [List.getD, hlt]
      rwa [e] at hz
    simpa [hl] using hz'
theorem norm_snoc {l : List Nat} {x : Nat} (h : Lim l) (hx : x < 4294967296) (h0 : x ≠ 0) : Norm (l ++ [x]) :=
  ⟨h.append (.cons hx .nil), fun hne => by simpa using h0⟩

theorem set_eq_append (l : List Nat) (i x : Nat) (h : i < l.length) : l.set i x = l.take i ++ x :: l.drop (i + 1) := by
  rw [List.set_eq_take_append_cons_drop, if_pos h]

end Go.Proofs.YtlhhdlhnpgiamaaDoor.X
