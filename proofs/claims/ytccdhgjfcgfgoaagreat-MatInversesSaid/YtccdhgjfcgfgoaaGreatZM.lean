/- Determinants: plain facts. -/
import Derived.Test.YtccdhgjfcgfgoaaGreatZH
set_option linter.unusedVariables false
set_option linter.unusedSimpArgs false
namespace Go.Proofs.YtccdhgjfcgfgoaaGreat.X.Dt

/-- sums -/
def sm : Nat → (Nat → Rat) → Rat
  | 0, _ => 0
  | n + 1, f => sm n f + f n
theorem sm_congr {n : Nat} {f g : Nat → Rat} (h : ∀ k, k < n → f k = g k) : sm n f = sm n g := by
  induction n with
  | zero => rfl
  | succ n ih => rw [sm, sm, ih (fun k hk => h k (by omega)), h n (by omega)]
theorem sm_lin (n : Nat) (a b : Rat) (f g : Nat → Rat) : sm n (fun k => a * f k + b * g k) = a * sm n f + b * sm n g := by
  induction n with
  | zero => simp only [sm]; grind
  | succ n ih => simp only [sm]; rw [ih]; grind
theorem sm_mul (n : Nat) (a : Rat) (f : Nat → Rat) : sm n (fun k => a * f k) = a * sm n f := by
  induction n with
  | zero => simp only [sm]; grind
  | succ n ih => simp only [sm]; rw [ih]; grind
theorem sm_add (n : Nat) (f g : Nat → Rat) : sm n (fun k => f k + g k) = sm n f + sm n g := by
  induction n with
  | zero => simp only [sm]; grind
  | succ n ih => simp only [sm]; rw [ih]; grind
theorem sm_zero {n : Nat} {f : Nat → Rat} (h : ∀ k, k < n → f k = 0) : sm n f = 0 := by
  induction n with
  | zero => rfl
  | succ n ih => rw [sm, ih (fun k hk => h k (by omega)), h n (by omega)]; grind
theorem sm_one {n : Nat} {f : Nat → Rat} (j : Nat) (hj : j < n) (h : ∀ k, k < n → k ≠ j → f k = 0) : sm n f = f j := by
  induction n with
  | zero => omega
  | succ n ih =>
    rw [sm]
    by_cases e : j = n
    · subst e
      rw [sm_zero (fun k hk => h k (by omega) (by omega))]
      grind
    · rw [ih (by omega) (fun k hk => h k (by omega)), h n (by omega) (by omega)]
      grind
theorem sm_two {n : Nat} {f : Nat → Rat} (i j : Nat) (hij : i < j) (hj : j < n) (h : ∀ k, k < n → k ≠ i → k ≠ j → f k = 0) : sm n f = f i + f j := by
  induction n with
  | zero => omega
  | succ n ih =>
    rw [sm]
    by_cases e : j = n
    · subst e
      rw [sm_one i hij (fun k hk h1 => h k (by omega) h1 (by omega))]
    · rw [ih (by omega) (fun k hk => h k (by omega)), h n (by omega) (by omega) (by omega)]
      grind
abbrev Mx := Nat → Nat → Rat
/-- the same as far as it goes -/
def Eq2 (n : Nat) (M N : Mx) : Prop := ∀ i, i < n → ∀ j, j < n → M i j = N i j
theorem Eq2.symm {n : Nat} {M N : Mx} (h : Eq2 n M N) : Eq2 n N M := fun i hi j hj => (h i hi j hj).symm
theorem Eq2.trans {n : Nat} {M N O : Mx} (h : Eq2 n M N) (k : Eq2 n N O) : Eq2 n M O := fun i hi j hj => (h i hi j hj).trans (k i hi j hj)
def sgk (k : Nat) : Rat := if k % 2 = 0 then 1 else -1
theorem sgk_succ (k : Nat) : sgk (k + 1) = -(sgk k) := by
  unfold sgk
  by_cases h : k % 2 = 0
  · rw [if_pos h, if_neg (by omega)]
  · rw [if_neg h, if_pos (by omega)]; rfl
def minor (M : Mx) (k : Nat) : Mx := fun i j => M (i + 1) (if j < k then j else j + 1)
/-- by the first row -/
def det : Nat → Mx → Rat
  | 0, _ => 1
  | n + 1, M => sm (n + 1) fun k => sgk k * M 0 k * det n (minor M k)
theorem det_congr {n : Nat} {M N : Mx} (h : Eq2 n M N) : det n M = det n N := by
  induction n generalizing M N with
  | zero => rfl
  | succ n ih =>
    simp only [det]
    refine sm_congr fun k hk => ?_
    rw [h 0 (by omega) k hk, ih (M := minor M k) (N := minor N k)]
    intro i hi j hj
    unfold minor
    exact h (i + 1) (by omega) _ (by split <;> omega)
def setC (M : Mx) (j : Nat) (c : Nat → Rat) : Mx := fun i s => if s = j then c i else M i s
theorem minor_set_same (M : Mx) (j : Nat) (c : Nat → Rat) : minor (setC M j c) j = minor M j := by
  funext i s
  unfold minor setC
  rw [if_neg (by split <;> omega)]
theorem minor_set (M : Mx) (j k : Nat) (c : Nat → Rat) (h : k ≠ j) : minor (setC M j c) k = setC (minor M k) (if j < k then j else j - 1) (fun i => c (i + 1)) := by
  funext i s
  unfold minor setC
  by_cases h1 : j < k
  · rw [if_pos h1]
    by_cases h2 : s = j
    · rw [if_pos h2, if_pos (by rw [if_pos (by omega)]; exact h2)]
    · rw [if_neg h2, if_neg (by split <;> omega)]
  · rw [if_neg h1]
    by_cases h2 : s = j - 1
    · rw [if_pos h2, if_pos (by rw [if_neg (by omega)]; omega)]
    · rw [if_neg h2, if_neg (by split <;> omega)]
theorem det_lin (n : Nat) (M : Mx) (j : Nat) (hj : j < n) (a b : Rat) (u v : Nat → Rat) : det n (setC M j (fun i => a * u i + b * v i)) = a * det n (setC M j u) + b * det n (setC M j v) := by
  induction n generalizing M j u v with
  | zero => omega
  | succ n ih =>
    simp only [det]
    rw [← sm_lin]
    refine sm_congr fun k hk => ?_
    by_cases h : k = j
    · subst h
      rw [minor_set_same, minor_set_same, minor_set_same]
      simp only [setC, if_true]
      grind
    · rw [minor_set M j k _ h, minor_set M j k _ h, minor_set M j k _ h, ih (minor M k) (if j < k then j else j - 1) (by split <;> omega)]
      have e : ∀ c, setC M j c 0 k = M 0 k := fun c => by unfold setC; rw [if_neg h]
      rw [e, e, e]
      grind
theorem setC_self (M : Mx) (j : Nat) : setC M j (fun i => M i j) = M := by
  funext i s
  unfold setC
  split
  · rename_i h; rw [h]
  · rfl
theorem setC_comm (M : Mx) {j k : Nat} (h : j ≠ k) (c d : Nat → Rat) : setC (setC M j c) k d = setC (setC M k d) j c := by
  funext i s
  unfold setC
  by_cases h1 : s = k
  · rw [if_pos h1, if_neg (by omega), if_pos h1]
  · rw [if_neg h1]
    by_cases h2 : s = j
    · rw [if_pos h2, if_pos h2]
    · rw [if_neg h2, if_neg h2, if_neg h1]
theorem det_adj (n : Nat) (M : Mx) (j : Nat) (hj : j + 1 < n) (h : ∀ i, i < n → M i j = M i (j + 1)) : det n M = 0 := by
  induction n generalizing M j with
  | zero => omega
  | succ n ih =>
    simp only [det]
    rw [sm_two j (j + 1) (by omega) hj]
    · have e : det n (minor M (j + 1)) = det n (minor M j) := by
        refine det_congr fun i hi s hs => ?_
        unfold minor
        by_cases h1 : s < j
        · rw [if_pos (by omega), if_pos h1]
        · by_cases h2 : s = j
          · subst h2
            rw [if_pos (by omega), if_neg (by omega), h (i + 1) (by omega)]
          · rw [if_neg (by omega), if_neg h1]
      rw [e, sgk_succ, ← h 0 (by omega)]
      grind
    · intro k hk h1 h2
      have : det n (minor M k) = 0 := by
        refine ih (minor M k) (if j < k then j else j - 1) (by split <;> omega) fun i hi => ?_
        unfold minor
        by_cases h3 : j < k
        · rw [if_pos h3, if_pos h3, if_pos (by omega)]
          exact h (i + 1) (by omega)
        · rw [if_neg h3, if_neg (by omega), if_neg (by omega), show j - 1 + 1 = j by omega]
          exact h (i + 1) (by omega)
      rw [this, Rat.mul_zero]
theorem det_swap (n : Nat) (M : Mx) (j : Nat) (hj : j + 1 < n) (u v : Nat → Rat) : det n (setC (setC M j u) (j + 1) v) = -(det n (setC (setC M j v) (j + 1) u)) := by
  have z : ∀ w : Nat → Rat, det n (setC (setC M j w) (j + 1) w) = 0 := fun w => det_adj n _ j hj fun i _ => by
    unfold setC
    rw [if_neg (by omega), if_pos rfl, if_pos rfl]
  have h0 := z (fun i => 1 * u i + 1 * v i)
  have a : ∀ x : Nat → Rat, det n (setC (setC M j (fun i => 1 * u i + 1 * v i)) (j + 1) x) = det n (setC (setC M j u) (j + 1) x) + det n (setC (setC M j v) (j + 1) x) := fun x => by
    rw [setC_comm M (show j ≠ j + 1 by omega) (fun i => 1 * u i + 1 * v i) x, setC_comm M (show j ≠ j + 1 by omega) u x, setC_comm M (show j ≠ j + 1 by omega) v x, det_lin n _ j (by omega)]
    grind
  rw [det_lin n _ (j + 1) hj, a u, a v, z u, z v] at h0
  grind
theorem det_eq (n : Nat) : ∀ (d : Nat) (M : Mx) (p q : Nat), q = p + 1 + d → q < n → (∀ i, i < n → M i p = M i q) → det n M = 0 := by
  intro d
  induction d with
  | zero => intro M p q hq hn h; subst hq; exact det_adj n M p hn h
  | succ d ih =>
    intro M p q hq hn h
    have e1 : setC (setC M (q - 1) (fun i => M i (q - 1))) (q - 1 + 1) (fun i => M i q) = M := by
      rw [setC_self, show q - 1 + 1 = q by omega, setC_self]
    have h1 := det_swap n M (q - 1) (by omega) (fun i => M i (q - 1)) (fun i => M i q)
    rw [e1] at h1
    rw [h1, ih _ p (q - 1) (by omega) (by omega) fun i hi => ?_]
    · rfl
    · unfold setC
      rw [if_neg (by omega), if_neg (by omega), if_neg (by omega), if_pos rfl]
      exact h i hi
theorem det_same (n : Nat) (M : Mx) (p q : Nat) (hp : p < n) (hq : q < n) (hpq : p ≠ q) (h : ∀ i, i < n → M i p = M i q) : det n M = 0 := by
  by_cases k : p < q
  · exact det_eq n (q - (p + 1)) M p q (by omega) hq h
  · exact det_eq n (p - (q + 1)) M q p (by omega) hp fun i hi => (h i hi).symm

/-- rows -/
def addR (M : Mx) (i : Nat) (c : Rat) (k : Nat) : Mx := fun r s => if r = i then M i s + c * M k s else M r s
def sclR (M : Mx) (i : Nat) (c : Rat) : Mx := fun r s => if r = i then c * M i s else M r s
def swpR (M : Mx) (i k : Nat) : Mx := fun r s => if r = i then M k s else if r = k then M i s else M r s
def one : Mx := fun i j => if i = j then 1 else 0
def tr (M : Mx) : Mx := fun i j => M j i
structure RowF (n : Nat) (F : Mx → Rat) : Prop where
  congr : ∀ {M N : Mx}, Eq2 n M N → F M = F N
  scl : ∀ (M : Mx) (i : Nat) (c : Rat), i < n → F (sclR M i c) = c * F M
  add : ∀ (M : Mx) (i : Nat) (c : Rat) (k : Nat), i < n → k < n → i ≠ k → F (addR M i c k) = F M
def detT (n : Nat) (M : Mx) : Rat := det n (tr M)
theorem rowF_detT (n : Nat) : RowF n (detT n) := by
  refine ⟨fun h => det_congr fun i hi j hj => h j hj i hi, fun M i c hi => ?_, fun M i c k hi hk hik => ?_⟩
  · have e : tr (sclR M i c) = setC (tr M) i (fun r => c * M i r + 0 * M i r) := by
      funext r s
      unfold tr sclR setC
      split
      · grind
      · rfl
    have e2 : setC (tr M) i (fun r => M i r) = tr M := setC_self (tr M) i
    unfold detT
    rw [e, det_lin n _ i hi, e2]
    grind
  · have e : tr (addR M i c k) = setC (tr M) i (fun r => 1 * M i r + c * M k r) := by
      funext r s
      unfold tr addR setC
      split
      · grind
      · rfl
    have e2 : setC (tr M) i (fun r => M i r) = tr M := setC_self (tr M) i
    have e3 : det n (setC (tr M) i (fun r => M k r)) = 0 := by
      refine det_same n _ i k hi hk hik fun r _ => ?_
      unfold setC tr
      rw [if_pos rfl, if_neg (by omega)]
    unfold detT
    rw [e, det_lin n _ i hi, e2, e3]
    grind
theorem RowF.swp {n : Nat} {F : Mx → Rat} (h : RowF n F) (M : Mx) (i k : Nat) (hi : i < n) (hk : k < n) (hik : i ≠ k) : F (swpR M i k) = -(F M) := by
  have e : swpR M i k = sclR (addR (addR (addR M i 1 k) k (-1) i) i 1 k) k (-1) := by
    funext r s
    unfold swpR sclR addR
    by_cases h1 : r = i
    · subst h1
      have h4 : ¬ k = r := fun e => hik e.symm
      simp only [hik, h4, ↓reduceIte]
      grind
    · by_cases h2 : r = k
      · subst h2
        have h4 : ¬ i = r := fun e => h1 e.symm
        simp only [h1, h4, ↓reduceIte]
        grind
      · simp only [h1, h2, ↓reduceIte]
  rw [e, h.scl _ k _ hk, h.add _ i _ k hi hk hik, h.add _ k _ i hk hi (by omega), h.add _ i _ k hi hk hik]
  grind
/-- a row, so often, taken from others -/
def elim (M : Mx) (r q : Nat) (P : Nat → Bool) : Mx := fun i s => if P i = true ∧ i ≠ r then M i s - M i q / M r q * M r s else M i s
theorem RowF.elim {n : Nat} {F : Mx → Rat} (h : RowF n F) (M : Mx) (r q : Nat) (hr : r < n) (P : Nat → Bool) : F (elim M r q P) = F M := by
  have key : ∀ m, m ≤ n → F (Dt.elim M r q fun i => P i && decide (i < m)) = F M := by
    intro m
    induction m with
    | zero =>
      intro _
      congr 1
      funext i s
      unfold Dt.elim
      rw [if_neg (by simp)]
    | succ m ih =>
      intro hm
      rw [← ih (by omega)]
      by_cases hp : P m = true ∧ m ≠ r
      · rw [← h.add (Dt.elim M r q fun i => P i && decide (i < m)) m (-(M m q / M r q)) r (by omega) hr hp.2]
        congr 1
        funext i s
        dsimp only [Dt.elim, addR]
        by_cases h1 : i = m
        · subst h1
          rw [if_pos ⟨by simp [hp.1], hp.2⟩, if_pos rfl, if_neg (by simp), if_neg (by simp)]
          grind
        · rw [if_neg h1]
          have : (P i && decide (i < m + 1)) = (P i && decide (i < m)) := by
            congr 1
            exact decide_eq_decide.2 (by omega)
          simp only [this]
      · congr 1
        funext i s
        dsimp only [Dt.elim]
        by_cases h1 : i = m
        · subst h1
          rw [if_neg (fun k => hp ⟨by simpa using k.1, k.2⟩), if_neg (by simp)]
        · have : (P i && decide (i < m + 1)) = (P i && decide (i < m)) := by
            congr 1
            exact decide_eq_decide.2 (by omega)
          simp only [this]
  rw [← key n (Nat.le_refl _)]
  refine h.congr fun i hi j hj => ?_
  unfold Dt.elim
  simp [hi]
theorem elim_zero {M : Mx} {r q : Nat} (hp : M r q ≠ 0) {P : Nat → Bool} {i : Nat} (h : P i = true ∧ i ≠ r) : elim M r q P i q = 0 := by
  unfold elim
  rw [if_pos h, Rat.div_mul_cancel hp]
  grind
theorem RowF.zero_row {n : Nat} {F : Mx → Rat} (h : RowF n F) (M : Mx) (r : Nat) (hr : r < n) (hz : ∀ j, j < n → M r j = 0) : F M = 0 := by
  have e : Eq2 n M (sclR M r 0) := by
    intro i hi j hj
    unfold sclR
    split
    · rename_i e; rw [e, hz j hj]; grind
    · rfl
  rw [h.congr e, h.scl _ r _ hr]
  grind
/-- more columns than rows of noughts -/
theorem RowF.rank {n : Nat} {F : Mx → Rat} (h : RowF n F) : ∀ (d : Nat) (M : Mx) (r c : Nat), c + d = n → r < c → (∀ i, r ≤ i → i < n → ∀ j, j < c → M i j = 0) → F M = 0 := by
  intro d
  induction d with
  | zero =>
    intro M r c hc hr hz
    exact h.zero_row M r (by omega) fun j hj => hz r (Nat.le_refl _) (by omega) j (by omega)
  | succ d ih =>
    intro M r c hc hr hz
    by_cases hp : ∃ i, r ≤ i ∧ i < n ∧ M i c ≠ 0
    · obtain ⟨i, hi1, hi2, hi3⟩ := hp
      have step : ∀ N : Mx, (∀ i, r ≤ i → i < n → ∀ j, j < c → N i j = 0) → N r c ≠ 0 → F N = 0 := by
        intro N hN hN2
        rw [← h.elim N r c (by omega) (fun i => decide (r < i))]
        refine ih _ (r + 1) (c + 1) (by omega) (by omega) fun i h1 h2 j h3 => ?_
        by_cases h4 : j = c
        · subst h4
          exact elim_zero hN2 ⟨by simp; omega, by omega⟩
        · unfold Dt.elim
          rw [hN i (by omega) h2 j (by omega), hN r (Nat.le_refl _) (by omega) j (by omega)]
          split <;> grind
      by_cases e : i = r
      · subst e
        exact step M hz hi3
      · have h1 := step (swpR M i r) (fun k h2 h3 j h4 => by
          unfold swpR
          split
          · exact hz r (Nat.le_refl _) (by omega) j h4
          · split
            · exact hz i hi1 hi2 j h4
            · exact hz k h2 h3 j h4) (by unfold swpR; rw [if_neg (by omega), if_pos rfl]; exact hi3)
        rw [h.swp M i r hi2 (by omega) e] at h1
        grind
    · refine ih M r (c + 1) (by omega) (by omega) fun i h1 h2 j h3 => ?_
      by_cases h4 : j = c
      · subst h4
        exact Classical.not_not.1 fun hne => hp ⟨i, h1, h2, hne⟩
      · exact hz i h1 h2 j (by omega)
theorem det_tri (n : Nat) (M : Mx) (h : ∀ i j, i < n → j < n → i < j → M i j = 0) : det (n) M = (List.range n).foldl (fun a k => a * M k k) 1 := by
  induction n generalizing M with
  | zero => rfl
  | succ n ih =>
    simp only [det]
    rw [sm_one 0 (by omega) fun k hk h0 => by rw [h 0 k (by omega) hk (by omega)]; grind]
    rw [ih (minor M 0) fun i j hi hj hij => by unfold minor; rw [if_neg (by omega)]; exact h (i + 1) (j + 1) (by omega) (by omega) (by omega)]
    rw [List.range_succ_eq_map, List.foldl_cons, List.foldl_map]
    have gen : ∀ (l : List Nat) (a b : Rat), a * l.foldl (fun x k => x * M (k + 1) (k + 1)) b = l.foldl (fun x k => x * M (k + 1) (k + 1)) (a * b) := by
      intro l
      induction l with
      | nil => intro a b; rfl
      | cons y l ihl => intro a b; simp only [List.foldl_cons]; rw [ihl, Rat.mul_assoc]
    have e : (fun (a : Rat) k => a * minor M 0 k k) = fun a k => a * M (k + 1) (k + 1) := by
      funext a k
      unfold minor
      rw [if_neg (by omega)]
    rw [e, gen]
    congr 1
    unfold sgk
    simp only [Nat.zero_mod, if_true]
    grind
theorem fold_ones (l : List Nat) (f : Nat → Rat) (h : ∀ k ∈ l, f k = 1) (a : Rat) : l.foldl (fun a k => a * f k) a = a := by
  induction l generalizing a with
  | nil => rfl
  | cons x l ih =>
    rw [List.foldl_cons, h x (by simp), Rat.mul_one]
    exact ih (fun k hk => h k (List.mem_cons_of_mem _ hk)) a
theorem det_one (n : Nat) : det n one = 1 := by
  rw [det_tri n one fun i j _ _ hij => by unfold one; rw [if_neg (by omega)]]
  exact fold_ones _ _ (fun k _ => by unfold one; rw [if_pos rfl]) 1
theorem tr_one : tr one = one := by
  funext i j
  unfold tr one
  by_cases h : i = j
  · rw [if_pos h, if_pos h.symm]
  · rw [if_neg h, if_neg (fun e => h e.symm)]
theorem detT_one (n : Nat) : detT n one = 1 := by unfold detT; rw [tr_one, det_one]
/-- what is so in the rows, is the determinant but for a factor -/
theorem RowF.uniq {n : Nat} {F : Mx → Rat} (h : RowF n F) (M : Mx) : F M = F one * detT n M := by
  have g := rowF_detT n
  have key : ∀ (d : Nat) (M : Mx) (c : Nat), c + d = n → (∀ i, i < n → ∀ j, j < c → M i j = one i j) → F M = F one * detT n M := by
    intro d
    induction d with
    | zero =>
      intro M c hc hM
      have e : Eq2 n M one := fun i hi j hj => hM i hi j (by omega)
      rw [h.congr e, g.congr e, detT_one, Rat.mul_one]
    | succ d ih =>
      intro M c hc hM
      by_cases hp : ∃ i, c ≤ i ∧ i < n ∧ M i c ≠ 0
      · obtain ⟨i, hi1, hi2, hi3⟩ := hp
        have step : ∀ N : Mx, (∀ i, i < n → ∀ j, j < c → N i j = one i j) → N c c ≠ 0 → F N = F one * detT n N := by
          intro N hN hN2
          have hinv : (N c c)⁻¹ * N c c = 1 := Rat.inv_mul_cancel _ hN2
          have h1 := ih (sclR (Dt.elim N c c (fun _ => true)) c (N c c)⁻¹) (c + 1) (by omega) (by
            intro i hi j hj
            unfold sclR
            by_cases h4 : j = c
            · subst h4
              by_cases h5 : i = j
              · subst h5
                rw [if_pos rfl]
                unfold Dt.elim one
                rw [if_neg (by simp), if_pos rfl, hinv]
              · rw [if_neg h5, elim_zero hN2 ⟨rfl, h5⟩]
                unfold one
                rw [if_neg h5]
            · have hc0 : N c j = 0 := by rw [hN c (by omega) j (by omega)]; unfold one; rw [if_neg (by omega)]
              by_cases h5 : i = c
              · subst h5
                rw [if_pos rfl]
                unfold Dt.elim
                rw [if_neg (by simp), hc0, Rat.mul_zero]
                unfold one
                rw [if_neg (by omega)]
              · rw [if_neg h5]
                unfold Dt.elim
                rw [hc0, if_pos ⟨rfl, h5⟩, Rat.mul_zero, hN i hi j (by omega)]
                grind)
          rw [h.scl _ c _ (by omega), g.scl _ c _ (by omega), h.elim N c c (by omega), g.elim N c c (by omega)] at h1
          have h2 : N c c * ((N c c)⁻¹ * F N) = N c c * (F one * ((N c c)⁻¹ * detT n N)) := by rw [h1]
          grind
        by_cases e : i = c
        · subst e
          exact step M hM hi3
        · have h1 := step (swpR M i c) (fun k h2 j h4 => by
            have z1 : M i j = 0 := by rw [hM i hi2 j h4]; unfold one; rw [if_neg (by omega)]
            have z2 : M c j = 0 := by rw [hM c (by omega) j h4]; unfold one; rw [if_neg (by omega)]
            unfold swpR
            split
            · rename_i e1; rw [z2]; unfold one; rw [if_neg (by omega)]
            · split
              · rename_i e1; rw [z1]; unfold one; rw [if_neg (by omega)]
              · exact hM k h2 j h4) (by unfold swpR; rw [if_neg (by omega), if_pos rfl]; exact hi3)
          rw [h.swp M i c hi2 (by omega) e, g.swp M i c hi2 (by omega) e] at h1
          grind
      · have hz : ∀ i, c ≤ i → i < n → ∀ j, j < c + 1 → M i j = 0 := by
          intro i h1 h2 j h3
          by_cases h4 : j = c
          · subst h4
            exact Classical.not_not.1 fun hne => hp ⟨i, h1, h2, hne⟩
          · rw [hM i h2 j (by omega)]
            unfold one
            rw [if_neg (by omega)]
        rw [h.rank d M c (c + 1) (by omega) (by omega) hz, g.rank d M c (c + 1) (by omega) (by omega) hz, Rat.mul_zero]
  exact key n M 0 (by omega) fun i _ j hj => by omega

/-- products -/
def mul (n : Nat) (A B : Mx) : Mx := fun i s => sm n fun j => A i j * B j s
theorem mul_addR (n : Nat) (A B : Mx) (i : Nat) (c : Rat) (k : Nat) : mul n (addR A i c k) B = addR (mul n A B) i c k := by
  funext r s
  unfold mul addR
  split
  · rw [← sm_mul, ← sm_add]
    refine sm_congr fun j _ => by grind
  · rfl
theorem mul_sclR (n : Nat) (A B : Mx) (i : Nat) (c : Rat) : mul n (sclR A i c) B = sclR (mul n A B) i c := by
  funext r s
  unfold mul sclR
  split
  · rw [← sm_mul]
    refine sm_congr fun j _ => by grind
  · rfl
theorem mul_congr {n : Nat} {A A' B B' : Mx} (h : Eq2 n A A') (k : Eq2 n B B') : Eq2 n (mul n A B) (mul n A' B') := by
  intro i hi s hs
  unfold mul
  exact sm_congr fun j hj => by rw [h i hi j hj, k j hj s hs]
theorem one_mul' (n : Nat) (B : Mx) : Eq2 n (mul n one B) B := by
  intro i hi s hs
  unfold mul
  rw [sm_one i hi fun k _ hk => by unfold one; rw [if_neg (fun e => hk e.symm), Rat.zero_mul]]
  unfold one
  rw [if_pos rfl, Rat.one_mul]
theorem tr_mul (n : Nat) (A B : Mx) : tr (mul n A B) = mul n (tr B) (tr A) := by
  funext i s
  unfold tr mul
  exact sm_congr fun j _ => Rat.mul_comm _ _
theorem detT_mul (n : Nat) (A B : Mx) : detT n (mul n A B) = detT n A * detT n B := by
  have g := rowF_detT n
  have h : RowF n fun A => detT n (mul n A B) := by
    refine ⟨fun h => g.congr (mul_congr h fun _ _ _ _ => rfl), fun M i c hi => ?_, fun M i c k hi hk hik => ?_⟩
    · show detT n (mul n (sclR M i c) B) = _
      rw [mul_sclR]; exact g.scl _ i c hi
    · show detT n (mul n (addR M i c k) B) = _
      rw [mul_addR]; exact g.add _ i c k hi hk hik
  have := h.uniq A
  rw [this, g.congr (one_mul' n B), Rat.mul_comm]
theorem addR_one (n : Nat) (A : Mx) (i : Nat) (c : Rat) (k : Nat) (hi : i < n) (hk : k < n) : Eq2 n (addR A i c k) (mul n (addR one i c k) A) := by
  rw [mul_addR]
  intro r hr s hs
  unfold addR
  rw [one_mul' n A i hi s hs, one_mul' n A k hk s hs, one_mul' n A r hr s hs]
theorem sclR_one (n : Nat) (A : Mx) (i : Nat) (c : Rat) (hi : i < n) : Eq2 n (sclR A i c) (mul n (sclR one i c) A) := by
  rw [mul_sclR]
  intro r hr s hs
  unfold sclR
  rw [one_mul' n A i hi s hs, one_mul' n A r hr s hs]
theorem detT_tr (n : Nat) (A : Mx) : detT n (tr A) = detT n A := by
  have g := rowF_detT n
  have ht : ∀ {M N : Mx}, Eq2 n M N → Eq2 n (tr M) (tr N) := fun h i hi j hj => h j hj i hi
  have h : RowF n fun A => detT n (tr A) := by
    refine ⟨fun h => g.congr (ht h), fun M i c hi => ?_, fun M i c k hi hk hik => ?_⟩
    · show detT n (tr (sclR M i c)) = c * detT n (tr M)
      rw [g.congr (ht (sclR_one n M i c hi)), tr_mul, detT_mul]
      have e : tr (sclR one i c) = sclR one i c := by
        funext r s
        unfold tr sclR one
        by_cases h3 : r = s
        · subst h3; rfl
        · have h4 : ¬ s = r := fun e => h3 e.symm
          by_cases h1 : r = i
          · subst h1
            simp only [h3, h4, ↓reduceIte]
            grind
          · by_cases h2 : s = i
            · subst h2
              simp only [h3, h4, ↓reduceIte]
              grind
            · simp only [h1, h2, h3, h4, ↓reduceIte]
      rw [e, g.scl _ i c hi, detT_one]
      grind
    · show detT n (tr (addR M i c k)) = detT n (tr M)
      rw [g.congr (ht (addR_one n M i c k hi hk)), tr_mul, detT_mul]
      have e : tr (addR one i c k) = addR one k c i := by
        funext r s
        unfold tr addR one
        by_cases h1 : r = k <;> by_cases h2 : s = i <;> by_cases h3 : r = s <;> simp_all <;> grind
      rw [e, g.add _ k c i hk hi (by omega), detT_one, Rat.mul_one]
  have := h.uniq A
  rw [this, tr_one, detT_one, Rat.one_mul]
theorem det_detT (n : Nat) (A : Mx) : det n A = detT n A := (detT_tr n A : detT n (tr A) = _)
theorem rowF_det (n : Nat) : RowF n (det n) := by
  have g := rowF_detT n
  refine ⟨det_congr, fun M i c hi => ?_, fun M i c k hi hk hik => ?_⟩
  · rw [det_detT, det_detT]; exact g.scl M i c hi
  · rw [det_detT, det_detT]; exact g.add M i c k hi hk hik
theorem det_mul (n : Nat) (A B : Mx) : det n (mul n A B) = det n A * det n B := by rw [det_detT, det_detT, det_detT, detT_mul]
theorem det_trans (n : Nat) (A : Mx) : det n (tr A) = det n A := by rw [det_detT n A]; rfl
/-- above the diagonal alone -/
theorem det_upper (n : Nat) (M : Mx) (h : ∀ i j, i < n → j < n → j < i → M i j = 0) : det n M = (List.range n).foldl (fun a k => a * M k k) 1 := by
  rw [← det_trans]
  exact det_tri n (tr M) fun i j hi hj hij => h j i hj hi hij

end Go.Proofs.YtccdhgjfcgfgoaaGreat.X.Dt
set_option linter.unusedVariables false
set_option linter.unusedSimpArgs false
namespace Go.Proofs.YtccdhgjfcgfgoaaGreat.X.Dt

/-- a row put in a row's place -/
def setR (M : Mx) (j : Nat) (v : Nat → Rat) : Mx := fun r s => if r = j then v s else M r s
theorem sm_apart {n : Nat} (f : Nat → Rat) (j : Nat) (hj : j < n) : sm n f = f j + sm n (fun k => if k = j then 0 else f k) := by
  have h1 : sm n (fun k => if k = j then f k else 0) = f j := by
    rw [sm_one j hj (fun k _ hk => if_neg hk), if_pos rfl]
  rw [← h1, ← sm_add]
  refine sm_congr fun k hk => ?_
  by_cases e : k = j
  · rw [if_pos e, if_pos e]; grind
  · rw [if_neg e, if_neg e]; grind
theorem RowF.cramer {n : Nat} {F : Mx → Rat} (h : RowF n F) (M : Mx) (o v : Nat → Rat) (j : Nat) (hj : j < n) (e : ∀ s, s < n → sm n (fun k => o k * M k s) = v s) : F (setR M j v) = o j * F M := by
  have key : ∀ t, t ≤ n → F (setR M j (fun s => o j * M j s + sm t (fun k => if k = j then 0 else o k * M k s))) = o j * F M := by
    intro t
    induction t with
    | zero =>
      intro _
      rw [← h.scl M j (o j) hj]
      refine h.congr fun r hr s hs => ?_
      unfold setR sclR
      split
      · show o j * M j s + 0 = _
        grind
      · rfl
    | succ t ih =>
      intro ht
      rw [← ih (by omega)]
      by_cases et : t = j
      · refine h.congr fun r hr s hs => ?_
        unfold setR
        split
        · show o j * M j s + (sm t _ + (if t = j then 0 else o t * M t s)) = _
          rw [if_pos et]
          grind
        · rfl
      · rw [← h.add (setR M j (fun s => o j * M j s + sm t (fun k => if k = j then 0 else o k * M k s))) j (o t) t hj (by omega) (fun h => et h.symm)]
        refine h.congr fun r hr s hs => ?_
        unfold addR setR
        split
        · try rw [if_pos rfl]
          try rw [if_neg et]
          show o j * M j s + (sm t _ + (if t = j then 0 else o t * M t s)) = _
          rw [if_neg et]
          grind
        · rfl
  rw [← key n (Nat.le_refl n)]
  refine h.congr fun r hr s hs => ?_
  unfold setR
  split
  · rw [← e s hs, sm_apart (fun k => o k * M k s) j hj]
  · rfl

theorem mul_det {n : Nat} {X M : Mx} (h : Eq2 n (mul n X M) one) : det n X * det n M = 1 := by
  rw [← det_mul, det_congr h, det_one]
theorem inv_ne {n : Nat} {X M : Mx} (h : Eq2 n (mul n X M) one) : det n M ≠ 0 := by
  intro e
  have := mul_det h
  rw [e] at this
  grind
/-- a row is told by what it makes -/
theorem row_uniq {n : Nat} {M : Mx} (hd : det n M ≠ 0) {o p : Nat → Rat} (h : ∀ s, s < n → sm n (fun k => o k * M k s) = sm n (fun k => p k * M k s)) (j : Nat) (hj : j < n) : o j = p j := by
  have h1 := (rowF_det n).cramer M o (fun s => sm n (fun k => p k * M k s)) j hj h
  have h2 := (rowF_det n).cramer M p (fun s => sm n (fun k => p k * M k s)) j hj (fun s _ => rfl)
  rw [h1] at h2
  grind
theorem inv_uniq {n : Nat} {X Y M : Mx} (h : Eq2 n (mul n X M) one) (k : Eq2 n (mul n Y M) one) : Eq2 n X Y := fun i hi j hj =>
  row_uniq (inv_ne h) (o := X i) (p := Y i) (fun s hs => (h i hi s hs).trans (k i hi s hs).symm) j hj
theorem inv_entry {n : Nat} {X M : Mx} (h : Eq2 n (mul n X M) one) {i j : Nat} (hi : i < n) (hj : j < n) : X i j = det n (setR M j (one i)) / det n M := by
  have h1 := (rowF_det n).cramer M (X i) (one i) j hj (fun s hs => h i hi s hs)
  have := inv_ne h
  rw [h1]
  grind

/-! ### both sides turned together -/

/-- what stands on the right, times M, is what stands on the left -/
def Pair (n : Nat) (M f : Mx) : Prop := ∀ i, i < n → ∀ s, s < n → sm n (fun r => f i (n + r) * M r s) = f i s
/-- the first k columns are done -/
def Zj (n k : Nat) (f : Mx) : Prop := ∀ j, j < k → (∀ i, i < n → i ≠ j → f i j = 0) ∧ f j j ≠ 0
theorem Pair.swp {n i k : Nat} {M f : Mx} (h : Pair n M f) (hi : i < n) (hk : k < n) : Pair n M (swpR f i k) := by
  intro r hr s hs
  unfold swpR
  by_cases e : r = i
  · simp only [if_pos e]
    exact h k hk s hs
  · by_cases e2 : r = k
    · simp only [if_neg e, if_pos e2]
      exact h i hi s hs
    · simp only [if_neg e, if_neg e2]
      exact h r hr s hs
theorem Pair.elim {n k q : Nat} {M f : Mx} {P : Nat → Bool} (h : Pair n M f) (hk : k < n) : Pair n M (Dt.elim f k q P) := by
  intro r hr s hs
  unfold Dt.elim
  by_cases e : P r = true ∧ r ≠ k
  · simp only [if_pos e]
    have h1 := h r hr s hs
    have h2 := h k hk s hs
    have := sm_lin n 1 (-(f r q / f k q)) (fun x => f r (n + x) * M x s) (fun x => f k (n + x) * M x s)
    rw [h1, h2] at this
    rw [sm_congr (g := fun x => 1 * (f r (n + x) * M x s) + -(f r q / f k q) * (f k (n + x) * M x s)) (fun x hx => by grind), this]
    grind
  · simp only [if_neg e]
    exact h r hr s hs
theorem Zj.swp {n i k : Nat} {f : Mx} (h : Zj n k f) (hki : k ≤ i) (hi : i < n) : Zj n k (swpR f i k) := by
  intro j hj
  obtain ⟨h1, h2⟩ := h j hj
  unfold swpR
  refine ⟨fun r hr hrj => ?_, ?_⟩
  · by_cases e : r = i
    · rw [if_pos e]
      exact h1 k (by omega) (by omega)
    · rw [if_neg e]
      by_cases e2 : r = k
      · rw [if_pos e2]
        exact h1 i hi (by omega)
      · rw [if_neg e2]
        exact h1 r hr hrj
  · rw [if_neg (by omega), if_neg (by omega)]
    exact h2
theorem Zj.next {n k : Nat} {f : Mx} (h : Zj n k f) (hk : k < n) (h0 : f k k ≠ 0) : Zj n (k + 1) (Dt.elim f k k (fun r => decide (r < n))) := by
  intro j hj
  unfold Dt.elim
  by_cases e : j = k
  · subst e
    refine ⟨fun i hi hij => ?_, ?_⟩
    · rw [if_pos ⟨decide_eq_true hi, hij⟩]
      grind
    · rw [if_neg (fun h => h.2 rfl)]
      exact h0
  · obtain ⟨h1, h2⟩ := h j (by omega)
    have hkj := h1 k hk (fun h => e h.symm)
    refine ⟨fun i hi hij => ?_, ?_⟩
    · have := h1 i hi hij
      split
      · rw [hkj, this]; grind
      · exact this
    · split
      · rw [hkj]; grind
      · exact h2
theorem Zj.fail {n k : Nat} {f : Mx} (h : Zj n k f) (hk : k < n) (h0 : ∀ i, k ≤ i → i < n → f i k = 0) : det n f = 0 := by
  refine (rowF_det n).rank (n - (k + 1)) f k (k + 1) (by omega) (by omega) (fun i hki hi j hj => ?_)
  by_cases e : j = k
  · rw [e]; exact h0 i hki hi
  · exact (h j (by omega)).1 i hi (by omega)
theorem Pair.done {n : Nat} {M f : Mx} (h : Pair n M f) (hz : Zj n n f) : Eq2 n (mul n (fun i s => f i (n + s) / f i i) M) one := by
  intro i hi s hs
  have h1 := h i hi s hs
  have h2 := (hz i hi).2
  show sm n (fun r => f i (n + r) / f i i * M r s) = one i s
  rw [sm_congr (g := fun r => (1 / f i i) * (f i (n + r) * M r s)) (fun r _ => by grind), sm_mul, h1]
  unfold one
  by_cases e : i = s
  · subst e
    rw [if_pos rfl]
    grind
  · rw [if_neg e, (hz s hs).1 i hi e]
    grind

end Go.Proofs.YtccdhgjfcgfgoaaGreat.X.Dt
