/- The laws of chapter 2: what they share; the first ones. -/
import Derived.Test.YtbmcchmbfpmjkaaMV
import Derived.Test.YtbmcchmbfpmjkaaML
set_option linter.unusedVariables false
set_option linter.unusedSimpArgs false
namespace Go.Proofs.Ytbmcchmbfpmjkaa.X
open Go Go.RowKit Go.Proofs

theorem agg2_inj {A A' : Option Addr} {l l' c c' : Nat} {b b' : Bool} (h : (Value.agg #[.bool b, .slice A l c]) = .agg #[.bool b', .slice A' l' c']) : A = A' ∧ l = l' ∧ c = c' ∧ b = b' := by
  simpa [and_assoc, and_comm, and_left_comm] using h
theorem txt_small {x : Nat} (h0 : x ≠ 0) (h : x < 10) : txt x = [48 + x] := by
  have e : nd x = 1 := nd_uniq (by simpa using h) (.inr (by simp; omega))
  unfold txt
  rw [if_neg h0, e]
  simp [ds, dg, Nat.mod_eq_of_lt h]
theorem itxt_m4 : ofB (itxt (-4)) = ⟨#[45, 52]⟩ := by
  have : itxt (-4) = [45, 52] := by
    unfold itxt
    rw [if_pos (by decide), show (-4 : Int).natAbs = 4 from rfl, txt_small (by decide) (by decide)]
  rw [this]; rfl
theorem itxt_1 : ofB (itxt 1) = ⟨#[49]⟩ := by
  have : itxt 1 = [49] := by
    unfold itxt
    rw [if_neg (by decide), show (1 : Int).natAbs = 1 from rfl, txt_small (by decide) (by decide)]
  rw [this]; rfl
theorem itxt_0 : ofB (itxt 0) = ⟨#[48]⟩ := rfl

theorem aliveW_ok (H : PH) : FnP Try.prog 14 [] H fun v _ => v = .bool true := by
  refine of_cincturelaw2_alive (by simp) ?_
  try simp only [go_sem, Nat.reduceEqDiff, Nat.reduceAdd, Bool.false_eq_true, Nat.reduceBEq, ↓reduceIte, p_cincturelaw2_alive]
  first | refine ev_call (wof_ok _ (-7) (by decide) (by decide)) ?_ | refine ev_callP (wof_ok _ (-7) (by decide) (by decide)) ?_
  rintro v_1 H_1 le_1 h1 _
  try simp only [go_sem, Nat.reduceEqDiff, Nat.reduceAdd, Bool.false_eq_true, Nat.reduceBEq, ↓reduceIte]
  obtain ⟨A1, l1, c1, b1, rfl⟩ := h1.form
  try simp only [go_sem, Nat.reduceEqDiff, Nat.reduceAdd, Bool.false_eq_true, Nat.reduceBEq, ↓reduceIte]
  first | refine ev_call (wof_ok _ 2 (by decide) (by decide)) ?_ | refine ev_callP (wof_ok _ 2 (by decide) (by decide)) ?_
  rintro v_2 H_2 le_2 h2 _
  replace h1 := h1.le le_2
  try simp only [go_sem, Nat.reduceEqDiff, Nat.reduceAdd, Bool.false_eq_true, Nat.reduceBEq, ↓reduceIte]
  obtain ⟨A2, l2, c2, b2, rfl⟩ := h2.form
  try simp only [go_sem, Nat.reduceEqDiff, Nat.reduceAdd, Bool.false_eq_true, Nat.reduceBEq, ↓reduceIte]
  first | refine ev_call (wdiv_ok1 _ _ _ (-7) 2 h1 h2 (by decide) (by decide) (by decide)) ?_ | refine ev_callP (wdiv_ok1 _ _ _ (-7) 2 h1 h2 (by decide) (by decide) (by decide)) ?_
  rintro v_3 H_3 le_3 ⟨vq, vr, rfl, h3, h4⟩ _
  try simp only [go_sem, Nat.reduceEqDiff, Nat.reduceAdd, Bool.false_eq_true, Nat.reduceBEq, ↓reduceIte]
  obtain ⟨A3, l3, c3, b3, rfl⟩ := h3.form
  obtain ⟨A4, l4, c4, b4, rfl⟩ := h4.form
  try simp only [go_sem, Nat.reduceEqDiff, Nat.reduceAdd, Bool.false_eq_true, Nat.reduceBEq, ↓reduceIte]
  first | refine ev_call (wtext_ok _ _ _ h3 (by decide)) ?_ | refine ev_callP (wtext_ok _ _ _ h3 (by decide)) ?_
  rintro v_4 H_4 le_4 rfl _
  replace h4 := h4.le le_4
  try simp only [go_sem, Nat.reduceEqDiff, Nat.reduceAdd, Bool.false_eq_true, Nat.reduceBEq, ↓reduceIte]
  refine ev_pos itxt_m4 ?_
  try simp only [go_sem, Nat.reduceEqDiff, Nat.reduceAdd, Bool.false_eq_true, Nat.reduceBEq, ↓reduceIte]
  first | refine ev_call (wtext_ok _ _ _ h4 (by decide)) ?_ | refine ev_callP (wtext_ok _ _ _ h4 (by decide)) ?_
  rintro v_5 H_5 le_5 rfl _
  try simp only [go_sem, Nat.reduceEqDiff, Nat.reduceAdd, Bool.false_eq_true, Nat.reduceBEq, ↓reduceIte]
  refine ev_pos itxt_1 ?_
  try simp only [go_sem, Nat.reduceEqDiff, Nat.reduceAdd, Bool.false_eq_true, Nat.reduceBEq, ↓reduceIte]
  exact ⟨by trivial, by trivial⟩

/-- a text is a number, not too long -/
def nok (a : ByteArray) : Bool := intOk (bs a) && decide (a.size ≤ 150)

theorem num_ok (H : PH) (a : ByteArray) : FnP Try.prog 20 [.string a] H fun v H' => ∃ va ra, v = .tuple #[va, ra, .bool (nok a)] ∧ IntV H' va (if nok a then iv (bs a) else 0) ∧ RInt H' ra (if nok a then iv (bs a) else 0) := by
  refine of_cincturelaw2_num (by simp) ?_
  try simp only [go_sem, Nat.reduceEqDiff, Nat.reduceAdd, Bool.false_eq_true, Nat.reduceBEq, ↓reduceIte, p_cincturelaw2_num]
  first | refine ev_call (rparseI_ok _ a) ?_ | refine ev_callP (rparseI_ok _ a) ?_
  rintro v_6 H_6 le_6 ⟨ra, rfl, h1⟩ _
  try simp only [go_sem, Nat.reduceEqDiff, Nat.reduceAdd, Bool.false_eq_true, Nat.reduceBEq, ↓reduceIte]
  obtain ⟨A1, l1, c1, b1, rfl⟩ := h1.form
  have bad : nok a = false → ∀ H' : PH, ∃ va ra, (Value.tuple #[.agg #[.slice none 0 0, .bool false], .agg #[.bool false, .slice none 0 0], .bool false]) = .tuple #[va, ra, .bool (nok a)] ∧ IntV H' va (if nok a then iv (bs a) else 0) ∧ RInt H' ra (if nok a then iv (bs a) else 0) := by
    intro h H'
    rw [h]
    exact ⟨_, _, rfl, IntV.zero _, RInt.zero _⟩
  cases hk : intOk (bs a) with
  | false =>
    try simp only [go_sem, Nat.reduceEqDiff, Nat.reduceAdd, Bool.false_eq_true, Nat.reduceBEq, ↓reduceIte, hk]
    exact ⟨by trivial, bad (by unfold nok; rw [hk]; rfl) _⟩
  | true =>
    try simp only [go_sem, Nat.reduceEqDiff, Nat.reduceAdd, Bool.false_eq_true, Nat.reduceBEq, ↓reduceIte, hk]
    refine ev_if (fun h => ?_) (fun h => ?_)
    · try simp only [go_sem, Nat.reduceEqDiff, Nat.reduceAdd, Bool.false_eq_true, Nat.reduceBEq, ↓reduceIte]
      exact ⟨by trivial, bad (by unfold nok; rw [hk, decide_eq_false (show ¬ a.size ≤ 150 by omega)]; rfl) _⟩
    · have hn : nok a = true := by unfold nok; rw [hk, decide_eq_true (show a.size ≤ 150 by omega)]; rfl
      try simp only [go_sem, Nat.reduceEqDiff, Nat.reduceAdd, Bool.false_eq_true, Nat.reduceBEq, ↓reduceIte]
      first | refine ev_call (wparse_ok _ a) ?_ | refine ev_callP (wparse_ok _ a) ?_
      rintro v_7 H_7 le_7 ⟨va, rfl, h2⟩ _
      replace h1 := h1.le le_7
      try simp only [go_sem, Nat.reduceEqDiff, Nat.reduceAdd, Bool.false_eq_true, Nat.reduceBEq, ↓reduceIte]
      obtain ⟨A2, l2, c2, b2, rfl⟩ := h2.form
      rw [hk, if_pos rfl] at h1 h2
      have fin : ∃ va ra, (Value.tuple #[.agg #[.slice A2 l2 c2, .bool b2], .agg #[.bool b1, .slice A1 l1 c1], .bool true]) = .tuple #[va, ra, .bool (nok a)] ∧ IntV H_7 va (if nok a then iv (bs a) else 0) ∧ RInt H_7 ra (if nok a then iv (bs a) else 0) := by
        rw [hn]
        exact ⟨_, _, rfl, h2, h1⟩
      try simp only [go_sem, Nat.reduceEqDiff, Nat.reduceAdd, Bool.false_eq_true, Nat.reduceBEq, ↓reduceIte]
      exact ⟨⟨⟨by trivial, fin⟩, by trivial, fin⟩, by trivial, fin⟩

theorem bi_iv {l : List Nat} (h : intOk l = true) : bi (iv l) ≤ 4 * l.length := by
  have key : ∀ m : List Nat, decOk m = true → bl (dv m) ≤ 4 * m.length := by
    intro m hm
    simp only [decOk, Bool.and_eq_true, List.all_eq_true, decide_eq_true_eq] at hm
    exact bl_dv fun d hd => by have := hm.2.2 d hd; simp [isDig] at this; omega
  unfold intOk at h
  unfold iv bi
  split at h
  · rename_i h45
    rw [Bool.and_eq_true] at h
    rw [if_pos h45, Int.natAbs_neg, Int.natAbs_natCast]
    have := key _ h.1
    rw [List.length_drop] at this
    omega
  · rename_i h45
    rw [if_neg h45, Int.natAbs_natCast]
    exact key _ h
theorem nok_bi {a : ByteArray} (h : nok a = true) : bi (iv (bs a)) ≤ 600 := by
  unfold nok at h
  rw [Bool.and_eq_true, decide_eq_true_eq] at h
  have := bi_iv h.1
  rw [bs_length] at this
  omega

theorem WholeTells_ok (H : PH) (s : ByteArray) : FnP Try.prog 5 [.string s] H fun v _ => v = .bool true := by
  refine of_cincturelaw2_WholeTells (by simp) ?_
  try simp only [go_sem, Nat.reduceEqDiff, Nat.reduceAdd, Bool.false_eq_true, Nat.reduceBEq, ↓reduceIte, p_cincturelaw2_WholeTells]
  first | refine ev_call (aliveW_ok _) ?_ | refine ev_callP (aliveW_ok _) ?_
  rintro v_8 H_8 le_8 rfl _
  try simp only [go_sem, Nat.reduceEqDiff, Nat.reduceAdd, Bool.false_eq_true, Nat.reduceBEq, ↓reduceIte]
  refine ev_if (fun h => ?_) (fun h => ?_)
  · try simp only [go_sem, Nat.reduceEqDiff, Nat.reduceAdd, Bool.false_eq_true, Nat.reduceBEq, ↓reduceIte]
    exact ⟨by trivial, by trivial⟩
  · try simp only [go_sem, Nat.reduceEqDiff, Nat.reduceAdd, Bool.false_eq_true, Nat.reduceBEq, ↓reduceIte]
    first | refine ev_call (wparse_ok _ s) ?_ | refine ev_callP (wparse_ok _ s) ?_
    rintro v_9 H_9 le_9 ⟨va, rfl, h1⟩ _
    try simp only [go_sem, Nat.reduceEqDiff, Nat.reduceAdd, Bool.false_eq_true, Nat.reduceBEq, ↓reduceIte]
    obtain ⟨A1, l1, c1, b1, rfl⟩ := h1.form
    try simp only [go_sem, Nat.reduceEqDiff, Nat.reduceAdd, Bool.false_eq_true, Nat.reduceBEq, ↓reduceIte]
    first | refine ev_call (rparseI_ok _ s) ?_ | refine ev_callP (rparseI_ok _ s) ?_
    rintro v_10 H_10 le_10 ⟨ra, rfl, h2⟩ _
    replace h1 := h1.le le_10
    try simp only [go_sem, Nat.reduceEqDiff, Nat.reduceAdd, Bool.false_eq_true, Nat.reduceBEq, ↓reduceIte]
    obtain ⟨A2, l2, c2, b2, rfl⟩ := h2.form
    cases hk : intOk (bs s) with
    | false =>
      rw [hk] at h1
      try simp only [go_sem, Nat.reduceEqDiff, Nat.reduceAdd, Bool.false_eq_true, Nat.reduceBEq, ↓reduceIte, hk]
      refine ev_pos (by trivial) ?_
      try simp only [go_sem, Nat.reduceEqDiff, Nat.reduceAdd, Bool.false_eq_true, Nat.reduceBEq, ↓reduceIte]
      first | refine ev_call (wtext_ok _ _ 0 h1 (by decide)) ?_ | refine ev_callP (wtext_ok _ _ 0 h1 (by decide)) ?_
      rintro v_11 H_11 le_11 rfl _
      try simp only [go_sem, Nat.reduceEqDiff, Nat.reduceAdd, Bool.false_eq_true, Nat.reduceBEq, ↓reduceIte]
      refine ev_pos itxt_0 ?_
      try simp only [go_sem, Nat.reduceEqDiff, Nat.reduceAdd, Bool.false_eq_true, Nat.reduceBEq, ↓reduceIte]
      exact ⟨by trivial, by trivial⟩
    | true =>
      have hbl := bi_iv hk
      have htx := itxt_iv hk
      rw [bs_length] at hbl
      rw [hk, if_pos rfl] at h1 h2
      generalize iv (bs s) = z at *
      try simp only [go_sem, Nat.reduceEqDiff, Nat.reduceAdd, Bool.false_eq_true, Nat.reduceBEq, ↓reduceIte, hk]
      refine ev_pos (by trivial) ?_
      try simp only [go_sem, Nat.reduceEqDiff, Nat.reduceAdd, Bool.false_eq_true, Nat.reduceBEq, ↓reduceIte]
      first | refine ev_call (wtext_ok _ _ z h1 (by omega)) ?_ | refine ev_callP (wtext_ok _ _ z h1 (by omega)) ?_
      rintro v_12 H_12 le_12 rfl _
      replace h1 := h1.le le_12
      replace h2 := h2.le le_12
      try simp only [go_sem, Nat.reduceEqDiff, Nat.reduceAdd, Bool.false_eq_true, Nat.reduceBEq, ↓reduceIte]
      refine ev_pos (by rw [htx, ofB_bs]) ?_
      try simp only [go_sem, Nat.reduceEqDiff, Nat.reduceAdd, Bool.false_eq_true, Nat.reduceBEq, ↓reduceIte]
      first | refine ev_call (wsign_ok _ _ z h1 (by omega)) ?_ | refine ev_callP (wsign_ok _ _ z h1 (by omega)) ?_
      rintro v_13 H_13 le_13 rfl _
      replace h1 := h1.le le_13
      replace h2 := h2.le le_13
      try simp only [go_sem, Nat.reduceEqDiff, Nat.reduceAdd, Bool.false_eq_true, Nat.reduceBEq, ↓reduceIte]
      first | refine ev_call (rsign_ok _ _ z h2) ?_ | refine ev_callP (rsign_ok _ _ z h2) ?_
      rintro v_14 H_14 le_14 rfl _
      replace h1 := h1.le le_14
      replace h2 := h2.le le_14
      try simp only [go_sem, Nat.reduceEqDiff, Nat.reduceAdd, Bool.false_eq_true, Nat.reduceBEq, ↓reduceIte]
      refine ev_pos (by trivial) ?_
      try simp only [go_sem, Nat.reduceEqDiff, Nat.reduceAdd, Bool.false_eq_true, Nat.reduceBEq, ↓reduceIte]
      have hbl' : bl z.natAbs ≤ 4 * s.size := hbl
      first | refine ev_call (wabs_ok _ _ z h1) ?_ | refine ev_callP (wabs_ok _ _ z h1) ?_
      rintro v_15 H_15 le_15 g1 _
      replace h2 := h2.le le_15
      try simp only [go_sem, Nat.reduceEqDiff, Nat.reduceAdd, Bool.false_eq_true, Nat.reduceBEq, ↓reduceIte]
      first | refine ev_call (text_ok _ _ _ g1 (by omega)) ?_ | refine ev_callP (text_ok _ _ _ g1 (by omega)) ?_
      rintro v_16 H_16 le_16 rfl _
      replace h2 := h2.le le_16
      try simp only [go_sem, Nat.reduceEqDiff, Nat.reduceAdd, Bool.false_eq_true, Nat.reduceBEq, ↓reduceIte]
      obtain ⟨A3, l3, c3, b3, hv, hr, _⟩ := h2
      obtain ⟨rfl, rfl, rfl, rfl⟩ := agg2_inj hv
      first | refine ev_call (rtext_ok _ _ _ hr (by omega)) ?_ | refine ev_callP (rtext_ok _ _ _ hr (by omega)) ?_
      rintro v_17 H_17 le_17 rfl _
      try simp only [go_sem, Nat.reduceEqDiff, Nat.reduceAdd, Bool.false_eq_true, Nat.reduceBEq, ↓reduceIte]
      refine ev_pos (by trivial) ?_
      try simp only [go_sem, Nat.reduceEqDiff, Nat.reduceAdd, Bool.false_eq_true, Nat.reduceBEq, ↓reduceIte]
      exact ⟨by trivial, by trivial⟩

theorem WholeAdds_ok (H : PH) (a b : ByteArray) : FnP Try.prog 7 [.string a, .string b] H fun v _ => v = .bool true := by
  refine of_cincturelaw2_WholeAdds (by simp) ?_
  try simp only [go_sem, Nat.reduceEqDiff, Nat.reduceAdd, Bool.false_eq_true, Nat.reduceBEq, ↓reduceIte, p_cincturelaw2_WholeAdds]
  first | refine ev_call (num_ok _ a) ?_ | refine ev_callP (num_ok _ a) ?_
  rintro v_18 H_18 le_18 ⟨va, ra, rfl, h1, h2⟩ _
  try simp only [go_sem, Nat.reduceEqDiff, Nat.reduceAdd, Bool.false_eq_true, Nat.reduceBEq, ↓reduceIte]
  obtain ⟨A1, l1, c1, b1, rfl⟩ := h1.form
  obtain ⟨A2, l2, c2, b2, rfl⟩ := h2.form
  try simp only [go_sem, Nat.reduceEqDiff, Nat.reduceAdd, Bool.false_eq_true, Nat.reduceBEq, ↓reduceIte]
  first | refine ev_call (num_ok _ b) ?_ | refine ev_callP (num_ok _ b) ?_
  rintro v_19 H_19 le_19 ⟨vb, rb, rfl, h3, h4⟩ _
  replace h1 := h1.le le_19
  replace h2 := h2.le le_19
  try simp only [go_sem, Nat.reduceEqDiff, Nat.reduceAdd, Bool.false_eq_true, Nat.reduceBEq, ↓reduceIte]
  obtain ⟨A3, l3, c3, b3, rfl⟩ := h3.form
  obtain ⟨A4, l4, c4, b4, rfl⟩ := h4.form
  cases hk : nok a with
  | false =>
    try simp only [go_sem, Nat.reduceEqDiff, Nat.reduceAdd, Bool.false_eq_true, Nat.reduceBEq, ↓reduceIte, hk]
    first | refine ev_call (aliveW_ok _) ?_ | refine ev_callP (aliveW_ok _) ?_
    rintro v_20 H_20 le_20 rfl _
    try simp only [go_sem, Nat.reduceEqDiff, Nat.reduceAdd, Bool.false_eq_true, Nat.reduceBEq, ↓reduceIte]
    exact ⟨by trivial, by trivial⟩
  | true =>
    cases hk2 : nok b with
    | false =>
      try simp only [go_sem, Nat.reduceEqDiff, Nat.reduceAdd, Bool.false_eq_true, Nat.reduceBEq, ↓reduceIte, hk, hk2]
      first | refine ev_call (aliveW_ok _) ?_ | refine ev_callP (aliveW_ok _) ?_
      rintro v_20 H_20 le_20 rfl _
      try simp only [go_sem, Nat.reduceEqDiff, Nat.reduceAdd, Bool.false_eq_true, Nat.reduceBEq, ↓reduceIte]
      exact ⟨by trivial, by trivial⟩
    | true =>
      rw [hk, if_pos rfl] at h1 h2
      rw [hk2, if_pos rfl] at h3 h4
      have hbx := nok_bi hk
      have hby := nok_bi hk2
      generalize iv (bs a) = x at *
      generalize iv (bs b) = y at *
      have s1 := bi_add x y
      have s2 := bi_sub x y
      have s3 := bi_mul x y
      have s4 := bi_neg x
      try simp only [go_sem, Nat.reduceEqDiff, Nat.reduceAdd, Bool.false_eq_true, Nat.reduceBEq, ↓reduceIte, hk, hk2]
      first | refine ev_call (aliveW_ok _) ?_ | refine ev_callP (aliveW_ok _) ?_
      rintro v_21 H_21 le_21 rfl _
      replace h1 := h1.le le_21
      replace h2 := h2.le le_21
      replace h3 := h3.le le_21
      replace h4 := h4.le le_21
      try simp only [go_sem, Nat.reduceEqDiff, Nat.reduceAdd, Bool.false_eq_true, Nat.reduceBEq, ↓reduceIte]
      first | refine ev_call (wadd_ok _ _ _ x y h1 h3 (by omega) (by omega)) ?_ | refine ev_callP (wadd_ok _ _ _ x y h1 h3 (by omega) (by omega)) ?_
      rintro v_22 H_22 le_22 g1 _
      replace h1 := h1.le le_22
      replace h2 := h2.le le_22
      replace h3 := h3.le le_22
      replace h4 := h4.le le_22
      try simp only [go_sem, Nat.reduceEqDiff, Nat.reduceAdd, Bool.false_eq_true, Nat.reduceBEq, ↓reduceIte]
      first | refine ev_call (wtext_ok _ _ _ g1 (by omega)) ?_ | refine ev_callP (wtext_ok _ _ _ g1 (by omega)) ?_
      rintro v_23 H_23 le_23 rfl _
      replace h1 := h1.le le_23
      replace h2 := h2.le le_23
      replace h3 := h3.le le_23
      replace h4 := h4.le le_23
      try simp only [go_sem, Nat.reduceEqDiff, Nat.reduceAdd, Bool.false_eq_true, Nat.reduceBEq, ↓reduceIte]
      first | refine ev_call (raddI_ok _ _ _ x y h2 h4 (by omega) (by omega)) ?_ | refine ev_callP (raddI_ok _ _ _ x y h2 h4 (by omega) (by omega)) ?_
      rintro v_24 H_24 le_24 g2 _
      replace h1 := h1.le le_24
      replace h2 := h2.le le_24
      replace h3 := h3.le le_24
      replace h4 := h4.le le_24
      try simp only [go_sem, Nat.reduceEqDiff, Nat.reduceAdd, Bool.false_eq_true, Nat.reduceBEq, ↓reduceIte]
      first | refine ev_call (rtextI_ok _ _ _ g2 (by omega)) ?_ | refine ev_callP (rtextI_ok _ _ _ g2 (by omega)) ?_
      rintro v_25 H_25 le_25 rfl _
      replace h1 := h1.le le_25
      replace h2 := h2.le le_25
      replace h3 := h3.le le_25
      replace h4 := h4.le le_25
      try simp only [go_sem, Nat.reduceEqDiff, Nat.reduceAdd, Bool.false_eq_true, Nat.reduceBEq, ↓reduceIte]
      refine ev_pos (by trivial) ?_
      try simp only [go_sem, Nat.reduceEqDiff, Nat.reduceAdd, Bool.false_eq_true, Nat.reduceBEq, ↓reduceIte]
      first | refine ev_call (wsub_ok _ _ _ x y h1 h3 (by omega) (by omega)) ?_ | refine ev_callP (wsub_ok _ _ _ x y h1 h3 (by omega) (by omega)) ?_
      rintro v_26 H_26 le_26 g3 _
      replace h1 := h1.le le_26
      replace h2 := h2.le le_26
      replace h3 := h3.le le_26
      replace h4 := h4.le le_26
      try simp only [go_sem, Nat.reduceEqDiff, Nat.reduceAdd, Bool.false_eq_true, Nat.reduceBEq, ↓reduceIte]
      first | refine ev_call (wtext_ok _ _ _ g3 (by omega)) ?_ | refine ev_callP (wtext_ok _ _ _ g3 (by omega)) ?_
      rintro v_27 H_27 le_27 rfl _
      replace h1 := h1.le le_27
      replace h2 := h2.le le_27
      replace h3 := h3.le le_27
      replace h4 := h4.le le_27
      try simp only [go_sem, Nat.reduceEqDiff, Nat.reduceAdd, Bool.false_eq_true, Nat.reduceBEq, ↓reduceIte]
      first | refine ev_call (rsubI_ok _ _ _ x y h2 h4 (by omega) (by omega)) ?_ | refine ev_callP (rsubI_ok _ _ _ x y h2 h4 (by omega) (by omega)) ?_
      rintro v_28 H_28 le_28 g4 _
      replace h1 := h1.le le_28
      replace h2 := h2.le le_28
      replace h3 := h3.le le_28
      replace h4 := h4.le le_28
      try simp only [go_sem, Nat.reduceEqDiff, Nat.reduceAdd, Bool.false_eq_true, Nat.reduceBEq, ↓reduceIte]
      first | refine ev_call (rtextI_ok _ _ _ g4 (by omega)) ?_ | refine ev_callP (rtextI_ok _ _ _ g4 (by omega)) ?_
      rintro v_29 H_29 le_29 rfl _
      replace h1 := h1.le le_29
      replace h2 := h2.le le_29
      replace h3 := h3.le le_29
      replace h4 := h4.le le_29
      try simp only [go_sem, Nat.reduceEqDiff, Nat.reduceAdd, Bool.false_eq_true, Nat.reduceBEq, ↓reduceIte]
      refine ev_pos (by trivial) ?_
      try simp only [go_sem, Nat.reduceEqDiff, Nat.reduceAdd, Bool.false_eq_true, Nat.reduceBEq, ↓reduceIte]
      first | refine ev_call (wmul_ok _ _ _ x y h1 h3 (by omega)) ?_ | refine ev_callP (wmul_ok _ _ _ x y h1 h3 (by omega)) ?_
      rintro v_30 H_30 le_30 g5 _
      replace h1 := h1.le le_30
      replace h2 := h2.le le_30
      replace h3 := h3.le le_30
      replace h4 := h4.le le_30
      try simp only [go_sem, Nat.reduceEqDiff, Nat.reduceAdd, Bool.false_eq_true, Nat.reduceBEq, ↓reduceIte]
      first | refine ev_call (wtext_ok _ _ _ g5 (by omega)) ?_ | refine ev_callP (wtext_ok _ _ _ g5 (by omega)) ?_
      rintro v_31 H_31 le_31 rfl _
      replace h1 := h1.le le_31
      replace h2 := h2.le le_31
      replace h3 := h3.le le_31
      replace h4 := h4.le le_31
      try simp only [go_sem, Nat.reduceEqDiff, Nat.reduceAdd, Bool.false_eq_true, Nat.reduceBEq, ↓reduceIte]
      first | refine ev_call (rmulI_ok _ _ _ x y h2 h4 (by omega)) ?_ | refine ev_callP (rmulI_ok _ _ _ x y h2 h4 (by omega)) ?_
      rintro v_32 H_32 le_32 g6 _
      replace h1 := h1.le le_32
      replace h2 := h2.le le_32
      replace h3 := h3.le le_32
      replace h4 := h4.le le_32
      try simp only [go_sem, Nat.reduceEqDiff, Nat.reduceAdd, Bool.false_eq_true, Nat.reduceBEq, ↓reduceIte]
      first | refine ev_call (rtextI_ok _ _ _ g6 (by omega)) ?_ | refine ev_callP (rtextI_ok _ _ _ g6 (by omega)) ?_
      rintro v_33 H_33 le_33 rfl _
      replace h1 := h1.le le_33
      replace h2 := h2.le le_33
      replace h3 := h3.le le_33
      replace h4 := h4.le le_33
      try simp only [go_sem, Nat.reduceEqDiff, Nat.reduceAdd, Bool.false_eq_true, Nat.reduceBEq, ↓reduceIte]
      refine ev_pos (by trivial) ?_
      try simp only [go_sem, Nat.reduceEqDiff, Nat.reduceAdd, Bool.false_eq_true, Nat.reduceBEq, ↓reduceIte]
      first | refine ev_call (wcmp_ok _ _ _ x y h1 h3 (by omega) (by omega)) ?_ | refine ev_callP (wcmp_ok _ _ _ x y h1 h3 (by omega) (by omega)) ?_
      rintro v_34 H_34 le_34 rfl _
      replace h1 := h1.le le_34
      replace h2 := h2.le le_34
      replace h3 := h3.le le_34
      replace h4 := h4.le le_34
      try simp only [go_sem, Nat.reduceEqDiff, Nat.reduceAdd, Bool.false_eq_true, Nat.reduceBEq, ↓reduceIte]
      first | refine ev_call (rcmpI_ok _ _ _ x y h2 h4 (by omega) (by omega)) ?_ | refine ev_callP (rcmpI_ok _ _ _ x y h2 h4 (by omega) (by omega)) ?_
      rintro v_35 H_35 le_35 rfl _
      replace h1 := h1.le le_35
      replace h2 := h2.le le_35
      replace h3 := h3.le le_35
      replace h4 := h4.le le_35
      try simp only [go_sem, Nat.reduceEqDiff, Nat.reduceAdd, Bool.false_eq_true, Nat.reduceBEq, ↓reduceIte]
      refine ev_pos (by trivial) ?_
      try simp only [go_sem, Nat.reduceEqDiff, Nat.reduceAdd, Bool.false_eq_true, Nat.reduceBEq, ↓reduceIte]
      first | refine ev_call (wneg_ok _ _ x h1 (by omega)) ?_ | refine ev_callP (wneg_ok _ _ x h1 (by omega)) ?_
      rintro v_36 H_36 le_36 g7 _
      replace h2 := h2.le le_36
      try simp only [go_sem, Nat.reduceEqDiff, Nat.reduceAdd, Bool.false_eq_true, Nat.reduceBEq, ↓reduceIte]
      first | refine ev_call (wtext_ok _ _ _ g7 (by omega)) ?_ | refine ev_callP (wtext_ok _ _ _ g7 (by omega)) ?_
      rintro v_37 H_37 le_37 rfl _
      replace h2 := h2.le le_37
      try simp only [go_sem, Nat.reduceEqDiff, Nat.reduceAdd, Bool.false_eq_true, Nat.reduceBEq, ↓reduceIte]
      first | refine ev_call (rneg_ok _ _ x h2) ?_ | refine ev_callP (rneg_ok _ _ x h2) ?_
      rintro v_38 H_38 le_38 g8 _
      try simp only [go_sem, Nat.reduceEqDiff, Nat.reduceAdd, Bool.false_eq_true, Nat.reduceBEq, ↓reduceIte]
      first | refine ev_call (rtextI_ok _ _ _ g8 (by omega)) ?_ | refine ev_callP (rtextI_ok _ _ _ g8 (by omega)) ?_
      rintro v_39 H_39 le_39 rfl _
      try simp only [go_sem, Nat.reduceEqDiff, Nat.reduceAdd, Bool.false_eq_true, Nat.reduceBEq, ↓reduceIte]
      refine ev_pos (by trivial) ?_
      try simp only [go_sem, Nat.reduceEqDiff, Nat.reduceAdd, Bool.false_eq_true, Nat.reduceBEq, ↓reduceIte]
      exact ⟨by trivial, by trivial⟩

theorem bi_fdiv {z w : Int} (hw : w ≠ 0) : bi (z.fdiv w) ≤ bi z + 1 ∧ bi (z.fmod w) ≤ bi w := by
  have ez := sg_self z
  have ew := sg_self w
  have hy : w.natAbs ≠ 0 := by omega
  have key : ∀ (b d : Bool) (x y : Nat), y ≠ 0 → bi ((sg b x).fdiv (sg d y)) ≤ bl x + 1 ∧ bi ((sg b x).fmod (sg d y)) ≤ bl y := by
    intro b d x y hy
    have hm := Nat.mod_lt x (Nat.pos_of_ne_zero hy)
    have b1 : bl 1 = 1 := rfl
    have h1 : bl (x / y) ≤ bl x := bl_mono (Nat.div_le_self _ _)
    have h2 : bl (x / y + 1) ≤ bl x + 1 := by
      have := bl_add (x / y) 1
      have h3 : x = 0 ∨ 1 ≤ bl x := by
        rcases Nat.eq_zero_or_pos x with h | h
        · exact .inl h
        · exact .inr (bl_pos (by omega))
      rcases h3 with h3 | h3
      · subst h3; rw [Nat.zero_div]; decide
      · omega
    by_cases hbd : b = d
    · subst hbd
      obtain ⟨e1, e2⟩ := sg_fdiv_same b x y hy
      rw [e1, e2]
      unfold bi
      rw [sg_natAbs, Int.natAbs_natCast]
      exact ⟨by omega, bl_mono (by omega)⟩
    · have hd : d = !b := by cases b <;> cases d <;> simp_all
      subst hd
      obtain ⟨f1, f2⟩ := sg_fdiv_diff b x y hy
      by_cases hr : x % y = 0
      · obtain ⟨e1, e2⟩ := f1 hr
        rw [e1, e2]
        unfold bi
        rw [sg_natAbs]
        exact ⟨by omega, Nat.zero_le _⟩
      · obtain ⟨e1, e2⟩ := f2 hr
        rw [e1, e2]
        unfold bi
        rw [sg_natAbs, sg_natAbs]
        exact ⟨h2, bl_mono (by omega)⟩
  have := key (decide (z < 0)) (decide (w < 0)) z.natAbs w.natAbs hy
  rw [ez, ew] at this
  exact this

theorem WholeDivides_ok (H : PH) (a b : ByteArray) : FnP Try.prog 4 [.string a, .string b] H fun v _ => v = .bool true := by
  refine of_cincturelaw2_WholeDivides (by simp) ?_
  try simp only [go_sem, Nat.reduceEqDiff, Nat.reduceAdd, Bool.false_eq_true, Nat.reduceBEq, ↓reduceIte, p_cincturelaw2_WholeDivides]
  first | refine ev_call (num_ok _ a) ?_ | refine ev_callP (num_ok _ a) ?_
  rintro v_18 H_18 le_18 ⟨va, ra, rfl, h1, h2⟩ _
  try simp only [go_sem, Nat.reduceEqDiff, Nat.reduceAdd, Bool.false_eq_true, Nat.reduceBEq, ↓reduceIte]
  obtain ⟨A1, l1, c1, b1, rfl⟩ := h1.form
  obtain ⟨A2, l2, c2, b2, rfl⟩ := h2.form
  try simp only [go_sem, Nat.reduceEqDiff, Nat.reduceAdd, Bool.false_eq_true, Nat.reduceBEq, ↓reduceIte]
  first | refine ev_call (num_ok _ b) ?_ | refine ev_callP (num_ok _ b) ?_
  rintro v_19 H_19 le_19 ⟨vb, rb, rfl, h3, h4⟩ _
  replace h1 := h1.le le_19
  replace h2 := h2.le le_19
  try simp only [go_sem, Nat.reduceEqDiff, Nat.reduceAdd, Bool.false_eq_true, Nat.reduceBEq, ↓reduceIte]
  obtain ⟨A3, l3, c3, b3, rfl⟩ := h3.form
  obtain ⟨A4, l4, c4, b4, rfl⟩ := h4.form
  cases hk : nok a with
  | false =>
    try simp only [go_sem, Nat.reduceEqDiff, Nat.reduceAdd, Bool.false_eq_true, Nat.reduceBEq, ↓reduceIte, hk]
    first | refine ev_call (aliveW_ok _) ?_ | refine ev_callP (aliveW_ok _) ?_
    rintro v_20 H_20 le_20 rfl _
    try simp only [go_sem, Nat.reduceEqDiff, Nat.reduceAdd, Bool.false_eq_true, Nat.reduceBEq, ↓reduceIte]
    exact ⟨by trivial, by trivial⟩
  | true =>
    cases hk2 : nok b with
    | false =>
      try simp only [go_sem, Nat.reduceEqDiff, Nat.reduceAdd, Bool.false_eq_true, Nat.reduceBEq, ↓reduceIte, hk, hk2]
      first | refine ev_call (aliveW_ok _) ?_ | refine ev_callP (aliveW_ok _) ?_
      rintro v_20 H_20 le_20 rfl _
      try simp only [go_sem, Nat.reduceEqDiff, Nat.reduceAdd, Bool.false_eq_true, Nat.reduceBEq, ↓reduceIte]
      exact ⟨by trivial, by trivial⟩
    | true =>
      rw [hk, if_pos rfl] at h1 h2
      rw [hk2, if_pos rfl] at h3 h4
      have hbx := nok_bi hk
      have hby := nok_bi hk2
      generalize iv (bs a) = x at *
      generalize iv (bs b) = y at *
      try simp only [go_sem, Nat.reduceEqDiff, Nat.reduceAdd, Bool.false_eq_true, Nat.reduceBEq, ↓reduceIte, hk, hk2]
      first | refine ev_call (aliveW_ok _) ?_ | refine ev_callP (aliveW_ok _) ?_
      rintro v_40 H_40 le_40 rfl _
      replace h1 := h1.le le_40
      replace h2 := h2.le le_40
      replace h3 := h3.le le_40
      replace h4 := h4.le le_40
      try simp only [go_sem, Nat.reduceEqDiff, Nat.reduceAdd, Bool.false_eq_true, Nat.reduceBEq, ↓reduceIte]
      by_cases hy : y = 0
      · subst hy
        first | refine ev_call (wdiv_ok0 _ _ _ x h1 h3 (by omega)) ?_ | refine ev_callP (wdiv_ok0 _ _ _ x h1 h3 (by omega)) ?_
        rintro v_41 H_41 le_41 ⟨vq, vr, rfl, g1, g2⟩ _
        replace h2 := h2.le le_41
        replace h4 := h4.le le_41
        try simp only [go_sem, Nat.reduceEqDiff, Nat.reduceAdd, Bool.false_eq_true, Nat.reduceBEq, ↓reduceIte]
        obtain ⟨A5, l5, c5, b5, rfl⟩ := g1.form
        obtain ⟨A6, l6, c6, b6, rfl⟩ := g2.form
        try simp only [go_sem, Nat.reduceEqDiff, Nat.reduceAdd, Bool.false_eq_true, Nat.reduceBEq, ↓reduceIte]
        first | refine ev_call (rsign_ok _ _ 0 h4) ?_ | refine ev_callP (rsign_ok _ _ 0 h4) ?_
        rintro v_42 H_42 le_42 rfl _
        replace g1 := g1.le le_42
        replace g2 := g2.le le_42
        try simp only [go_sem, Nat.reduceEqDiff, Nat.reduceAdd, Bool.false_eq_true, Nat.reduceBEq, ↓reduceIte]
        refine ev_pos (by decide) ?_
        try simp only [go_sem, Nat.reduceEqDiff, Nat.reduceAdd, Bool.false_eq_true, Nat.reduceBEq, ↓reduceIte]
        first | refine ev_call (wtext_ok _ _ 0 g1 (by decide)) ?_ | refine ev_callP (wtext_ok _ _ 0 g1 (by decide)) ?_
        rintro v_43 H_43 le_43 rfl _
        replace g2 := g2.le le_43
        try simp only [go_sem, Nat.reduceEqDiff, Nat.reduceAdd, Bool.false_eq_true, Nat.reduceBEq, ↓reduceIte]
        refine ev_pos itxt_0 ?_
        try simp only [go_sem, Nat.reduceEqDiff, Nat.reduceAdd, Bool.false_eq_true, Nat.reduceBEq, ↓reduceIte]
        first | refine ev_call (wtext_ok _ _ 0 g2 (by decide)) ?_ | refine ev_callP (wtext_ok _ _ 0 g2 (by decide)) ?_
        rintro v_44 H_44 le_44 rfl _
        try simp only [go_sem, Nat.reduceEqDiff, Nat.reduceAdd, Bool.false_eq_true, Nat.reduceBEq, ↓reduceIte]
        refine ev_pos itxt_0 ?_
        try simp only [go_sem, Nat.reduceEqDiff, Nat.reduceAdd, Bool.false_eq_true, Nat.reduceBEq, ↓reduceIte]
        exact ⟨by trivial, by trivial⟩
      · have hbd := bi_fdiv (z := x) hy
        first | refine ev_call (wdiv_ok1 _ _ _ x y h1 h3 (by omega) (by omega) hy) ?_ | refine ev_callP (wdiv_ok1 _ _ _ x y h1 h3 (by omega) (by omega) hy) ?_
        rintro v_45 H_45 le_45 ⟨vq, vr, rfl, g1, g2⟩ _
        replace h2 := h2.le le_45
        replace h4 := h4.le le_45
        try simp only [go_sem, Nat.reduceEqDiff, Nat.reduceAdd, Bool.false_eq_true, Nat.reduceBEq, ↓reduceIte]
        obtain ⟨A5, l5, c5, b5, rfl⟩ := g1.form
        obtain ⟨A6, l6, c6, b6, rfl⟩ := g2.form
        try simp only [go_sem, Nat.reduceEqDiff, Nat.reduceAdd, Bool.false_eq_true, Nat.reduceBEq, ↓reduceIte]
        first | refine ev_call (rsign_ok _ _ y h4) ?_ | refine ev_callP (rsign_ok _ _ y h4) ?_
        rintro v_46 H_46 le_46 rfl _
        replace g1 := g1.le le_46
        replace g2 := g2.le le_46
        replace h2 := h2.le le_46
        replace h4 := h4.le le_46
        try simp only [go_sem, Nat.reduceEqDiff, Nat.reduceAdd, Bool.false_eq_true, Nat.reduceBEq, ↓reduceIte]
        refine ev_neg (by unfold sgnI; split <;> (try split) <;> omega) ?_
        try simp only [go_sem, Nat.reduceEqDiff, Nat.reduceAdd, Bool.false_eq_true, Nat.reduceBEq, ↓reduceIte]
        first | refine ev_call (rdivI_ok _ _ _ x y h2 h4 (by omega) (by omega) hy) ?_ | refine ev_callP (rdivI_ok _ _ _ x y h2 h4 (by omega) (by omega) hy) ?_
        rintro v_47 H_47 le_47 ⟨wq, wr, rfl, g3, g4⟩ _
        replace g1 := g1.le le_47
        replace g2 := g2.le le_47
        try simp only [go_sem, Nat.reduceEqDiff, Nat.reduceAdd, Bool.false_eq_true, Nat.reduceBEq, ↓reduceIte]
        obtain ⟨A7, l7, c7, b7, rfl⟩ := g3.form
        obtain ⟨A8, l8, c8, b8, rfl⟩ := g4.form
        try simp only [go_sem, Nat.reduceEqDiff, Nat.reduceAdd, Bool.false_eq_true, Nat.reduceBEq, ↓reduceIte]
        first | refine ev_call (wtext_ok _ _ _ g1 (by omega)) ?_ | refine ev_callP (wtext_ok _ _ _ g1 (by omega)) ?_
        rintro v_48 H_48 le_48 rfl _
        replace g2 := g2.le le_48
        replace g3 := g3.le le_48
        replace g4 := g4.le le_48
        try simp only [go_sem, Nat.reduceEqDiff, Nat.reduceAdd, Bool.false_eq_true, Nat.reduceBEq, ↓reduceIte]
        first | refine ev_call (rtextI_ok _ _ _ g3 (by omega)) ?_ | refine ev_callP (rtextI_ok _ _ _ g3 (by omega)) ?_
        rintro v_49 H_49 le_49 rfl _
        replace g2 := g2.le le_49
        replace g4 := g4.le le_49
        try simp only [go_sem, Nat.reduceEqDiff, Nat.reduceAdd, Bool.false_eq_true, Nat.reduceBEq, ↓reduceIte]
        refine ev_pos (by trivial) ?_
        try simp only [go_sem, Nat.reduceEqDiff, Nat.reduceAdd, Bool.false_eq_true, Nat.reduceBEq, ↓reduceIte]
        first | refine ev_call (wtext_ok _ _ _ g2 (by omega)) ?_ | refine ev_callP (wtext_ok _ _ _ g2 (by omega)) ?_
        rintro v_50 H_50 le_50 rfl _
        replace g4 := g4.le le_50
        try simp only [go_sem, Nat.reduceEqDiff, Nat.reduceAdd, Bool.false_eq_true, Nat.reduceBEq, ↓reduceIte]
        first | refine ev_call (rtextI_ok _ _ _ g4 (by omega)) ?_ | refine ev_callP (rtextI_ok _ _ _ g4 (by omega)) ?_
        rintro v_51 H_51 le_51 rfl _
        try simp only [go_sem, Nat.reduceEqDiff, Nat.reduceAdd, Bool.false_eq_true, Nat.reduceBEq, ↓reduceIte]
        refine ev_pos (by trivial) ?_
        try simp only [go_sem, Nat.reduceEqDiff, Nat.reduceAdd, Bool.false_eq_true, Nat.reduceBEq, ↓reduceIte]
        exact ⟨by trivial, by trivial⟩

theorem WholePows_ok (H : PH) (a : ByteArray) (n : Int) (wn : (Lit.int .i64 n).wf = true) : FnP Try.prog 6 [.string a, .int .i64 n] H fun v _ => v = .bool true := by
  refine of_cincturelaw2_WholePows (by simp) ?_
  try simp only [go_sem, Nat.reduceEqDiff, Nat.reduceAdd, Bool.false_eq_true, Nat.reduceBEq, ↓reduceIte, p_cincturelaw2_WholePows]
  first | refine ev_call (num_ok _ a) ?_ | refine ev_callP (num_ok _ a) ?_
  rintro v_52 H_52 le_52 ⟨va, ra, rfl, h1, h2⟩ _
  try simp only [go_sem, Nat.reduceEqDiff, Nat.reduceAdd, Bool.false_eq_true, Nat.reduceBEq, ↓reduceIte]
  obtain ⟨A1, l1, c1, b1, rfl⟩ := h1.form
  obtain ⟨A2, l2, c2, b2, rfl⟩ := h2.form
  cases hk : nok a with
  | false =>
    try simp only [go_sem, Nat.reduceEqDiff, Nat.reduceAdd, Bool.false_eq_true, Nat.reduceBEq, ↓reduceIte, hk]
    first | refine ev_call (aliveW_ok _) ?_ | refine ev_callP (aliveW_ok _) ?_
    rintro v_20 H_20 le_20 rfl _
    try simp only [go_sem, Nat.reduceEqDiff, Nat.reduceAdd, Bool.false_eq_true, Nat.reduceBEq, ↓reduceIte]
    exact ⟨by trivial, by trivial⟩
  | true =>
    rw [hk, if_pos rfl] at h1 h2
    have hbx := nok_bi hk
    generalize iv (bs a) = x at *
    try simp only [go_sem, Nat.reduceEqDiff, Nat.reduceAdd, Bool.false_eq_true, Nat.reduceBEq, ↓reduceIte, hk]
    refine ev_if (fun h => ?_) (fun h => ?_)
    · try simp only [go_sem, Nat.reduceEqDiff, Nat.reduceAdd, Bool.false_eq_true, Nat.reduceBEq, ↓reduceIte]
      first | refine ev_call (aliveW_ok _) ?_ | refine ev_callP (aliveW_ok _) ?_
      rintro v_20 H_20 le_20 rfl _
      try simp only [go_sem, Nat.reduceEqDiff, Nat.reduceAdd, Bool.false_eq_true, Nat.reduceBEq, ↓reduceIte]
      exact ⟨by trivial, by trivial⟩
    · have hN := expN_le n
      have s1 := bi_pow x (expN n)
      have s2 : expN n * bi x ≤ 255 * 600 := Nat.mul_le_mul hN hbx
      try simp only [go_sem, Nat.reduceEqDiff, Nat.reduceAdd, Bool.false_eq_true, Nat.reduceBEq, ↓reduceIte]
      first | refine ev_call (aliveW_ok _) ?_ | refine ev_callP (aliveW_ok _) ?_
      rintro v_53 H_53 le_53 rfl _
      replace h1 := h1.le le_53
      replace h2 := h2.le le_53
      try simp only [go_sem, Nat.reduceEqDiff, Nat.reduceAdd, Bool.false_eq_true, Nat.reduceBEq, ↓reduceIte]
      first | refine ev_call (wpow_ok _ _ x n h1 (by omega)) ?_ | refine ev_callP (wpow_ok _ _ x n h1 (by omega)) ?_
      rintro v_54 H_54 le_54 g1 _
      replace h2 := h2.le le_54
      try simp only [go_sem, Nat.reduceEqDiff, Nat.reduceAdd, Bool.false_eq_true, Nat.reduceBEq, ↓reduceIte]
      first | refine ev_call (wtext_ok _ _ _ g1 (by omega)) ?_ | refine ev_callP (wtext_ok _ _ _ g1 (by omega)) ?_
      rintro v_55 H_55 le_55 rfl _
      replace h2 := h2.le le_55
      try simp only [go_sem, Nat.reduceEqDiff, Nat.reduceAdd, Bool.false_eq_true, Nat.reduceBEq, ↓reduceIte]
      first | refine ev_call (rpowI_ok _ _ x n h2 (by omega)) ?_ | refine ev_callP (rpowI_ok _ _ x n h2 (by omega)) ?_
      rintro v_56 H_56 le_56 g2 _
      try simp only [go_sem, Nat.reduceEqDiff, Nat.reduceAdd, Bool.false_eq_true, Nat.reduceBEq, ↓reduceIte]
      first | refine ev_call (rtextI_ok _ _ _ g2 (by omega)) ?_ | refine ev_callP (rtextI_ok _ _ _ g2 (by omega)) ?_
      rintro v_57 H_57 le_57 rfl _
      try simp only [go_sem, Nat.reduceEqDiff, Nat.reduceAdd, Bool.false_eq_true, Nat.reduceBEq, ↓reduceIte]
      refine ev_pos (by trivial) ?_
      try simp only [go_sem, Nat.reduceEqDiff, Nat.reduceAdd, Bool.false_eq_true, Nat.reduceBEq, ↓reduceIte]
      exact ⟨by trivial, by trivial⟩

end Go.Proofs.Ytbmcchmbfpmjkaa.X
set_option linter.unusedVariables false
set_option linter.unusedSimpArgs false
namespace Go.Proofs.Ytbmcchmbfpmjkaa.X
open Go Go.RowKit Go.Proofs

theorem WholeRings_ok (H : PH) (a b c : ByteArray) : FnP Try.prog 10 [.string a, .string b, .string c] H fun v _ => v = .bool true := by
  refine of_cincturelaw2_WholeRings (by simp) ?_
  try simp only [go_sem, Nat.reduceEqDiff, Nat.reduceAdd, Bool.false_eq_true, Nat.reduceBEq, ↓reduceIte, p_cincturelaw2_WholeRings]
  first | refine ev_call (num_ok _ a) ?_ | refine ev_callP (num_ok _ a) ?_
  rintro v_2 H_2 le_2 ⟨va, ra, rfl, h1, h2⟩ _
  try simp only [go_sem, Nat.reduceEqDiff, Nat.reduceAdd, Bool.false_eq_true, Nat.reduceBEq, ↓reduceIte]
  obtain ⟨A1, l1, c1, b1, rfl⟩ := h1.form
  obtain ⟨A2, l2, c2, b2, rfl⟩ := h2.form
  try simp only [go_sem, Nat.reduceEqDiff, Nat.reduceAdd, Bool.false_eq_true, Nat.reduceBEq, ↓reduceIte]
  first | refine ev_call (num_ok _ b) ?_ | refine ev_callP (num_ok _ b) ?_
  rintro v_3 H_3 le_3 ⟨vb, rb, rfl, h3, h4⟩ _
  replace h1 := h1.le le_3
  try simp only [go_sem, Nat.reduceEqDiff, Nat.reduceAdd, Bool.false_eq_true, Nat.reduceBEq, ↓reduceIte]
  obtain ⟨A3, l3, c3, b3, rfl⟩ := h3.form
  obtain ⟨A4, l4, c4, b4, rfl⟩ := h4.form
  try simp only [go_sem, Nat.reduceEqDiff, Nat.reduceAdd, Bool.false_eq_true, Nat.reduceBEq, ↓reduceIte]
  first | refine ev_call (num_ok _ c) ?_ | refine ev_callP (num_ok _ c) ?_
  rintro v_4 H_4 le_4 ⟨vc, rc, rfl, h5, h6⟩ _
  replace h1 := h1.le le_4
  replace h3 := h3.le le_4
  try simp only [go_sem, Nat.reduceEqDiff, Nat.reduceAdd, Bool.false_eq_true, Nat.reduceBEq, ↓reduceIte]
  obtain ⟨A5, l5, c5, b5, rfl⟩ := h5.form
  obtain ⟨A6, l6, c6, b6, rfl⟩ := h6.form
  cases hk : nok a with
  | false =>
    try simp only [go_sem, Nat.reduceEqDiff, Nat.reduceAdd, Bool.false_eq_true, Nat.reduceBEq, ↓reduceIte, hk]
    first | refine ev_call (aliveW_ok _) ?_ | refine ev_callP (aliveW_ok _) ?_
    rintro v_1 H_1 le_1 rfl _
    try simp only [go_sem, Nat.reduceEqDiff, Nat.reduceAdd, Bool.false_eq_true, Nat.reduceBEq, ↓reduceIte]
    exact ⟨by trivial, by trivial⟩
  | true =>
    cases hk2 : nok b with
    | false =>
      try simp only [go_sem, Nat.reduceEqDiff, Nat.reduceAdd, Bool.false_eq_true, Nat.reduceBEq, ↓reduceIte, hk, hk2]
      first | refine ev_call (aliveW_ok _) ?_ | refine ev_callP (aliveW_ok _) ?_
      rintro v_1 H_1 le_1 rfl _
      try simp only [go_sem, Nat.reduceEqDiff, Nat.reduceAdd, Bool.false_eq_true, Nat.reduceBEq, ↓reduceIte]
      exact ⟨by trivial, by trivial⟩
    | true =>
      cases hk3 : nok c with
      | false =>
        try simp only [go_sem, Nat.reduceEqDiff, Nat.reduceAdd, Bool.false_eq_true, Nat.reduceBEq, ↓reduceIte, hk, hk2, hk3]
        first | refine ev_call (aliveW_ok _) ?_ | refine ev_callP (aliveW_ok _) ?_
        rintro v_1 H_1 le_1 rfl _
        try simp only [go_sem, Nat.reduceEqDiff, Nat.reduceAdd, Bool.false_eq_true, Nat.reduceBEq, ↓reduceIte]
        exact ⟨by trivial, by trivial⟩
      | true =>
        rw [hk, if_pos rfl] at h1
        rw [hk2, if_pos rfl] at h3
        rw [hk3, if_pos rfl] at h5
        have hbx := nok_bi hk
        have hby := nok_bi hk2
        have hbz := nok_bi hk3
        generalize iv (bs a) = x at *
        generalize iv (bs b) = y at *
        generalize iv (bs c) = z at *
        have s1 := bi_add x y
        have s2 := bi_add y x
        have s3 := bi_sub x y
        have s4 := bi_sub y x
        have s5 := bi_neg (y - x)
        have m1 := bi_mul (x + y) z
        have m2 := bi_mul z x
        have m3 := bi_mul z y
        have s6 := bi_add (z * x) (z * y)
        have s7 := bi_sub (x + y) (y + x)
        try simp only [go_sem, Nat.reduceEqDiff, Nat.reduceAdd, Bool.false_eq_true, Nat.reduceBEq, ↓reduceIte, hk, hk2, hk3]
        first | refine ev_call (aliveW_ok _) ?_ | refine ev_callP (aliveW_ok _) ?_
        rintro v_5 H_5 le_5 rfl _
        replace h1 := h1.le le_5
        replace h3 := h3.le le_5
        replace h5 := h5.le le_5
        try simp only [go_sem, Nat.reduceEqDiff, Nat.reduceAdd, Bool.false_eq_true, Nat.reduceBEq, ↓reduceIte]
        first | refine ev_call (wadd_ok _ _ _ x y h1 h3 (by omega) (by omega)) ?_ | refine ev_callP (wadd_ok _ _ _ x y h1 h3 (by omega) (by omega)) ?_
        rintro v_6 H_6 le_6 g1 _
        replace h1 := h1.le le_6
        replace h3 := h3.le le_6
        replace h5 := h5.le le_6
        try simp only [go_sem, Nat.reduceEqDiff, Nat.reduceAdd, Bool.false_eq_true, Nat.reduceBEq, ↓reduceIte]
        first | refine ev_call (wmul_ok _ _ _ _ z g1 h5 (by omega)) ?_ | refine ev_callP (wmul_ok _ _ _ _ z g1 h5 (by omega)) ?_
        rintro v_7 H_7 le_7 g2 _
        replace h1 := h1.le le_7
        replace h3 := h3.le le_7
        replace h5 := h5.le le_7
        try simp only [go_sem, Nat.reduceEqDiff, Nat.reduceAdd, Bool.false_eq_true, Nat.reduceBEq, ↓reduceIte]
        first | refine ev_call (wmul_ok _ _ _ z x h5 h1 (by omega)) ?_ | refine ev_callP (wmul_ok _ _ _ z x h5 h1 (by omega)) ?_
        rintro v_8 H_8 le_8 g3 _
        replace h1 := h1.le le_8
        replace h3 := h3.le le_8
        replace h5 := h5.le le_8
        replace g2 := g2.le le_8
        try simp only [go_sem, Nat.reduceEqDiff, Nat.reduceAdd, Bool.false_eq_true, Nat.reduceBEq, ↓reduceIte]
        first | refine ev_call (wmul_ok _ _ _ z y h5 h3 (by omega)) ?_ | refine ev_callP (wmul_ok _ _ _ z y h5 h3 (by omega)) ?_
        rintro v_9 H_9 le_9 g4 _
        replace h1 := h1.le le_9
        replace h3 := h3.le le_9
        replace g2 := g2.le le_9
        replace g3 := g3.le le_9
        try simp only [go_sem, Nat.reduceEqDiff, Nat.reduceAdd, Bool.false_eq_true, Nat.reduceBEq, ↓reduceIte]
        first | refine ev_call (wadd_ok _ _ _ _ _ g3 g4 (by omega) (by omega)) ?_ | refine ev_callP (wadd_ok _ _ _ _ _ g3 g4 (by omega) (by omega)) ?_
        rintro v_10 H_10 le_10 g5 _
        replace h1 := h1.le le_10
        replace h3 := h3.le le_10
        replace g2 := g2.le le_10
        try simp only [go_sem, Nat.reduceEqDiff, Nat.reduceAdd, Bool.false_eq_true, Nat.reduceBEq, ↓reduceIte]
        first | refine ev_call (wcmp_ok _ _ _ _ _ g2 g5 (by omega) (by omega)) ?_ | refine ev_callP (wcmp_ok _ _ _ _ _ g2 g5 (by omega) (by omega)) ?_
        rintro v_11 H_11 le_11 rfl _
        replace h1 := h1.le le_11
        replace h3 := h3.le le_11
        try simp only [go_sem, Nat.reduceEqDiff, Nat.reduceAdd, Bool.false_eq_true, Nat.reduceBEq, ↓reduceIte]
        refine ev_pos (cmpI_eq (by rw [Int.mul_comm, Int.mul_add])) ?_
        try simp only [go_sem, Nat.reduceEqDiff, Nat.reduceAdd, Bool.false_eq_true, Nat.reduceBEq, ↓reduceIte]
        first | refine ev_call (wadd_ok _ _ _ x y h1 h3 (by omega) (by omega)) ?_ | refine ev_callP (wadd_ok _ _ _ x y h1 h3 (by omega) (by omega)) ?_
        rintro v_12 H_12 le_12 g1 _
        replace h1 := h1.le le_12
        replace h3 := h3.le le_12
        try simp only [go_sem, Nat.reduceEqDiff, Nat.reduceAdd, Bool.false_eq_true, Nat.reduceBEq, ↓reduceIte]
        first | refine ev_call (wadd_ok _ _ _ y x h3 h1 (by omega) (by omega)) ?_ | refine ev_callP (wadd_ok _ _ _ y x h3 h1 (by omega) (by omega)) ?_
        rintro v_13 H_13 le_13 g2 _
        replace h1 := h1.le le_13
        replace h3 := h3.le le_13
        replace g1 := g1.le le_13
        try simp only [go_sem, Nat.reduceEqDiff, Nat.reduceAdd, Bool.false_eq_true, Nat.reduceBEq, ↓reduceIte]
        first | refine ev_call (wsub_ok _ _ _ _ _ g1 g2 (by omega) (by omega)) ?_ | refine ev_callP (wsub_ok _ _ _ _ _ g1 g2 (by omega) (by omega)) ?_
        rintro v_14 H_14 le_14 g3 _
        replace h1 := h1.le le_14
        replace h3 := h3.le le_14
        try simp only [go_sem, Nat.reduceEqDiff, Nat.reduceAdd, Bool.false_eq_true, Nat.reduceBEq, ↓reduceIte]
        first | refine ev_call (wsign_ok _ _ _ g3 (by omega)) ?_ | refine ev_callP (wsign_ok _ _ _ g3 (by omega)) ?_
        rintro v_15 H_15 le_15 rfl _
        replace h1 := h1.le le_15
        replace h3 := h3.le le_15
        try simp only [go_sem, Nat.reduceEqDiff, Nat.reduceAdd, Bool.false_eq_true, Nat.reduceBEq, ↓reduceIte]
        refine ev_pos (by rw [show x + y - (y + x) = 0 by omega]; rfl) ?_
        try simp only [go_sem, Nat.reduceEqDiff, Nat.reduceAdd, Bool.false_eq_true, Nat.reduceBEq, ↓reduceIte]
        first | refine ev_call (wsub_ok _ _ _ x y h1 h3 (by omega) (by omega)) ?_ | refine ev_callP (wsub_ok _ _ _ x y h1 h3 (by omega) (by omega)) ?_
        rintro v_16 H_16 le_16 g1 _
        replace h1 := h1.le le_16
        replace h3 := h3.le le_16
        try simp only [go_sem, Nat.reduceEqDiff, Nat.reduceAdd, Bool.false_eq_true, Nat.reduceBEq, ↓reduceIte]
        first | refine ev_call (wsub_ok _ _ _ y x h3 h1 (by omega) (by omega)) ?_ | refine ev_callP (wsub_ok _ _ _ y x h3 h1 (by omega) (by omega)) ?_
        rintro v_17 H_17 le_17 g2 _
        replace g1 := g1.le le_17
        try simp only [go_sem, Nat.reduceEqDiff, Nat.reduceAdd, Bool.false_eq_true, Nat.reduceBEq, ↓reduceIte]
        first | refine ev_call (wneg_ok _ _ _ g2 (by omega)) ?_ | refine ev_callP (wneg_ok _ _ _ g2 (by omega)) ?_
        rintro v_18 H_18 le_18 g3 _
        replace g1 := g1.le le_18
        try simp only [go_sem, Nat.reduceEqDiff, Nat.reduceAdd, Bool.false_eq_true, Nat.reduceBEq, ↓reduceIte]
        first | refine ev_call (wcmp_ok _ _ _ _ _ g1 g3 (by omega) (by omega)) ?_ | refine ev_callP (wcmp_ok _ _ _ _ _ g1 g3 (by omega) (by omega)) ?_
        rintro v_19 H_19 le_19 rfl _
        try simp only [go_sem, Nat.reduceEqDiff, Nat.reduceAdd, Bool.false_eq_true, Nat.reduceBEq, ↓reduceIte]
        refine ev_pos (cmpI_eq (by omega)) ?_
        try simp only [go_sem, Nat.reduceEqDiff, Nat.reduceAdd, Bool.false_eq_true, Nat.reduceBEq, ↓reduceIte]
        exact ⟨by trivial, by trivial⟩

theorem cmpI_add (x y z : Int) : cmpI (x + z) (y + z) = cmpI x y := by
  unfold cmpI
  by_cases h : x < y
  · rw [if_pos h, if_pos (by omega)]
  · rw [if_neg h, if_neg (by omega)]
    by_cases h2 : y < x
    · rw [if_pos h2, if_pos (by omega)]
    · rw [if_neg h2, if_neg (by omega)]
theorem cmpI_swap (x y : Int) : cmpI y x = -(cmpI x y) := by
  rcases Int.lt_trichotomy x y with h | h | h
  · rw [cmpI_gt h, cmpI_lt h]; rfl
  · rw [cmpI_eq h.symm, cmpI_eq h]; rfl
  · rw [cmpI_lt h, cmpI_gt h]
theorem cmpI_mul (x y z : Int) : cmpI (x * z) (y * z) = cmpI x y * sgnI z := by
  rw [← sgn_sub, ← sgn_sub, ← Int.sub_mul]
  generalize x - y = d
  have hsg : ∀ e : Int, sgnI e = e.sign := by
    intro e
    unfold sgnI
    by_cases h : e < 0
    · rw [if_pos h, Int.sign_eq_neg_one_of_neg h]
    · rw [if_neg h]
      by_cases h2 : 0 < e
      · rw [if_pos h2, Int.sign_eq_one_of_pos h2]
      · rw [if_neg h2, show e = 0 by omega]; rfl
  rw [hsg, hsg, hsg, Int.sign_mul]
theorem cmpI_cases (x y : Int) : cmpI x y = -1 ∨ cmpI x y = 0 ∨ cmpI x y = 1 := by
  unfold cmpI
  by_cases h : x < y
  · rw [if_pos h]; exact .inl rfl
  · rw [if_neg h]
    by_cases h2 : y < x
    · rw [if_pos h2]; exact .inr (.inr rfl)
    · rw [if_neg h2]; exact .inr (.inl rfl)
theorem sgnI_cases (x : Int) : sgnI x = -1 ∨ sgnI x = 0 ∨ sgnI x = 1 := by
  rw [← show x - 0 = x by omega, sgn_sub]; exact cmpI_cases x 0

theorem WholeOrders_ok (H : PH) (a b c : ByteArray) : FnP Try.prog 8 [.string a, .string b, .string c] H fun v _ => v = .bool true := by
  refine of_cincturelaw2_WholeOrders (by simp) ?_
  try simp only [go_sem, Nat.reduceEqDiff, Nat.reduceAdd, Bool.false_eq_true, Nat.reduceBEq, ↓reduceIte, p_cincturelaw2_WholeOrders]
  first | refine ev_call (num_ok _ a) ?_ | refine ev_callP (num_ok _ a) ?_
  rintro v_2 H_2 le_2 ⟨va, ra, rfl, h1, h2⟩ _
  try simp only [go_sem, Nat.reduceEqDiff, Nat.reduceAdd, Bool.false_eq_true, Nat.reduceBEq, ↓reduceIte]
  obtain ⟨A1, l1, c1, b1, rfl⟩ := h1.form
  obtain ⟨A2, l2, c2, b2, rfl⟩ := h2.form
  try simp only [go_sem, Nat.reduceEqDiff, Nat.reduceAdd, Bool.false_eq_true, Nat.reduceBEq, ↓reduceIte]
  first | refine ev_call (num_ok _ b) ?_ | refine ev_callP (num_ok _ b) ?_
  rintro v_3 H_3 le_3 ⟨vb, rb, rfl, h3, h4⟩ _
  replace h1 := h1.le le_3
  try simp only [go_sem, Nat.reduceEqDiff, Nat.reduceAdd, Bool.false_eq_true, Nat.reduceBEq, ↓reduceIte]
  obtain ⟨A3, l3, c3, b3, rfl⟩ := h3.form
  obtain ⟨A4, l4, c4, b4, rfl⟩ := h4.form
  try simp only [go_sem, Nat.reduceEqDiff, Nat.reduceAdd, Bool.false_eq_true, Nat.reduceBEq, ↓reduceIte]
  first | refine ev_call (num_ok _ c) ?_ | refine ev_callP (num_ok _ c) ?_
  rintro v_4 H_4 le_4 ⟨vc, rc, rfl, h5, h6⟩ _
  replace h1 := h1.le le_4
  replace h3 := h3.le le_4
  try simp only [go_sem, Nat.reduceEqDiff, Nat.reduceAdd, Bool.false_eq_true, Nat.reduceBEq, ↓reduceIte]
  obtain ⟨A5, l5, c5, b5, rfl⟩ := h5.form
  obtain ⟨A6, l6, c6, b6, rfl⟩ := h6.form
  cases hk : nok a with
  | false =>
    try simp only [go_sem, Nat.reduceEqDiff, Nat.reduceAdd, Bool.false_eq_true, Nat.reduceBEq, ↓reduceIte, hk]
    first | refine ev_call (aliveW_ok _) ?_ | refine ev_callP (aliveW_ok _) ?_
    rintro v_1 H_1 le_1 rfl _
    try simp only [go_sem, Nat.reduceEqDiff, Nat.reduceAdd, Bool.false_eq_true, Nat.reduceBEq, ↓reduceIte]
    exact ⟨by trivial, by trivial⟩
  | true =>
    cases hk2 : nok b with
    | false =>
      try simp only [go_sem, Nat.reduceEqDiff, Nat.reduceAdd, Bool.false_eq_true, Nat.reduceBEq, ↓reduceIte, hk, hk2]
      first | refine ev_call (aliveW_ok _) ?_ | refine ev_callP (aliveW_ok _) ?_
      rintro v_1 H_1 le_1 rfl _
      try simp only [go_sem, Nat.reduceEqDiff, Nat.reduceAdd, Bool.false_eq_true, Nat.reduceBEq, ↓reduceIte]
      exact ⟨by trivial, by trivial⟩
    | true =>
      cases hk3 : nok c with
      | false =>
        try simp only [go_sem, Nat.reduceEqDiff, Nat.reduceAdd, Bool.false_eq_true, Nat.reduceBEq, ↓reduceIte, hk, hk2, hk3]
        first | refine ev_call (aliveW_ok _) ?_ | refine ev_callP (aliveW_ok _) ?_
        rintro v_1 H_1 le_1 rfl _
        try simp only [go_sem, Nat.reduceEqDiff, Nat.reduceAdd, Bool.false_eq_true, Nat.reduceBEq, ↓reduceIte]
        exact ⟨by trivial, by trivial⟩
      | true =>
        rw [hk, if_pos rfl] at h1
        rw [hk2, if_pos rfl] at h3
        rw [hk3, if_pos rfl] at h5
        have hbx := nok_bi hk
        have hby := nok_bi hk2
        have hbz := nok_bi hk3
        generalize iv (bs a) = x at *
        generalize iv (bs b) = y at *
        generalize iv (bs c) = z at *
        have s1 := bi_add x z
        have s2 := bi_add y z
        have m1 := bi_mul x z
        have m2 := bi_mul y z
        have k1 := cmpI_cases x y
        have k2 := sgnI_cases z
        try simp only [go_sem, Nat.reduceEqDiff, Nat.reduceAdd, Bool.false_eq_true, Nat.reduceBEq, ↓reduceIte, hk, hk2, hk3]
        first | refine ev_call (aliveW_ok _) ?_ | refine ev_callP (aliveW_ok _) ?_
        rintro v_20 H_20 le_20 rfl _
        replace h1 := h1.le le_20
        replace h3 := h3.le le_20
        replace h5 := h5.le le_20
        try simp only [go_sem, Nat.reduceEqDiff, Nat.reduceAdd, Bool.false_eq_true, Nat.reduceBEq, ↓reduceIte]
        first | refine ev_call (wcmp_ok _ _ _ x y h1 h3 (by omega) (by omega)) ?_ | refine ev_callP (wcmp_ok _ _ _ x y h1 h3 (by omega) (by omega)) ?_
        rintro v_21 H_21 le_21 rfl _
        replace h1 := h1.le le_21
        replace h3 := h3.le le_21
        replace h5 := h5.le le_21
        try simp only [go_sem, Nat.reduceEqDiff, Nat.reduceAdd, Bool.false_eq_true, Nat.reduceBEq, ↓reduceIte]
        first | refine ev_call (wadd_ok _ _ _ x z h1 h5 (by omega) (by omega)) ?_ | refine ev_callP (wadd_ok _ _ _ x z h1 h5 (by omega) (by omega)) ?_
        rintro v_22 H_22 le_22 g1 _
        replace h1 := h1.le le_22
        replace h3 := h3.le le_22
        replace h5 := h5.le le_22
        try simp only [go_sem, Nat.reduceEqDiff, Nat.reduceAdd, Bool.false_eq_true, Nat.reduceBEq, ↓reduceIte]
        first | refine ev_call (wadd_ok _ _ _ y z h3 h5 (by omega) (by omega)) ?_ | refine ev_callP (wadd_ok _ _ _ y z h3 h5 (by omega) (by omega)) ?_
        rintro v_23 H_23 le_23 g2 _
        replace h1 := h1.le le_23
        replace h3 := h3.le le_23
        replace h5 := h5.le le_23
        replace g1 := g1.le le_23
        try simp only [go_sem, Nat.reduceEqDiff, Nat.reduceAdd, Bool.false_eq_true, Nat.reduceBEq, ↓reduceIte]
        first | refine ev_call (wcmp_ok _ _ _ _ _ g1 g2 (by omega) (by omega)) ?_ | refine ev_callP (wcmp_ok _ _ _ _ _ g1 g2 (by omega) (by omega)) ?_
        rintro v_24 H_24 le_24 rfl _
        replace h1 := h1.le le_24
        replace h3 := h3.le le_24
        replace h5 := h5.le le_24
        try simp only [go_sem, Nat.reduceEqDiff, Nat.reduceAdd, Bool.false_eq_true, Nat.reduceBEq, ↓reduceIte]
        refine ev_pos (cmpI_add x y z) ?_
        try simp only [go_sem, Nat.reduceEqDiff, Nat.reduceAdd, Bool.false_eq_true, Nat.reduceBEq, ↓reduceIte]
        first | refine ev_call (wmul_ok _ _ _ x z h1 h5 (by omega)) ?_ | refine ev_callP (wmul_ok _ _ _ x z h1 h5 (by omega)) ?_
        rintro v_25 H_25 le_25 g1 _
        replace h1 := h1.le le_25
        replace h3 := h3.le le_25
        replace h5 := h5.le le_25
        try simp only [go_sem, Nat.reduceEqDiff, Nat.reduceAdd, Bool.false_eq_true, Nat.reduceBEq, ↓reduceIte]
        first | refine ev_call (wmul_ok _ _ _ y z h3 h5 (by omega)) ?_ | refine ev_callP (wmul_ok _ _ _ y z h3 h5 (by omega)) ?_
        rintro v_26 H_26 le_26 g2 _
        replace h1 := h1.le le_26
        replace h3 := h3.le le_26
        replace h5 := h5.le le_26
        replace g1 := g1.le le_26
        try simp only [go_sem, Nat.reduceEqDiff, Nat.reduceAdd, Bool.false_eq_true, Nat.reduceBEq, ↓reduceIte]
        first | refine ev_call (wcmp_ok _ _ _ _ _ g1 g2 (by omega) (by omega)) ?_ | refine ev_callP (wcmp_ok _ _ _ _ _ g1 g2 (by omega) (by omega)) ?_
        rintro v_27 H_27 le_27 rfl _
        replace h1 := h1.le le_27
        replace h3 := h3.le le_27
        replace h5 := h5.le le_27
        try simp only [go_sem, Nat.reduceEqDiff, Nat.reduceAdd, Bool.false_eq_true, Nat.reduceBEq, ↓reduceIte]
        first | refine ev_call (wsign_ok _ _ z h5 (by omega)) ?_ | refine ev_callP (wsign_ok _ _ z h5 (by omega)) ?_
        rintro v_28 H_28 le_28 rfl _
        replace h1 := h1.le le_28
        replace h3 := h3.le le_28
        try simp only [go_sem, Nat.reduceEqDiff, Nat.reduceAdd, Bool.false_eq_true, Nat.reduceBEq, ↓reduceIte]
        refine ev_pos (by rw [cmpI_mul, w64 _ (by rcases k1 with h | h | h <;> rcases k2 with h' | h' | h' <;> rw [h, h'] <;> decide) (by rcases k1 with h | h | h <;> rcases k2 with h' | h' | h' <;> rw [h, h'] <;> decide)]) ?_
        try simp only [go_sem, Nat.reduceEqDiff, Nat.reduceAdd, Bool.false_eq_true, Nat.reduceBEq, ↓reduceIte]
        first | refine ev_call (wcmp_ok _ _ _ y x h3 h1 (by omega) (by omega)) ?_ | refine ev_callP (wcmp_ok _ _ _ y x h3 h1 (by omega) (by omega)) ?_
        rintro v_29 H_29 le_29 rfl _
        try simp only [go_sem, Nat.reduceEqDiff, Nat.reduceAdd, Bool.false_eq_true, Nat.reduceBEq, ↓reduceIte]
        refine ev_pos (by rw [cmpI_swap x y, w64 _ (by omega) (by omega)]; omega) ?_
        try simp only [go_sem, Nat.reduceEqDiff, Nat.reduceAdd, Bool.false_eq_true, Nat.reduceBEq, ↓reduceIte]
        exact ⟨by trivial, by trivial⟩

theorem fdiv_fmod (x y : Int) : x.fdiv y * y + x.fmod y = x := by
  rw [Int.fmod_def, Int.mul_comm]; omega
theorem fmod_lt {x y : Int} (hy : y ≠ 0) : (x.fmod y).natAbs < y.natAbs ∧ (sgnI (x.fmod y) = 0 ∨ sgnI (x.fmod y) = sgnI y) := by
  rcases Int.lt_or_gt_of_ne hy with h | h
  · have h1 : x.fmod y ≤ 0 := by
      have := Int.fmod_nonneg_of_pos (-x) (b := -y) (by omega)
      rw [Int.neg_fmod_neg] at this; omega
    have h2 : y < x.fmod y := by
      have := Int.fmod_lt_of_pos (-x) (b := -y) (by omega)
      rw [Int.neg_fmod_neg] at this; omega
    refine ⟨by omega, ?_⟩
    unfold sgnI
    rw [if_pos h]
    by_cases h3 : x.fmod y < 0
    · rw [if_pos h3]; exact .inr rfl
    · rw [if_neg h3, if_neg (by omega)]; exact .inl rfl
  · have h1 := Int.fmod_nonneg_of_pos x (b := y) h
    have h2 := Int.fmod_lt_of_pos x (b := y) h
    refine ⟨by omega, ?_⟩
    unfold sgnI
    rw [if_neg (show ¬ x.fmod y < 0 by omega), if_neg (show ¬ y < 0 by omega), if_pos h]
    by_cases h3 : 0 < x.fmod y
    · rw [if_pos h3]; exact .inr rfl
    · rw [if_neg h3]; exact .inl rfl

theorem WholeBack_ok (H : PH) (a b : ByteArray) : FnP Try.prog 9 [.string a, .string b] H fun v _ => v = .bool true := by
  refine of_cincturelaw2_WholeBack (by simp) ?_
  try simp only [go_sem, Nat.reduceEqDiff, Nat.reduceAdd, Bool.false_eq_true, Nat.reduceBEq, ↓reduceIte, p_cincturelaw2_WholeBack]
  first | refine ev_call (num_ok _ a) ?_ | refine ev_callP (num_ok _ a) ?_
  rintro v_30 H_30 le_30 ⟨va, ra, rfl, h1, h2⟩ _
  try simp only [go_sem, Nat.reduceEqDiff, Nat.reduceAdd, Bool.false_eq_true, Nat.reduceBEq, ↓reduceIte]
  obtain ⟨A1, l1, c1, b1, rfl⟩ := h1.form
  obtain ⟨A2, l2, c2, b2, rfl⟩ := h2.form
  try simp only [go_sem, Nat.reduceEqDiff, Nat.reduceAdd, Bool.false_eq_true, Nat.reduceBEq, ↓reduceIte]
  first | refine ev_call (num_ok _ b) ?_ | refine ev_callP (num_ok _ b) ?_
  rintro v_31 H_31 le_31 ⟨vb, rb, rfl, h3, h4⟩ _
  replace h1 := h1.le le_31
  try simp only [go_sem, Nat.reduceEqDiff, Nat.reduceAdd, Bool.false_eq_true, Nat.reduceBEq, ↓reduceIte]
  obtain ⟨A3, l3, c3, b3, rfl⟩ := h3.form
  obtain ⟨A4, l4, c4, b4, rfl⟩ := h4.form
  cases hk : nok a with
  | false =>
    try simp only [go_sem, Nat.reduceEqDiff, Nat.reduceAdd, Bool.false_eq_true, Nat.reduceBEq, ↓reduceIte, hk]
    first | refine ev_call (aliveW_ok _) ?_ | refine ev_callP (aliveW_ok _) ?_
    rintro v_1 H_1 le_1 rfl _
    try simp only [go_sem, Nat.reduceEqDiff, Nat.reduceAdd, Bool.false_eq_true, Nat.reduceBEq, ↓reduceIte]
    exact ⟨by trivial, by trivial⟩
  | true =>
    cases hk2 : nok b with
    | false =>
      try simp only [go_sem, Nat.reduceEqDiff, Nat.reduceAdd, Bool.false_eq_true, Nat.reduceBEq, ↓reduceIte, hk, hk2]
      first | refine ev_call (aliveW_ok _) ?_ | refine ev_callP (aliveW_ok _) ?_
      rintro v_1 H_1 le_1 rfl _
      try simp only [go_sem, Nat.reduceEqDiff, Nat.reduceAdd, Bool.false_eq_true, Nat.reduceBEq, ↓reduceIte]
      exact ⟨by trivial, by trivial⟩
    | true =>
      rw [hk, if_pos rfl] at h1
      rw [hk2, if_pos rfl] at h3
      have hbx := nok_bi hk
      have hby := nok_bi hk2
      generalize iv (bs a) = x at *
      generalize iv (bs b) = y at *
      try simp only [go_sem, Nat.reduceEqDiff, Nat.reduceAdd, Bool.false_eq_true, Nat.reduceBEq, ↓reduceIte, hk, hk2]
      first | refine ev_call (wsign_ok _ _ y h3 (by omega)) ?_ | refine ev_callP (wsign_ok _ _ y h3 (by omega)) ?_
      rintro v_32 H_32 le_32 rfl _
      replace h1 := h1.le le_32
      replace h3 := h3.le le_32
      try simp only [go_sem, Nat.reduceEqDiff, Nat.reduceAdd, Bool.false_eq_true, Nat.reduceBEq, ↓reduceIte]
      refine ev_if (fun h => ?_) (fun h => ?_)
      · try simp only [go_sem, Nat.reduceEqDiff, Nat.reduceAdd, Bool.false_eq_true, Nat.reduceBEq, ↓reduceIte]
        first | refine ev_call (aliveW_ok _) ?_ | refine ev_callP (aliveW_ok _) ?_
        rintro v_1 H_1 le_1 rfl _
        try simp only [go_sem, Nat.reduceEqDiff, Nat.reduceAdd, Bool.false_eq_true, Nat.reduceBEq, ↓reduceIte]
        exact ⟨by trivial, by trivial⟩
      · have hy : y ≠ 0 := fun e => h (by rw [e]; rfl)
        obtain ⟨hd1, hd2⟩ := bi_fdiv (z := x) hy
        have m1 := bi_mul (x.fdiv y) y
        obtain ⟨f1, f2⟩ := fmod_lt (x := x) hy
        have f3 := fdiv_fmod x y
        try simp only [go_sem, Nat.reduceEqDiff, Nat.reduceAdd, Bool.false_eq_true, Nat.reduceBEq, ↓reduceIte]
        first | refine ev_call (aliveW_ok _) ?_ | refine ev_callP (aliveW_ok _) ?_
        rintro v_33 H_33 le_33 rfl _
        replace h1 := h1.le le_33
        replace h3 := h3.le le_33
        try simp only [go_sem, Nat.reduceEqDiff, Nat.reduceAdd, Bool.false_eq_true, Nat.reduceBEq, ↓reduceIte]
        first | refine ev_call (wdiv_ok1 _ _ _ x y h1 h3 (by omega) (by omega) hy) ?_ | refine ev_callP (wdiv_ok1 _ _ _ x y h1 h3 (by omega) (by omega) hy) ?_
        rintro v_34 H_34 le_34 ⟨vq, vr, rfl, g1, g2⟩ _
        replace h1 := h1.le le_34
        replace h3 := h3.le le_34
        try simp only [go_sem, Nat.reduceEqDiff, Nat.reduceAdd, Bool.false_eq_true, Nat.reduceBEq, ↓reduceIte]
        obtain ⟨A5, l5, c5, b5, rfl⟩ := g1.form
        obtain ⟨A6, l6, c6, b6, rfl⟩ := g2.form
        try simp only [go_sem, Nat.reduceEqDiff, Nat.reduceAdd, Bool.false_eq_true, Nat.reduceBEq, ↓reduceIte]
        first | refine ev_call (wmul_ok _ _ _ _ y g1 h3 (by omega)) ?_ | refine ev_callP (wmul_ok _ _ _ _ y g1 h3 (by omega)) ?_
        rintro v_35 H_35 le_35 g3 _
        replace h1 := h1.le le_35
        replace h3 := h3.le le_35
        replace g2 := g2.le le_35
        try simp only [go_sem, Nat.reduceEqDiff, Nat.reduceAdd, Bool.false_eq_true, Nat.reduceBEq, ↓reduceIte]
        first | refine ev_call (wadd_ok _ _ _ _ _ g3 g2 (by omega) (by omega)) ?_ | refine ev_callP (wadd_ok _ _ _ _ _ g3 g2 (by omega) (by omega)) ?_
        rintro v_36 H_36 le_36 g4 _
        replace h1 := h1.le le_36
        replace h3 := h3.le le_36
        replace g2 := g2.le le_36
        try simp only [go_sem, Nat.reduceEqDiff, Nat.reduceAdd, Bool.false_eq_true, Nat.reduceBEq, ↓reduceIte]
        rw [f3] at g4
        first | refine ev_call (wcmp_ok _ _ _ x x g4 h1 (by omega) (by omega)) ?_ | refine ev_callP (wcmp_ok _ _ _ x x g4 h1 (by omega) (by omega)) ?_
        rintro v_37 H_37 le_37 rfl _
        replace h3 := h3.le le_37
        replace g2 := g2.le le_37
        try simp only [go_sem, Nat.reduceEqDiff, Nat.reduceAdd, Bool.false_eq_true, Nat.reduceBEq, ↓reduceIte]
        refine ev_pos (cmpI_self x) ?_
        try simp only [go_sem, Nat.reduceEqDiff, Nat.reduceAdd, Bool.false_eq_true, Nat.reduceBEq, ↓reduceIte]
        first | refine ev_call (wabs_ok _ _ _ g2) ?_ | refine ev_callP (wabs_ok _ _ _ g2) ?_
        rintro v_38 H_38 le_38 g5 _
        replace h3 := h3.le le_38
        replace g2 := g2.le le_38
        try simp only [go_sem, Nat.reduceEqDiff, Nat.reduceAdd, Bool.false_eq_true, Nat.reduceBEq, ↓reduceIte]
        first | refine ev_call (wabs_ok _ _ _ h3) ?_ | refine ev_callP (wabs_ok _ _ _ h3) ?_
        rintro v_39 H_39 le_39 g6 _
        replace h3 := h3.le le_39
        replace g2 := g2.le le_39
        replace g5 := g5.le le_39
        try simp only [go_sem, Nat.reduceEqDiff, Nat.reduceAdd, Bool.false_eq_true, Nat.reduceBEq, ↓reduceIte]
        have e5 : bl (x.fmod y).natAbs ≤ 4294967296 := by unfold bi at *; omega
        have e6 : bl y.natAbs ≤ 4294967296 := by unfold bi at *; omega
        first | refine ev_call (cmp_ok _ _ _ _ _ g5 g6 e5 e6) ?_ | refine ev_callP (cmp_ok _ _ _ _ _ g5 g6 e5 e6) ?_
        rintro v_40 H_40 le_40 rfl _
        replace h3 := h3.le le_40
        replace g2 := g2.le le_40
        try simp only [go_sem, Nat.reduceEqDiff, Nat.reduceAdd, Bool.false_eq_true, Nat.reduceBEq, ↓reduceIte]
        refine ev_pos (by unfold cmpN; rw [if_pos f1]; decide) ?_
        try simp only [go_sem, Nat.reduceEqDiff, Nat.reduceAdd, Bool.false_eq_true, Nat.reduceBEq, ↓reduceIte]
        first | refine ev_call (wsign_ok _ _ _ g2 (by omega)) ?_ | refine ev_callP (wsign_ok _ _ _ g2 (by omega)) ?_
        rintro v_41 H_41 le_41 rfl _
        replace h3 := h3.le le_41
        replace g2 := g2.le le_41
        try simp only [go_sem, Nat.reduceEqDiff, Nat.reduceAdd, Bool.false_eq_true, Nat.reduceBEq, ↓reduceIte]
        refine ev_if (fun h7 => ?_) (fun h7 => ?_)
        · try simp only [go_sem, Nat.reduceEqDiff, Nat.reduceAdd, Bool.false_eq_true, Nat.reduceBEq, ↓reduceIte]
          exact ⟨by trivial, by trivial⟩
        · try simp only [go_sem, Nat.reduceEqDiff, Nat.reduceAdd, Bool.false_eq_true, Nat.reduceBEq, ↓reduceIte]
          first | refine ev_call (wsign_ok _ _ _ g2 (by omega)) ?_ | refine ev_callP (wsign_ok _ _ _ g2 (by omega)) ?_
          rintro v_42 H_42 le_42 rfl _
          replace h3 := h3.le le_42
          try simp only [go_sem, Nat.reduceEqDiff, Nat.reduceAdd, Bool.false_eq_true, Nat.reduceBEq, ↓reduceIte]
          first | refine ev_call (wsign_ok _ _ _ h3 (by omega)) ?_ | refine ev_callP (wsign_ok _ _ _ h3 (by omega)) ?_
          rintro v_43 H_43 le_43 rfl _
          try simp only [go_sem, Nat.reduceEqDiff, Nat.reduceAdd, Bool.false_eq_true, Nat.reduceBEq, ↓reduceIte]
          refine ev_pos (f2.resolve_left h7) ?_
          try simp only [go_sem, Nat.reduceEqDiff, Nat.reduceAdd, Bool.false_eq_true, Nat.reduceBEq, ↓reduceIte]
          exact ⟨by trivial, by trivial⟩

theorem WholeWords_ok (H : PH) (v : Int) (wv : (Lit.int .i64 v).wf = true) (below : Bool) : FnP Try.prog 3 [.int .i64 v, .bool below] H fun u _ => u = .bool true := by
  obtain ⟨hv1, hv2⟩ := i64_of_wf wv
  clear wv
  obtain ⟨x, hx⟩ : ∃ x, v.natAbs = x := ⟨_, rfl⟩
  have hblx : bl x ≤ 64 := bl_le_iff.2 (by omega)
  have hbv : bi v ≤ 64 := by unfold bi; rw [hx]; exact hblx
  refine of_cincturelaw2_WholeWords (by simp) ?_
  try simp only [go_sem, Nat.reduceEqDiff, Nat.reduceAdd, Bool.false_eq_true, Nat.reduceBEq, ↓reduceIte, p_cincturelaw2_WholeWords]
  first | refine ev_call (wof_ok _ v (by omega) (by omega)) ?_ | refine ev_callP (wof_ok _ v (by omega) (by omega)) ?_
  rintro v_44 H_44 le_44 h1 _
  try simp only [go_sem, Nat.reduceEqDiff, Nat.reduceAdd, Bool.false_eq_true, Nat.reduceBEq, ↓reduceIte]
  obtain ⟨A1, l1, c1, b1, rfl⟩ := h1.form
  try simp only [go_sem, Nat.reduceEqDiff, Nat.reduceAdd, Bool.false_eq_true, Nat.reduceBEq, ↓reduceIte]
  refine ev_if (fun h => ?_) (fun h => ?_)
  · have hsg : sgnI v = -1 := by unfold sgnI; rw [if_pos h]
    have hsv : sg true x = v := by rw [sg_true]; omega
    try simp only [go_sem, Nat.reduceEqDiff, Nat.reduceAdd, Bool.false_eq_true, Nat.reduceBEq, ↓reduceIte]
    rw [show IntKind.u64.wrap (IntKind.u64.wrap (IntKind.i64.wrap (0 - IntKind.i64.wrap (v + 1))) + 1) = ((x : Nat) : Int) by
      rw [w64 (v + 1) (by omega) (by omega), w64 (0 - (v + 1)) (by omega) (by omega), wu64 (0 - (v + 1)) (by omega) (by omega), wu64 _ (by omega) (by omega)]; omega]
    refine ev_neg (by omega) ?_
    try simp only [go_sem, Nat.reduceEqDiff, Nat.reduceAdd, Bool.false_eq_true, Nat.reduceBEq, ↓reduceIte]
    first | refine ev_call (of_ok _ x (by omega)) ?_ | refine ev_callP (of_ok _ x (by omega)) ?_
    rintro v_55 H_55 le_55 g2 _
    replace h1 := h1.le le_55
    try simp only [go_sem, Nat.reduceEqDiff, Nat.reduceAdd, Bool.false_eq_true, Nat.reduceBEq, ↓reduceIte]
    first | refine ev_call (from_ok _ below _ _ g2 (by omega)) ?_ | refine ev_callP (from_ok _ below _ _ g2 (by omega)) ?_
    rintro v_56 H_56 le_56 h3 _
    replace h1 := h1.le le_56
    try simp only [go_sem, Nat.reduceEqDiff, Nat.reduceAdd, Bool.false_eq_true, Nat.reduceBEq, ↓reduceIte]
    obtain ⟨A3, l3, c3, b3, rfl⟩ := h3.form
    try simp only [go_sem, Nat.reduceEqDiff, Nat.reduceAdd, Bool.false_eq_true, Nat.reduceBEq, ↓reduceIte]
    refine ev_pos (by omega) ?_
    try simp only [go_sem, Nat.reduceEqDiff, Nat.reduceAdd, Bool.false_eq_true, Nat.reduceBEq, ↓reduceIte]
    cases below with
    | true =>
      have hwant : sgnI (sg true x) = -1 := by rw [hsv]; exact hsg
      try simp only [go_sem, Nat.reduceEqDiff, Nat.reduceAdd, Bool.false_eq_true, Nat.reduceBEq, ↓reduceIte]
      rw [show IntKind.i64.wrap (0 - 1) = -1 from rfl]
      first | refine ev_call (aliveW_ok _) ?_ | refine ev_callP (aliveW_ok _) ?_
      rintro v_45 H_45 le_45 rfl _
      replace h1 := h1.le le_45
      replace h3 := h3.le le_45
      try simp only [go_sem, Nat.reduceEqDiff, Nat.reduceAdd, Bool.false_eq_true, Nat.reduceBEq, ↓reduceIte]
      first | refine ev_call (wabs_ok _ _ _ h1) ?_ | refine ev_callP (wabs_ok _ _ _ h1) ?_
      rintro v_46 H_46 le_46 g1 _
      replace h1 := h1.le le_46
      replace h3 := h3.le le_46
      try simp only [go_sem, Nat.reduceEqDiff, Nat.reduceAdd, Bool.false_eq_true, Nat.reduceBEq, ↓reduceIte]
      rw [hx] at g1
      first | refine ev_call (low_ok _ _ _ g1 (by omega)) ?_ | refine ev_callP (low_ok _ _ _ g1 (by omega)) ?_
      rintro v_47 H_47 le_47 rfl _
      replace h1 := h1.le le_47
      replace h3 := h3.le le_47
      try simp only [go_sem, Nat.reduceEqDiff, Nat.reduceAdd, Bool.false_eq_true, Nat.reduceBEq, ↓reduceIte]
      rw [Nat.mod_eq_of_lt (show x < 18446744073709551616 by omega)]
      refine ev_pos rfl ?_
      try simp only [go_sem, Nat.reduceEqDiff, Nat.reduceAdd, Bool.false_eq_true, Nat.reduceBEq, ↓reduceIte]
      first | refine ev_call (wabs_ok _ _ _ h1) ?_ | refine ev_callP (wabs_ok _ _ _ h1) ?_
      rintro v_48 H_48 le_48 g1 _
      replace h1 := h1.le le_48
      replace h3 := h3.le le_48
      try simp only [go_sem, Nat.reduceEqDiff, Nat.reduceAdd, Bool.false_eq_true, Nat.reduceBEq, ↓reduceIte]
      rw [hx] at g1
      first | refine ev_call (nbits_ok _ _ _ g1 (by omega)) ?_ | refine ev_callP (nbits_ok _ _ _ g1 (by omega)) ?_
      rintro v_49 H_49 le_49 rfl _
      replace h1 := h1.le le_49
      replace h3 := h3.le le_49
      try simp only [go_sem, Nat.reduceEqDiff, Nat.reduceAdd, Bool.false_eq_true, Nat.reduceBEq, ↓reduceIte]
      refine ev_pos (by omega) ?_
      try simp only [go_sem, Nat.reduceEqDiff, Nat.reduceAdd, Bool.false_eq_true, Nat.reduceBEq, ↓reduceIte]
      first | refine ev_call (wsign_ok _ _ v h1 (by omega)) ?_ | refine ev_callP (wsign_ok _ _ v h1 (by omega)) ?_
      rintro v_50 H_50 le_50 rfl _
      replace h1 := h1.le le_50
      replace h3 := h3.le le_50
      try simp only [go_sem, Nat.reduceEqDiff, Nat.reduceAdd, Bool.false_eq_true, Nat.reduceBEq, ↓reduceIte]
      refine ev_pos hsg ?_
      try simp only [go_sem, Nat.reduceEqDiff, Nat.reduceAdd, Bool.false_eq_true, Nat.reduceBEq, ↓reduceIte]
      first | refine ev_call (wsign_ok _ _ _ h3 (by unfold bi; rw [sg_natAbs]; omega)) ?_ | refine ev_callP (wsign_ok _ _ _ h3 (by unfold bi; rw [sg_natAbs]; omega)) ?_
      rintro v_51 H_51 le_51 rfl _
      replace h1 := h1.le le_51
      try simp only [go_sem, Nat.reduceEqDiff, Nat.reduceAdd, Bool.false_eq_true, Nat.reduceBEq, ↓reduceIte]
      refine ev_pos hwant ?_
      try simp only [go_sem, Nat.reduceEqDiff, Nat.reduceAdd, Bool.false_eq_true, Nat.reduceBEq, ↓reduceIte]
      refine ev_pos h ?_
      try simp only [go_sem, Nat.reduceEqDiff, Nat.reduceAdd, Bool.false_eq_true, Nat.reduceBEq, ↓reduceIte]
      first | refine ev_call (of_ok _ x (by omega)) ?_ | refine ev_callP (of_ok _ x (by omega)) ?_
      rintro v_52 H_52 le_52 g2 _
      replace h1 := h1.le le_52
      try simp only [go_sem, Nat.reduceEqDiff, Nat.reduceAdd, Bool.false_eq_true, Nat.reduceBEq, ↓reduceIte]
      first | refine ev_call (from_ok _ _ _ _ g2 (by omega)) ?_ | refine ev_callP (from_ok _ _ _ _ g2 (by omega)) ?_
      rintro v_53 H_53 le_53 g3 _
      replace h1 := h1.le le_53
      try simp only [go_sem, Nat.reduceEqDiff, Nat.reduceAdd, Bool.false_eq_true, Nat.reduceBEq, ↓reduceIte]
      first | refine ev_call (wcmp_ok _ _ _ _ v g3 h1 (by unfold bi; rw [sg_natAbs]; omega) (by omega)) ?_ | refine ev_callP (wcmp_ok _ _ _ _ v g3 h1 (by unfold bi; rw [sg_natAbs]; omega) (by omega)) ?_
      rintro v_54 H_54 le_54 rfl _
      try simp only [go_sem, Nat.reduceEqDiff, Nat.reduceAdd, Bool.false_eq_true, Nat.reduceBEq, ↓reduceIte]
      refine ev_pos (cmpI_eq hsv) ?_
      try simp only [go_sem, Nat.reduceEqDiff, Nat.reduceAdd, Bool.false_eq_true, Nat.reduceBEq, ↓reduceIte]
      exact ⟨by trivial, by trivial⟩
    | false =>
      have hwant : sgnI (sg false x) = 1 := by rw [sg_false]; unfold sgnI; rw [if_neg (by omega), if_pos (by omega)]
      try simp only [go_sem, Nat.reduceEqDiff, Nat.reduceAdd, Bool.false_eq_true, Nat.reduceBEq, ↓reduceIte]
      first | refine ev_call (aliveW_ok _) ?_ | refine ev_callP (aliveW_ok _) ?_
      rintro v_45 H_45 le_45 rfl _
      replace h1 := h1.le le_45
      replace h3 := h3.le le_45
      try simp only [go_sem, Nat.reduceEqDiff, Nat.reduceAdd, Bool.false_eq_true, Nat.reduceBEq, ↓reduceIte]
      first | refine ev_call (wabs_ok _ _ _ h1) ?_ | refine ev_callP (wabs_ok _ _ _ h1) ?_
      rintro v_46 H_46 le_46 g1 _
      replace h1 := h1.le le_46
      replace h3 := h3.le le_46
      try simp only [go_sem, Nat.reduceEqDiff, Nat.reduceAdd, Bool.false_eq_true, Nat.reduceBEq, ↓reduceIte]
      rw [hx] at g1
      first | refine ev_call (low_ok _ _ _ g1 (by omega)) ?_ | refine ev_callP (low_ok _ _ _ g1 (by omega)) ?_
      rintro v_47 H_47 le_47 rfl _
      replace h1 := h1.le le_47
      replace h3 := h3.le le_47
      try simp only [go_sem, Nat.reduceEqDiff, Nat.reduceAdd, Bool.false_eq_true, Nat.reduceBEq, ↓reduceIte]
      rw [Nat.mod_eq_of_lt (show x < 18446744073709551616 by omega)]
      refine ev_pos rfl ?_
      try simp only [go_sem, Nat.reduceEqDiff, Nat.reduceAdd, Bool.false_eq_true, Nat.reduceBEq, ↓reduceIte]
      first | refine ev_call (wabs_ok _ _ _ h1) ?_ | refine ev_callP (wabs_ok _ _ _ h1) ?_
      rintro v_48 H_48 le_48 g1 _
      replace h1 := h1.le le_48
      replace h3 := h3.le le_48
      try simp only [go_sem, Nat.reduceEqDiff, Nat.reduceAdd, Bool.false_eq_true, Nat.reduceBEq, ↓reduceIte]
      rw [hx] at g1
      first | refine ev_call (nbits_ok _ _ _ g1 (by omega)) ?_ | refine ev_callP (nbits_ok _ _ _ g1 (by omega)) ?_
      rintro v_49 H_49 le_49 rfl _
      replace h1 := h1.le le_49
      replace h3 := h3.le le_49
      try simp only [go_sem, Nat.reduceEqDiff, Nat.reduceAdd, Bool.false_eq_true, Nat.reduceBEq, ↓reduceIte]
      refine ev_pos (by omega) ?_
      try simp only [go_sem, Nat.reduceEqDiff, Nat.reduceAdd, Bool.false_eq_true, Nat.reduceBEq, ↓reduceIte]
      first | refine ev_call (wsign_ok _ _ v h1 (by omega)) ?_ | refine ev_callP (wsign_ok _ _ v h1 (by omega)) ?_
      rintro v_50 H_50 le_50 rfl _
      replace h1 := h1.le le_50
      replace h3 := h3.le le_50
      try simp only [go_sem, Nat.reduceEqDiff, Nat.reduceAdd, Bool.false_eq_true, Nat.reduceBEq, ↓reduceIte]
      refine ev_pos hsg ?_
      try simp only [go_sem, Nat.reduceEqDiff, Nat.reduceAdd, Bool.false_eq_true, Nat.reduceBEq, ↓reduceIte]
      first | refine ev_call (wsign_ok _ _ _ h3 (by unfold bi; rw [sg_natAbs]; omega)) ?_ | refine ev_callP (wsign_ok _ _ _ h3 (by unfold bi; rw [sg_natAbs]; omega)) ?_
      rintro v_51 H_51 le_51 rfl _
      replace h1 := h1.le le_51
      try simp only [go_sem, Nat.reduceEqDiff, Nat.reduceAdd, Bool.false_eq_true, Nat.reduceBEq, ↓reduceIte]
      refine ev_pos hwant ?_
      try simp only [go_sem, Nat.reduceEqDiff, Nat.reduceAdd, Bool.false_eq_true, Nat.reduceBEq, ↓reduceIte]
      refine ev_pos h ?_
      try simp only [go_sem, Nat.reduceEqDiff, Nat.reduceAdd, Bool.false_eq_true, Nat.reduceBEq, ↓reduceIte]
      first | refine ev_call (of_ok _ x (by omega)) ?_ | refine ev_callP (of_ok _ x (by omega)) ?_
      rintro v_52 H_52 le_52 g2 _
      replace h1 := h1.le le_52
      try simp only [go_sem, Nat.reduceEqDiff, Nat.reduceAdd, Bool.false_eq_true, Nat.reduceBEq, ↓reduceIte]
      first | refine ev_call (from_ok _ _ _ _ g2 (by omega)) ?_ | refine ev_callP (from_ok _ _ _ _ g2 (by omega)) ?_
      rintro v_53 H_53 le_53 g3 _
      replace h1 := h1.le le_53
      try simp only [go_sem, Nat.reduceEqDiff, Nat.reduceAdd, Bool.false_eq_true, Nat.reduceBEq, ↓reduceIte]
      first | refine ev_call (wcmp_ok _ _ _ _ v g3 h1 (by unfold bi; rw [sg_natAbs]; omega) (by omega)) ?_ | refine ev_callP (wcmp_ok _ _ _ _ v g3 h1 (by unfold bi; rw [sg_natAbs]; omega) (by omega)) ?_
      rintro v_54 H_54 le_54 rfl _
      try simp only [go_sem, Nat.reduceEqDiff, Nat.reduceAdd, Bool.false_eq_true, Nat.reduceBEq, ↓reduceIte]
      refine ev_pos (cmpI_eq hsv) ?_
      try simp only [go_sem, Nat.reduceEqDiff, Nat.reduceAdd, Bool.false_eq_true, Nat.reduceBEq, ↓reduceIte]
      exact ⟨by trivial, by trivial⟩
  · have hsv : sg false x = v := by rw [sg_false]; omega
    try simp only [go_sem, Nat.reduceEqDiff, Nat.reduceAdd, Bool.false_eq_true, Nat.reduceBEq, ↓reduceIte]
    rw [show IntKind.u64.wrap v = ((x : Nat) : Int) by rw [wu64_mod]; omega]
    refine ev_if (fun h2 => ?_) (fun h2 => ?_)
    · have hsg : sgnI v = 1 := by unfold sgnI; rw [if_neg h, if_pos h2]
      try simp only [go_sem, Nat.reduceEqDiff, Nat.reduceAdd, Bool.false_eq_true, Nat.reduceBEq, ↓reduceIte]
      first | refine ev_call (of_ok _ x (by omega)) ?_ | refine ev_callP (of_ok _ x (by omega)) ?_
      rintro v_55 H_55 le_55 g2 _
      replace h1 := h1.le le_55
      try simp only [go_sem, Nat.reduceEqDiff, Nat.reduceAdd, Bool.false_eq_true, Nat.reduceBEq, ↓reduceIte]
      first | refine ev_call (from_ok _ below _ _ g2 (by omega)) ?_ | refine ev_callP (from_ok _ below _ _ g2 (by omega)) ?_
      rintro v_56 H_56 le_56 h3 _
      replace h1 := h1.le le_56
      try simp only [go_sem, Nat.reduceEqDiff, Nat.reduceAdd, Bool.false_eq_true, Nat.reduceBEq, ↓reduceIte]
      obtain ⟨A3, l3, c3, b3, rfl⟩ := h3.form
      try simp only [go_sem, Nat.reduceEqDiff, Nat.reduceAdd, Bool.false_eq_true, Nat.reduceBEq, ↓reduceIte]
      refine ev_pos (by omega) ?_
      try simp only [go_sem, Nat.reduceEqDiff, Nat.reduceAdd, Bool.false_eq_true, Nat.reduceBEq, ↓reduceIte]
      cases below with
      | true =>
        have hwant : sgnI (sg true x) = -1 := by rw [sg_true]; unfold sgnI; rw [if_pos (by omega)]
        try simp only [go_sem, Nat.reduceEqDiff, Nat.reduceAdd, Bool.false_eq_true, Nat.reduceBEq, ↓reduceIte]
        rw [show IntKind.i64.wrap (0 - 1) = -1 from rfl]
        first | refine ev_call (aliveW_ok _) ?_ | refine ev_callP (aliveW_ok _) ?_
        rintro v_45 H_45 le_45 rfl _
        replace h1 := h1.le le_45
        replace h3 := h3.le le_45
        try simp only [go_sem, Nat.reduceEqDiff, Nat.reduceAdd, Bool.false_eq_true, Nat.reduceBEq, ↓reduceIte]
        first | refine ev_call (wabs_ok _ _ _ h1) ?_ | refine ev_callP (wabs_ok _ _ _ h1) ?_
        rintro v_46 H_46 le_46 g1 _
        replace h1 := h1.le le_46
        replace h3 := h3.le le_46
        try simp only [go_sem, Nat.reduceEqDiff, Nat.reduceAdd, Bool.false_eq_true, Nat.reduceBEq, ↓reduceIte]
        rw [hx] at g1
        first | refine ev_call (low_ok _ _ _ g1 (by omega)) ?_ | refine ev_callP (low_ok _ _ _ g1 (by omega)) ?_
        rintro v_47 H_47 le_47 rfl _
        replace h1 := h1.le le_47
        replace h3 := h3.le le_47
        try simp only [go_sem, Nat.reduceEqDiff, Nat.reduceAdd, Bool.false_eq_true, Nat.reduceBEq, ↓reduceIte]
        rw [Nat.mod_eq_of_lt (show x < 18446744073709551616 by omega)]
        refine ev_pos rfl ?_
        try simp only [go_sem, Nat.reduceEqDiff, Nat.reduceAdd, Bool.false_eq_true, Nat.reduceBEq, ↓reduceIte]
        first | refine ev_call (wabs_ok _ _ _ h1) ?_ | refine ev_callP (wabs_ok _ _ _ h1) ?_
        rintro v_48 H_48 le_48 g1 _
        replace h1 := h1.le le_48
        replace h3 := h3.le le_48
        try simp only [go_sem, Nat.reduceEqDiff, Nat.reduceAdd, Bool.false_eq_true, Nat.reduceBEq, ↓reduceIte]
        rw [hx] at g1
        first | refine ev_call (nbits_ok _ _ _ g1 (by omega)) ?_ | refine ev_callP (nbits_ok _ _ _ g1 (by omega)) ?_
        rintro v_49 H_49 le_49 rfl _
        replace h1 := h1.le le_49
        replace h3 := h3.le le_49
        try simp only [go_sem, Nat.reduceEqDiff, Nat.reduceAdd, Bool.false_eq_true, Nat.reduceBEq, ↓reduceIte]
        refine ev_pos (by omega) ?_
        try simp only [go_sem, Nat.reduceEqDiff, Nat.reduceAdd, Bool.false_eq_true, Nat.reduceBEq, ↓reduceIte]
        first | refine ev_call (wsign_ok _ _ v h1 (by omega)) ?_ | refine ev_callP (wsign_ok _ _ v h1 (by omega)) ?_
        rintro v_50 H_50 le_50 rfl _
        replace h1 := h1.le le_50
        replace h3 := h3.le le_50
        try simp only [go_sem, Nat.reduceEqDiff, Nat.reduceAdd, Bool.false_eq_true, Nat.reduceBEq, ↓reduceIte]
        refine ev_pos hsg ?_
        try simp only [go_sem, Nat.reduceEqDiff, Nat.reduceAdd, Bool.false_eq_true, Nat.reduceBEq, ↓reduceIte]
        first | refine ev_call (wsign_ok _ _ _ h3 (by unfold bi; rw [sg_natAbs]; omega)) ?_ | refine ev_callP (wsign_ok _ _ _ h3 (by unfold bi; rw [sg_natAbs]; omega)) ?_
        rintro v_51 H_51 le_51 rfl _
        replace h1 := h1.le le_51
        try simp only [go_sem, Nat.reduceEqDiff, Nat.reduceAdd, Bool.false_eq_true, Nat.reduceBEq, ↓reduceIte]
        refine ev_pos hwant ?_
        try simp only [go_sem, Nat.reduceEqDiff, Nat.reduceAdd, Bool.false_eq_true, Nat.reduceBEq, ↓reduceIte]
        refine ev_neg h ?_
        try simp only [go_sem, Nat.reduceEqDiff, Nat.reduceAdd, Bool.false_eq_true, Nat.reduceBEq, ↓reduceIte]
        first | refine ev_call (of_ok _ x (by omega)) ?_ | refine ev_callP (of_ok _ x (by omega)) ?_
        rintro v_52 H_52 le_52 g2 _
        replace h1 := h1.le le_52
        try simp only [go_sem, Nat.reduceEqDiff, Nat.reduceAdd, Bool.false_eq_true, Nat.reduceBEq, ↓reduceIte]
        first | refine ev_call (from_ok _ _ _ _ g2 (by omega)) ?_ | refine ev_callP (from_ok _ _ _ _ g2 (by omega)) ?_
        rintro v_53 H_53 le_53 g3 _
        replace h1 := h1.le le_53
        try simp only [go_sem, Nat.reduceEqDiff, Nat.reduceAdd, Bool.false_eq_true, Nat.reduceBEq, ↓reduceIte]
        first | refine ev_call (wcmp_ok _ _ _ _ v g3 h1 (by unfold bi; rw [sg_natAbs]; omega) (by omega)) ?_ | refine ev_callP (wcmp_ok _ _ _ _ v g3 h1 (by unfold bi; rw [sg_natAbs]; omega) (by omega)) ?_
        rintro v_54 H_54 le_54 rfl _
        try simp only [go_sem, Nat.reduceEqDiff, Nat.reduceAdd, Bool.false_eq_true, Nat.reduceBEq, ↓reduceIte]
        refine ev_pos (cmpI_eq hsv) ?_
        try simp only [go_sem, Nat.reduceEqDiff, Nat.reduceAdd, Bool.false_eq_true, Nat.reduceBEq, ↓reduceIte]
        exact ⟨by trivial, by trivial⟩
      | false =>
        have hwant : sgnI (sg false x) = 1 := by rw [hsv]; exact hsg
        try simp only [go_sem, Nat.reduceEqDiff, Nat.reduceAdd, Bool.false_eq_true, Nat.reduceBEq, ↓reduceIte]
        first | refine ev_call (aliveW_ok _) ?_ | refine ev_callP (aliveW_ok _) ?_
        rintro v_45 H_45 le_45 rfl _
        replace h1 := h1.le le_45
        replace h3 := h3.le le_45
        try simp only [go_sem, Nat.reduceEqDiff, Nat.reduceAdd, Bool.false_eq_true, Nat.reduceBEq, ↓reduceIte]
        first | refine ev_call (wabs_ok _ _ _ h1) ?_ | refine ev_callP (wabs_ok _ _ _ h1) ?_
        rintro v_46 H_46 le_46 g1 _
        replace h1 := h1.le le_46
        replace h3 := h3.le le_46
        try simp only [go_sem, Nat.reduceEqDiff, Nat.reduceAdd, Bool.false_eq_true, Nat.reduceBEq, ↓reduceIte]
        rw [hx] at g1
        first | refine ev_call (low_ok _ _ _ g1 (by omega)) ?_ | refine ev_callP (low_ok _ _ _ g1 (by omega)) ?_
        rintro v_47 H_47 le_47 rfl _
        replace h1 := h1.le le_47
        replace h3 := h3.le le_47
        try simp only [go_sem, Nat.reduceEqDiff, Nat.reduceAdd, Bool.false_eq_true, Nat.reduceBEq, ↓reduceIte]
        rw [Nat.mod_eq_of_lt (show x < 18446744073709551616 by omega)]
        refine ev_pos rfl ?_
        try simp only [go_sem, Nat.reduceEqDiff, Nat.reduceAdd, Bool.false_eq_true, Nat.reduceBEq, ↓reduceIte]
        first | refine ev_call (wabs_ok _ _ _ h1) ?_ | refine ev_callP (wabs_ok _ _ _ h1) ?_
        rintro v_48 H_48 le_48 g1 _
        replace h1 := h1.le le_48
        replace h3 := h3.le le_48
        try simp only [go_sem, Nat.reduceEqDiff, Nat.reduceAdd, Bool.false_eq_true, Nat.reduceBEq, ↓reduceIte]
        rw [hx] at g1
        first | refine ev_call (nbits_ok _ _ _ g1 (by omega)) ?_ | refine ev_callP (nbits_ok _ _ _ g1 (by omega)) ?_
        rintro v_49 H_49 le_49 rfl _
        replace h1 := h1.le le_49
        replace h3 := h3.le le_49
        try simp only [go_sem, Nat.reduceEqDiff, Nat.reduceAdd, Bool.false_eq_true, Nat.reduceBEq, ↓reduceIte]
        refine ev_pos (by omega) ?_
        try simp only [go_sem, Nat.reduceEqDiff, Nat.reduceAdd, Bool.false_eq_true, Nat.reduceBEq, ↓reduceIte]
        first | refine ev_call (wsign_ok _ _ v h1 (by omega)) ?_ | refine ev_callP (wsign_ok _ _ v h1 (by omega)) ?_
        rintro v_50 H_50 le_50 rfl _
        replace h1 := h1.le le_50
        replace h3 := h3.le le_50
        try simp only [go_sem, Nat.reduceEqDiff, Nat.reduceAdd, Bool.false_eq_true, Nat.reduceBEq, ↓reduceIte]
        refine ev_pos hsg ?_
        try simp only [go_sem, Nat.reduceEqDiff, Nat.reduceAdd, Bool.false_eq_true, Nat.reduceBEq, ↓reduceIte]
        first | refine ev_call (wsign_ok _ _ _ h3 (by unfold bi; rw [sg_natAbs]; omega)) ?_ | refine ev_callP (wsign_ok _ _ _ h3 (by unfold bi; rw [sg_natAbs]; omega)) ?_
        rintro v_51 H_51 le_51 rfl _
        replace h1 := h1.le le_51
        try simp only [go_sem, Nat.reduceEqDiff, Nat.reduceAdd, Bool.false_eq_true, Nat.reduceBEq, ↓reduceIte]
        refine ev_pos hwant ?_
        try simp only [go_sem, Nat.reduceEqDiff, Nat.reduceAdd, Bool.false_eq_true, Nat.reduceBEq, ↓reduceIte]
        refine ev_neg h ?_
        try simp only [go_sem, Nat.reduceEqDiff, Nat.reduceAdd, Bool.false_eq_true, Nat.reduceBEq, ↓reduceIte]
        first | refine ev_call (of_ok _ x (by omega)) ?_ | refine ev_callP (of_ok _ x (by omega)) ?_
        rintro v_52 H_52 le_52 g2 _
        replace h1 := h1.le le_52
        try simp only [go_sem, Nat.reduceEqDiff, Nat.reduceAdd, Bool.false_eq_true, Nat.reduceBEq, ↓reduceIte]
        first | refine ev_call (from_ok _ _ _ _ g2 (by omega)) ?_ | refine ev_callP (from_ok _ _ _ _ g2 (by omega)) ?_
        rintro v_53 H_53 le_53 g3 _
        replace h1 := h1.le le_53
        try simp only [go_sem, Nat.reduceEqDiff, Nat.reduceAdd, Bool.false_eq_true, Nat.reduceBEq, ↓reduceIte]
        first | refine ev_call (wcmp_ok _ _ _ _ v g3 h1 (by unfold bi; rw [sg_natAbs]; omega) (by omega)) ?_ | refine ev_callP (wcmp_ok _ _ _ _ v g3 h1 (by unfold bi; rw [sg_natAbs]; omega) (by omega)) ?_
        rintro v_54 H_54 le_54 rfl _
        try simp only [go_sem, Nat.reduceEqDiff, Nat.reduceAdd, Bool.false_eq_true, Nat.reduceBEq, ↓reduceIte]
        refine ev_pos (cmpI_eq hsv) ?_
        try simp only [go_sem, Nat.reduceEqDiff, Nat.reduceAdd, Bool.false_eq_true, Nat.reduceBEq, ↓reduceIte]
        exact ⟨by trivial, by trivial⟩
    · have hsg : sgnI v = 0 := by unfold sgnI; rw [if_neg h, if_neg h2]
      have hx0 : x = 0 := by omega
      try simp only [go_sem, Nat.reduceEqDiff, Nat.reduceAdd, Bool.false_eq_true, Nat.reduceBEq, ↓reduceIte]
      first | refine ev_call (of_ok _ x (by omega)) ?_ | refine ev_callP (of_ok _ x (by omega)) ?_
      rintro v_55 H_55 le_55 g2 _
      replace h1 := h1.le le_55
      try simp only [go_sem, Nat.reduceEqDiff, Nat.reduceAdd, Bool.false_eq_true, Nat.reduceBEq, ↓reduceIte]
      first | refine ev_call (from_ok _ below _ _ g2 (by omega)) ?_ | refine ev_callP (from_ok _ below _ _ g2 (by omega)) ?_
      rintro v_56 H_56 le_56 h3 _
      replace h1 := h1.le le_56
      try simp only [go_sem, Nat.reduceEqDiff, Nat.reduceAdd, Bool.false_eq_true, Nat.reduceBEq, ↓reduceIte]
      obtain ⟨A3, l3, c3, b3, rfl⟩ := h3.form
      try simp only [go_sem, Nat.reduceEqDiff, Nat.reduceAdd, Bool.false_eq_true, Nat.reduceBEq, ↓reduceIte]
      refine ev_neg (by omega) ?_
      try simp only [go_sem, Nat.reduceEqDiff, Nat.reduceAdd, Bool.false_eq_true, Nat.reduceBEq, ↓reduceIte]
      cases below with
      | true =>
        have hwant : sgnI (sg true x) = 0 := by rw [hx0]; rfl
        try simp only [go_sem, Nat.reduceEqDiff, Nat.reduceAdd, Bool.false_eq_true, Nat.reduceBEq, ↓reduceIte]
        rw [show IntKind.i64.wrap (0 - 0) = 0 from rfl]
        first | refine ev_call (aliveW_ok _) ?_ | refine ev_callP (aliveW_ok _) ?_
        rintro v_45 H_45 le_45 rfl _
        replace h1 := h1.le le_45
        replace h3 := h3.le le_45
        try simp only [go_sem, Nat.reduceEqDiff, Nat.reduceAdd, Bool.false_eq_true, Nat.reduceBEq, ↓reduceIte]
        first | refine ev_call (wabs_ok _ _ _ h1) ?_ | refine ev_callP (wabs_ok _ _ _ h1) ?_
        rintro v_46 H_46 le_46 g1 _
        replace h1 := h1.le le_46
        replace h3 := h3.le le_46
        try simp only [go_sem, Nat.reduceEqDiff, Nat.reduceAdd, Bool.false_eq_true, Nat.reduceBEq, ↓reduceIte]
        rw [hx] at g1
        first | refine ev_call (low_ok _ _ _ g1 (by omega)) ?_ | refine ev_callP (low_ok _ _ _ g1 (by omega)) ?_
        rintro v_47 H_47 le_47 rfl _
        replace h1 := h1.le le_47
        replace h3 := h3.le le_47
        try simp only [go_sem, Nat.reduceEqDiff, Nat.reduceAdd, Bool.false_eq_true, Nat.reduceBEq, ↓reduceIte]
        rw [Nat.mod_eq_of_lt (show x < 18446744073709551616 by omega)]
        refine ev_pos rfl ?_
        try simp only [go_sem, Nat.reduceEqDiff, Nat.reduceAdd, Bool.false_eq_true, Nat.reduceBEq, ↓reduceIte]
        first | refine ev_call (wabs_ok _ _ _ h1) ?_ | refine ev_callP (wabs_ok _ _ _ h1) ?_
        rintro v_48 H_48 le_48 g1 _
        replace h1 := h1.le le_48
        replace h3 := h3.le le_48
        try simp only [go_sem, Nat.reduceEqDiff, Nat.reduceAdd, Bool.false_eq_true, Nat.reduceBEq, ↓reduceIte]
        rw [hx] at g1
        first | refine ev_call (nbits_ok _ _ _ g1 (by omega)) ?_ | refine ev_callP (nbits_ok _ _ _ g1 (by omega)) ?_
        rintro v_49 H_49 le_49 rfl _
        replace h1 := h1.le le_49
        replace h3 := h3.le le_49
        try simp only [go_sem, Nat.reduceEqDiff, Nat.reduceAdd, Bool.false_eq_true, Nat.reduceBEq, ↓reduceIte]
        refine ev_pos (by omega) ?_
        try simp only [go_sem, Nat.reduceEqDiff, Nat.reduceAdd, Bool.false_eq_true, Nat.reduceBEq, ↓reduceIte]
        first | refine ev_call (wsign_ok _ _ v h1 (by omega)) ?_ | refine ev_callP (wsign_ok _ _ v h1 (by omega)) ?_
        rintro v_50 H_50 le_50 rfl _
        replace h1 := h1.le le_50
        replace h3 := h3.le le_50
        try simp only [go_sem, Nat.reduceEqDiff, Nat.reduceAdd, Bool.false_eq_true, Nat.reduceBEq, ↓reduceIte]
        refine ev_pos hsg ?_
        try simp only [go_sem, Nat.reduceEqDiff, Nat.reduceAdd, Bool.false_eq_true, Nat.reduceBEq, ↓reduceIte]
        first | refine ev_call (wsign_ok _ _ _ h3 (by unfold bi; rw [sg_natAbs]; omega)) ?_ | refine ev_callP (wsign_ok _ _ _ h3 (by unfold bi; rw [sg_natAbs]; omega)) ?_
        rintro v_51 H_51 le_51 rfl _
        replace h1 := h1.le le_51
        try simp only [go_sem, Nat.reduceEqDiff, Nat.reduceAdd, Bool.false_eq_true, Nat.reduceBEq, ↓reduceIte]
        refine ev_pos hwant ?_
        try simp only [go_sem, Nat.reduceEqDiff, Nat.reduceAdd, Bool.false_eq_true, Nat.reduceBEq, ↓reduceIte]
        refine ev_neg h ?_
        try simp only [go_sem, Nat.reduceEqDiff, Nat.reduceAdd, Bool.false_eq_true, Nat.reduceBEq, ↓reduceIte]
        first | refine ev_call (of_ok _ x (by omega)) ?_ | refine ev_callP (of_ok _ x (by omega)) ?_
        rintro v_52 H_52 le_52 g2 _
        replace h1 := h1.le le_52
        try simp only [go_sem, Nat.reduceEqDiff, Nat.reduceAdd, Bool.false_eq_true, Nat.reduceBEq, ↓reduceIte]
        first | refine ev_call (from_ok _ _ _ _ g2 (by omega)) ?_ | refine ev_callP (from_ok _ _ _ _ g2 (by omega)) ?_
        rintro v_53 H_53 le_53 g3 _
        replace h1 := h1.le le_53
        try simp only [go_sem, Nat.reduceEqDiff, Nat.reduceAdd, Bool.false_eq_true, Nat.reduceBEq, ↓reduceIte]
        first | refine ev_call (wcmp_ok _ _ _ _ v g3 h1 (by unfold bi; rw [sg_natAbs]; omega) (by omega)) ?_ | refine ev_callP (wcmp_ok _ _ _ _ v g3 h1 (by unfold bi; rw [sg_natAbs]; omega) (by omega)) ?_
        rintro v_54 H_54 le_54 rfl _
        try simp only [go_sem, Nat.reduceEqDiff, Nat.reduceAdd, Bool.false_eq_true, Nat.reduceBEq, ↓reduceIte]
        refine ev_pos (cmpI_eq hsv) ?_
        try simp only [go_sem, Nat.reduceEqDiff, Nat.reduceAdd, Bool.false_eq_true, Nat.reduceBEq, ↓reduceIte]
        exact ⟨by trivial, by trivial⟩
      | false =>
        have hwant : sgnI (sg false x) = 0 := by rw [hx0]; rfl
        try simp only [go_sem, Nat.reduceEqDiff, Nat.reduceAdd, Bool.false_eq_true, Nat.reduceBEq, ↓reduceIte]
        first | refine ev_call (aliveW_ok _) ?_ | refine ev_callP (aliveW_ok _) ?_
        rintro v_45 H_45 le_45 rfl _
        replace h1 := h1.le le_45
        replace h3 := h3.le le_45
        try simp only [go_sem, Nat.reduceEqDiff, Nat.reduceAdd, Bool.false_eq_true, Nat.reduceBEq, ↓reduceIte]
        first | refine ev_call (wabs_ok _ _ _ h1) ?_ | refine ev_callP (wabs_ok _ _ _ h1) ?_
        rintro v_46 H_46 le_46 g1 _
        replace h1 := h1.le le_46
        replace h3 := h3.le le_46
        try simp only [go_sem, Nat.reduceEqDiff, Nat.reduceAdd, Bool.false_eq_true, Nat.reduceBEq, ↓reduceIte]
        rw [hx] at g1
        first | refine ev_call (low_ok _ _ _ g1 (by omega)) ?_ | refine ev_callP (low_ok _ _ _ g1 (by omega)) ?_
        rintro v_47 H_47 le_47 rfl _
        replace h1 := h1.le le_47
        replace h3 := h3.le le_47
        try simp only [go_sem, Nat.reduceEqDiff, Nat.reduceAdd, Bool.false_eq_true, Nat.reduceBEq, ↓reduceIte]
        rw [Nat.mod_eq_of_lt (show x < 18446744073709551616 by omega)]
        refine ev_pos rfl ?_
        try simp only [go_sem, Nat.reduceEqDiff, Nat.reduceAdd, Bool.false_eq_true, Nat.reduceBEq, ↓reduceIte]
        first | refine ev_call (wabs_ok _ _ _ h1) ?_ | refine ev_callP (wabs_ok _ _ _ h1) ?_
        rintro v_48 H_48 le_48 g1 _
        replace h1 := h1.le le_48
        replace h3 := h3.le le_48
        try simp only [go_sem, Nat.reduceEqDiff, Nat.reduceAdd, Bool.false_eq_true, Nat.reduceBEq, ↓reduceIte]
        rw [hx] at g1
        first | refine ev_call (nbits_ok _ _ _ g1 (by omega)) ?_ | refine ev_callP (nbits_ok _ _ _ g1 (by omega)) ?_
        rintro v_49 H_49 le_49 rfl _
        replace h1 := h1.le le_49
        replace h3 := h3.le le_49
        try simp only [go_sem, Nat.reduceEqDiff, Nat.reduceAdd, Bool.false_eq_true, Nat.reduceBEq, ↓reduceIte]
        refine ev_pos (by omega) ?_
        try simp only [go_sem, Nat.reduceEqDiff, Nat.reduceAdd, Bool.false_eq_true, Nat.reduceBEq, ↓reduceIte]
        first | refine ev_call (wsign_ok _ _ v h1 (by omega)) ?_ | refine ev_callP (wsign_ok _ _ v h1 (by omega)) ?_
        rintro v_50 H_50 le_50 rfl _
        replace h1 := h1.le le_50
        replace h3 := h3.le le_50
        try simp only [go_sem, Nat.reduceEqDiff, Nat.reduceAdd, Bool.false_eq_true, Nat.reduceBEq, ↓reduceIte]
        refine ev_pos hsg ?_
        try simp only [go_sem, Nat.reduceEqDiff, Nat.reduceAdd, Bool.false_eq_true, Nat.reduceBEq, ↓reduceIte]
        first | refine ev_call (wsign_ok _ _ _ h3 (by unfold bi; rw [sg_natAbs]; omega)) ?_ | refine ev_callP (wsign_ok _ _ _ h3 (by unfold bi; rw [sg_natAbs]; omega)) ?_
        rintro v_51 H_51 le_51 rfl _
        replace h1 := h1.le le_51
        try simp only [go_sem, Nat.reduceEqDiff, Nat.reduceAdd, Bool.false_eq_true, Nat.reduceBEq, ↓reduceIte]
        refine ev_pos hwant ?_
        try simp only [go_sem, Nat.reduceEqDiff, Nat.reduceAdd, Bool.false_eq_true, Nat.reduceBEq, ↓reduceIte]
        refine ev_neg h ?_
        try simp only [go_sem, Nat.reduceEqDiff, Nat.reduceAdd, Bool.false_eq_true, Nat.reduceBEq, ↓reduceIte]
        first | refine ev_call (of_ok _ x (by omega)) ?_ | refine ev_callP (of_ok _ x (by omega)) ?_
        rintro v_52 H_52 le_52 g2 _
        replace h1 := h1.le le_52
        try simp only [go_sem, Nat.reduceEqDiff, Nat.reduceAdd, Bool.false_eq_true, Nat.reduceBEq, ↓reduceIte]
        first | refine ev_call (from_ok _ _ _ _ g2 (by omega)) ?_ | refine ev_callP (from_ok _ _ _ _ g2 (by omega)) ?_
        rintro v_53 H_53 le_53 g3 _
        replace h1 := h1.le le_53
        try simp only [go_sem, Nat.reduceEqDiff, Nat.reduceAdd, Bool.false_eq_true, Nat.reduceBEq, ↓reduceIte]
        first | refine ev_call (wcmp_ok _ _ _ _ v g3 h1 (by unfold bi; rw [sg_natAbs]; omega) (by omega)) ?_ | refine ev_callP (wcmp_ok _ _ _ _ v g3 h1 (by unfold bi; rw [sg_natAbs]; omega) (by omega)) ?_
        rintro v_54 H_54 le_54 rfl _
        try simp only [go_sem, Nat.reduceEqDiff, Nat.reduceAdd, Bool.false_eq_true, Nat.reduceBEq, ↓reduceIte]
        refine ev_pos (cmpI_eq hsv) ?_
        try simp only [go_sem, Nat.reduceEqDiff, Nat.reduceAdd, Bool.false_eq_true, Nat.reduceBEq, ↓reduceIte]
        exact ⟨by trivial, by trivial⟩

end Go.Proofs.Ytbmcchmbfpmjkaa.X
