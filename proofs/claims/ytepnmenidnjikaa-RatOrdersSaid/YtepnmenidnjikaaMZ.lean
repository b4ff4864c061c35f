/- The laws of chapter 3: what they share; the first ones. -/
import Derived.Test.YtepnmenidnjikaaMK
import Derived.Test.YtepnmenidnjikaaMV
import Derived.Test.YtepnmenidnjikaaMJ
set_option linter.unusedVariables false
set_option linter.unusedSimpArgs false
namespace Go.Proofs.Ytepnmenidnjikaa.X
open Go Go.RowKit Go.Proofs

theorem aliveR_ok (H : PH) : FnP Try.prog 12 [] H fun v _ => v = .bool true := by
  refine of_cincturelaw3_alive (by simp) ?_
  try simp only [go_sem, Nat.reduceEqDiff, Nat.reduceAdd, Bool.false_eq_true, Nat.reduceBEq, ↓reduceIte, p_cincturelaw3_alive]
  first | refine ev_call (rparse'_ok _ ⟨#[45, 51, 47, 52]⟩ (by decide)) ?_ | refine ev_callP (rparse'_ok _ ⟨#[45, 51, 47, 52]⟩ (by decide)) ?_
  rintro v_1 H_1 le_1 ⟨va, rfl, h1⟩ _
  try simp only [go_sem, Nat.reduceEqDiff, Nat.reduceAdd, Bool.false_eq_true, Nat.reduceBEq, ↓reduceIte]
  rw [show bs ⟨#[45, 51, 47, 52]⟩ = [45, 51, 47, 52] from rfl] at h1 ⊢
  rw [alive_ok, if_pos rfl, alive_rv] at h1
  rw [alive_ok, if_pos rfl]
  obtain ⟨A1, l1, c1, b1, B1, m1, e1, rfl⟩ := h1.form
  try simp only [go_sem, Nat.reduceEqDiff, Nat.reduceAdd, Bool.false_eq_true, Nat.reduceBEq, ↓reduceIte]
  refine ev_pos (by trivial) ?_
  try simp only [go_sem, Nat.reduceEqDiff, Nat.reduceAdd, Bool.false_eq_true, Nat.reduceBEq, ↓reduceIte]
  first | refine ev_call (rof_ok _ 1 (by decide) (by decide)) ?_ | refine ev_callP (rof_ok _ 1 (by decide) (by decide)) ?_
  rintro v_2 H_2 le_2 h2 _
  replace h1 := h1.le le_2
  try simp only [go_sem, Nat.reduceEqDiff, Nat.reduceAdd, Bool.false_eq_true, Nat.reduceBEq, ↓reduceIte]
  obtain ⟨A2, l2, c2, b2, B2, m2, e2, rfl⟩ := h2.form
  try simp only [go_sem, Nat.reduceEqDiff, Nat.reduceAdd, Bool.false_eq_true, Nat.reduceBEq, ↓reduceIte]
  first | refine ev_call (radd'_ok _ _ _ (mkRat (-3) 4) ((1 : Int) : Rat) h1 h2 (by decide +kernel)) ?_ | refine ev_callP (radd'_ok _ _ _ (mkRat (-3) 4) ((1 : Int) : Rat) h1 h2 (by decide +kernel)) ?_
  rintro v_3 H_3 le_3 h3 _
  try simp only [go_sem, Nat.reduceEqDiff, Nat.reduceAdd, Bool.false_eq_true, Nat.reduceBEq, ↓reduceIte]
  rw [alive_sum] at h3
  obtain ⟨A3, l3, c3, b3, B3, m3, e3, rfl⟩ := h3.form
  try simp only [go_sem, Nat.reduceEqDiff, Nat.reduceAdd, Bool.false_eq_true, Nat.reduceBEq, ↓reduceIte]
  first | refine ev_call (rtext_ok' _ _ _ h3 (by decide +kernel)) ?_ | refine ev_callP (rtext_ok' _ _ _ h3 (by decide +kernel)) ?_
  rintro v_4 H_4 le_4 rfl _
  try simp only [go_sem, Nat.reduceEqDiff, Nat.reduceAdd, Bool.false_eq_true, Nat.reduceBEq, ↓reduceIte]
  rw [alive_txt]
  refine ev_pos (by rfl) ?_
  try simp only [go_sem, Nat.reduceEqDiff, Nat.reduceAdd, Bool.false_eq_true, Nat.reduceBEq, ↓reduceIte]
  exact ⟨by trivial, by trivial⟩

/-- a text is a number, not too long -/
def qok (a : ByteArray) : Bool := ratOk (bs a) && decide (a.size ≤ 100)
theorem qok_br {a : ByteArray} (h : qok a = true) : br (rv (bs a)) ≤ 401 ∧ ofB (rtx (rv (bs a))) = a ∧ ratOk (bs a) = true := by
  unfold qok at h
  rw [Bool.and_eq_true, decide_eq_true_eq] at h
  have := rv_br h.1
  rw [bs_length] at this
  exact ⟨by omega, by rw [rtx_rv h.1, ofB_bs], h.1⟩

theorem numQ_ok (H : PH) (a : ByteArray) (hy : a.size ≤ 9223372036854775807) : FnP Try.prog 29 [.string a] H fun v H' => ∃ va ra, v = .tuple #[va, ra, .bool (qok a)] ∧ RatV H' va (if qok a then rv (bs a) else 0) ∧ RRat H' ra (if qok a then rv (bs a) else 0) := by
  refine of_cincturelaw3_Num (by simp) ?_
  try simp only [go_sem, Nat.reduceEqDiff, Nat.reduceAdd, Bool.false_eq_true, Nat.reduceBEq, ↓reduceIte, p_cincturelaw3_Num]
  first | refine ev_call (rparseR_ok _ a hy) ?_ | refine ev_callP (rparseR_ok _ a hy) ?_
  rintro v_5 H_5 le_5 ⟨ra, rfl, h1⟩ _
  try simp only [go_sem, Nat.reduceEqDiff, Nat.reduceAdd, Bool.false_eq_true, Nat.reduceBEq, ↓reduceIte]
  obtain ⟨b1, A1, l1, c1, B1, m1, e1, rfl⟩ := h1.form
  have bad : qok a = false → ∀ H' : PH, ∃ va ra, (Value.tuple #[.agg #[.slice none 0 0, .bool false, .slice none 0 0], .agg #[.bool false, .slice none 0 0, .slice none 0 0], .bool false]) = .tuple #[va, ra, .bool (qok a)] ∧ RatV H' va (if qok a then rv (bs a) else 0) ∧ RRat H' ra (if qok a then rv (bs a) else 0) := by
    intro h H'
    rw [h]
    exact ⟨_, _, rfl, RatV.zero _, RRat.zero _⟩
  cases hk : ratOk (bs a) with
  | false =>
    try simp only [go_sem, Nat.reduceEqDiff, Nat.reduceAdd, Bool.false_eq_true, Nat.reduceBEq, ↓reduceIte, hk]
    exact ⟨by trivial, bad (by unfold qok; rw [hk]; rfl) _⟩
  | true =>
    try simp only [go_sem, Nat.reduceEqDiff, Nat.reduceAdd, Bool.false_eq_true, Nat.reduceBEq, ↓reduceIte, hk]
    refine ev_if (fun h => ?_) (fun h => ?_)
    · try simp only [go_sem, Nat.reduceEqDiff, Nat.reduceAdd, Bool.false_eq_true, Nat.reduceBEq, ↓reduceIte]
      exact ⟨by trivial, bad (by unfold qok; rw [hk, decide_eq_false (show ¬ a.size ≤ 100 by omega)]; rfl) _⟩
    · have hn : qok a = true := by unfold qok; rw [hk, decide_eq_true (show a.size ≤ 100 by omega)]; rfl
      try simp only [go_sem, Nat.reduceEqDiff, Nat.reduceAdd, Bool.false_eq_true, Nat.reduceBEq, ↓reduceIte]
      first | refine ev_call (rparse'_ok _ a hy) ?_ | refine ev_callP (rparse'_ok _ a hy) ?_
      rintro v_6 H_6 le_6 ⟨va, rfl, h2⟩ _
      replace h1 := h1.le le_6
      try simp only [go_sem, Nat.reduceEqDiff, Nat.reduceAdd, Bool.false_eq_true, Nat.reduceBEq, ↓reduceIte]
      obtain ⟨A2, l2, c2, b2, B2, m2, e2, rfl⟩ := h2.form
      rw [hk, if_pos rfl] at h1 h2
      try simp only [go_sem, Nat.reduceEqDiff, Nat.reduceAdd, Bool.false_eq_true, Nat.reduceBEq, ↓reduceIte]
      rw [hn]
      repeat' (with_reducible refine And.intro ?_ ?_)
      all_goals first | trivial | exact ⟨_, _, rfl, h2, h1⟩

theorem isQ_ok (H : PH) (va vb : Value) (q : Rat) (ha : RatV H va q) (hb : RRat H vb q) (hbp : br q ≤ 4294967000) : FnP Try.prog 27 [va, vb] H fun v _ => v = .bool true := by
  obtain ⟨A, l, c, b, B, m, e, rfl⟩ := ha.form
  obtain ⟨b1, A1, l1, c1, B1, m1, e1, rfl⟩ := hb.form
  refine of_cincturelaw3_Is (by simp) ?_
  try simp only [go_sem, Nat.reduceEqDiff, Nat.reduceAdd, Bool.false_eq_true, Nat.reduceBEq, ↓reduceIte, p_cincturelaw3_Is]
  first | refine ev_call (rtext_ok' _ _ _ ha hbp) ?_ | refine ev_callP (rtext_ok' _ _ _ ha hbp) ?_
  rintro v_7 H_7 le_7 rfl _
  replace hb := hb.le le_7
  try simp only [go_sem, Nat.reduceEqDiff, Nat.reduceAdd, Bool.false_eq_true, Nat.reduceBEq, ↓reduceIte]
  first | refine ev_call (rtextR_ok _ _ _ hb hbp) ?_ | refine ev_callP (rtextR_ok _ _ _ hb hbp) ?_
  rintro v_8 H_8 le_8 rfl _
  try simp only [go_sem, Nat.reduceEqDiff, Nat.reduceAdd, Bool.false_eq_true, Nat.reduceBEq, ↓reduceIte]
  refine ev_pos (by trivial) ?_
  try simp only [go_sem, Nat.reduceEqDiff, Nat.reduceAdd, Bool.false_eq_true, Nat.reduceBEq, ↓reduceIte]
  exact ⟨by trivial, by trivial⟩

theorem RatTells_ok (H : PH) (s : ByteArray) (hs : s.size ≤ 9223372036854775807) : FnP Try.prog 3 [.string s] H fun v _ => v = .bool true := by
  refine of_cincturelaw3_RatTells (by simp) ?_
  try simp only [go_sem, Nat.reduceEqDiff, Nat.reduceAdd, Bool.false_eq_true, Nat.reduceBEq, ↓reduceIte, p_cincturelaw3_RatTells]
  first | refine ev_call (aliveR_ok _) ?_ | refine ev_callP (aliveR_ok _) ?_
  rintro v_9 H_9 le_9 rfl _
  try simp only [go_sem, Nat.reduceEqDiff, Nat.reduceAdd, Bool.false_eq_true, Nat.reduceBEq, ↓reduceIte]
  refine ev_if (fun h => ?_) (fun h => ?_)
  · try simp only [go_sem, Nat.reduceEqDiff, Nat.reduceAdd, Bool.false_eq_true, Nat.reduceBEq, ↓reduceIte]
    exact ⟨by trivial, by trivial⟩
  · try simp only [go_sem, Nat.reduceEqDiff, Nat.reduceAdd, Bool.false_eq_true, Nat.reduceBEq, ↓reduceIte]
    first | refine ev_call (rparse'_ok _ s hs) ?_ | refine ev_callP (rparse'_ok _ s hs) ?_
    rintro v_10 H_10 le_10 ⟨va, rfl, h1⟩ _
    try simp only [go_sem, Nat.reduceEqDiff, Nat.reduceAdd, Bool.false_eq_true, Nat.reduceBEq, ↓reduceIte]
    obtain ⟨A1, l1, c1, b1, B1, m1, e1, rfl⟩ := h1.form
    try simp only [go_sem, Nat.reduceEqDiff, Nat.reduceAdd, Bool.false_eq_true, Nat.reduceBEq, ↓reduceIte]
    first | refine ev_call (rparseR_ok _ s hs) ?_ | refine ev_callP (rparseR_ok _ s hs) ?_
    rintro v_11 H_11 le_11 ⟨ra, rfl, h2⟩ _
    replace h1 := h1.le le_11
    try simp only [go_sem, Nat.reduceEqDiff, Nat.reduceAdd, Bool.false_eq_true, Nat.reduceBEq, ↓reduceIte]
    obtain ⟨b2, A2, l2, c2, B2, m2, e2, rfl⟩ := h2.form
    cases hk : ratOk (bs s) with
    | false =>
      rw [hk] at h1
      try simp only [go_sem, Nat.reduceEqDiff, Nat.reduceAdd, Bool.false_eq_true, Nat.reduceBEq, ↓reduceIte, hk]
      refine ev_pos (by trivial) ?_
      try simp only [go_sem, Nat.reduceEqDiff, Nat.reduceAdd, Bool.false_eq_true, Nat.reduceBEq, ↓reduceIte]
      first | refine ev_call (rtext_ok' _ _ 0 h1 (by decide)) ?_ | refine ev_callP (rtext_ok' _ _ 0 h1 (by decide)) ?_
      rintro v_12 H_12 le_12 rfl _
      try simp only [go_sem, Nat.reduceEqDiff, Nat.reduceAdd, Bool.false_eq_true, Nat.reduceBEq, ↓reduceIte]
      refine ev_pos rtx_zero ?_
      try simp only [go_sem, Nat.reduceEqDiff, Nat.reduceAdd, Bool.false_eq_true, Nat.reduceBEq, ↓reduceIte]
      exact ⟨by trivial, by trivial⟩
    | true =>
      have hbl := rv_br hk
      have htx := rtx_rv hk
      rw [bs_length] at hbl
      rw [hk, if_pos rfl] at h1 h2
      generalize rv (bs s) = q at *
      have a1 := bi_br q
      have a2 := bl_br q
      obtain ⟨h4, _⟩ := h2.parts
      try simp only [go_sem, Nat.reduceEqDiff, Nat.reduceAdd, Bool.false_eq_true, Nat.reduceBEq, ↓reduceIte, hk]
      refine ev_pos (by trivial) ?_
      try simp only [go_sem, Nat.reduceEqDiff, Nat.reduceAdd, Bool.false_eq_true, Nat.reduceBEq, ↓reduceIte]
      first | refine ev_call (rtext_ok' _ _ q h1 (by omega)) ?_ | refine ev_callP (rtext_ok' _ _ q h1 (by omega)) ?_
      rintro v_13 H_13 le_13 rfl _
      replace h1 := h1.le le_13
      replace h2 := h2.le le_13
      replace h4 := h4.le le_13
      try simp only [go_sem, Nat.reduceEqDiff, Nat.reduceAdd, Bool.false_eq_true, Nat.reduceBEq, ↓reduceIte]
      refine ev_pos (by rw [htx, ofB_bs]) ?_
      try simp only [go_sem, Nat.reduceEqDiff, Nat.reduceAdd, Bool.false_eq_true, Nat.reduceBEq, ↓reduceIte]
      first | refine ev_call (rsgn_ok _ _ q h1 (by omega)) ?_ | refine ev_callP (rsgn_ok _ _ q h1 (by omega)) ?_
      rintro v_14 H_14 le_14 rfl _
      replace h1 := h1.le le_14
      replace h2 := h2.le le_14
      replace h4 := h4.le le_14
      try simp only [go_sem, Nat.reduceEqDiff, Nat.reduceAdd, Bool.false_eq_true, Nat.reduceBEq, ↓reduceIte]
      first | refine ev_call (rsign_ok _ _ _ h4) ?_ | refine ev_callP (rsign_ok _ _ _ h4) ?_
      rintro v_15 H_15 le_15 rfl _
      replace h1 := h1.le le_15
      replace h2 := h2.le le_15
      replace h4 := h4.le le_15
      try simp only [go_sem, Nat.reduceEqDiff, Nat.reduceAdd, Bool.false_eq_true, Nat.reduceBEq, ↓reduceIte]
      refine ev_pos (by trivial) ?_
      try simp only [go_sem, Nat.reduceEqDiff, Nat.reduceAdd, Bool.false_eq_true, Nat.reduceBEq, ↓reduceIte]
      first | refine ev_call (rnum_ok _ _ q h1) ?_ | refine ev_callP (rnum_ok _ _ q h1) ?_
      rintro v_16 H_16 le_16 g1 _
      replace h1 := h1.le le_16
      replace h2 := h2.le le_16
      replace h4 := h4.le le_16
      try simp only [go_sem, Nat.reduceEqDiff, Nat.reduceAdd, Bool.false_eq_true, Nat.reduceBEq, ↓reduceIte]
      first | refine ev_call (wtext_ok _ _ _ g1 (by omega)) ?_ | refine ev_callP (wtext_ok _ _ _ g1 (by omega)) ?_
      rintro v_17 H_17 le_17 rfl _
      replace h1 := h1.le le_17
      replace h2 := h2.le le_17
      replace h4 := h4.le le_17
      try simp only [go_sem, Nat.reduceEqDiff, Nat.reduceAdd, Bool.false_eq_true, Nat.reduceBEq, ↓reduceIte]
      first | refine ev_call (rtextI_ok _ _ _ h4 (by omega)) ?_ | refine ev_callP (rtextI_ok _ _ _ h4 (by omega)) ?_
      rintro v_18 H_18 le_18 rfl _
      replace h1 := h1.le le_18
      replace h2 := h2.le le_18
      try simp only [go_sem, Nat.reduceEqDiff, Nat.reduceAdd, Bool.false_eq_true, Nat.reduceBEq, ↓reduceIte]
      refine ev_pos (by trivial) ?_
      try simp only [go_sem, Nat.reduceEqDiff, Nat.reduceAdd, Bool.false_eq_true, Nat.reduceBEq, ↓reduceIte]
      first | refine ev_call (rden_ok _ _ q h1 (by omega)) ?_ | refine ev_callP (rden_ok _ _ q h1 (by omega)) ?_
      rintro v_19 H_19 le_19 g2 _
      replace h2 := h2.le le_19
      try simp only [go_sem, Nat.reduceEqDiff, Nat.reduceAdd, Bool.false_eq_true, Nat.reduceBEq, ↓reduceIte]
      first | refine ev_call (wtext_ok _ _ _ g2 (by rw [bi_cast]; omega)) ?_ | refine ev_callP (wtext_ok _ _ _ g2 (by rw [bi_cast]; omega)) ?_
      rintro v_20 H_20 le_20 rfl _
      replace h2 := h2.le le_20
      try simp only [go_sem, Nat.reduceEqDiff, Nat.reduceAdd, Bool.false_eq_true, Nat.reduceBEq, ↓reduceIte]
      first | refine ev_call (rden_okR _ _ q h2) ?_ | refine ev_callP (rden_okR _ _ q h2) ?_
      rintro v_21 H_21 le_21 g3 _
      try simp only [go_sem, Nat.reduceEqDiff, Nat.reduceAdd, Bool.false_eq_true, Nat.reduceBEq, ↓reduceIte]
      first | refine ev_call (rtext_ok _ _ _ g3 (by omega)) ?_ | refine ev_callP (rtext_ok _ _ _ g3 (by omega)) ?_
      rintro v_22 H_22 le_22 rfl _
      try simp only [go_sem, Nat.reduceEqDiff, Nat.reduceAdd, Bool.false_eq_true, Nat.reduceBEq, ↓reduceIte]
      have hit : itxt (q.den : Int) = txt q.den := by unfold itxt; rw [if_neg (by omega), Int.natAbs_natCast]
      refine ev_pos (by rw [hit]) ?_
      try simp only [go_sem, Nat.reduceEqDiff, Nat.reduceAdd, Bool.false_eq_true, Nat.reduceBEq, ↓reduceIte]
      exact ⟨by trivial, by trivial⟩

theorem RatNews_ok (H : PH) (a b : ByteArray) : FnP Try.prog 4 [.string a, .string b] H fun v _ => v = .bool true := by
  refine of_cincturelaw3_RatNews (by simp) ?_
  try simp only [go_sem, Nat.reduceEqDiff, Nat.reduceAdd, Bool.false_eq_true, Nat.reduceBEq, ↓reduceIte, p_cincturelaw3_RatNews]
  first | refine ev_call (aliveR_ok _) ?_ | refine ev_callP (aliveR_ok _) ?_
  rintro v_23 H_23 le_23 rfl _
  try simp only [go_sem, Nat.reduceEqDiff, Nat.reduceAdd, Bool.false_eq_true, Nat.reduceBEq, ↓reduceIte]
  first | refine ev_call (rparseI_ok _ a) ?_ | refine ev_callP (rparseI_ok _ a) ?_
  rintro v_24 H_24 le_24 ⟨ra, rfl, h1⟩ _
  try simp only [go_sem, Nat.reduceEqDiff, Nat.reduceAdd, Bool.false_eq_true, Nat.reduceBEq, ↓reduceIte]
  obtain ⟨A1, l1, c1, b1, rfl⟩ := h1.form
  try simp only [go_sem, Nat.reduceEqDiff, Nat.reduceAdd, Bool.false_eq_true, Nat.reduceBEq, ↓reduceIte]
  first | refine ev_call (rparseI_ok _ b) ?_ | refine ev_callP (rparseI_ok _ b) ?_
  rintro v_25 H_25 le_25 ⟨rb, rfl, h2⟩ _
  replace h1 := h1.le le_25
  try simp only [go_sem, Nat.reduceEqDiff, Nat.reduceAdd, Bool.false_eq_true, Nat.reduceBEq, ↓reduceIte]
  obtain ⟨A2, l2, c2, b2, rfl⟩ := h2.form
  cases hk : intOk (bs a) with
  | false =>
    try simp only [go_sem, Nat.reduceEqDiff, Nat.reduceAdd, Bool.false_eq_true, Nat.reduceBEq, ↓reduceIte, hk]
    exact ⟨by trivial, by trivial⟩
  | true =>
    cases hk2 : intOk (bs b) with
    | false =>
      try simp only [go_sem, Nat.reduceEqDiff, Nat.reduceAdd, Bool.false_eq_true, Nat.reduceBEq, ↓reduceIte, hk, hk2]
      exact ⟨by trivial, by trivial⟩
    | true =>
      have hbx := bi_iv hk
      have hby := bi_iv hk2
      rw [bs_length] at hbx hby
      rw [hk, if_pos rfl] at h1
      rw [hk2, if_pos rfl] at h2
      try simp only [go_sem, Nat.reduceEqDiff, Nat.reduceAdd, Bool.false_eq_true, Nat.reduceBEq, ↓reduceIte, hk, hk2]
      refine ev_if (fun h => ?_) (fun h => ?_)
      · try simp only [go_sem, Nat.reduceEqDiff, Nat.reduceAdd, Bool.false_eq_true, Nat.reduceBEq, ↓reduceIte]
        exact ⟨by trivial, by trivial⟩
      · try simp only [go_sem, Nat.reduceEqDiff, Nat.reduceAdd, Bool.false_eq_true, Nat.reduceBEq, ↓reduceIte]
        refine ev_if (fun h => ?_) (fun h => ?_)
        · try simp only [go_sem, Nat.reduceEqDiff, Nat.reduceAdd, Bool.false_eq_true, Nat.reduceBEq, ↓reduceIte]
          exact ⟨by trivial, by trivial⟩
        · try simp only [go_sem, Nat.reduceEqDiff, Nat.reduceAdd, Bool.false_eq_true, Nat.reduceBEq, ↓reduceIte]
          first | refine ev_call (wparse_ok _ a) ?_ | refine ev_callP (wparse_ok _ a) ?_
          rintro v_26 H_26 le_26 ⟨va, rfl, h3⟩ _
          replace h1 := h1.le le_26
          replace h2 := h2.le le_26
          try simp only [go_sem, Nat.reduceEqDiff, Nat.reduceAdd, Bool.false_eq_true, Nat.reduceBEq, ↓reduceIte]
          obtain ⟨A3, l3, c3, b3, rfl⟩ := h3.form
          rw [hk, if_pos rfl] at h3
          try simp only [go_sem, Nat.reduceEqDiff, Nat.reduceAdd, Bool.false_eq_true, Nat.reduceBEq, ↓reduceIte]
          first | refine ev_call (wparse_ok _ b) ?_ | refine ev_callP (wparse_ok _ b) ?_
          rintro v_27 H_27 le_27 ⟨vb, rfl, h4⟩ _
          replace h1 := h1.le le_27
          replace h2 := h2.le le_27
          replace h3 := h3.le le_27
          try simp only [go_sem, Nat.reduceEqDiff, Nat.reduceAdd, Bool.false_eq_true, Nat.reduceBEq, ↓reduceIte]
          obtain ⟨A4, l4, c4, b4, rfl⟩ := h4.form
          rw [hk2, if_pos rfl] at h4
          generalize iv (bs a) = x at *
          generalize iv (bs b) = y at *
          try simp only [go_sem, Nat.reduceEqDiff, Nat.reduceAdd, Bool.false_eq_true, Nat.reduceBEq, ↓reduceIte]
          by_cases hy : y = 0
          · subst hy
            first | refine ev_call (rnew_ok0 _ _ _ x h3 h4) ?_ | refine ev_callP (rnew_ok0 _ _ _ x h3 h4) ?_
            rintro v_28 H_28 le_28 ⟨v5, rfl, h5⟩ _
            replace h1 := h1.le le_28
            replace h2 := h2.le le_28
            try simp only [go_sem, Nat.reduceEqDiff, Nat.reduceAdd, Bool.false_eq_true, Nat.reduceBEq, ↓reduceIte]
            obtain ⟨A5, l5, c5, b5, B5, m5, e5, rfl⟩ := h5.form
            try simp only [go_sem, Nat.reduceEqDiff, Nat.reduceAdd, Bool.false_eq_true, Nat.reduceBEq, ↓reduceIte]
            first | refine ev_call (rsign_ok _ _ _ h2) ?_ | refine ev_callP (rsign_ok _ _ _ h2) ?_
            rintro v_29 H_29 le_29 rfl _
            replace h1 := h1.le le_29
            replace h5 := h5.le le_29
            try simp only [go_sem, Nat.reduceEqDiff, Nat.reduceAdd, Bool.false_eq_true, Nat.reduceBEq, ↓reduceIte]
            refine ev_pos (by decide) ?_
            try simp only [go_sem, Nat.reduceEqDiff, Nat.reduceAdd, Bool.false_eq_true, Nat.reduceBEq, ↓reduceIte]
            first | refine ev_call (rtext_ok' _ _ 0 h5 (by decide)) ?_ | refine ev_callP (rtext_ok' _ _ 0 h5 (by decide)) ?_
            rintro v_30 H_30 le_30 rfl _
            try simp only [go_sem, Nat.reduceEqDiff, Nat.reduceAdd, Bool.false_eq_true, Nat.reduceBEq, ↓reduceIte]
            refine ev_pos rtx_zero ?_
            try simp only [go_sem, Nat.reduceEqDiff, Nat.reduceAdd, Bool.false_eq_true, Nat.reduceBEq, ↓reduceIte]
            exact ⟨by trivial, by trivial⟩
          · have hbd := br_divI x y
            first | refine ev_call (rnew_ok1 _ _ _ x y h3 h4 (by omega) (by omega) hy) ?_ | refine ev_callP (rnew_ok1 _ _ _ x y h3 h4 (by omega) (by omega) hy) ?_
            rintro v_31 H_31 le_31 ⟨v5, rfl, h5⟩ _
            replace h1 := h1.le le_31
            replace h2 := h2.le le_31
            try simp only [go_sem, Nat.reduceEqDiff, Nat.reduceAdd, Bool.false_eq_true, Nat.reduceBEq, ↓reduceIte]
            obtain ⟨A5, l5, c5, b5, B5, m5, e5, rfl⟩ := h5.form
            try simp only [go_sem, Nat.reduceEqDiff, Nat.reduceAdd, Bool.false_eq_true, Nat.reduceBEq, ↓reduceIte]
            first | refine ev_call (rsign_ok _ _ _ h2) ?_ | refine ev_callP (rsign_ok _ _ _ h2) ?_
            rintro v_32 H_32 le_32 rfl _
            replace h1 := h1.le le_32
            replace h2 := h2.le le_32
            replace h5 := h5.le le_32
            try simp only [go_sem, Nat.reduceEqDiff, Nat.reduceAdd, Bool.false_eq_true, Nat.reduceBEq, ↓reduceIte]
            refine ev_neg (by unfold sgnI; split <;> (try split) <;> omega) ?_
            try simp only [go_sem, Nat.reduceEqDiff, Nat.reduceAdd, Bool.false_eq_true, Nat.reduceBEq, ↓reduceIte]
            first | refine ev_call (ratNew_ok _ _ _ x y h1 h2 (by omega) (by omega) hy) ?_ | refine ev_callP (ratNew_ok _ _ _ x y h1 h2 (by omega) (by omega) hy) ?_
            rintro v_33 H_33 le_33 h6 _
            replace h5 := h5.le le_33
            try simp only [go_sem, Nat.reduceEqDiff, Nat.reduceAdd, Bool.false_eq_true, Nat.reduceBEq, ↓reduceIte]
            first | refine ev_call (isQ_ok _ _ _ _ h5 h6 (by omega)) ?_ | refine ev_callP (isQ_ok _ _ _ _ h5 h6 (by omega)) ?_
            rintro v_34 H_34 le_34 rfl _
            try simp only [go_sem, Nat.reduceEqDiff, Nat.reduceAdd, Bool.false_eq_true, Nat.reduceBEq, ↓reduceIte]
            exact ⟨by trivial, by trivial⟩

theorem RatAdds_ok (H : PH) (a : ByteArray) (ha : a.size ≤ 9223372036854775807) (b : ByteArray) (hb : b.size ≤ 9223372036854775807) : FnP Try.prog 5 [.string a, .string b] H fun v _ => v = .bool true := by
  refine of_cincturelaw3_RatAdds (by simp) ?_
  try simp only [go_sem, Nat.reduceEqDiff, Nat.reduceAdd, Bool.false_eq_true, Nat.reduceBEq, ↓reduceIte, p_cincturelaw3_RatAdds]
  first | refine ev_call (numQ_ok _ a ha) ?_ | refine ev_callP (numQ_ok _ a ha) ?_
  rintro v_35 H_35 le_35 ⟨va, ra, rfl, h1, h2⟩ _
  try simp only [go_sem, Nat.reduceEqDiff, Nat.reduceAdd, Bool.false_eq_true, Nat.reduceBEq, ↓reduceIte]
  obtain ⟨A1, l1, c1, b1, B1, m1, e1, rfl⟩ := h1.form
  obtain ⟨b2, A2, l2, c2, B2, m2, e2, rfl⟩ := h2.form
  try simp only [go_sem, Nat.reduceEqDiff, Nat.reduceAdd, Bool.false_eq_true, Nat.reduceBEq, ↓reduceIte]
  first | refine ev_call (numQ_ok _ b hb) ?_ | refine ev_callP (numQ_ok _ b hb) ?_
  rintro v_36 H_36 le_36 ⟨vb, rb, rfl, h3, h4⟩ _
  replace h1 := h1.le le_36
  replace h2 := h2.le le_36
  try simp only [go_sem, Nat.reduceEqDiff, Nat.reduceAdd, Bool.false_eq_true, Nat.reduceBEq, ↓reduceIte]
  obtain ⟨A3, l3, c3, b3, B3, m3, e3, rfl⟩ := h3.form
  obtain ⟨b4, A4, l4, c4, B4, m4, e4, rfl⟩ := h4.form
  cases hk : qok a with
  | false =>
    try simp only [go_sem, Nat.reduceEqDiff, Nat.reduceAdd, Bool.false_eq_true, Nat.reduceBEq, ↓reduceIte, hk]
    first | refine ev_call (aliveR_ok _) ?_ | refine ev_callP (aliveR_ok _) ?_
    rintro v_37 H_37 le_37 rfl _
    try simp only [go_sem, Nat.reduceEqDiff, Nat.reduceAdd, Bool.false_eq_true, Nat.reduceBEq, ↓reduceIte]
    exact ⟨by trivial, by trivial⟩
  | true =>
    cases hk2 : qok b with
    | false =>
      try simp only [go_sem, Nat.reduceEqDiff, Nat.reduceAdd, Bool.false_eq_true, Nat.reduceBEq, ↓reduceIte, hk, hk2]
      first | refine ev_call (aliveR_ok _) ?_ | refine ev_callP (aliveR_ok _) ?_
      rintro v_37 H_37 le_37 rfl _
      try simp only [go_sem, Nat.reduceEqDiff, Nat.reduceAdd, Bool.false_eq_true, Nat.reduceBEq, ↓reduceIte]
      exact ⟨by trivial, by trivial⟩
    | true =>
      rw [hk, if_pos rfl] at h1 h2
      rw [hk2, if_pos rfl] at h3 h4
      have hbx := (qok_br hk).1
      have hby := (qok_br hk2).1
      generalize rv (bs a) = x at *
      generalize rv (bs b) = y at *
      have s1 := br_add x y
      have s2 := br_sub x y
      have s3 := br_mul x y
      have s4 := br_neg x
      try simp only [go_sem, Nat.reduceEqDiff, Nat.reduceAdd, Bool.false_eq_true, Nat.reduceBEq, ↓reduceIte, hk, hk2]
      first | refine ev_call (aliveR_ok _) ?_ | refine ev_callP (aliveR_ok _) ?_
      rintro v_38 H_38 le_38 rfl _
      replace h1 := h1.le le_38
      replace h2 := h2.le le_38
      replace h3 := h3.le le_38
      replace h4 := h4.le le_38
      try simp only [go_sem, Nat.reduceEqDiff, Nat.reduceAdd, Bool.false_eq_true, Nat.reduceBEq, ↓reduceIte]
      first | refine ev_call (radd'_ok _ _ _ x y h1 h3 (by omega)) ?_ | refine ev_callP (radd'_ok _ _ _ x y h1 h3 (by omega)) ?_
      rintro v_39 H_39 le_39 g1 _
      replace h1 := h1.le le_39
      replace h2 := h2.le le_39
      replace h3 := h3.le le_39
      replace h4 := h4.le le_39
      try simp only [go_sem, Nat.reduceEqDiff, Nat.reduceAdd, Bool.false_eq_true, Nat.reduceBEq, ↓reduceIte]
      first | refine ev_call (raddR_ok _ _ _ x y h2 h4 (by omega)) ?_ | refine ev_callP (raddR_ok _ _ _ x y h2 h4 (by omega)) ?_
      rintro v_40 H_40 le_40 g2 _
      replace h1 := h1.le le_40
      replace h2 := h2.le le_40
      replace h3 := h3.le le_40
      replace h4 := h4.le le_40
      replace g1 := g1.le le_40
      try simp only [go_sem, Nat.reduceEqDiff, Nat.reduceAdd, Bool.false_eq_true, Nat.reduceBEq, ↓reduceIte]
      first | refine ev_call (isQ_ok _ _ _ _ g1 g2 (by omega)) ?_ | refine ev_callP (isQ_ok _ _ _ _ g1 g2 (by omega)) ?_
      rintro v_41 H_41 le_41 rfl _
      replace h1 := h1.le le_41
      replace h2 := h2.le le_41
      replace h3 := h3.le le_41
      replace h4 := h4.le le_41
      try simp only [go_sem, Nat.reduceEqDiff, Nat.reduceAdd, Bool.false_eq_true, Nat.reduceBEq, ↓reduceIte]
      first | refine ev_call (rsub'_ok _ _ _ x y h1 h3 (by omega)) ?_ | refine ev_callP (rsub'_ok _ _ _ x y h1 h3 (by omega)) ?_
      rintro v_42 H_42 le_42 g3 _
      replace h1 := h1.le le_42
      replace h2 := h2.le le_42
      replace h3 := h3.le le_42
      replace h4 := h4.le le_42
      try simp only [go_sem, Nat.reduceEqDiff, Nat.reduceAdd, Bool.false_eq_true, Nat.reduceBEq, ↓reduceIte]
      first | refine ev_call (rsubR_ok _ _ _ x y h2 h4 (by omega)) ?_ | refine ev_callP (rsubR_ok _ _ _ x y h2 h4 (by omega)) ?_
      rintro v_43 H_43 le_43 g4 _
      replace h1 := h1.le le_43
      replace h2 := h2.le le_43
      replace h3 := h3.le le_43
      replace h4 := h4.le le_43
      replace g3 := g3.le le_43
      try simp only [go_sem, Nat.reduceEqDiff, Nat.reduceAdd, Bool.false_eq_true, Nat.reduceBEq, ↓reduceIte]
      first | refine ev_call (isQ_ok _ _ _ _ g3 g4 (by omega)) ?_ | refine ev_callP (isQ_ok _ _ _ _ g3 g4 (by omega)) ?_
      rintro v_44 H_44 le_44 rfl _
      replace h1 := h1.le le_44
      replace h2 := h2.le le_44
      replace h3 := h3.le le_44
      replace h4 := h4.le le_44
      try simp only [go_sem, Nat.reduceEqDiff, Nat.reduceAdd, Bool.false_eq_true, Nat.reduceBEq, ↓reduceIte]
      first | refine ev_call (rmul'_ok _ _ _ x y h1 h3 (by omega)) ?_ | refine ev_callP (rmul'_ok _ _ _ x y h1 h3 (by omega)) ?_
      rintro v_45 H_45 le_45 g5 _
      replace h1 := h1.le le_45
      replace h2 := h2.le le_45
      replace h3 := h3.le le_45
      replace h4 := h4.le le_45
      try simp only [go_sem, Nat.reduceEqDiff, Nat.reduceAdd, Bool.false_eq_true, Nat.reduceBEq, ↓reduceIte]
      first | refine ev_call (rmulR_ok _ _ _ x y h2 h4 (by omega)) ?_ | refine ev_callP (rmulR_ok _ _ _ x y h2 h4 (by omega)) ?_
      rintro v_46 H_46 le_46 g6 _
      replace h1 := h1.le le_46
      replace h2 := h2.le le_46
      replace h3 := h3.le le_46
      replace h4 := h4.le le_46
      replace g5 := g5.le le_46
      try simp only [go_sem, Nat.reduceEqDiff, Nat.reduceAdd, Bool.false_eq_true, Nat.reduceBEq, ↓reduceIte]
      first | refine ev_call (isQ_ok _ _ _ _ g5 g6 (by omega)) ?_ | refine ev_callP (isQ_ok _ _ _ _ g5 g6 (by omega)) ?_
      rintro v_47 H_47 le_47 rfl _
      replace h1 := h1.le le_47
      replace h2 := h2.le le_47
      replace h3 := h3.le le_47
      replace h4 := h4.le le_47
      try simp only [go_sem, Nat.reduceEqDiff, Nat.reduceAdd, Bool.false_eq_true, Nat.reduceBEq, ↓reduceIte]
      first | refine ev_call (rcmpR_ok _ _ _ x y h1 h3 (by omega)) ?_ | refine ev_callP (rcmpR_ok _ _ _ x y h1 h3 (by omega)) ?_
      rintro v_48 H_48 le_48 rfl _
      replace h1 := h1.le le_48
      replace h2 := h2.le le_48
      replace h3 := h3.le le_48
      replace h4 := h4.le le_48
      try simp only [go_sem, Nat.reduceEqDiff, Nat.reduceAdd, Bool.false_eq_true, Nat.reduceBEq, ↓reduceIte]
      first | refine ev_call (rcmpRR_ok _ _ _ x y h2 h4 (by omega)) ?_ | refine ev_callP (rcmpRR_ok _ _ _ x y h2 h4 (by omega)) ?_
      rintro v_49 H_49 le_49 rfl _
      replace h1 := h1.le le_49
      replace h2 := h2.le le_49
      try simp only [go_sem, Nat.reduceEqDiff, Nat.reduceAdd, Bool.false_eq_true, Nat.reduceBEq, ↓reduceIte]
      refine ev_pos (by trivial) ?_
      try simp only [go_sem, Nat.reduceEqDiff, Nat.reduceAdd, Bool.false_eq_true, Nat.reduceBEq, ↓reduceIte]
      first | refine ev_call (rneg'_ok _ _ x h1 (by omega)) ?_ | refine ev_callP (rneg'_ok _ _ x h1 (by omega)) ?_
      rintro v_50 H_50 le_50 g7 _
      replace h2 := h2.le le_50
      try simp only [go_sem, Nat.reduceEqDiff, Nat.reduceAdd, Bool.false_eq_true, Nat.reduceBEq, ↓reduceIte]
      first | refine ev_call (rnegR_ok _ _ x h2) ?_ | refine ev_callP (rnegR_ok _ _ x h2) ?_
      rintro v_51 H_51 le_51 g8 _
      replace g7 := g7.le le_51
      try simp only [go_sem, Nat.reduceEqDiff, Nat.reduceAdd, Bool.false_eq_true, Nat.reduceBEq, ↓reduceIte]
      first | refine ev_call (isQ_ok _ _ _ _ g7 g8 (by omega)) ?_ | refine ev_callP (isQ_ok _ _ _ _ g7 g8 (by omega)) ?_
      rintro v_52 H_52 le_52 rfl _
      try simp only [go_sem, Nat.reduceEqDiff, Nat.reduceAdd, Bool.false_eq_true, Nat.reduceBEq, ↓reduceIte]
      exact ⟨by trivial, by trivial⟩

theorem RatDivides_ok (H : PH) (a : ByteArray) (ha : a.size ≤ 9223372036854775807) (b : ByteArray) (hb : b.size ≤ 9223372036854775807) : FnP Try.prog 8 [.string a, .string b] H fun v _ => v = .bool true := by
  refine of_cincturelaw3_RatDivides (by simp) ?_
  try simp only [go_sem, Nat.reduceEqDiff, Nat.reduceAdd, Bool.false_eq_true, Nat.reduceBEq, ↓reduceIte, p_cincturelaw3_RatDivides]
  first | refine ev_call (numQ_ok _ a ha) ?_ | refine ev_callP (numQ_ok _ a ha) ?_
  rintro v_35 H_35 le_35 ⟨va, ra, rfl, h1, h2⟩ _
  try simp only [go_sem, Nat.reduceEqDiff, Nat.reduceAdd, Bool.false_eq_true, Nat.reduceBEq, ↓reduceIte]
  obtain ⟨A1, l1, c1, b1, B1, m1, e1, rfl⟩ := h1.form
  obtain ⟨b2, A2, l2, c2, B2, m2, e2, rfl⟩ := h2.form
  try simp only [go_sem, Nat.reduceEqDiff, Nat.reduceAdd, Bool.false_eq_true, Nat.reduceBEq, ↓reduceIte]
  first | refine ev_call (numQ_ok _ b hb) ?_ | refine ev_callP (numQ_ok _ b hb) ?_
  rintro v_36 H_36 le_36 ⟨vb, rb, rfl, h3, h4⟩ _
  replace h1 := h1.le le_36
  replace h2 := h2.le le_36
  try simp only [go_sem, Nat.reduceEqDiff, Nat.reduceAdd, Bool.false_eq_true, Nat.reduceBEq, ↓reduceIte]
  obtain ⟨A3, l3, c3, b3, B3, m3, e3, rfl⟩ := h3.form
  obtain ⟨b4, A4, l4, c4, B4, m4, e4, rfl⟩ := h4.form
  cases hk : qok a with
  | false =>
    try simp only [go_sem, Nat.reduceEqDiff, Nat.reduceAdd, Bool.false_eq_true, Nat.reduceBEq, ↓reduceIte, hk]
    first | refine ev_call (aliveR_ok _) ?_ | refine ev_callP (aliveR_ok _) ?_
    rintro v_37 H_37 le_37 rfl _
    try simp only [go_sem, Nat.reduceEqDiff, Nat.reduceAdd, Bool.false_eq_true, Nat.reduceBEq, ↓reduceIte]
    exact ⟨by trivial, by trivial⟩
  | true =>
    cases hk2 : qok b with
    | false =>
      try simp only [go_sem, Nat.reduceEqDiff, Nat.reduceAdd, Bool.false_eq_true, Nat.reduceBEq, ↓reduceIte, hk, hk2]
      first | refine ev_call (aliveR_ok _) ?_ | refine ev_callP (aliveR_ok _) ?_
      rintro v_37 H_37 le_37 rfl _
      try simp only [go_sem, Nat.reduceEqDiff, Nat.reduceAdd, Bool.false_eq_true, Nat.reduceBEq, ↓reduceIte]
      exact ⟨by trivial, by trivial⟩
    | true =>
      rw [hk, if_pos rfl] at h1 h2
      rw [hk2, if_pos rfl] at h3 h4
      have hbx := (qok_br hk).1
      have hby := (qok_br hk2).1
      generalize rv (bs a) = x at *
      generalize rv (bs b) = y at *
      have s1 := br_div x y
      have f1 : bi x.floor ≤ br x + 1 := by
        rw [floor_eq]
        have h9 := (bi_fdiv (z := x.num) (w := x.den) (by have := x.den_nz; omega)).1
        have := bi_br x
        omega
      try simp only [go_sem, Nat.reduceEqDiff, Nat.reduceAdd, Bool.false_eq_true, Nat.reduceBEq, ↓reduceIte, hk, hk2]
      first | refine ev_call (aliveR_ok _) ?_ | refine ev_callP (aliveR_ok _) ?_
      rintro v_53 H_53 le_53 rfl _
      replace h1 := h1.le le_53
      replace h2 := h2.le le_53
      replace h3 := h3.le le_53
      replace h4 := h4.le le_53
      try simp only [go_sem, Nat.reduceEqDiff, Nat.reduceAdd, Bool.false_eq_true, Nat.reduceBEq, ↓reduceIte]
      by_cases hy : y = 0
      · subst hy
        first | refine ev_call (rdiv'_ok0 _ _ _ x h1 h3) ?_ | refine ev_callP (rdiv'_ok0 _ _ _ x h1 h3) ?_
        rintro v_59 H_59 le_59 ⟨vd, rfl, g1⟩ _
        replace h1 := h1.le le_59
        replace h2 := h2.le le_59
        replace h3 := h3.le le_59
        replace h4 := h4.le le_59
        try simp only [go_sem, Nat.reduceEqDiff, Nat.reduceAdd, Bool.false_eq_true, Nat.reduceBEq, ↓reduceIte]
        obtain ⟨A7, l7, c7, b7, B7, m7, e7, rfl⟩ := g1.form
        try simp only [go_sem, Nat.reduceEqDiff, Nat.reduceAdd, Bool.false_eq_true, Nat.reduceBEq, ↓reduceIte]
        first | refine ev_call (rfloor_ok _ _ x h1 (by omega)) ?_ | refine ev_callP (rfloor_ok _ _ x h1 (by omega)) ?_
        rintro v_54 H_54 le_54 g3 _
        replace h1 := h1.le le_54
        replace h2 := h2.le le_54
        replace h3 := h3.le le_54
        replace h4 := h4.le le_54
        replace g1 := g1.le le_54
        try simp only [go_sem, Nat.reduceEqDiff, Nat.reduceAdd, Bool.false_eq_true, Nat.reduceBEq, ↓reduceIte]
        first | refine ev_call (wtext_ok _ _ _ g3 (by omega)) ?_ | refine ev_callP (wtext_ok _ _ _ g3 (by omega)) ?_
        rintro v_55 H_55 le_55 rfl _
        replace h1 := h1.le le_55
        replace h2 := h2.le le_55
        replace h3 := h3.le le_55
        replace h4 := h4.le le_55
        replace g1 := g1.le le_55
        try simp only [go_sem, Nat.reduceEqDiff, Nat.reduceAdd, Bool.false_eq_true, Nat.reduceBEq, ↓reduceIte]
        first | refine ev_call (rfloorR_ok _ _ x h2 (by omega)) ?_ | refine ev_callP (rfloorR_ok _ _ x h2 (by omega)) ?_
        rintro v_56 H_56 le_56 g4 _
        replace h1 := h1.le le_56
        replace h2 := h2.le le_56
        replace h3 := h3.le le_56
        replace h4 := h4.le le_56
        replace g1 := g1.le le_56
        try simp only [go_sem, Nat.reduceEqDiff, Nat.reduceAdd, Bool.false_eq_true, Nat.reduceBEq, ↓reduceIte]
        first | refine ev_call (rtextI_ok _ _ _ g4 (by omega)) ?_ | refine ev_callP (rtextI_ok _ _ _ g4 (by omega)) ?_
        rintro v_57 H_57 le_57 rfl _
        replace h1 := h1.le le_57
        replace h2 := h2.le le_57
        replace h3 := h3.le le_57
        replace h4 := h4.le le_57
        replace g1 := g1.le le_57
        try simp only [go_sem, Nat.reduceEqDiff, Nat.reduceAdd, Bool.false_eq_true, Nat.reduceBEq, ↓reduceIte]
        refine ev_neg (by simp) ?_
        try simp only [go_sem, Nat.reduceEqDiff, Nat.reduceAdd, Bool.false_eq_true, Nat.reduceBEq, ↓reduceIte]
        obtain ⟨h5, _⟩ := h4.parts
        first | refine ev_call (rsign_ok _ _ _ h5) ?_ | refine ev_callP (rsign_ok _ _ _ h5) ?_
        rintro v_58 H_58 le_58 rfl _
        replace h1 := h1.le le_58
        replace h2 := h2.le le_58
        replace h3 := h3.le le_58
        replace h4 := h4.le le_58
        replace g1 := g1.le le_58
        try simp only [go_sem, Nat.reduceEqDiff, Nat.reduceAdd, Bool.false_eq_true, Nat.reduceBEq, ↓reduceIte]
        refine ev_pos (by decide) ?_
        try simp only [go_sem, Nat.reduceEqDiff, Nat.reduceAdd, Bool.false_eq_true, Nat.reduceBEq, ↓reduceIte]
        first | refine ev_call (rtext_ok' _ _ 0 g1 (by decide)) ?_ | refine ev_callP (rtext_ok' _ _ 0 g1 (by decide)) ?_
        rintro v_60 H_60 le_60 rfl _
        try simp only [go_sem, Nat.reduceEqDiff, Nat.reduceAdd, Bool.false_eq_true, Nat.reduceBEq, ↓reduceIte]
        refine ev_pos rtx_zero ?_
        try simp only [go_sem, Nat.reduceEqDiff, Nat.reduceAdd, Bool.false_eq_true, Nat.reduceBEq, ↓reduceIte]
        exact ⟨by trivial, by trivial⟩
      · have hyn : y.num ≠ 0 := fun h => hy ((num_eq_zero y).1 h)
        first | refine ev_call (rdiv'_ok1 _ _ _ x y h1 h3 (by omega) hy) ?_ | refine ev_callP (rdiv'_ok1 _ _ _ x y h1 h3 (by omega) hy) ?_
        rintro v_61 H_61 le_61 ⟨vd, rfl, g1⟩ _
        replace h1 := h1.le le_61
        replace h2 := h2.le le_61
        replace h3 := h3.le le_61
        replace h4 := h4.le le_61
        try simp only [go_sem, Nat.reduceEqDiff, Nat.reduceAdd, Bool.false_eq_true, Nat.reduceBEq, ↓reduceIte]
        obtain ⟨A7, l7, c7, b7, B7, m7, e7, rfl⟩ := g1.form
        try simp only [go_sem, Nat.reduceEqDiff, Nat.reduceAdd, Bool.false_eq_true, Nat.reduceBEq, ↓reduceIte]
        first | refine ev_call (rfloor_ok _ _ x h1 (by omega)) ?_ | refine ev_callP (rfloor_ok _ _ x h1 (by omega)) ?_
        rintro v_54 H_54 le_54 g3 _
        replace h1 := h1.le le_54
        replace h2 := h2.le le_54
        replace h3 := h3.le le_54
        replace h4 := h4.le le_54
        replace g1 := g1.le le_54
        try simp only [go_sem, Nat.reduceEqDiff, Nat.reduceAdd, Bool.false_eq_true, Nat.reduceBEq, ↓reduceIte]
        first | refine ev_call (wtext_ok _ _ _ g3 (by omega)) ?_ | refine ev_callP (wtext_ok _ _ _ g3 (by omega)) ?_
        rintro v_55 H_55 le_55 rfl _
        replace h1 := h1.le le_55
        replace h2 := h2.le le_55
        replace h3 := h3.le le_55
        replace h4 := h4.le le_55
        replace g1 := g1.le le_55
        try simp only [go_sem, Nat.reduceEqDiff, Nat.reduceAdd, Bool.false_eq_true, Nat.reduceBEq, ↓reduceIte]
        first | refine ev_call (rfloorR_ok _ _ x h2 (by omega)) ?_ | refine ev_callP (rfloorR_ok _ _ x h2 (by omega)) ?_
        rintro v_56 H_56 le_56 g4 _
        replace h1 := h1.le le_56
        replace h2 := h2.le le_56
        replace h3 := h3.le le_56
        replace h4 := h4.le le_56
        replace g1 := g1.le le_56
        try simp only [go_sem, Nat.reduceEqDiff, Nat.reduceAdd, Bool.false_eq_true, Nat.reduceBEq, ↓reduceIte]
        first | refine ev_call (rtextI_ok _ _ _ g4 (by omega)) ?_ | refine ev_callP (rtextI_ok _ _ _ g4 (by omega)) ?_
        rintro v_57 H_57 le_57 rfl _
        replace h1 := h1.le le_57
        replace h2 := h2.le le_57
        replace h3 := h3.le le_57
        replace h4 := h4.le le_57
        replace g1 := g1.le le_57
        try simp only [go_sem, Nat.reduceEqDiff, Nat.reduceAdd, Bool.false_eq_true, Nat.reduceBEq, ↓reduceIte]
        refine ev_neg (by simp) ?_
        try simp only [go_sem, Nat.reduceEqDiff, Nat.reduceAdd, Bool.false_eq_true, Nat.reduceBEq, ↓reduceIte]
        obtain ⟨h5, _⟩ := h4.parts
        first | refine ev_call (rsign_ok _ _ _ h5) ?_ | refine ev_callP (rsign_ok _ _ _ h5) ?_
        rintro v_58 H_58 le_58 rfl _
        replace h1 := h1.le le_58
        replace h2 := h2.le le_58
        replace h3 := h3.le le_58
        replace h4 := h4.le le_58
        replace g1 := g1.le le_58
        try simp only [go_sem, Nat.reduceEqDiff, Nat.reduceAdd, Bool.false_eq_true, Nat.reduceBEq, ↓reduceIte]
        refine ev_neg (by unfold sgnI; split <;> (try split) <;> omega) ?_
        try simp only [go_sem, Nat.reduceEqDiff, Nat.reduceAdd, Bool.false_eq_true, Nat.reduceBEq, ↓reduceIte]
        first | refine ev_call (rdivR_ok _ _ _ x y h2 h4 (by omega) hy) ?_ | refine ev_callP (rdivR_ok _ _ _ x y h2 h4 (by omega) hy) ?_
        rintro v_62 H_62 le_62 g2 _
        replace g1 := g1.le le_62
        try simp only [go_sem, Nat.reduceEqDiff, Nat.reduceAdd, Bool.false_eq_true, Nat.reduceBEq, ↓reduceIte]
        first | refine ev_call (isQ_ok _ _ _ _ g1 g2 (by omega)) ?_ | refine ev_callP (isQ_ok _ _ _ _ g1 g2 (by omega)) ?_
        rintro v_63 H_63 le_63 rfl _
        try simp only [go_sem, Nat.reduceEqDiff, Nat.reduceAdd, Bool.false_eq_true, Nat.reduceBEq, ↓reduceIte]
        exact ⟨by trivial, by trivial⟩

end Go.Proofs.Ytepnmenidnjikaa.X
set_option linter.unusedVariables false
set_option linter.unusedSimpArgs false
namespace Go.Proofs.Ytepnmenidnjikaa.X
open Go Go.RowKit Go.Proofs

theorem RatPows_ok (H : PH) (a : ByteArray) (ha : a.size ≤ 9223372036854775807) (n : Int) (w : (Lit.int .i64 n).wf = true) : FnP Try.prog 6 [.string a, .int .i64 n] H fun v _ => v = .bool true := by
  obtain ⟨hn1, hn2⟩ := i64_of_wf w
  clear w
  refine of_cincturelaw3_RatPows (by simp) ?_
  try simp only [go_sem, Nat.reduceEqDiff, Nat.reduceAdd, Bool.false_eq_true, Nat.reduceBEq, ↓reduceIte, p_cincturelaw3_RatPows]
  first | refine ev_call (numQ_ok _ a ha) ?_ | refine ev_callP (numQ_ok _ a ha) ?_
  rintro v_2 H_2 le_2 ⟨va, ra, rfl, h1, h2⟩ _
  try simp only [go_sem, Nat.reduceEqDiff, Nat.reduceAdd, Bool.false_eq_true, Nat.reduceBEq, ↓reduceIte]
  obtain ⟨A1, l1, c1, b1, B1, m1, e1, rfl⟩ := h1.form
  obtain ⟨b2, A2, l2, c2, B2, m2, e2, rfl⟩ := h2.form
  cases hk : qok a with
  | false =>
    try simp only [go_sem, Nat.reduceEqDiff, Nat.reduceAdd, Bool.false_eq_true, Nat.reduceBEq, ↓reduceIte, hk]
    first | refine ev_call (aliveR_ok _) ?_ | refine ev_callP (aliveR_ok _) ?_
    rintro v_1 H_1 le_1 rfl _
    try simp only [go_sem, Nat.reduceEqDiff, Nat.reduceAdd, Bool.false_eq_true, Nat.reduceBEq, ↓reduceIte]
    exact ⟨by trivial, by trivial⟩
  | true =>
    rw [hk, if_pos rfl] at h1 h2
    have hbx := (qok_br hk).1
    generalize rv (bs a) = x at *
    try simp only [go_sem, Nat.reduceEqDiff, Nat.reduceAdd, Bool.false_eq_true, Nat.reduceBEq, ↓reduceIte, hk]
    refine ev_if (fun h => ?_) (fun h => ?_)
    · try simp only [go_sem, Nat.reduceEqDiff, Nat.reduceAdd, Bool.false_eq_true, Nat.reduceBEq, ↓reduceIte]
      first | refine ev_call (aliveR_ok _) ?_ | refine ev_callP (aliveR_ok _) ?_
      rintro v_1 H_1 le_1 rfl _
      try simp only [go_sem, Nat.reduceEqDiff, Nat.reduceAdd, Bool.false_eq_true, Nat.reduceBEq, ↓reduceIte]
      exact ⟨by trivial, by trivial⟩
    · try simp only [go_sem, Nat.reduceEqDiff, Nat.reduceAdd, Bool.false_eq_true, Nat.reduceBEq, ↓reduceIte]
      first | refine ev_call (aliveR_ok _) ?_ | refine ev_callP (aliveR_ok _) ?_
      rintro v_3 H_3 le_3 rfl _
      replace h1 := h1.le le_3
      replace h2 := h2.le le_3
      try simp only [go_sem, Nat.reduceEqDiff, Nat.reduceAdd, Bool.false_eq_true, Nat.reduceBEq, ↓reduceIte]
      refine ev_if (fun h3 => ?_) (fun h3 => ?_)
      · obtain ⟨k, hk'⟩ : ∃ k : Int, k = 40 := ⟨_, rfl⟩
        try simp only [go_sem, Nat.reduceEqDiff, Nat.reduceAdd, Bool.false_eq_true, Nat.reduceBEq, ↓reduceIte]
        rw [← hk']
        have hE := expN_le k
        have s1 := br_pow x (expN k)
        have s2 : expN k * br x ≤ 255 * 401 := Nat.mul_le_mul hE hbx
        first | refine ev_call (rpow'_ok _ _ x k h1 (by omega)) ?_ | refine ev_callP (rpow'_ok _ _ x k h1 (by omega)) ?_
        rintro v_4 H_4 le_4 g1 _
        replace h2 := h2.le le_4
        try simp only [go_sem, Nat.reduceEqDiff, Nat.reduceAdd, Bool.false_eq_true, Nat.reduceBEq, ↓reduceIte]
        first | refine ev_call (rpowR_ok _ _ x k h2 (by omega)) ?_ | refine ev_callP (rpowR_ok _ _ x k h2 (by omega)) ?_
        rintro v_5 H_5 le_5 g2 _
        replace g1 := g1.le le_5
        try simp only [go_sem, Nat.reduceEqDiff, Nat.reduceAdd, Bool.false_eq_true, Nat.reduceBEq, ↓reduceIte]
        first | refine ev_call (isQ_ok _ _ _ _ g1 g2 (by omega)) ?_ | refine ev_callP (isQ_ok _ _ _ _ g1 g2 (by omega)) ?_
        rintro v_6 H_6 le_6 rfl _
        try simp only [go_sem, Nat.reduceEqDiff, Nat.reduceAdd, Bool.false_eq_true, Nat.reduceBEq, ↓reduceIte]
        exact ⟨by trivial, by trivial⟩
      · obtain ⟨k, hk'⟩ : ∃ k : Int, k = n := ⟨_, rfl⟩
        try simp only [go_sem, Nat.reduceEqDiff, Nat.reduceAdd, Bool.false_eq_true, Nat.reduceBEq, ↓reduceIte]
        rw [← hk']
        have hE := expN_le k
        have s1 := br_pow x (expN k)
        have s2 : expN k * br x ≤ 255 * 401 := Nat.mul_le_mul hE hbx
        first | refine ev_call (rpow'_ok _ _ x k h1 (by omega)) ?_ | refine ev_callP (rpow'_ok _ _ x k h1 (by omega)) ?_
        rintro v_4 H_4 le_4 g1 _
        replace h2 := h2.le le_4
        try simp only [go_sem, Nat.reduceEqDiff, Nat.reduceAdd, Bool.false_eq_true, Nat.reduceBEq, ↓reduceIte]
        first | refine ev_call (rpowR_ok _ _ x k h2 (by omega)) ?_ | refine ev_callP (rpowR_ok _ _ x k h2 (by omega)) ?_
        rintro v_5 H_5 le_5 g2 _
        replace g1 := g1.le le_5
        try simp only [go_sem, Nat.reduceEqDiff, Nat.reduceAdd, Bool.false_eq_true, Nat.reduceBEq, ↓reduceIte]
        first | refine ev_call (isQ_ok _ _ _ _ g1 g2 (by omega)) ?_ | refine ev_callP (isQ_ok _ _ _ _ g1 g2 (by omega)) ?_
        rintro v_6 H_6 le_6 rfl _
        try simp only [go_sem, Nat.reduceEqDiff, Nat.reduceAdd, Bool.false_eq_true, Nat.reduceBEq, ↓reduceIte]
        exact ⟨by trivial, by trivial⟩

theorem RatFields_ok (H : PH) (a : ByteArray) (ha : a.size ≤ 9223372036854775807) (b : ByteArray) (hb : b.size ≤ 9223372036854775807) (c : ByteArray) (hc : c.size ≤ 9223372036854775807) : FnP Try.prog 9 [.string a, .string b, .string c] H fun v _ => v = .bool true := by
  refine of_cincturelaw3_RatFields (by simp) ?_
  try simp only [go_sem, Nat.reduceEqDiff, Nat.reduceAdd, Bool.false_eq_true, Nat.reduceBEq, ↓reduceIte, p_cincturelaw3_RatFields]
  first | refine ev_call (numQ_ok _ a ha) ?_ | refine ev_callP (numQ_ok _ a ha) ?_
  rintro v_7 H_7 le_7 ⟨va, ra, rfl, h1, h2⟩ _
  try simp only [go_sem, Nat.reduceEqDiff, Nat.reduceAdd, Bool.false_eq_true, Nat.reduceBEq, ↓reduceIte]
  obtain ⟨A1, l1, c1, b1, B1, m1, e1, rfl⟩ := h1.form
  obtain ⟨b2, A2, l2, c2, B2, m2, e2, rfl⟩ := h2.form
  try simp only [go_sem, Nat.reduceEqDiff, Nat.reduceAdd, Bool.false_eq_true, Nat.reduceBEq, ↓reduceIte]
  first | refine ev_call (numQ_ok _ b hb) ?_ | refine ev_callP (numQ_ok _ b hb) ?_
  rintro v_8 H_8 le_8 ⟨vb, rb, rfl, h3, h4⟩ _
  replace h1 := h1.le le_8
  try simp only [go_sem, Nat.reduceEqDiff, Nat.reduceAdd, Bool.false_eq_true, Nat.reduceBEq, ↓reduceIte]
  obtain ⟨A3, l3, c3, b3, B3, m3, e3, rfl⟩ := h3.form
  obtain ⟨b4, A4, l4, c4, B4, m4, e4, rfl⟩ := h4.form
  try simp only [go_sem, Nat.reduceEqDiff, Nat.reduceAdd, Bool.false_eq_true, Nat.reduceBEq, ↓reduceIte]
  first | refine ev_call (numQ_ok _ c hc) ?_ | refine ev_callP (numQ_ok _ c hc) ?_
  rintro v_9 H_9 le_9 ⟨vc, rc, rfl, h5, h6⟩ _
  replace h1 := h1.le le_9
  replace h3 := h3.le le_9
  try simp only [go_sem, Nat.reduceEqDiff, Nat.reduceAdd, Bool.false_eq_true, Nat.reduceBEq, ↓reduceIte]
  obtain ⟨A5, l5, c5, b5, B5, m5, e5, rfl⟩ := h5.form
  obtain ⟨b6, A6, l6, c6, B6, m6, e6, rfl⟩ := h6.form
  cases hk : qok a with
  | false =>
    try simp only [go_sem, Nat.reduceEqDiff, Nat.reduceAdd, Bool.false_eq_true, Nat.reduceBEq, ↓reduceIte, hk]
    first | refine ev_call (aliveR_ok _) ?_ | refine ev_callP (aliveR_ok _) ?_
    rintro v_1 H_1 le_1 rfl _
    try simp only [go_sem, Nat.reduceEqDiff, Nat.reduceAdd, Bool.false_eq_true, Nat.reduceBEq, ↓reduceIte]
    exact ⟨by trivial, by trivial⟩
  | true =>
    cases hk2 : qok b with
    | false =>
      try simp only [go_sem, Nat.reduceEqDiff, Nat.reduceAdd, Bool.false_eq_true, Nat.reduceBEq, ↓reduceIte, hk, hk2]
      first | refine ev_call (aliveR_ok _) ?_ | refine ev_callP (aliveR_ok _) ?_
      rintro v_1 H_1 le_1 rfl _
      try simp only [go_sem, Nat.reduceEqDiff, Nat.reduceAdd, Bool.false_eq_true, Nat.reduceBEq, ↓reduceIte]
      exact ⟨by trivial, by trivial⟩
    | true =>
      cases hk3 : qok c with
      | false =>
        try simp only [go_sem, Nat.reduceEqDiff, Nat.reduceAdd, Bool.false_eq_true, Nat.reduceBEq, ↓reduceIte, hk, hk2, hk3]
        first | refine ev_call (aliveR_ok _) ?_ | refine ev_callP (aliveR_ok _) ?_
        rintro v_1 H_1 le_1 rfl _
        try simp only [go_sem, Nat.reduceEqDiff, Nat.reduceAdd, Bool.false_eq_true, Nat.reduceBEq, ↓reduceIte]
        exact ⟨by trivial, by trivial⟩
      | true =>
        rw [hk, if_pos rfl] at h1
        rw [hk2, if_pos rfl] at h3
        rw [hk3, if_pos rfl] at h5
        have hbx := (qok_br hk).1
        have hby := (qok_br hk2).1
        have hbz := (qok_br hk3).1
        generalize rv (bs a) = x at *
        generalize rv (bs b) = y at *
        generalize rv (bs c) = z at *
        have s1 := br_add x y
        have s2 := br_sub x y
        have s3 := br_sub y x
        have s4 := br_neg (y - x)
        have m1 := br_mul (x + y) z
        have m2 := br_mul z x
        have m3 := br_mul z y
        have m4 := br_add (z * x) (z * y)
        have d1 := br_div x z
        have d2 := br_mul (x / z) z
        try simp only [go_sem, Nat.reduceEqDiff, Nat.reduceAdd, Bool.false_eq_true, Nat.reduceBEq, ↓reduceIte, hk, hk2, hk3]
        first | refine ev_call (aliveR_ok _) ?_ | refine ev_callP (aliveR_ok _) ?_
        rintro v_10 H_10 le_10 rfl _
        replace h1 := h1.le le_10
        replace h3 := h3.le le_10
        replace h5 := h5.le le_10
        try simp only [go_sem, Nat.reduceEqDiff, Nat.reduceAdd, Bool.false_eq_true, Nat.reduceBEq, ↓reduceIte]
        by_cases hz : z = 0
        · skip
          first | refine ev_call (rdiv'_ok0 _ _ _ x h1 (by rw [← hz]; exact h5)) ?_ | refine ev_callP (rdiv'_ok0 _ _ _ x h1 (by rw [← hz]; exact h5)) ?_
          rintro v_21 H_21 le_21 ⟨vd, rfl, g0⟩ _
          replace h1 := h1.le le_21
          replace h3 := h3.le le_21
          replace h5 := h5.le le_21
          try simp only [go_sem, Nat.reduceEqDiff, Nat.reduceAdd, Bool.false_eq_true, Nat.reduceBEq, ↓reduceIte]
          obtain ⟨A7, l7, c7, b7, B7, m7, e7, rfl⟩ := g0.form
          try simp only [go_sem, Nat.reduceEqDiff, Nat.reduceAdd, Bool.false_eq_true, Nat.reduceBEq, ↓reduceIte]
          first | refine ev_call (rsgn_ok _ _ z h5 (by omega)) ?_ | refine ev_callP (rsgn_ok _ _ z h5 (by omega)) ?_
          rintro v_22 H_22 le_22 rfl _
          replace h1 := h1.le le_22
          replace h3 := h3.le le_22
          replace h5 := h5.le le_22
          replace g0 := g0.le le_22
          try simp only [go_sem, Nat.reduceEqDiff, Nat.reduceAdd, Bool.false_eq_true, Nat.reduceBEq, ↓reduceIte]
          refine ev_neg (by rw [hz]; decide) ?_
          try simp only [go_sem, Nat.reduceEqDiff, Nat.reduceAdd, Bool.false_eq_true, Nat.reduceBEq, ↓reduceIte]
          first | refine ev_call (radd'_ok _ _ _ x y h1 h3 (by omega)) ?_ | refine ev_callP (radd'_ok _ _ _ x y h1 h3 (by omega)) ?_
          rintro v_11 H_11 le_11 g1 _
          replace h1 := h1.le le_11
          replace h3 := h3.le le_11
          replace h5 := h5.le le_11
          try simp only [go_sem, Nat.reduceEqDiff, Nat.reduceAdd, Bool.false_eq_true, Nat.reduceBEq, ↓reduceIte]
          first | refine ev_call (rmul'_ok _ _ _ _ z g1 h5 (by omega)) ?_ | refine ev_callP (rmul'_ok _ _ _ _ z g1 h5 (by omega)) ?_
          rintro v_12 H_12 le_12 g2 _
          replace h1 := h1.le le_12
          replace h3 := h3.le le_12
          replace h5 := h5.le le_12
          try simp only [go_sem, Nat.reduceEqDiff, Nat.reduceAdd, Bool.false_eq_true, Nat.reduceBEq, ↓reduceIte]
          first | refine ev_call (rmul'_ok _ _ _ z x h5 h1 (by omega)) ?_ | refine ev_callP (rmul'_ok _ _ _ z x h5 h1 (by omega)) ?_
          rintro v_13 H_13 le_13 g3 _
          replace h1 := h1.le le_13
          replace h3 := h3.le le_13
          replace h5 := h5.le le_13
          replace g2 := g2.le le_13
          try simp only [go_sem, Nat.reduceEqDiff, Nat.reduceAdd, Bool.false_eq_true, Nat.reduceBEq, ↓reduceIte]
          first | refine ev_call (rmul'_ok _ _ _ z y h5 h3 (by omega)) ?_ | refine ev_callP (rmul'_ok _ _ _ z y h5 h3 (by omega)) ?_
          rintro v_14 H_14 le_14 g4 _
          replace h1 := h1.le le_14
          replace h3 := h3.le le_14
          replace h5 := h5.le le_14
          replace g2 := g2.le le_14
          replace g3 := g3.le le_14
          try simp only [go_sem, Nat.reduceEqDiff, Nat.reduceAdd, Bool.false_eq_true, Nat.reduceBEq, ↓reduceIte]
          first | refine ev_call (radd'_ok _ _ _ _ _ g3 g4 (by omega)) ?_ | refine ev_callP (radd'_ok _ _ _ _ _ g3 g4 (by omega)) ?_
          rintro v_15 H_15 le_15 g5 _
          replace h1 := h1.le le_15
          replace h3 := h3.le le_15
          replace h5 := h5.le le_15
          replace g2 := g2.le le_15
          try simp only [go_sem, Nat.reduceEqDiff, Nat.reduceAdd, Bool.false_eq_true, Nat.reduceBEq, ↓reduceIte]
          first | refine ev_call (rcmpR_ok _ _ _ _ _ g2 g5 (by omega)) ?_ | refine ev_callP (rcmpR_ok _ _ _ _ _ g2 g5 (by omega)) ?_
          rintro v_16 H_16 le_16 rfl _
          replace h1 := h1.le le_16
          replace h3 := h3.le le_16
          replace h5 := h5.le le_16
          try simp only [go_sem, Nat.reduceEqDiff, Nat.reduceAdd, Bool.false_eq_true, Nat.reduceBEq, ↓reduceIte]
          refine ev_pos (cmpR_eq (ring_R x y z)) ?_
          try simp only [go_sem, Nat.reduceEqDiff, Nat.reduceAdd, Bool.false_eq_true, Nat.reduceBEq, ↓reduceIte]
          first | refine ev_call (rsub'_ok _ _ _ x y h1 h3 (by omega)) ?_ | refine ev_callP (rsub'_ok _ _ _ x y h1 h3 (by omega)) ?_
          rintro v_17 H_17 le_17 g6 _
          replace h1 := h1.le le_17
          replace h3 := h3.le le_17
          replace h5 := h5.le le_17
          try simp only [go_sem, Nat.reduceEqDiff, Nat.reduceAdd, Bool.false_eq_true, Nat.reduceBEq, ↓reduceIte]
          first | refine ev_call (rsub'_ok _ _ _ y x h3 h1 (by omega)) ?_ | refine ev_callP (rsub'_ok _ _ _ y x h3 h1 (by omega)) ?_
          rintro v_18 H_18 le_18 g7 _
          replace g6 := g6.le le_18
          try simp only [go_sem, Nat.reduceEqDiff, Nat.reduceAdd, Bool.false_eq_true, Nat.reduceBEq, ↓reduceIte]
          first | refine ev_call (rneg'_ok _ _ _ g7 (by omega)) ?_ | refine ev_callP (rneg'_ok _ _ _ g7 (by omega)) ?_
          rintro v_19 H_19 le_19 g8 _
          replace g6 := g6.le le_19
          try simp only [go_sem, Nat.reduceEqDiff, Nat.reduceAdd, Bool.false_eq_true, Nat.reduceBEq, ↓reduceIte]
          first | refine ev_call (rcmpR_ok _ _ _ _ _ g6 g8 (by omega)) ?_ | refine ev_callP (rcmpR_ok _ _ _ _ _ g6 g8 (by omega)) ?_
          rintro v_20 H_20 le_20 rfl _
          try simp only [go_sem, Nat.reduceEqDiff, Nat.reduceAdd, Bool.false_eq_true, Nat.reduceBEq, ↓reduceIte]
          refine ev_pos (cmpR_eq (sub_R x y)) ?_
          try simp only [go_sem, Nat.reduceEqDiff, Nat.reduceAdd, Bool.false_eq_true, Nat.reduceBEq, ↓reduceIte]
          exact ⟨by trivial, by trivial⟩
        · have hzn : z.num ≠ 0 := fun h => hz ((num_eq_zero z).1 h)
          have hdm : x / z * z = x := Rat.div_mul_cancel hz
          first | refine ev_call (rdiv'_ok1 _ _ _ x z h1 h5 (by omega) hz) ?_ | refine ev_callP (rdiv'_ok1 _ _ _ x z h1 h5 (by omega) hz) ?_
          rintro v_23 H_23 le_23 ⟨vd, rfl, g0⟩ _
          replace h1 := h1.le le_23
          replace h3 := h3.le le_23
          replace h5 := h5.le le_23
          try simp only [go_sem, Nat.reduceEqDiff, Nat.reduceAdd, Bool.false_eq_true, Nat.reduceBEq, ↓reduceIte]
          obtain ⟨A7, l7, c7, b7, B7, m7, e7, rfl⟩ := g0.form
          try simp only [go_sem, Nat.reduceEqDiff, Nat.reduceAdd, Bool.false_eq_true, Nat.reduceBEq, ↓reduceIte]
          first | refine ev_call (rsgn_ok _ _ z h5 (by omega)) ?_ | refine ev_callP (rsgn_ok _ _ z h5 (by omega)) ?_
          rintro v_24 H_24 le_24 rfl _
          replace h1 := h1.le le_24
          replace h3 := h3.le le_24
          replace h5 := h5.le le_24
          replace g0 := g0.le le_24
          try simp only [go_sem, Nat.reduceEqDiff, Nat.reduceAdd, Bool.false_eq_true, Nat.reduceBEq, ↓reduceIte]
          refine ev_pos (by unfold sgnI; split <;> (try split) <;> omega) ?_
          try simp only [go_sem, Nat.reduceEqDiff, Nat.reduceAdd, Bool.false_eq_true, Nat.reduceBEq, ↓reduceIte]
          first | refine ev_call (rmul'_ok _ _ _ _ z g0 h5 (by omega)) ?_ | refine ev_callP (rmul'_ok _ _ _ _ z g0 h5 (by omega)) ?_
          rintro v_25 H_25 le_25 g10 _
          replace h1 := h1.le le_25
          replace h3 := h3.le le_25
          replace h5 := h5.le le_25
          try simp only [go_sem, Nat.reduceEqDiff, Nat.reduceAdd, Bool.false_eq_true, Nat.reduceBEq, ↓reduceIte]
          first | refine ev_call (rcmpR_ok _ _ _ _ _ g10 h1 (by omega)) ?_ | refine ev_callP (rcmpR_ok _ _ _ _ _ g10 h1 (by omega)) ?_
          rintro v_26 H_26 le_26 rfl _
          replace h1 := h1.le le_26
          replace h3 := h3.le le_26
          replace h5 := h5.le le_26
          try simp only [go_sem, Nat.reduceEqDiff, Nat.reduceAdd, Bool.false_eq_true, Nat.reduceBEq, ↓reduceIte]
          refine ev_neg (fun h => h (cmpR_eq hdm)) ?_
          try simp only [go_sem, Nat.reduceEqDiff, Nat.reduceAdd, Bool.false_eq_true, Nat.reduceBEq, ↓reduceIte]
          first | refine ev_call (radd'_ok _ _ _ x y h1 h3 (by omega)) ?_ | refine ev_callP (radd'_ok _ _ _ x y h1 h3 (by omega)) ?_
          rintro v_11 H_11 le_11 g1 _
          replace h1 := h1.le le_11
          replace h3 := h3.le le_11
          replace h5 := h5.le le_11
          try simp only [go_sem, Nat.reduceEqDiff, Nat.reduceAdd, Bool.false_eq_true, Nat.reduceBEq, ↓reduceIte]
          first | refine ev_call (rmul'_ok _ _ _ _ z g1 h5 (by omega)) ?_ | refine ev_callP (rmul'_ok _ _ _ _ z g1 h5 (by omega)) ?_
          rintro v_12 H_12 le_12 g2 _
          replace h1 := h1.le le_12
          replace h3 := h3.le le_12
          replace h5 := h5.le le_12
          try simp only [go_sem, Nat.reduceEqDiff, Nat.reduceAdd, Bool.false_eq_true, Nat.reduceBEq, ↓reduceIte]
          first | refine ev_call (rmul'_ok _ _ _ z x h5 h1 (by omega)) ?_ | refine ev_callP (rmul'_ok _ _ _ z x h5 h1 (by omega)) ?_
          rintro v_13 H_13 le_13 g3 _
          replace h1 := h1.le le_13
          replace h3 := h3.le le_13
          replace h5 := h5.le le_13
          replace g2 := g2.le le_13
          try simp only [go_sem, Nat.reduceEqDiff, Nat.reduceAdd, Bool.false_eq_true, Nat.reduceBEq, ↓reduceIte]
          first | refine ev_call (rmul'_ok _ _ _ z y h5 h3 (by omega)) ?_ | refine ev_callP (rmul'_ok _ _ _ z y h5 h3 (by omega)) ?_
          rintro v_14 H_14 le_14 g4 _
          replace h1 := h1.le le_14
          replace h3 := h3.le le_14
          replace h5 := h5.le le_14
          replace g2 := g2.le le_14
          replace g3 := g3.le le_14
          try simp only [go_sem, Nat.reduceEqDiff, Nat.reduceAdd, Bool.false_eq_true, Nat.reduceBEq, ↓reduceIte]
          first | refine ev_call (radd'_ok _ _ _ _ _ g3 g4 (by omega)) ?_ | refine ev_callP (radd'_ok _ _ _ _ _ g3 g4 (by omega)) ?_
          rintro v_15 H_15 le_15 g5 _
          replace h1 := h1.le le_15
          replace h3 := h3.le le_15
          replace h5 := h5.le le_15
          replace g2 := g2.le le_15
          try simp only [go_sem, Nat.reduceEqDiff, Nat.reduceAdd, Bool.false_eq_true, Nat.reduceBEq, ↓reduceIte]
          first | refine ev_call (rcmpR_ok _ _ _ _ _ g2 g5 (by omega)) ?_ | refine ev_callP (rcmpR_ok _ _ _ _ _ g2 g5 (by omega)) ?_
          rintro v_16 H_16 le_16 rfl _
          replace h1 := h1.le le_16
          replace h3 := h3.le le_16
          replace h5 := h5.le le_16
          try simp only [go_sem, Nat.reduceEqDiff, Nat.reduceAdd, Bool.false_eq_true, Nat.reduceBEq, ↓reduceIte]
          refine ev_pos (cmpR_eq (ring_R x y z)) ?_
          try simp only [go_sem, Nat.reduceEqDiff, Nat.reduceAdd, Bool.false_eq_true, Nat.reduceBEq, ↓reduceIte]
          first | refine ev_call (rsub'_ok _ _ _ x y h1 h3 (by omega)) ?_ | refine ev_callP (rsub'_ok _ _ _ x y h1 h3 (by omega)) ?_
          rintro v_17 H_17 le_17 g6 _
          replace h1 := h1.le le_17
          replace h3 := h3.le le_17
          replace h5 := h5.le le_17
          try simp only [go_sem, Nat.reduceEqDiff, Nat.reduceAdd, Bool.false_eq_true, Nat.reduceBEq, ↓reduceIte]
          first | refine ev_call (rsub'_ok _ _ _ y x h3 h1 (by omega)) ?_ | refine ev_callP (rsub'_ok _ _ _ y x h3 h1 (by omega)) ?_
          rintro v_18 H_18 le_18 g7 _
          replace g6 := g6.le le_18
          try simp only [go_sem, Nat.reduceEqDiff, Nat.reduceAdd, Bool.false_eq_true, Nat.reduceBEq, ↓reduceIte]
          first | refine ev_call (rneg'_ok _ _ _ g7 (by omega)) ?_ | refine ev_callP (rneg'_ok _ _ _ g7 (by omega)) ?_
          rintro v_19 H_19 le_19 g8 _
          replace g6 := g6.le le_19
          try simp only [go_sem, Nat.reduceEqDiff, Nat.reduceAdd, Bool.false_eq_true, Nat.reduceBEq, ↓reduceIte]
          first | refine ev_call (rcmpR_ok _ _ _ _ _ g6 g8 (by omega)) ?_ | refine ev_callP (rcmpR_ok _ _ _ _ _ g6 g8 (by omega)) ?_
          rintro v_20 H_20 le_20 rfl _
          try simp only [go_sem, Nat.reduceEqDiff, Nat.reduceAdd, Bool.false_eq_true, Nat.reduceBEq, ↓reduceIte]
          refine ev_pos (cmpR_eq (sub_R x y)) ?_
          try simp only [go_sem, Nat.reduceEqDiff, Nat.reduceAdd, Bool.false_eq_true, Nat.reduceBEq, ↓reduceIte]
          exact ⟨by trivial, by trivial⟩

theorem RatLeast_ok (H : PH) (a : ByteArray) (ha : a.size ≤ 9223372036854775807) (n : Int) (w : (Lit.int .i64 n).wf = true) : FnP Try.prog 10 [.string a, .int .i64 n] H fun v _ => v = .bool true := by
  obtain ⟨hn1, hn2⟩ := i64_of_wf w
  clear w
  have hbn : bi n ≤ 64 := by unfold bi; exact bl_lt_of (by omega)
  refine of_cincturelaw3_RatLeast (by simp) ?_
  try simp only [go_sem, Nat.reduceEqDiff, Nat.reduceAdd, Bool.false_eq_true, Nat.reduceBEq, ↓reduceIte, p_cincturelaw3_RatLeast]
  first | refine ev_call (numQ_ok _ a ha) ?_ | refine ev_callP (numQ_ok _ a ha) ?_
  rintro v_27 H_27 le_27 ⟨va, ra, rfl, h1, h2⟩ _
  try simp only [go_sem, Nat.reduceEqDiff, Nat.reduceAdd, Bool.false_eq_true, Nat.reduceBEq, ↓reduceIte]
  obtain ⟨A1, l1, c1, b1, B1, m1, e1, rfl⟩ := h1.form
  obtain ⟨b2, A2, l2, c2, B2, m2, e2, rfl⟩ := h2.form
  cases hk : qok a with
  | false =>
    try simp only [go_sem, Nat.reduceEqDiff, Nat.reduceAdd, Bool.false_eq_true, Nat.reduceBEq, ↓reduceIte, hk]
    first | refine ev_call (aliveR_ok _) ?_ | refine ev_callP (aliveR_ok _) ?_
    rintro v_1 H_1 le_1 rfl _
    try simp only [go_sem, Nat.reduceEqDiff, Nat.reduceAdd, Bool.false_eq_true, Nat.reduceBEq, ↓reduceIte]
    exact ⟨by trivial, by trivial⟩
  | true =>
    rw [hk, if_pos rfl] at h1 h2
    obtain ⟨hbx, htx, hok⟩ := qok_br hk
    obtain ⟨x, hx⟩ : ∃ x, rv (bs a) = x := ⟨_, rfl⟩
    rw [hx] at h1 h2 hbx htx
    have a1 := bi_br x
    have a2 := bl_br x
    have s1 := bi_mul x.num n
    have s2 := bi_mul x.den n
    rw [bi_cast] at s2
    try simp only [go_sem, Nat.reduceEqDiff, Nat.reduceAdd, Bool.false_eq_true, Nat.reduceBEq, ↓reduceIte, hk]
    first | refine ev_call (aliveR_ok _) ?_ | refine ev_callP (aliveR_ok _) ?_
    rintro v_28 H_28 le_28 rfl _
    replace h1 := h1.le le_28
    replace h2 := h2.le le_28
    try simp only [go_sem, Nat.reduceEqDiff, Nat.reduceAdd, Bool.false_eq_true, Nat.reduceBEq, ↓reduceIte]
    refine ev_if (fun h => ?_) (fun h => ?_)
    · try simp only [go_sem, Nat.reduceEqDiff, Nat.reduceAdd, Bool.false_eq_true, Nat.reduceBEq, ↓reduceIte]
      first | refine ev_call (aliveR_ok _) ?_ | refine ev_callP (aliveR_ok _) ?_
      rintro v_1 H_1 le_1 rfl _
      try simp only [go_sem, Nat.reduceEqDiff, Nat.reduceAdd, Bool.false_eq_true, Nat.reduceBEq, ↓reduceIte]
      exact ⟨by trivial, by trivial⟩
    · have hd0 : (x.den : Int) * n ≠ 0 := Int.mul_ne_zero (by have := x.den_nz; omega) (by omega)
      try simp only [go_sem, Nat.reduceEqDiff, Nat.reduceAdd, Bool.false_eq_true, Nat.reduceBEq, ↓reduceIte]
      first | refine ev_call (wof_ok _ n hn1 (by omega)) ?_ | refine ev_callP (wof_ok _ n hn1 (by omega)) ?_
      rintro v_29 H_29 le_29 h3 _
      replace h1 := h1.le le_29
      try simp only [go_sem, Nat.reduceEqDiff, Nat.reduceAdd, Bool.false_eq_true, Nat.reduceBEq, ↓reduceIte]
      obtain ⟨A3, l3, c3, b3, rfl⟩ := h3.form
      try simp only [go_sem, Nat.reduceEqDiff, Nat.reduceAdd, Bool.false_eq_true, Nat.reduceBEq, ↓reduceIte]
      repeat' (with_reducible refine And.intro ?_ ?_)
      all_goals
        first | refine ev_call (rnum_ok _ _ x h1) ?_ | refine ev_callP (rnum_ok _ _ x h1) ?_
        rintro v_30 H_30 le_30 g1 _
        replace h1 := h1.le le_30
        replace h3 := h3.le le_30
        try simp only [go_sem, Nat.reduceEqDiff, Nat.reduceAdd, Bool.false_eq_true, Nat.reduceBEq, ↓reduceIte]
        repeat' (with_reducible refine And.intro ?_ ?_)
        all_goals
          first | refine ev_call (wmul_ok _ _ _ _ n g1 h3 (by omega)) ?_ | refine ev_callP (wmul_ok _ _ _ _ n g1 h3 (by omega)) ?_
          rintro v_31 H_31 le_31 g2 _
          replace h1 := h1.le le_31
          replace h3 := h3.le le_31
          try simp only [go_sem, Nat.reduceEqDiff, Nat.reduceAdd, Bool.false_eq_true, Nat.reduceBEq, ↓reduceIte]
          repeat' (with_reducible refine And.intro ?_ ?_)
          all_goals
            first | refine ev_call (rden_ok _ _ x h1 (by omega)) ?_ | refine ev_callP (rden_ok _ _ x h1 (by omega)) ?_
            rintro v_32 H_32 le_32 g3 _
            replace h1 := h1.le le_32
            replace h3 := h3.le le_32
            replace g2 := g2.le le_32
            try simp only [go_sem, Nat.reduceEqDiff, Nat.reduceAdd, Bool.false_eq_true, Nat.reduceBEq, ↓reduceIte]
            repeat' (with_reducible refine And.intro ?_ ?_)
            all_goals
              first | refine ev_call (wmul_ok _ _ _ _ n g3 h3 (by rw [bi_cast]; omega)) ?_ | refine ev_callP (wmul_ok _ _ _ _ n g3 h3 (by rw [bi_cast]; omega)) ?_
              rintro v_33 H_33 le_33 g4 _
              replace h1 := h1.le le_33
              replace g2 := g2.le le_33
              try simp only [go_sem, Nat.reduceEqDiff, Nat.reduceAdd, Bool.false_eq_true, Nat.reduceBEq, ↓reduceIte]
              repeat' (with_reducible refine And.intro ?_ ?_)
              all_goals
                first | refine ev_call (rnew_ok1 _ _ _ _ _ g2 g4 (by omega) (by omega) hd0) ?_ | refine ev_callP (rnew_ok1 _ _ _ _ _ g2 g4 (by omega) (by omega) hd0) ?_
                rintro v_34 H_34 le_34 ⟨v5, rfl, g5⟩ _
                replace h1 := h1.le le_34
                try simp only [go_sem, Nat.reduceEqDiff, Nat.reduceAdd, Bool.false_eq_true, Nat.reduceBEq, ↓reduceIte]
                rw [times_same x (by omega)] at g5
                obtain ⟨A5, l5, c5, b5, B5, m5, e5, rfl⟩ := g5.form
                try simp only [go_sem, Nat.reduceEqDiff, Nat.reduceAdd, Bool.false_eq_true, Nat.reduceBEq, ↓reduceIte]
                first | refine ev_call (rtext_ok' _ _ x g5 (by omega)) ?_ | refine ev_callP (rtext_ok' _ _ x g5 (by omega)) ?_
                rintro v_35 H_35 le_35 rfl _
                replace h1 := h1.le le_35
                replace g5 := g5.le le_35
                try simp only [go_sem, Nat.reduceEqDiff, Nat.reduceAdd, Bool.false_eq_true, Nat.reduceBEq, ↓reduceIte]
                rw [htx]
                first | refine ev_call (rparse'_ok _ a ha) ?_ | refine ev_callP (rparse'_ok _ a ha) ?_
                rintro v_36 H_36 le_36 ⟨v6, rfl, g6⟩ _
                replace h1 := h1.le le_36
                replace g5 := g5.le le_36
                try simp only [go_sem, Nat.reduceEqDiff, Nat.reduceAdd, Bool.false_eq_true, Nat.reduceBEq, ↓reduceIte]
                rw [hok, if_pos rfl, hx] at g6
                rw [hok, if_pos rfl]
                obtain ⟨A6, l6, c6, b6, B6, m6, e6, rfl⟩ := g6.form
                try simp only [go_sem, Nat.reduceEqDiff, Nat.reduceAdd, Bool.false_eq_true, Nat.reduceBEq, ↓reduceIte]
                first | refine ev_call (rtext_ok' _ _ x g5 (by omega)) ?_ | refine ev_callP (rtext_ok' _ _ x g5 (by omega)) ?_
                rintro v_37 H_37 le_37 rfl _
                replace h1 := h1.le le_37
                replace g6 := g6.le le_37
                try simp only [go_sem, Nat.reduceEqDiff, Nat.reduceAdd, Bool.false_eq_true, Nat.reduceBEq, ↓reduceIte]
                first | refine ev_call (rtext_ok' _ _ x h1 (by omega)) ?_ | refine ev_callP (rtext_ok' _ _ x h1 (by omega)) ?_
                rintro v_38 H_38 le_38 rfl _
                replace h1 := h1.le le_38
                replace g6 := g6.le le_38
                try simp only [go_sem, Nat.reduceEqDiff, Nat.reduceAdd, Bool.false_eq_true, Nat.reduceBEq, ↓reduceIte]
                refine ev_pos (by trivial) ?_
                try simp only [go_sem, Nat.reduceEqDiff, Nat.reduceAdd, Bool.false_eq_true, Nat.reduceBEq, ↓reduceIte]
                refine ev_pos (by trivial) ?_
                try simp only [go_sem, Nat.reduceEqDiff, Nat.reduceAdd, Bool.false_eq_true, Nat.reduceBEq, ↓reduceIte]
                first | refine ev_call (rcmpR_ok _ _ _ _ _ g6 h1 (by omega)) ?_ | refine ev_callP (rcmpR_ok _ _ _ _ _ g6 h1 (by omega)) ?_
                rintro v_39 H_39 le_39 rfl _
                replace h1 := h1.le le_39
                try simp only [go_sem, Nat.reduceEqDiff, Nat.reduceAdd, Bool.false_eq_true, Nat.reduceBEq, ↓reduceIte]
                refine ev_pos (cmpR_self x) ?_
                try simp only [go_sem, Nat.reduceEqDiff, Nat.reduceAdd, Bool.false_eq_true, Nat.reduceBEq, ↓reduceIte]
                first | refine ev_call (rden_ok _ _ x h1 (by omega)) ?_ | refine ev_callP (rden_ok _ _ x h1 (by omega)) ?_
                rintro v_40 H_40 le_40 g7 _
                try simp only [go_sem, Nat.reduceEqDiff, Nat.reduceAdd, Bool.false_eq_true, Nat.reduceBEq, ↓reduceIte]
                first | refine ev_call (wsign_ok _ _ _ g7 (by rw [bi_cast]; omega)) ?_ | refine ev_callP (wsign_ok _ _ _ g7 (by rw [bi_cast]; omega)) ?_
                rintro v_41 H_41 le_41 rfl _
                try simp only [go_sem, Nat.reduceEqDiff, Nat.reduceAdd, Bool.false_eq_true, Nat.reduceBEq, ↓reduceIte]
                refine ev_pos (by unfold sgnI; rw [if_neg (by omega), if_pos (by have := x.den_nz; omega)]) ?_
                try simp only [go_sem, Nat.reduceEqDiff, Nat.reduceAdd, Bool.false_eq_true, Nat.reduceBEq, ↓reduceIte]
                exact ⟨by trivial, by trivial⟩

theorem RatOrders_ok (H : PH) (a : ByteArray) (ha : a.size ≤ 9223372036854775807) (b : ByteArray) (hb : b.size ≤ 9223372036854775807) (c : ByteArray) (hc : c.size ≤ 9223372036854775807) : FnP Try.prog 7 [.string a, .string b, .string c] H fun v _ => v = .bool true := by
  refine of_cincturelaw3_RatOrders (by simp) ?_
  try simp only [go_sem, Nat.reduceEqDiff, Nat.reduceAdd, Bool.false_eq_true, Nat.reduceBEq, ↓reduceIte, p_cincturelaw3_RatOrders]
  first | refine ev_call (numQ_ok _ a ha) ?_ | refine ev_callP (numQ_ok _ a ha) ?_
  rintro v_7 H_7 le_7 ⟨va, ra, rfl, h1, h2⟩ _
  try simp only [go_sem, Nat.reduceEqDiff, Nat.reduceAdd, Bool.false_eq_true, Nat.reduceBEq, ↓reduceIte]
  obtain ⟨A1, l1, c1, b1, B1, m1, e1, rfl⟩ := h1.form
  obtain ⟨b2, A2, l2, c2, B2, m2, e2, rfl⟩ := h2.form
  try simp only [go_sem, Nat.reduceEqDiff, Nat.reduceAdd, Bool.false_eq_true, Nat.reduceBEq, ↓reduceIte]
  first | refine ev_call (numQ_ok _ b hb) ?_ | refine ev_callP (numQ_ok _ b hb) ?_
  rintro v_8 H_8 le_8 ⟨vb, rb, rfl, h3, h4⟩ _
  replace h1 := h1.le le_8
  try simp only [go_sem, Nat.reduceEqDiff, Nat.reduceAdd, Bool.false_eq_true, Nat.reduceBEq, ↓reduceIte]
  obtain ⟨A3, l3, c3, b3, B3, m3, e3, rfl⟩ := h3.form
  obtain ⟨b4, A4, l4, c4, B4, m4, e4, rfl⟩ := h4.form
  try simp only [go_sem, Nat.reduceEqDiff, Nat.reduceAdd, Bool.false_eq_true, Nat.reduceBEq, ↓reduceIte]
  first | refine ev_call (numQ_ok _ c hc) ?_ | refine ev_callP (numQ_ok _ c hc) ?_
  rintro v_9 H_9 le_9 ⟨vc, rc, rfl, h5, h6⟩ _
  replace h1 := h1.le le_9
  replace h3 := h3.le le_9
  try simp only [go_sem, Nat.reduceEqDiff, Nat.reduceAdd, Bool.false_eq_true, Nat.reduceBEq, ↓reduceIte]
  obtain ⟨A5, l5, c5, b5, B5, m5, e5, rfl⟩ := h5.form
  obtain ⟨b6, A6, l6, c6, B6, m6, e6, rfl⟩ := h6.form
  cases hk : qok a with
  | false =>
    try simp only [go_sem, Nat.reduceEqDiff, Nat.reduceAdd, Bool.false_eq_true, Nat.reduceBEq, ↓reduceIte, hk]
    first | refine ev_call (aliveR_ok _) ?_ | refine ev_callP (aliveR_ok _) ?_
    rintro v_1 H_1 le_1 rfl _
    try simp only [go_sem, Nat.reduceEqDiff, Nat.reduceAdd, Bool.false_eq_true, Nat.reduceBEq, ↓reduceIte]
    exact ⟨by trivial, by trivial⟩
  | true =>
    cases hk2 : qok b with
    | false =>
      try simp only [go_sem, Nat.reduceEqDiff, Nat.reduceAdd, Bool.false_eq_true, Nat.reduceBEq, ↓reduceIte, hk, hk2]
      first | refine ev_call (aliveR_ok _) ?_ | refine ev_callP (aliveR_ok _) ?_
      rintro v_1 H_1 le_1 rfl _
      try simp only [go_sem, Nat.reduceEqDiff, Nat.reduceAdd, Bool.false_eq_true, Nat.reduceBEq, ↓reduceIte]
      exact ⟨by trivial, by trivial⟩
    | true =>
      cases hk3 : qok c with
      | false =>
        try simp only [go_sem, Nat.reduceEqDiff, Nat.reduceAdd, Bool.false_eq_true, Nat.reduceBEq, ↓reduceIte, hk, hk2, hk3]
        first | refine ev_call (aliveR_ok _) ?_ | refine ev_callP (aliveR_ok _) ?_
        rintro v_1 H_1 le_1 rfl _
        try simp only [go_sem, Nat.reduceEqDiff, Nat.reduceAdd, Bool.false_eq_true, Nat.reduceBEq, ↓reduceIte]
        exact ⟨by trivial, by trivial⟩
      | true =>
        rw [hk, if_pos rfl] at h1
        rw [hk2, if_pos rfl] at h3
        rw [hk3, if_pos rfl] at h5
        have hbx := (qok_br hk).1
        have hby := (qok_br hk2).1
        have hbz := (qok_br hk3).1
        generalize rv (bs a) = x at *
        generalize rv (bs b) = y at *
        generalize rv (bs c) = z at *
        have s1 := br_add x y
        have s2 := br_add x z
        have s3 := br_add y z
        have m1 := br_mul x z
        have m2 := br_mul y z
        have s4 : br ((2 : Int) : Rat) ≤ 2 := by decide
        have s5 := br_div (x + y) ((2 : Int) : Rat)
        have k1 := cmpR_bd x y
        have k2 := cmpR_bd z 0
        try simp only [go_sem, Nat.reduceEqDiff, Nat.reduceAdd, Bool.false_eq_true, Nat.reduceBEq, ↓reduceIte, hk, hk2, hk3]
        first | refine ev_call (aliveR_ok _) ?_ | refine ev_callP (aliveR_ok _) ?_
        rintro v_42 H_42 le_42 rfl _
        replace h1 := h1.le le_42
        replace h3 := h3.le le_42
        replace h5 := h5.le le_42
        try simp only [go_sem, Nat.reduceEqDiff, Nat.reduceAdd, Bool.false_eq_true, Nat.reduceBEq, ↓reduceIte]
        first | refine ev_call (rcmpR_ok _ _ _ x y h1 h3 (by omega)) ?_ | refine ev_callP (rcmpR_ok _ _ _ x y h1 h3 (by omega)) ?_
        rintro v_43 H_43 le_43 rfl _
        replace h1 := h1.le le_43
        replace h3 := h3.le le_43
        replace h5 := h5.le le_43
        try simp only [go_sem, Nat.reduceEqDiff, Nat.reduceAdd, Bool.false_eq_true, Nat.reduceBEq, ↓reduceIte]
        first | refine ev_call (radd'_ok _ _ _ x y h1 h3 (by omega)) ?_ | refine ev_callP (radd'_ok _ _ _ x y h1 h3 (by omega)) ?_
        rintro v_44 H_44 le_44 g1 _
        replace h1 := h1.le le_44
        replace h3 := h3.le le_44
        replace h5 := h5.le le_44
        try simp only [go_sem, Nat.reduceEqDiff, Nat.reduceAdd, Bool.false_eq_true, Nat.reduceBEq, ↓reduceIte]
        first | refine ev_call (rof_ok _ 2 (by decide) (by decide)) ?_ | refine ev_callP (rof_ok _ 2 (by decide) (by decide)) ?_
        rintro v_45 H_45 le_45 g2 _
        replace h1 := h1.le le_45
        replace h3 := h3.le le_45
        replace h5 := h5.le le_45
        replace g1 := g1.le le_45
        try simp only [go_sem, Nat.reduceEqDiff, Nat.reduceAdd, Bool.false_eq_true, Nat.reduceBEq, ↓reduceIte]
        first | refine ev_call (rdiv'_ok1 _ _ _ _ _ g1 g2 (by omega) (by decide)) ?_ | refine ev_callP (rdiv'_ok1 _ _ _ _ _ g1 g2 (by omega) (by decide)) ?_
        rintro v_46 H_46 le_46 ⟨vm, rfl, g3⟩ _
        replace h1 := h1.le le_46
        replace h3 := h3.le le_46
        replace h5 := h5.le le_46
        try simp only [go_sem, Nat.reduceEqDiff, Nat.reduceAdd, Bool.false_eq_true, Nat.reduceBEq, ↓reduceIte]
        obtain ⟨A7, l7, c7, b7, B7, m7, e7, rfl⟩ := g3.form
        try simp only [go_sem, Nat.reduceEqDiff, Nat.reduceAdd, Bool.false_eq_true, Nat.reduceBEq, ↓reduceIte]
        first | refine ev_call (radd'_ok _ _ _ x z h1 h5 (by omega)) ?_ | refine ev_callP (radd'_ok _ _ _ x z h1 h5 (by omega)) ?_
        rintro v_47 H_47 le_47 g4 _
        replace h1 := h1.le le_47
        replace h3 := h3.le le_47
        replace h5 := h5.le le_47
        replace g3 := g3.le le_47
        try simp only [go_sem, Nat.reduceEqDiff, Nat.reduceAdd, Bool.false_eq_true, Nat.reduceBEq, ↓reduceIte]
        first | refine ev_call (radd'_ok _ _ _ y z h3 h5 (by omega)) ?_ | refine ev_callP (radd'_ok _ _ _ y z h3 h5 (by omega)) ?_
        rintro v_48 H_48 le_48 g5 _
        replace h1 := h1.le le_48
        replace h3 := h3.le le_48
        replace h5 := h5.le le_48
        replace g3 := g3.le le_48
        replace g4 := g4.le le_48
        try simp only [go_sem, Nat.reduceEqDiff, Nat.reduceAdd, Bool.false_eq_true, Nat.reduceBEq, ↓reduceIte]
        first | refine ev_call (rcmpR_ok _ _ _ _ _ g4 g5 (by omega)) ?_ | refine ev_callP (rcmpR_ok _ _ _ _ _ g4 g5 (by omega)) ?_
        rintro v_49 H_49 le_49 rfl _
        replace h1 := h1.le le_49
        replace h3 := h3.le le_49
        replace h5 := h5.le le_49
        replace g3 := g3.le le_49
        try simp only [go_sem, Nat.reduceEqDiff, Nat.reduceAdd, Bool.false_eq_true, Nat.reduceBEq, ↓reduceIte]
        refine ev_pos (cmpR_add x y z) ?_
        try simp only [go_sem, Nat.reduceEqDiff, Nat.reduceAdd, Bool.false_eq_true, Nat.reduceBEq, ↓reduceIte]
        first | refine ev_call (rcmpR_ok _ _ _ x _ h1 g3 (by omega)) ?_ | refine ev_callP (rcmpR_ok _ _ _ x _ h1 g3 (by omega)) ?_
        rintro v_50 H_50 le_50 rfl _
        replace h1 := h1.le le_50
        replace h3 := h3.le le_50
        replace h5 := h5.le le_50
        replace g3 := g3.le le_50
        try simp only [go_sem, Nat.reduceEqDiff, Nat.reduceAdd, Bool.false_eq_true, Nat.reduceBEq, ↓reduceIte]
        refine ev_pos (cmpR_mid1 x y) ?_
        try simp only [go_sem, Nat.reduceEqDiff, Nat.reduceAdd, Bool.false_eq_true, Nat.reduceBEq, ↓reduceIte]
        first | refine ev_call (rcmpR_ok _ _ _ _ y g3 h3 (by omega)) ?_ | refine ev_callP (rcmpR_ok _ _ _ _ y g3 h3 (by omega)) ?_
        rintro v_51 H_51 le_51 rfl _
        replace h1 := h1.le le_51
        replace h3 := h3.le le_51
        replace h5 := h5.le le_51
        try simp only [go_sem, Nat.reduceEqDiff, Nat.reduceAdd, Bool.false_eq_true, Nat.reduceBEq, ↓reduceIte]
        refine ev_pos (cmpR_mid2 x y) ?_
        try simp only [go_sem, Nat.reduceEqDiff, Nat.reduceAdd, Bool.false_eq_true, Nat.reduceBEq, ↓reduceIte]
        first | refine ev_call (rmul'_ok _ _ _ x z h1 h5 (by omega)) ?_ | refine ev_callP (rmul'_ok _ _ _ x z h1 h5 (by omega)) ?_
        rintro v_52 H_52 le_52 g6 _
        replace h3 := h3.le le_52
        replace h5 := h5.le le_52
        try simp only [go_sem, Nat.reduceEqDiff, Nat.reduceAdd, Bool.false_eq_true, Nat.reduceBEq, ↓reduceIte]
        first | refine ev_call (rmul'_ok _ _ _ y z h3 h5 (by omega)) ?_ | refine ev_callP (rmul'_ok _ _ _ y z h3 h5 (by omega)) ?_
        rintro v_53 H_53 le_53 g7 _
        replace h5 := h5.le le_53
        replace g6 := g6.le le_53
        try simp only [go_sem, Nat.reduceEqDiff, Nat.reduceAdd, Bool.false_eq_true, Nat.reduceBEq, ↓reduceIte]
        first | refine ev_call (rcmpR_ok _ _ _ _ _ g6 g7 (by omega)) ?_ | refine ev_callP (rcmpR_ok _ _ _ _ _ g6 g7 (by omega)) ?_
        rintro v_54 H_54 le_54 rfl _
        replace h5 := h5.le le_54
        try simp only [go_sem, Nat.reduceEqDiff, Nat.reduceAdd, Bool.false_eq_true, Nat.reduceBEq, ↓reduceIte]
        first | refine ev_call (rsgn_ok _ _ z h5 (by omega)) ?_ | refine ev_callP (rsgn_ok _ _ z h5 (by omega)) ?_
        rintro v_55 H_55 le_55 rfl _
        try simp only [go_sem, Nat.reduceEqDiff, Nat.reduceAdd, Bool.false_eq_true, Nat.reduceBEq, ↓reduceIte]
        have k3 : cmpR x y = -1 ∨ cmpR x y = 0 ∨ cmpR x y = 1 := by omega
        have k4 : cmpR z 0 = -1 ∨ cmpR z 0 = 0 ∨ cmpR z 0 = 1 := by omega
        refine ev_pos (by rw [cmpR_mul, sgnI_R, w64 _ (by rcases k3 with h | h | h <;> rcases k4 with h' | h' | h' <;> rw [h, h'] <;> decide) (by rcases k3 with h | h | h <;> rcases k4 with h' | h' | h' <;> rw [h, h'] <;> decide)]) ?_
        try simp only [go_sem, Nat.reduceEqDiff, Nat.reduceAdd, Bool.false_eq_true, Nat.reduceBEq, ↓reduceIte]
        exact ⟨by trivial, by trivial⟩

theorem RatFloors_ok (H : PH) (a : ByteArray) (ha : a.size ≤ 9223372036854775807) : FnP Try.prog 11 [.string a] H fun v _ => v = .bool true := by
  refine of_cincturelaw3_RatFloors (by simp) ?_
  try simp only [go_sem, Nat.reduceEqDiff, Nat.reduceAdd, Bool.false_eq_true, Nat.reduceBEq, ↓reduceIte, p_cincturelaw3_RatFloors]
  first | refine ev_call (numQ_ok _ a ha) ?_ | refine ev_callP (numQ_ok _ a ha) ?_
  rintro v_56 H_56 le_56 ⟨va, ra, rfl, h1, h2⟩ _
  try simp only [go_sem, Nat.reduceEqDiff, Nat.reduceAdd, Bool.false_eq_true, Nat.reduceBEq, ↓reduceIte]
  obtain ⟨A1, l1, c1, b1, B1, m1, e1, rfl⟩ := h1.form
  obtain ⟨b2, A2, l2, c2, B2, m2, e2, rfl⟩ := h2.form
  cases hk : qok a with
  | false =>
    try simp only [go_sem, Nat.reduceEqDiff, Nat.reduceAdd, Bool.false_eq_true, Nat.reduceBEq, ↓reduceIte, hk]
    first | refine ev_call (aliveR_ok _) ?_ | refine ev_callP (aliveR_ok _) ?_
    rintro v_1 H_1 le_1 rfl _
    try simp only [go_sem, Nat.reduceEqDiff, Nat.reduceAdd, Bool.false_eq_true, Nat.reduceBEq, ↓reduceIte]
    exact ⟨by trivial, by trivial⟩
  | true =>
    rw [hk, if_pos rfl] at h1
    have hbx := (qok_br hk).1
    generalize rv (bs a) = x at *
    have f1 : bi x.floor ≤ br x + 1 := by
      rw [floor_eq]
      have h9 := (bi_fdiv (z := x.num) (w := x.den) (by have := x.den_nz; omega)).1
      have := bi_br x
      omega
    have f2 : br (x.floor : Rat) ≤ br x + 1 := by
      show max (bi x.floor) (bl 1) ≤ _
      have : bl 1 = 1 := rfl
      omega
    have f3 := br_sub x (x.floor : Rat)
    obtain ⟨f4, f5⟩ := floor_lt x
    have f6 : br ((1 : Int) : Rat) ≤ 1 := by decide
    try simp only [go_sem, Nat.reduceEqDiff, Nat.reduceAdd, Bool.false_eq_true, Nat.reduceBEq, ↓reduceIte, hk]
    first | refine ev_call (aliveR_ok _) ?_ | refine ev_callP (aliveR_ok _) ?_
    rintro v_57 H_57 le_57 rfl _
    replace h1 := h1.le le_57
    try simp only [go_sem, Nat.reduceEqDiff, Nat.reduceAdd, Bool.false_eq_true, Nat.reduceBEq, ↓reduceIte]
    first | refine ev_call (rfloor_ok _ _ x h1 (by omega)) ?_ | refine ev_callP (rfloor_ok _ _ x h1 (by omega)) ?_
    rintro v_58 H_58 le_58 g1 _
    replace h1 := h1.le le_58
    try simp only [go_sem, Nat.reduceEqDiff, Nat.reduceAdd, Bool.false_eq_true, Nat.reduceBEq, ↓reduceIte]
    first | refine ev_call (wof_ok _ 1 (by decide) (by decide)) ?_ | refine ev_callP (wof_ok _ 1 (by decide) (by decide)) ?_
    rintro v_59 H_59 le_59 g2 _
    replace h1 := h1.le le_59
    replace g1 := g1.le le_59
    try simp only [go_sem, Nat.reduceEqDiff, Nat.reduceAdd, Bool.false_eq_true, Nat.reduceBEq, ↓reduceIte]
    first | refine ev_call (rnew_ok1 _ _ _ _ 1 g1 g2 (by omega) (by decide) (by decide)) ?_ | refine ev_callP (rnew_ok1 _ _ _ _ 1 g1 g2 (by omega) (by decide) (by decide)) ?_
    rintro v_60 H_60 le_60 ⟨vf, rfl, g3⟩ _
    replace h1 := h1.le le_60
    try simp only [go_sem, Nat.reduceEqDiff, Nat.reduceAdd, Bool.false_eq_true, Nat.reduceBEq, ↓reduceIte]
    rw [divInt_one] at g3
    obtain ⟨A7, l7, c7, b7, B7, m7, e7, rfl⟩ := g3.form
    try simp only [go_sem, Nat.reduceEqDiff, Nat.reduceAdd, Bool.false_eq_true, Nat.reduceBEq, ↓reduceIte]
    first | refine ev_call (rsub'_ok _ _ _ _ _ h1 g3 (by omega)) ?_ | refine ev_callP (rsub'_ok _ _ _ _ _ h1 g3 (by omega)) ?_
    rintro v_61 H_61 le_61 g4 _
    try simp only [go_sem, Nat.reduceEqDiff, Nat.reduceAdd, Bool.false_eq_true, Nat.reduceBEq, ↓reduceIte]
    obtain ⟨A8, l8, c8, b8, B8, m8, e8, rfl⟩ := g4.form
    try simp only [go_sem, Nat.reduceEqDiff, Nat.reduceAdd, Bool.false_eq_true, Nat.reduceBEq, ↓reduceIte]
    first | refine ev_call (rsgn_ok _ _ _ g4 (by omega)) ?_ | refine ev_callP (rsgn_ok _ _ _ g4 (by omega)) ?_
    rintro v_62 H_62 le_62 rfl _
    replace g4 := g4.le le_62
    try simp only [go_sem, Nat.reduceEqDiff, Nat.reduceAdd, Bool.false_eq_true, Nat.reduceBEq, ↓reduceIte]
    refine ev_pos (by rw [sgnI_R]; rcases cmpR_cases (x - (x.floor : Rat)) 0 with h | h | h <;> first | omega | (exfalso; have := h.1; grind)) ?_
    try simp only [go_sem, Nat.reduceEqDiff, Nat.reduceAdd, Bool.false_eq_true, Nat.reduceBEq, ↓reduceIte]
    first | refine ev_call (rof_ok _ 1 (by decide) (by decide)) ?_ | refine ev_callP (rof_ok _ 1 (by decide) (by decide)) ?_
    rintro v_63 H_63 le_63 g5 _
    replace g4 := g4.le le_63
    try simp only [go_sem, Nat.reduceEqDiff, Nat.reduceAdd, Bool.false_eq_true, Nat.reduceBEq, ↓reduceIte]
    first | refine ev_call (rcmpR_ok _ _ _ _ _ g4 g5 (by omega)) ?_ | refine ev_callP (rcmpR_ok _ _ _ _ _ g4 g5 (by omega)) ?_
    rintro v_64 H_64 le_64 rfl _
    try simp only [go_sem, Nat.reduceEqDiff, Nat.reduceAdd, Bool.false_eq_true, Nat.reduceBEq, ↓reduceIte]
    refine ev_pos (by rw [cmpR_lt (show x - (x.floor : Rat) < ((1 : Int) : Rat) from f5)]; decide) ?_
    try simp only [go_sem, Nat.reduceEqDiff, Nat.reduceAdd, Bool.false_eq_true, Nat.reduceBEq, ↓reduceIte]
    exact ⟨by trivial, by trivial⟩

end Go.Proofs.Ytepnmenidnjikaa.X
