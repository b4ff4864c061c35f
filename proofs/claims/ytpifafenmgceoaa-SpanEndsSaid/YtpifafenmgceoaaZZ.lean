/- The laws of chapter 5: what they share. -/
import Derived.Test.YtpifafenmgceoaaZA
import Derived.Test.YtpifafenmgceoaaZE
set_option linter.unusedVariables false
set_option linter.unusedSimpArgs false
namespace Go.Proofs.Ytpifafenmgceoaa.X
open Go Go.RowKit Go.Proofs

theorem isS_ok (H : PH) (va vb : Value) (p q : Rat) (ha : SpanV H va p q) (hb : RSpan H vb p q) (h1 : br p ≤ 4294967000) (h2 : br q ≤ 4294967000) : FnP Try.prog 9 [va, vb] H fun v _ => v = .bool true := by
  obtain ⟨A, l, c, b, B, m, e, A', l', c', b', B', m', e', rfl⟩ := ha.form
  obtain ⟨g1, g2⟩ := ha.parts
  obtain ⟨b1, A1, l1, c1, B1, m1, e1, b1', A1', l1', c1', B1', m1', e1', rfl⟩ := hb.form
  obtain ⟨g3, g4⟩ := hb.parts
  refine of_cincturelaw5_Is (by simp) ?_
  try simp only [go_sem, Nat.reduceEqDiff, Nat.reduceAdd, Bool.false_eq_true, Nat.reduceBEq, ↓reduceIte, p_cincturelaw5_Is]
  first | refine ev_call (isQ_ok _ _ _ p g1 g3 h1) ?_ | refine ev_callP (isQ_ok _ _ _ p g1 g3 h1) ?_
  rintro v_1 H_1 le_1 rfl _
  replace g2 := g2.le le_1
  replace g4 := g4.le le_1
  try simp only [go_sem, Nat.reduceEqDiff, Nat.reduceAdd, Bool.false_eq_true, Nat.reduceBEq, ↓reduceIte]
  first | refine ev_call (isQ_ok _ _ _ q g2 g4 h2) ?_ | refine ev_callP (isQ_ok _ _ _ q g2 g4 h2) ?_
  rintro v_2 H_2 le_2 rfl _
  try simp only [go_sem, Nat.reduceEqDiff, Nat.reduceAdd, Bool.false_eq_true, Nat.reduceBEq, ↓reduceIte]
  exact ⟨by trivial, by trivial⟩

theorem alS1 : powLo ((-1 : Int) : Rat) ((2 : Int) : Rat) (expN 2) = ((0 : Int) : Rat) := by decide +kernel
theorem alS2 : powHi ((-1 : Int) : Rat) ((2 : Int) : Rat) (expN 2) = ((4 : Int) : Rat) := by decide +kernel
theorem aliveS_ok (H : PH) : FnP Try.prog 7 [] H fun v _ => v = .bool true := by
  have c1 : br ((-1 : Int) : Rat) = 1 := by decide +kernel
  have c2 : br ((2 : Int) : Rat) = 2 := by decide +kernel
  have c3 : br ((0 : Int) : Rat) = 1 := by decide +kernel
  have c4 : br ((4 : Int) : Rat) = 3 := by decide +kernel
  have hle : ((-1 : Int) : Rat) ≤ ((2 : Int) : Rat) := by decide
  refine of_cincturelaw5_alive (by simp) ?_
  try simp only [go_sem, Nat.reduceEqDiff, Nat.reduceAdd, Bool.false_eq_true, Nat.reduceBEq, ↓reduceIte, p_cincturelaw5_alive]
  repeat' (with_reducible refine And.intro ?_ ?_)
  all_goals
    first | refine ev_call (rof_ok _ (-1) (by decide) (by decide)) ?_ | refine ev_callP (rof_ok _ (-1) (by decide) (by decide)) ?_
    rintro v_3 H_3 le_3 h1 _
    try simp only [go_sem, Nat.reduceEqDiff, Nat.reduceAdd, Bool.false_eq_true, Nat.reduceBEq, ↓reduceIte]
    repeat' (with_reducible refine And.intro ?_ ?_)
    all_goals
      first | refine ev_call (rof_ok _ 2 (by decide) (by decide)) ?_ | refine ev_callP (rof_ok _ 2 (by decide) (by decide)) ?_
      rintro v_4 H_4 le_4 h2 _
      replace h1 := h1.le le_4
      try simp only [go_sem, Nat.reduceEqDiff, Nat.reduceAdd, Bool.false_eq_true, Nat.reduceBEq, ↓reduceIte]
      repeat' (with_reducible refine And.intro ?_ ?_)
      all_goals
        first | refine ev_call (snew_ok _ _ _ _ _ h1 h2 (by omega)) ?_ | refine ev_callP (snew_ok _ _ _ _ _ h1 h2 (by omega)) ?_
        rintro v_5 H_5 le_5 ⟨v3, rfl, h3⟩ _
        try simp only [go_sem, Nat.reduceEqDiff, Nat.reduceAdd, Bool.false_eq_true, Nat.reduceBEq, ↓reduceIte]
        rw [if_pos hle, if_pos hle] at h3
        obtain ⟨A, l, c, b, B, m, e, A', l', c', b', B', m', e', rfl⟩ := h3.form
        rw [decide_eq_true hle]
        try simp only [go_sem, Nat.reduceEqDiff, Nat.reduceAdd, Bool.false_eq_true, Nat.reduceBEq, ↓reduceIte]
        first | refine ev_call (spow_ok _ _ _ _ 2 h3 (by omega)) ?_ | refine ev_callP (spow_ok _ _ _ _ 2 h3 (by omega)) ?_
        rintro v_6 H_6 le_6 h4 _
        try simp only [go_sem, Nat.reduceEqDiff, Nat.reduceAdd, Bool.false_eq_true, Nat.reduceBEq, ↓reduceIte]
        rw [alS1, alS2] at h4
        first | refine ev_call (rratOf_ok _ 0 (by decide) (by decide)) ?_ | refine ev_callP (rratOf_ok _ 0 (by decide) (by decide)) ?_
        rintro v_7 H_7 le_7 h5 _
        replace h4 := h4.le le_7
        try simp only [go_sem, Nat.reduceEqDiff, Nat.reduceAdd, Bool.false_eq_true, Nat.reduceBEq, ↓reduceIte]
        first | refine ev_call (rratOf_ok _ 4 (by decide) (by decide)) ?_ | refine ev_callP (rratOf_ok _ 4 (by decide) (by decide)) ?_
        rintro v_8 H_8 le_8 h6 _
        replace h4 := h4.le le_8
        replace h5 := h5.le le_8
        try simp only [go_sem, Nat.reduceEqDiff, Nat.reduceAdd, Bool.false_eq_true, Nat.reduceBEq, ↓reduceIte]
        obtain ⟨b1, A1, l1, c1, B1, m1, e1, rfl⟩ := h5.form
        obtain ⟨b2, A2, l2, c2, B2, m2, e2, rfl⟩ := h6.form
        have h7 := RSpan.mk h5 h6
        try simp only [go_sem, Nat.reduceEqDiff, Nat.reduceAdd, Bool.false_eq_true, Nat.reduceBEq, ↓reduceIte]
        first | refine ev_call (isS_ok _ _ _ _ _ h4 h7 (by omega) (by omega)) ?_ | refine ev_callP (isS_ok _ _ _ _ _ h4 h7 (by omega) (by omega)) ?_
        rintro v_9 H_9 le_9 rfl _
        try simp only [go_sem, Nat.reduceEqDiff, Nat.reduceAdd, Bool.false_eq_true, Nat.reduceBEq, ↓reduceIte]
        exact ⟨by trivial, by trivial⟩

/-- an interval of texts, not too long -/
def soOk (a b : ByteArray) : Bool := spOk a b && (decide (a.size ≤ 60) && decide (b.size ≤ 60))
theorem soOk_br {a b : ByteArray} (h : soOk a b = true) : br (rv (bs a)) ≤ 241 ∧ br (rv (bs b)) ≤ 241 ∧ rv (bs a) ≤ rv (bs b) ∧ ofB (rtx (rv (bs a))) = a ∧ ofB (rtx (rv (bs b))) = b ∧ spOk a b = true ∧ a.size ≤ 60 ∧ b.size ≤ 60 := by
  unfold soOk at h
  rw [Bool.and_eq_true, Bool.and_eq_true, decide_eq_true_eq, decide_eq_true_eq] at h
  have h0 := h.1
  unfold spOk at h0
  rw [Bool.and_eq_true, Bool.and_eq_true, decide_eq_true_eq] at h0
  have k1 := rv_br h0.1
  have k2 := rv_br h0.2.1
  rw [bs_length] at k1 k2
  exact ⟨by omega, by omega, h0.2.2, by rw [rtx_rv h0.1, ofB_bs], by rw [rtx_rv h0.2.1, ofB_bs], h.1, h.2.1, h.2.2⟩
theorem ofS_ok (H : PH) (a b : ByteArray) (ha : a.size ≤ 9223372036854775807) (hb : b.size ≤ 9223372036854775807) : FnP Try.prog 6 [.agg #[.string a, .string b]] H fun v H' => ∃ va ra, v = .tuple #[va, ra, .bool (soOk a b)] ∧ SpanV H' va (if soOk a b then rv (bs a) else 0) (if soOk a b then rv (bs b) else 0) ∧ RSpan H' ra (if soOk a b then rv (bs a) else 0) (if soOk a b then rv (bs b) else 0) := by
  have bad : soOk a b = false → ∀ H' : PH, ∃ va ra, (Value.tuple #[.agg #[.slice none 0 0, .bool false, .slice none 0 0, .slice none 0 0, .bool false, .slice none 0 0], .agg #[.bool false, .slice none 0 0, .slice none 0 0, .bool false, .slice none 0 0, .slice none 0 0], .bool false]) = .tuple #[va, ra, .bool (soOk a b)] ∧ SpanV H' va (if soOk a b then rv (bs a) else 0) (if soOk a b then rv (bs b) else 0) ∧ RSpan H' ra (if soOk a b then rv (bs a) else 0) (if soOk a b then rv (bs b) else 0) := by
    intro h H'
    rw [h]
    exact ⟨_, _, rfl, SpanV.zero _, RSpan.zero _⟩
  refine of_cincturelaw5_Of (by simp) ?_
  try simp only [go_sem, Nat.reduceEqDiff, Nat.reduceAdd, Bool.false_eq_true, Nat.reduceBEq, ↓reduceIte, p_cincturelaw5_Of]
  first | refine ev_call (sparseR_ok _ a b ha hb) ?_ | refine ev_callP (sparseR_ok _ a b ha hb) ?_
  rintro v_10 H_10 le_10 ⟨ra, rfl, h1⟩ _
  try simp only [go_sem, Nat.reduceEqDiff, Nat.reduceAdd, Bool.false_eq_true, Nat.reduceBEq, ↓reduceIte]
  obtain ⟨b1, A1, l1, c1, B1, m1, e1, b1', A1', l1', c1', B1', m1', e1', rfl⟩ := h1.form
  have hcode := @spCode_ok a b
  try simp only [go_sem, Nat.reduceEqDiff, Nat.reduceAdd, Bool.false_eq_true, Nat.reduceBEq, ↓reduceIte]
  refine ev_if (fun h => ?_) (fun h => ?_)
  · have hs : spOk a b = false := by
      cases hk : spOk a b with
      | false => rfl
      | true => exact absurd (hcode.2 hk) h
    try simp only [go_sem, Nat.reduceEqDiff, Nat.reduceAdd, Bool.false_eq_true, Nat.reduceBEq, ↓reduceIte]
    exact ⟨by trivial, bad (by unfold soOk; rw [hs]; rfl) _⟩
  · have hs : spOk a b = true := hcode.1 (Classical.not_not.1 h)
    rw [hs, if_pos rfl, if_pos rfl] at h1
    try simp only [go_sem, Nat.reduceEqDiff, Nat.reduceAdd, Bool.false_eq_true, Nat.reduceBEq, ↓reduceIte]
    refine ev_if (fun h2 => ?_) (fun h2 => ?_)
    · try simp only [go_sem, Nat.reduceEqDiff, Nat.reduceAdd, Bool.false_eq_true, Nat.reduceBEq, ↓reduceIte]
      exact ⟨by trivial, bad (by unfold soOk; rw [decide_eq_false (show ¬ a.size ≤ 60 by omega)]; simp) _⟩
    · try simp only [go_sem, Nat.reduceEqDiff, Nat.reduceAdd, Bool.false_eq_true, Nat.reduceBEq, ↓reduceIte]
      refine ev_if (fun h3 => ?_) (fun h3 => ?_)
      · try simp only [go_sem, Nat.reduceEqDiff, Nat.reduceAdd, Bool.false_eq_true, Nat.reduceBEq, ↓reduceIte]
        exact ⟨by trivial, bad (by unfold soOk; rw [decide_eq_false (show ¬ b.size ≤ 60 by omega)]; simp) _⟩
      · have hn : soOk a b = true := by unfold soOk; rw [hs, decide_eq_true (show a.size ≤ 60 by omega), decide_eq_true (show b.size ≤ 60 by omega)]; rfl
        try simp only [go_sem, Nat.reduceEqDiff, Nat.reduceAdd, Bool.false_eq_true, Nat.reduceBEq, ↓reduceIte]
        first | refine ev_call (sparse_ok _ a b ha hb) ?_ | refine ev_callP (sparse_ok _ a b ha hb) ?_
        rintro v_11 H_11 le_11 ⟨va, rfl, h4⟩ _
        replace h1 := h1.le le_11
        try simp only [go_sem, Nat.reduceEqDiff, Nat.reduceAdd, Bool.false_eq_true, Nat.reduceBEq, ↓reduceIte]
        rw [hs, if_pos rfl, if_pos rfl] at h4
        obtain ⟨A, l, c, b', B, m, e, A', l', c', b'', B', m', e', rfl⟩ := h4.form
        try simp only [go_sem, Nat.reduceEqDiff, Nat.reduceAdd, Bool.false_eq_true, Nat.reduceBEq, ↓reduceIte]
        rw [hn]
        repeat' (with_reducible refine And.intro ?_ ?_)
        all_goals first | trivial | exact ⟨_, _, rfl, h4, h1⟩

end Go.Proofs.Ytpifafenmgceoaa.X
