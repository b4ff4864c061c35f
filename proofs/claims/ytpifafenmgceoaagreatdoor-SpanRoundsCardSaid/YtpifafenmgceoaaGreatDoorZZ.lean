/- The laws of chapter 5: what they share. -/
import Derived.Test.YtpifafenmgceoaaGreatDoorZA
import Derived.Test.YtpifafenmgceoaaGreatDoorZE
set_option linter.unusedVariables false
set_option linter.unusedSimpArgs false
namespace Go.Proofs.YtpifafenmgceoaaGreatDoor.X
open Go Go.RowKit Go.Proofs

theorem isS_ok (H : PH) (va vb : Value) (p q : Rat) (ha : SpanV H va p q) (hb : RSpan H vb p q) (h1 : br p ≤ 4294967000) (h2 : br q ≤ 4294967000) : FnP Tryz.prog 6 [va, vb] H fun v _ => v = .bool true := by
  obtain ⟨A, l, c, b, B, m, e, A', l', c', b', B', m', e', rfl⟩ := ha.form
  obtain ⟨g1, g2⟩ := ha.parts
  obtain ⟨b1, A1, l1, c1, B1, m1, e1, b1', A1', l1', c1', B1', m1', e1', rfl⟩ := hb.form
  obtain ⟨g3, g4⟩ := hb.parts
  refine of_cincturelaw5_Is (by simp) ?_
  try simp only [go_sem, Nat.reduceEqDiff, Nat.reduceAdd, Bool.false_eq_true, Nat.reduceBEq, ↓reduceIte, p_cincturelaw5_Is]
  first | refine ev_call (isQ_ok _ _ _ p g1 g3 h1) ?_ | refine ev_callP (isQ_ok _ _ _ p g1 g3 h1) ?_
  rintro v_1 H_1 le_1 rfl _
  replace g2 := g2.le le_1
  replace g4 := g4.le le_1
  try simp only [go_sem, Nat.reduceEqDiff, Nat.reduceAdd, Bool.false_eq_true, Nat.reduceBEq, ↓reduceIte]
  first | refine ev_call (isQ_ok _ _ _ q g2 g4 h2) ?_ | refine ev_callP (isQ_ok _ _ _ q g2 g4 h2) ?_
  rintro v_2 H_2 le_2 rfl _
  try simp only [go_sem, Nat.reduceEqDiff, Nat.reduceAdd, Bool.false_eq_true, Nat.reduceBEq, ↓reduceIte]
  exact ⟨by trivial, by trivial⟩

theorem alS1 : powLo ((-1 : Int) : Rat) ((2 : Int) : Rat) (expN 2) = ((0 : Int) : Rat) := by decide +kernel
theorem alS2 : powHi ((-1 : Int) : Rat) ((2 : Int) : Rat) (expN 2) = ((4 : Int) : Rat) := by decide +kernel
theorem aliveS_ok (H : PH) : FnP Tryz.prog 5 [] H fun v _ => v = .bool true := by
  have c1 : br ((-1 : Int) : Rat) = 1 := by decide +kernel
  have c2 : br ((2 : Int) : Rat) = 2 := by decide +kernel
  have c3 : br ((0 : Int) : Rat) = 1 := by decide +kernel
  have c4 : br ((4 : Int) : Rat) = 3 := by decide +kernel
  have hle : ((-1 : Int) : Rat) ≤ ((2 : Int) : Rat) := by decide
  refine of_cincturelaw5_alive (by simp) ?_
  try simp only [go_sem, Nat.reduceEqDiff, Nat.reduceAdd, Bool.false_eq_true, Nat.reduceBEq, ↓reduceIte, p_cincturelaw5_alive]
  repeat' (with_reducible refine And.intro ?_ ?_)
  all_goals
    first | refine ev_call (rof_ok _ (-1) (by decide) (by decide)) ?_ | refine ev_callP (rof_ok _ (-1) (by decide) (by decide)) ?_
    rintro v_3 H_3 le_3 h1 _
    try simp only [go_sem, Nat.reduceEqDiff, Nat.reduceAdd, Bool.false_eq_true, Nat.reduceBEq, ↓reduceIte]
    repeat' (with_reducible refine And.intro ?_ ?_)
    all_goals
      first | refine ev_call (rof_ok _ 2 (by decide) (by decide)) ?_ | refine ev_callP (rof_ok _ 2 (by decide) (by decide)) ?_
      rintro v_4 H_4 le_4 h2 _
      replace h1 := h1.le le_4
      try simp only [go_sem, Nat.reduceEqDiff, Nat.reduceAdd, Bool.false_eq_true, Nat.reduceBEq, ↓reduceIte]
      repeat' (with_reducible refine And.intro ?_ ?_)
      all_goals
        first | refine ev_call (snew_ok _ _ _ _ _ h1 h2 (by omega)) ?_ | refine ev_callP (snew_ok _ _ _ _ _ h1 h2 (by omega)) ?_
        rintro v_5 H_5 le_5 ⟨v3, rfl, h3⟩ _
        try simp only [go_sem, Nat.reduceEqDiff, Nat.reduceAdd, Bool.false_eq_true, Nat.reduceBEq, ↓reduceIte]
        rw [if_pos hle, if_pos hle] at h3
        obtain ⟨A, l, c, b, B, m, e, A', l', c', b', B', m', e', rfl⟩ := h3.form
        rw [decide_eq_true hle]
        try simp only [go_sem, Nat.reduceEqDiff, Nat.reduceAdd, Bool.false_eq_true, Nat.reduceBEq, ↓reduceIte]
        first | refine ev_call (spow_ok _ _ _ _ 2 h3 (by omega)) ?_ | refine ev_callP (spow_ok _ _ _ _ 2 h3 (by omega)) ?_
        rintro v_6 H_6 le_6 h4 _
        try simp only [go_sem, Nat.reduceEqDiff, Nat.reduceAdd, Bool.false_eq_true, Nat.reduceBEq, ↓reduceIte]
        rw [alS1, alS2] at h4
        first | refine ev_call (rratOf_ok _ 0 (by decide) (by decide)) ?_ | refine ev_callP (rratOf_ok _ 0 (by decide) (by decide)) ?_
        rintro v_7 H_7 le_7 h5 _
        replace h4 := h4.le le_7
        try simp only [go_sem, Nat.reduceEqDiff, Nat.reduceAdd, Bool.false_eq_true, Nat.reduceBEq, ↓reduceIte]
        first | refine ev_call (rratOf_ok _ 4 (by decide) (by decide)) ?_ | refine ev_callP (rratOf_ok _ 4 (by decide) (by decide)) ?_
        rintro v_8 H_8 le_8 h6 _
        replace h4 := h4.le le_8
        replace h5 := h5.le le_8
        try simp only [go_sem, Nat.reduceEqDiff, Nat.reduceAdd, Bool.false_eq_true, Nat.reduceBEq, ↓reduceIte]
        obtain ⟨b1, A1, l1, c1, B1, m1, e1, rfl⟩ := h5.form
        obtain ⟨b2, A2, l2, c2, B2, m2, e2, rfl⟩ := h6.form
        have h7 := RSpan.mk h5 h6
        try simp only [go_sem, Nat.reduceEqDiff, Nat.reduceAdd, Bool.false_eq_true, Nat.reduceBEq, ↓reduceIte]
        first | refine ev_call (isS_ok _ _ _ _ _ h4 h7 (by omega) (by omega)) ?_ | refine ev_callP (isS_ok _ _ _ _ _ h4 h7 (by omega) (by omega)) ?_
        rintro v_9 H_9 le_9 rfl _
        try simp only [go_sem, Nat.reduceEqDiff, Nat.reduceAdd, Bool.false_eq_true, Nat.reduceBEq, ↓reduceIte]
        exact ⟨by trivial, by trivial⟩

/-- an interval of texts, not too long -/
def soOk (a b : ByteArray) : Bool := spOk a b && (decide (a.size ≤ 60) && decide (b.size ≤ 60))
theorem soOk_br {a b : ByteArray} (h : soOk a b = true) : br (rv (bs a)) ≤ 241 ∧ br (rv (bs b)) ≤ 241 ∧ rv (bs a) ≤ rv (bs b) ∧ ofB (rtx (rv (bs a))) = a ∧ ofB (rtx (rv (bs b))) = b ∧ spOk a b = true ∧ a.size ≤ 60 ∧ b.size ≤ 60 := by
  unfold soOk at h
  rw [Bool.and_eq_true, Bool.and_eq_true, decide_eq_true_eq, decide_eq_true_eq] at h
  have h0 := h.1
  unfold spOk at h0
  rw [Bool.and_eq_true, Bool.and_eq_true, decide_eq_true_eq] at h0
  have k1 := rv_br h0.1
  have k2 := rv_br h0.2.1
  rw [bs_length] at k1 k2
  exact ⟨by omega, by omega, h0.2.2, by rw [rtx_rv h0.1, ofB_bs], by rw [rtx_rv h0.2.1, ofB_bs], h.1, h.2.1, h.2.2⟩
theorem ofS_ok (H : PH) (a b : ByteArray) (ha : a.size ≤ 9223372036854775807) (hb : b.size ≤ 9223372036854775807) : FnP Tryz.prog 4 [.agg #[.string a, .string b]] H fun v H' => ∃ va ra, v = .tuple #[va, ra, .bool (soOk a b)] ∧ SpanV H' va (if soOk a b then rv (bs a) else 0) (if soOk a b then rv (bs b) else 0) ∧ RSpan H' ra (if soOk a b then rv (bs a) else 0) (if soOk a b then rv (bs b) else 0) := by
  have bad : soOk a b = false → ∀ H' : PH, ∃ va ra, (Value.tuple #[.agg #[.slice none 0 0, .bool false, .slice none 0 0, .slice none 0 0, .bool false, .slice none 0 0], .agg #[.bool false, .slice none 0 0, .slice none 0 0, .bool false, .slice none 0 0, .slice none 0 0], .bool false]) = .tuple #[va, ra, .bool (soOk a b)] ∧ SpanV H' va (if soOk a b then rv (bs a) else 0) (if soOk a b then rv (bs b) else 0) ∧ RSpan H' ra (if soOk a b then rv (bs a) else 0) (if soOk a b then rv (bs b) else 0) := by
    intro h H'
    rw [h]
    exact ⟨_, _, rfl, SpanV.zero _, RSpan.zero _⟩
  refine of_cincturelaw5_Of (by simp) ?_
  try simp only [go_sem, Nat.reduceEqDiff, Nat.reduceAdd, Bool.false_eq_true, Nat.reduceBEq, ↓reduceIte, p_cincturelaw5_Of]
  first | refine ev_call (sparseR_ok _ a b ha hb) ?_ | refine ev_callP (sparseR_ok _ a b ha hb) ?_
  rintro v_10 H_10 le_10 ⟨ra, rfl, h1⟩ _
  try simp only [go_sem, Nat.reduceEqDiff, Nat.reduceAdd, Bool.false_eq_true, Nat.reduceBEq, ↓reduceIte]
  obtain ⟨b1, A1, l1, c1, B1, m1, e1, b1', A1', l1', c1', B1', m1', e1', rfl⟩ := h1.form
  have hcode := @spCode_ok a b
  try simp only [go_sem, Nat.reduceEqDiff, Nat.reduceAdd, Bool.false_eq_true, Nat.reduceBEq, ↓reduceIte]
  refine ev_if (fun h => ?_) (fun h => ?_)
  · have hs : spOk a b = false := by
      cases hk : spOk a b with
      | false => rfl
      | true => exact absurd (hcode.2 hk) h
    try simp only [go_sem, Nat.reduceEqDiff, Nat.reduceAdd, Bool.false_eq_true, Nat.reduceBEq, ↓reduceIte]
    exact ⟨by trivial, bad (by unfold soOk; rw [hs]; rfl) _⟩
  · have hs : spOk a b = true := hcode.1 (Classical.not_not.1 h)
    rw [hs, if_pos rfl, if_pos rfl] at h1
    try simp only [go_sem, Nat.reduceEqDiff, Nat.reduceAdd, Bool.false_eq_true, Nat.reduceBEq, ↓reduceIte]
    refine ev_if (fun h2 => ?_) (fun h2 => ?_)
    · try simp only [go_sem, Nat.reduceEqDiff, Nat.reduceAdd, Bool.false_eq_true, Nat.reduceBEq, ↓reduceIte]
      exact ⟨by trivial, bad (by unfold soOk; rw [decide_eq_false (show ¬ a.size ≤ 60 by omega)]; simp) _⟩
    · try simp only [go_sem, Nat.reduceEqDiff, Nat.reduceAdd, Bool.false_eq_true, Nat.reduceBEq, ↓reduceIte]
      refine ev_if (fun h3 => ?_) (fun h3 => ?_)
      · try simp only [go_sem, Nat.reduceEqDiff, Nat.reduceAdd, Bool.false_eq_true, Nat.reduceBEq, ↓reduceIte]
        exact ⟨by trivial, bad (by unfold soOk; rw [decide_eq_false (show ¬ b.size ≤ 60 by omega)]; simp) _⟩
      · have hn : soOk a b = true := by unfold soOk; rw [hs, decide_eq_true (show a.size ≤ 60 by omega), decide_eq_true (show b.size ≤ 60 by omega)]; rfl
        try simp only [go_sem, Nat.reduceEqDiff, Nat.reduceAdd, Bool.false_eq_true, Nat.reduceBEq, ↓reduceIte]
        first | refine ev_call (sparse_ok _ a b ha hb) ?_ | refine ev_callP (sparse_ok _ a b ha hb) ?_
        rintro v_11 H_11 le_11 ⟨va, rfl, h4⟩ _
        replace h1 := h1.le le_11
        try simp only [go_sem, Nat.reduceEqDiff, Nat.reduceAdd, Bool.false_eq_true, Nat.reduceBEq, ↓reduceIte]
        rw [hs, if_pos rfl, if_pos rfl] at h4
        obtain ⟨A, l, c, b', B, m, e, A', l', c', b'', B', m', e', rfl⟩ := h4.form
        try simp only [go_sem, Nat.reduceEqDiff, Nat.reduceAdd, Bool.false_eq_true, Nat.reduceBEq, ↓reduceIte]
        rw [hn]
        repeat' (with_reducible refine And.intro ?_ ?_)
        all_goals first | trivial | exact ⟨_, _, rfl, h4, h1⟩

end Go.Proofs.YtpifafenmgceoaaGreatDoor.X
set_option linter.unusedVariables false
set_option linter.unusedSimpArgs false
namespace Go.Proofs.YtpifafenmgceoaaGreatDoor.X
open Go Go.RowKit Go.Proofs

theorem sround_ok (H : PH) (hT : Tab H) (va : Value) (p q : Rat) (n : Int) (ha : SpanV H va p q) (hb : br p + br q ≤ 50000) : FnP Tryz.prog 7 [va, .int .i64 n] H fun v H' => SpanV H' v (rndR p (cb n) false) (rndR q (cb n) true) := by
  obtain ⟨A, l, c, b, B, m, e, A', l', c', b', B', m', e', rfl⟩ := ha.form
  obtain ⟨h1, h2⟩ := ha.parts
  obtain ⟨hc1, hc2⟩ := cb_bd n
  have s1 := br_rnd p hc1 false
  have s2 := br_rnd q hc1 true
  refine of_span_Round (by simp) ?_
  try simp only [go_sem, Nat.reduceEqDiff, Nat.reduceAdd, Bool.false_eq_true, Nat.reduceBEq, ↓reduceIte, p_span_Round]
  first | refine ev_call (down_ok _ hT _ p n h1 (by omega)) ?_ | refine ev_callP (down_ok _ hT _ p n h1 (by omega)) ?_
  rintro v_1 H_1 le_1 g1 _
  replace h2 := h2.le le_1
  replace hT := hT.le le_1
  try simp only [go_sem, Nat.reduceEqDiff, Nat.reduceAdd, Bool.false_eq_true, Nat.reduceBEq, ↓reduceIte]
  first | refine ev_call (ratD_ok _ _ _ g1 (by omega)) ?_ | refine ev_callP (ratD_ok _ _ _ g1 (by omega)) ?_
  rintro v_2 H_2 le_2 g2 _
  replace h2 := h2.le le_2
  replace hT := hT.le le_2
  try simp only [go_sem, Nat.reduceEqDiff, Nat.reduceAdd, Bool.false_eq_true, Nat.reduceBEq, ↓reduceIte]
  first | refine ev_call (up_ok _ hT _ q n h2 (by omega)) ?_ | refine ev_callP (up_ok _ hT _ q n h2 (by omega)) ?_
  rintro v_3 H_3 le_3 g3 _
  replace g2 := g2.le le_3
  try simp only [go_sem, Nat.reduceEqDiff, Nat.reduceAdd, Bool.false_eq_true, Nat.reduceBEq, ↓reduceIte]
  first | refine ev_call (ratD_ok _ _ _ g3 (by omega)) ?_ | refine ev_callP (ratD_ok _ _ _ g3 (by omega)) ?_
  rintro v_4 H_4 le_4 g4 _
  replace g2 := g2.le le_4
  try simp only [go_sem, Nat.reduceEqDiff, Nat.reduceAdd, Bool.false_eq_true, Nat.reduceBEq, ↓reduceIte]
  obtain ⟨A2, l2, c2, b2, B2, m2, e2, rfl⟩ := g2.form
  obtain ⟨A3, l3, c3, b3, B3, m3, e3, rfl⟩ := g4.form
  try simp only [go_sem, Nat.reduceEqDiff, Nat.reduceAdd, Bool.false_eq_true, Nat.reduceBEq, ↓reduceIte]
  exact ⟨by trivial, SpanV.mk g2 g4⟩

theorem SpanRounds_ok (H : PH) (hT : Tab H) (a1 : ByteArray) (ha1 : a1.size ≤ 9223372036854775807) (a2 : ByteArray) (ha2 : a2.size ≤ 9223372036854775807) (bits : Int) (wb : (Lit.int .i64 bits).wf = true) : FnP Tryz.prog 3 [.agg #[.string a1, .string a2], .int .i64 bits] H fun v _ => v = .bool true := by
  refine of_cincturelaw5_SpanRounds (by simp) ?_
  try simp only [go_sem, Nat.reduceEqDiff, Nat.reduceAdd, Bool.false_eq_true, Nat.reduceBEq, ↓reduceIte, p_cincturelaw5_SpanRounds]
  first | refine ev_call (ofS_ok _ a1 a2 ha1 ha2) ?_ | refine ev_callP (ofS_ok _ a1 a2 ha1 ha2) ?_
  rintro v_5 H_5 le_5 ⟨va, ra, rfl, h1, h2⟩ _
  replace hT := hT.le le_5
  try simp only [go_sem, Nat.reduceEqDiff, Nat.reduceAdd, Bool.false_eq_true, Nat.reduceBEq, ↓reduceIte]
  obtain ⟨A1, l1, c1, t1, B1, m1, e1, A1', l1', c1', t1', B1', m1', e1', rfl⟩ := h1.form
  obtain ⟨t2, A2, l2, c2, B2, m2, e2, t2', A2', l2', c2', B2', m2', e2', rfl⟩ := h2.form
  cases hk : soOk a1 a2 with
  | false =>
    try simp only [go_sem, Nat.reduceEqDiff, Nat.reduceAdd, Bool.false_eq_true, Nat.reduceBEq, ↓reduceIte, hk]
    first | refine ev_call (aliveS_ok _) ?_ | refine ev_callP (aliveS_ok _) ?_
    rintro v_6 H_6 le_6 rfl _
    try simp only [go_sem, Nat.reduceEqDiff, Nat.reduceAdd, Bool.false_eq_true, Nat.reduceBEq, ↓reduceIte]
    exact ⟨by trivial, by trivial⟩
  | true =>
    rw [hk, if_pos rfl, if_pos rfl] at h1 h2
    obtain ⟨kp, kq, hpq, htp, htq, _, _, _⟩ := soOk_br hk
    generalize rv (bs a1) = p at *
    generalize rv (bs a2) = q at *
    try simp only [go_sem, Nat.reduceEqDiff, Nat.reduceAdd, Bool.false_eq_true, Nat.reduceBEq, ↓reduceIte, hk]
    first | refine ev_call (aliveS_ok _) ?_ | refine ev_callP (aliveS_ok _) ?_
    rintro v_7 H_7 le_7 rfl _
    replace h1 := h1.le le_7
    replace h2 := h2.le le_7
    replace hT := hT.le le_7
    try simp only [go_sem, Nat.reduceEqDiff, Nat.reduceAdd, Bool.false_eq_true, Nat.reduceBEq, ↓reduceIte]
    refine ev_if (fun h3 => ?_) (fun h3 => ?_)
    · try simp only [go_sem, Nat.reduceEqDiff, Nat.reduceAdd, Bool.false_eq_true, Nat.reduceBEq, ↓reduceIte]
      obtain ⟨w, hw⟩ : ∃ w : Int, w = 100 := ⟨_, rfl⟩
      rw [← hw]
      try simp only [go_sem, Nat.reduceEqDiff, Nat.reduceAdd, Bool.false_eq_true, Nat.reduceBEq, ↓reduceIte]
      have hcw := cb_bd w
      have s1 := br_rnd p hcw.1 false
      have s2 := br_rnd q hcw.1 true
      obtain ⟨x1, x2⟩ := h2.parts
      first | refine ev_call (sround_ok _ hT _ p q w h1 (by omega)) ?_ | refine ev_callP (sround_ok _ hT _ p q w h1 (by omega)) ?_
      rintro v_8 H_8 le_8 g1 _
      replace h1 := h1.le le_8
      replace x1 := x1.le le_8
      replace x2 := x2.le le_8
      replace hT := hT.le le_8
      try simp only [go_sem, Nat.reduceEqDiff, Nat.reduceAdd, Bool.false_eq_true, Nat.reduceBEq, ↓reduceIte]
      first | refine ev_call (downR_ok _ _ p w x1 (by omega)) ?_ | refine ev_callP (downR_ok _ _ p w x1 (by omega)) ?_
      rintro v_9 H_9 le_9 g2 _
      replace h1 := h1.le le_9
      replace x2 := x2.le le_9
      replace g1 := g1.le le_9
      replace hT := hT.le le_9
      try simp only [go_sem, Nat.reduceEqDiff, Nat.reduceAdd, Bool.false_eq_true, Nat.reduceBEq, ↓reduceIte]
      first | refine ev_call (upR_ok _ _ q w x2 (by omega)) ?_ | refine ev_callP (upR_ok _ _ q w x2 (by omega)) ?_
      rintro v_10 H_10 le_10 g3 _
      replace h1 := h1.le le_10
      replace g1 := g1.le le_10
      replace g2 := g2.le le_10
      replace hT := hT.le le_10
      try simp only [go_sem, Nat.reduceEqDiff, Nat.reduceAdd, Bool.false_eq_true, Nat.reduceBEq, ↓reduceIte]
      obtain ⟨t5, A5, l5, c5, B5, m5, e5, rfl⟩ := g2.form
      obtain ⟨t6, A6, l6, c6, B6, m6, e6, rfl⟩ := g3.form
      have g4 := RSpan.mk g2 g3
      try simp only [go_sem, Nat.reduceEqDiff, Nat.reduceAdd, Bool.false_eq_true, Nat.reduceBEq, ↓reduceIte]
      first | refine ev_call (isS_ok _ _ _ _ _ g1 g4 (by omega) (by omega)) ?_ | refine ev_callP (isS_ok _ _ _ _ _ g1 g4 (by omega) (by omega)) ?_
      rintro v_11 H_11 le_11 rfl _
      replace h1 := h1.le le_11
      replace hT := hT.le le_11
      try simp only [go_sem, Nat.reduceEqDiff, Nat.reduceAdd, Bool.false_eq_true, Nat.reduceBEq, ↓reduceIte]
      first | refine ev_call (sround_ok _ hT _ p q w h1 (by omega)) ?_ | refine ev_callP (sround_ok _ hT _ p q w h1 (by omega)) ?_
      rintro v_12 H_12 le_12 g5 _
      replace h1 := h1.le le_12
      try simp only [go_sem, Nat.reduceEqDiff, Nat.reduceAdd, Bool.false_eq_true, Nat.reduceBEq, ↓reduceIte]
      first | refine ev_call (swithin_ok _ _ _ p q _ _ h1 g5 (by omega)) ?_ | refine ev_callP (swithin_ok _ _ _ p q _ _ h1 g5 (by omega)) ?_
      rintro v_13 H_13 le_13 rfl _
      try simp only [go_sem, Nat.reduceEqDiff, Nat.reduceAdd, Bool.false_eq_true, Nat.reduceBEq, ↓reduceIte]
      rw [decide_eq_true (show rndR p (cb w) false ≤ p ∧ q ≤ rndR q (cb w) true from ⟨(rnd_le p _).1, (rnd_le q _).2⟩)]
      try simp only [go_sem, Nat.reduceEqDiff, Nat.reduceAdd, Bool.false_eq_true, Nat.reduceBEq, ↓reduceIte]
      exact ⟨by trivial, by trivial⟩
    · obtain ⟨w, hw⟩ : ∃ w : Int, w = bits := ⟨_, rfl⟩
      rw [← hw]
      try simp only [go_sem, Nat.reduceEqDiff, Nat.reduceAdd, Bool.false_eq_true, Nat.reduceBEq, ↓reduceIte]
      have hcw := cb_bd w
      have s1 := br_rnd p hcw.1 false
      have s2 := br_rnd q hcw.1 true
      obtain ⟨x1, x2⟩ := h2.parts
      first | refine ev_call (sround_ok _ hT _ p q w h1 (by omega)) ?_ | refine ev_callP (sround_ok _ hT _ p q w h1 (by omega)) ?_
      rintro v_8 H_8 le_8 g1 _
      replace h1 := h1.le le_8
      replace x1 := x1.le le_8
      replace x2 := x2.le le_8
      replace hT := hT.le le_8
      try simp only [go_sem, Nat.reduceEqDiff, Nat.reduceAdd, Bool.false_eq_true, Nat.reduceBEq, ↓reduceIte]
      first | refine ev_call (downR_ok _ _ p w x1 (by omega)) ?_ | refine ev_callP (downR_ok _ _ p w x1 (by omega)) ?_
      rintro v_9 H_9 le_9 g2 _
      replace h1 := h1.le le_9
      replace x2 := x2.le le_9
      replace g1 := g1.le le_9
      replace hT := hT.le le_9
      try simp only [go_sem, Nat.reduceEqDiff, Nat.reduceAdd, Bool.false_eq_true, Nat.reduceBEq, ↓reduceIte]
      first | refine ev_call (upR_ok _ _ q w x2 (by omega)) ?_ | refine ev_callP (upR_ok _ _ q w x2 (by omega)) ?_
      rintro v_10 H_10 le_10 g3 _
      replace h1 := h1.le le_10
      replace g1 := g1.le le_10
      replace g2 := g2.le le_10
      replace hT := hT.le le_10
      try simp only [go_sem, Nat.reduceEqDiff, Nat.reduceAdd, Bool.false_eq_true, Nat.reduceBEq, ↓reduceIte]
      obtain ⟨t5, A5, l5, c5, B5, m5, e5, rfl⟩ := g2.form
      obtain ⟨t6, A6, l6, c6, B6, m6, e6, rfl⟩ := g3.form
      have g4 := RSpan.mk g2 g3
      try simp only [go_sem, Nat.reduceEqDiff, Nat.reduceAdd, Bool.false_eq_true, Nat.reduceBEq, ↓reduceIte]
      first | refine ev_call (isS_ok _ _ _ _ _ g1 g4 (by omega) (by omega)) ?_ | refine ev_callP (isS_ok _ _ _ _ _ g1 g4 (by omega) (by omega)) ?_
      rintro v_11 H_11 le_11 rfl _
      replace h1 := h1.le le_11
      replace hT := hT.le le_11
      try simp only [go_sem, Nat.reduceEqDiff, Nat.reduceAdd, Bool.false_eq_true, Nat.reduceBEq, ↓reduceIte]
      first | refine ev_call (sround_ok _ hT _ p q w h1 (by omega)) ?_ | refine ev_callP (sround_ok _ hT _ p q w h1 (by omega)) ?_
      rintro v_12 H_12 le_12 g5 _
      replace h1 := h1.le le_12
      try simp only [go_sem, Nat.reduceEqDiff, Nat.reduceAdd, Bool.false_eq_true, Nat.reduceBEq, ↓reduceIte]
      first | refine ev_call (swithin_ok _ _ _ p q _ _ h1 g5 (by omega)) ?_ | refine ev_callP (swithin_ok _ _ _ p q _ _ h1 g5 (by omega)) ?_
      rintro v_13 H_13 le_13 rfl _
      try simp only [go_sem, Nat.reduceEqDiff, Nat.reduceAdd, Bool.false_eq_true, Nat.reduceBEq, ↓reduceIte]
      rw [decide_eq_true (show rndR p (cb w) false ≤ p ∧ q ≤ rndR q (cb w) true from ⟨(rnd_le p _).1, (rnd_le q _).2⟩)]
      try simp only [go_sem, Nat.reduceEqDiff, Nat.reduceAdd, Bool.false_eq_true, Nat.reduceBEq, ↓reduceIte]
      exact ⟨by trivial, by trivial⟩

end Go.Proofs.YtpifafenmgceoaaGreatDoor.X
