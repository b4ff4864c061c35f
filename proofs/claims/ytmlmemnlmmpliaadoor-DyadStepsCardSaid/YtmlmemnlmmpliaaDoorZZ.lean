/- The laws of chapter 4: what they share; the first ones. -/
import Derived.Test.YtmlmemnlmmpliaaDoorZA
import Derived.Test.YtmlmemnlmmpliaaDoorZE
set_option linter.unusedVariables false
set_option linter.unusedSimpArgs false
namespace Go.Proofs.YtmlmemnlmmpliaaDoor.X
open Go Go.RowKit Go.Proofs

theorem aliveD_ok (H : PH) (hT : Tab H) : FnP Tryd.prog 9 [] H fun v _ => v = .bool true := by
  have b1 : br (mkRat 1 3) = 2 := by decide +kernel
  have b2 : br (mkRat 1 4) = 3 := by decide +kernel
  have b3 : br (mkRat 3 8) = 4 := by decide +kernel
  refine of_cincturelaw4_alive (by simp) ?_
  try simp only [go_sem, Nat.reduceEqDiff, Nat.reduceAdd, Bool.false_eq_true, Nat.reduceBEq, ↓reduceIte, p_cincturelaw4_alive]
  first | refine ev_call (rparse'_ok _ ⟨#[49, 47, 51]⟩ (by decide)) ?_ | refine ev_callP (rparse'_ok _ ⟨#[49, 47, 51]⟩ (by decide)) ?_
  rintro v_1 H_1 le_1 ⟨va, rfl, h1⟩ _
  replace hT := hT.le le_1
  try simp only [go_sem, Nat.reduceEqDiff, Nat.reduceAdd, Bool.false_eq_true, Nat.reduceBEq, ↓reduceIte]
  rw [show bs ⟨#[49, 47, 51]⟩ = [49, 47, 51] from rfl] at h1 ⊢
  rw [al_ok, if_pos rfl, al_rv] at h1
  rw [al_ok, if_pos rfl]
  obtain ⟨A1, l1, c1, b1, B1, m1, e1, rfl⟩ := h1.form
  try simp only [go_sem, Nat.reduceEqDiff, Nat.reduceAdd, Bool.false_eq_true, Nat.reduceBEq, ↓reduceIte]
  refine ev_pos (by trivial) ?_
  try simp only [go_sem, Nat.reduceEqDiff, Nat.reduceAdd, Bool.false_eq_true, Nat.reduceBEq, ↓reduceIte]
  first | refine ev_call (down_ok _ hT _ _ 2 h1 (by omega)) ?_ | refine ev_callP (down_ok _ hT _ _ 2 h1 (by omega)) ?_
  rintro v_2 H_2 le_2 h2 _
  replace h1 := h1.le le_2
  replace hT := hT.le le_2
  try simp only [go_sem, Nat.reduceEqDiff, Nat.reduceAdd, Bool.false_eq_true, Nat.reduceBEq, ↓reduceIte]
  rw [show cb 2 = 2 by decide, al_dn] at h2
  obtain ⟨A2, l2, c2, b2, rfl⟩ := h2.form
  try simp only [go_sem, Nat.reduceEqDiff, Nat.reduceAdd, Bool.false_eq_true, Nat.reduceBEq, ↓reduceIte]
  first | refine ev_call (dtext_ok _ _ _ h2 (by omega)) ?_ | refine ev_callP (dtext_ok _ _ _ h2 (by omega)) ?_
  rintro v_3 H_3 le_3 rfl _
  replace h1 := h1.le le_3
  replace hT := hT.le le_3
  try simp only [go_sem, Nat.reduceEqDiff, Nat.reduceAdd, Bool.false_eq_true, Nat.reduceBEq, ↓reduceIte]
  rw [al_t1]
  refine ev_pos (by rfl) ?_
  try simp only [go_sem, Nat.reduceEqDiff, Nat.reduceAdd, Bool.false_eq_true, Nat.reduceBEq, ↓reduceIte]
  first | refine ev_call (up_ok _ hT _ _ 2 h1 (by omega)) ?_ | refine ev_callP (up_ok _ hT _ _ 2 h1 (by omega)) ?_
  rintro v_4 H_4 le_4 h2 _
  try simp only [go_sem, Nat.reduceEqDiff, Nat.reduceAdd, Bool.false_eq_true, Nat.reduceBEq, ↓reduceIte]
  rw [show cb 2 = 2 by decide, al_up] at h2
  obtain ⟨A2, l2, c2, b2, rfl⟩ := h2.form
  try simp only [go_sem, Nat.reduceEqDiff, Nat.reduceAdd, Bool.false_eq_true, Nat.reduceBEq, ↓reduceIte]
  first | refine ev_call (dtext_ok _ _ _ h2 (by omega)) ?_ | refine ev_callP (dtext_ok _ _ _ h2 (by omega)) ?_
  rintro v_5 H_5 le_5 rfl _
  try simp only [go_sem, Nat.reduceEqDiff, Nat.reduceAdd, Bool.false_eq_true, Nat.reduceBEq, ↓reduceIte]
  rw [al_t2]
  refine ev_pos (by rfl) ?_
  try simp only [go_sem, Nat.reduceEqDiff, Nat.reduceAdd, Bool.false_eq_true, Nat.reduceBEq, ↓reduceIte]
  exact ⟨by trivial, by trivial⟩

/-- a text is a dyadic number, not too long -/
def dok (a : ByteArray) : Bool := ratOk (bs a) && decide (a.size ≤ 100) && isDy (rv (bs a))
theorem dok_br {a : ByteArray} (h : dok a = true) : br (rv (bs a)) ≤ 401 ∧ ofB (rtx (rv (bs a))) = a ∧ ratOk (bs a) = true ∧ isDy (rv (bs a)) = true := by
  unfold dok at h
  rw [Bool.and_eq_true, Bool.and_eq_true, decide_eq_true_eq] at h
  have := rv_br h.1.1
  rw [bs_length] at this
  exact ⟨by omega, by rw [rtx_rv h.1.1, ofB_bs], h.1.1, h.2⟩
theorem numD_ok (H : PH) (hT : Tab H) (a : ByteArray) (hy : a.size ≤ 9223372036854775807) : FnP Tryd.prog 37 [.string a] H fun v H' => ∃ va ra, v = .tuple #[va, ra, .bool (dok a)] ∧ DyadV H' va (if dok a then rv (bs a) else 0) ∧ RRat H' ra (if dok a then rv (bs a) else 0) := by
  refine of_cincturelaw4_num (by simp) ?_
  try simp only [go_sem, Nat.reduceEqDiff, Nat.reduceAdd, Bool.false_eq_true, Nat.reduceBEq, ↓reduceIte, p_cincturelaw4_num]
  first | refine ev_call (rparseR_ok _ a hy) ?_ | refine ev_callP (rparseR_ok _ a hy) ?_
  rintro v_6 H_6 le_6 ⟨ra, rfl, h1⟩ _
  replace hT := hT.le le_6
  try simp only [go_sem, Nat.reduceEqDiff, Nat.reduceAdd, Bool.false_eq_true, Nat.reduceBEq, ↓reduceIte]
  obtain ⟨b1, A1, l1, c1, B1, m1, e1, rfl⟩ := h1.form
  have bad : dok a = false → ∀ H' : PH, ∃ va ra, (Value.tuple #[.agg #[.slice none 0 0, .bool false, .int .i64 0], .agg #[.bool false, .slice none 0 0, .slice none 0 0], .bool false]) = .tuple #[va, ra, .bool (dok a)] ∧ DyadV H' va (if dok a then rv (bs a) else 0) ∧ RRat H' ra (if dok a then rv (bs a) else 0) := by
    intro h H'
    rw [h]
    exact ⟨_, _, rfl, DyadV.zero _, RRat.zero _⟩
  cases hk : ratOk (bs a) with
  | false =>
    try simp only [go_sem, Nat.reduceEqDiff, Nat.reduceAdd, Bool.false_eq_true, Nat.reduceBEq, ↓reduceIte, hk]
    exact ⟨by trivial, bad (by unfold dok; rw [hk]; rfl) _⟩
  | true =>
    have hm := rv_max hk
    rw [hk, if_pos rfl] at h1
    try simp only [go_sem, Nat.reduceEqDiff, Nat.reduceAdd, Bool.false_eq_true, Nat.reduceBEq, ↓reduceIte, hk]
    refine ev_if (fun h => ?_) (fun h => ?_)
    · try simp only [go_sem, Nat.reduceEqDiff, Nat.reduceAdd, Bool.false_eq_true, Nat.reduceBEq, ↓reduceIte]
      exact ⟨by trivial, bad (by unfold dok; rw [hk, decide_eq_false (show ¬ a.size ≤ 100 by omega)]; rfl) _⟩
    · try simp only [go_sem, Nat.reduceEqDiff, Nat.reduceAdd, Bool.false_eq_true, Nat.reduceBEq, ↓reduceIte]
      first | refine ev_call (dyadicR_ok _ _ _ h1 (by omega)) ?_ | refine ev_callP (dyadicR_ok _ _ _ h1 (by omega)) ?_
      rintro v_7 H_7 le_7 rfl _
      replace h1 := h1.le le_7
      replace hT := hT.le le_7
      try simp only [go_sem, Nat.reduceEqDiff, Nat.reduceAdd, Bool.false_eq_true, Nat.reduceBEq, ↓reduceIte]
      cases hi : isDy (rv (bs a)) with
      | false =>
        try simp only [go_sem, Nat.reduceEqDiff, Nat.reduceAdd, Bool.false_eq_true, Nat.reduceBEq, ↓reduceIte, hi]
        exact ⟨by trivial, bad (by unfold dok; rw [hk, hi, Bool.and_false]) _⟩
      | true =>
        have hn : dok a = true := by unfold dok; rw [hk, hi, decide_eq_true (show a.size ≤ 100 by omega)]; rfl
        have hp : dyOk a = true := by unfold dyOk; rw [hk, hi]; rfl
        try simp only [go_sem, Nat.reduceEqDiff, Nat.reduceAdd, Bool.false_eq_true, Nat.reduceBEq, ↓reduceIte, hi]
        first | refine ev_call (dparse_ok _ hT a hy) ?_ | refine ev_callP (dparse_ok _ hT a hy) ?_
        rintro v_8 H_8 le_8 ⟨va, rfl, h2⟩ _
        replace h1 := h1.le le_8
        try simp only [go_sem, Nat.reduceEqDiff, Nat.reduceAdd, Bool.false_eq_true, Nat.reduceBEq, ↓reduceIte]
        rw [hp, if_pos rfl] at h2
        obtain ⟨A2, l2, c2, b2, rfl⟩ := h2.form
        try simp only [go_sem, Nat.reduceEqDiff, Nat.reduceAdd, Bool.false_eq_true, Nat.reduceBEq, ↓reduceIte]
        rw [hn]
        repeat' (with_reducible refine And.intro ?_ ?_)
        all_goals first | trivial | exact ⟨_, _, rfl, h2, h1⟩

theorem DyadTells_ok (H : PH) (hT : Tab H) (s : ByteArray) (hs : s.size ≤ 9223372036854775807) : FnP Tryd.prog 6 [.string s] H fun v _ => v = .bool true := by
  refine of_cincturelaw4_DyadTells (by simp) ?_
  try simp only [go_sem, Nat.reduceEqDiff, Nat.reduceAdd, Bool.false_eq_true, Nat.reduceBEq, ↓reduceIte, p_cincturelaw4_DyadTells]
  first | refine ev_call (aliveD_ok _ hT) ?_ | refine ev_callP (aliveD_ok _ hT) ?_
  rintro v_9 H_9 le_9 rfl _
  replace hT := hT.le le_9
  try simp only [go_sem, Nat.reduceEqDiff, Nat.reduceAdd, Bool.false_eq_true, Nat.reduceBEq, ↓reduceIte]
  refine ev_if (fun h => ?_) (fun h => ?_)
  · try simp only [go_sem, Nat.reduceEqDiff, Nat.reduceAdd, Bool.false_eq_true, Nat.reduceBEq, ↓reduceIte]
    exact ⟨by trivial, by trivial⟩
  · try simp only [go_sem, Nat.reduceEqDiff, Nat.reduceAdd, Bool.false_eq_true, Nat.reduceBEq, ↓reduceIte]
    first | refine ev_call (dparse_ok _ hT s hs) ?_ | refine ev_callP (dparse_ok _ hT s hs) ?_
    rintro v_10 H_10 le_10 ⟨va, rfl, h1⟩ _
    replace hT := hT.le le_10
    try simp only [go_sem, Nat.reduceEqDiff, Nat.reduceAdd, Bool.false_eq_true, Nat.reduceBEq, ↓reduceIte]
    obtain ⟨A1, l1, c1, b1, rfl⟩ := h1.form
    try simp only [go_sem, Nat.reduceEqDiff, Nat.reduceAdd, Bool.false_eq_true, Nat.reduceBEq, ↓reduceIte]
    first | refine ev_call (rparseR_ok _ s hs) ?_ | refine ev_callP (rparseR_ok _ s hs) ?_
    rintro v_11 H_11 le_11 ⟨ra, rfl, h2⟩ _
    replace h1 := h1.le le_11
    replace hT := hT.le le_11
    try simp only [go_sem, Nat.reduceEqDiff, Nat.reduceAdd, Bool.false_eq_true, Nat.reduceBEq, ↓reduceIte]
    obtain ⟨b2, A2, l2, c2, B2, m2, e2, rfl⟩ := h2.form
    cases hk : ratOk (bs s) with
    | false =>
      have hd : dyOk s = false := by unfold dyOk; rw [hk]; rfl
      rw [hd] at h1
      try simp only [go_sem, Nat.reduceEqDiff, Nat.reduceAdd, Bool.false_eq_true, Nat.reduceBEq, ↓reduceIte, hk, hd]
      refine ev_pos (by trivial) ?_
      try simp only [go_sem, Nat.reduceEqDiff, Nat.reduceAdd, Bool.false_eq_true, Nat.reduceBEq, ↓reduceIte]
      first | refine ev_call (dtext_ok _ _ 0 h1 (by decide)) ?_ | refine ev_callP (dtext_ok _ _ 0 h1 (by decide)) ?_
      rintro v_12 H_12 le_12 rfl _
      try simp only [go_sem, Nat.reduceEqDiff, Nat.reduceAdd, Bool.false_eq_true, Nat.reduceBEq, ↓reduceIte]
      refine ev_pos rtx_zero ?_
      try simp only [go_sem, Nat.reduceEqDiff, Nat.reduceAdd, Bool.false_eq_true, Nat.reduceBEq, ↓reduceIte]
      exact ⟨by trivial, by trivial⟩
    | true =>
      have hm := rv_max hk
      rw [hk, if_pos rfl] at h2
      try simp only [go_sem, Nat.reduceEqDiff, Nat.reduceAdd, Bool.false_eq_true, Nat.reduceBEq, ↓reduceIte, hk]
      first | refine ev_call (dyadicR_ok _ _ _ h2 (by omega)) ?_ | refine ev_callP (dyadicR_ok _ _ _ h2 (by omega)) ?_
      rintro v_13 H_13 le_13 rfl _
      replace h1 := h1.le le_13
      replace h2 := h2.le le_13
      replace hT := hT.le le_13
      try simp only [go_sem, Nat.reduceEqDiff, Nat.reduceAdd, Bool.false_eq_true, Nat.reduceBEq, ↓reduceIte]
      cases hi : isDy (rv (bs s)) with
      | false =>
        have hd : dyOk s = false := by unfold dyOk; rw [hk, hi]; rfl
        rw [hd] at h1
        try simp only [go_sem, Nat.reduceEqDiff, Nat.reduceAdd, Bool.false_eq_true, Nat.reduceBEq, ↓reduceIte, hi, hd]
        refine ev_pos (by trivial) ?_
        try simp only [go_sem, Nat.reduceEqDiff, Nat.reduceAdd, Bool.false_eq_true, Nat.reduceBEq, ↓reduceIte]
        first | refine ev_call (dtext_ok _ _ 0 h1 (by decide)) ?_ | refine ev_callP (dtext_ok _ _ 0 h1 (by decide)) ?_
        rintro v_12 H_12 le_12 rfl _
        try simp only [go_sem, Nat.reduceEqDiff, Nat.reduceAdd, Bool.false_eq_true, Nat.reduceBEq, ↓reduceIte]
        refine ev_pos rtx_zero ?_
        try simp only [go_sem, Nat.reduceEqDiff, Nat.reduceAdd, Bool.false_eq_true, Nat.reduceBEq, ↓reduceIte]
        exact ⟨by trivial, by trivial⟩
      | true =>
        have hd : dyOk s = true := by unfold dyOk; rw [hk, hi]; rfl
        have htx := rtx_rv hk
        rw [hd, if_pos rfl] at h1
        generalize rv (bs s) = q at *
        have k1 := bi_mo q
        try simp only [go_sem, Nat.reduceEqDiff, Nat.reduceAdd, Bool.false_eq_true, Nat.reduceBEq, ↓reduceIte, hi, hd]
        first | refine ev_call (dparts_ok _ _ q h1) ?_ | refine ev_callP (dparts_ok _ _ q h1) ?_
        rintro v_14 H_14 le_14 ⟨vp, rfl, h3⟩ _
        replace h1 := h1.le le_14
        replace h2 := h2.le le_14
        try simp only [go_sem, Nat.reduceEqDiff, Nat.reduceAdd, Bool.false_eq_true, Nat.reduceBEq, ↓reduceIte]
        obtain ⟨A3, l3, c3, b3, rfl⟩ := h3.form
        try simp only [go_sem, Nat.reduceEqDiff, Nat.reduceAdd, Bool.false_eq_true, Nat.reduceBEq, ↓reduceIte]
        first | refine ev_call (partsR_ok _ _ q h2 (by omega)) ?_ | refine ev_callP (partsR_ok _ _ q h2 (by omega)) ?_
        rintro v_15 H_15 le_15 ⟨vr, rfl, h4⟩ _
        replace h1 := h1.le le_15
        replace h3 := h3.le le_15
        try simp only [go_sem, Nat.reduceEqDiff, Nat.reduceAdd, Bool.false_eq_true, Nat.reduceBEq, ↓reduceIte]
        obtain ⟨A4, l4, c4, b4, rfl⟩ := h4.form
        try simp only [go_sem, Nat.reduceEqDiff, Nat.reduceAdd, Bool.false_eq_true, Nat.reduceBEq, ↓reduceIte]
        refine ev_pos (by trivial) ?_
        try simp only [go_sem, Nat.reduceEqDiff, Nat.reduceAdd, Bool.false_eq_true, Nat.reduceBEq, ↓reduceIte]
        first | refine ev_call (dtext_ok _ _ q h1 (by omega)) ?_ | refine ev_callP (dtext_ok _ _ q h1 (by omega)) ?_
        rintro v_16 H_16 le_16 rfl _
        replace h1 := h1.le le_16
        replace h3 := h3.le le_16
        replace h4 := h4.le le_16
        try simp only [go_sem, Nat.reduceEqDiff, Nat.reduceAdd, Bool.false_eq_true, Nat.reduceBEq, ↓reduceIte]
        refine ev_pos (by rw [htx, ofB_bs]) ?_
        try simp only [go_sem, Nat.reduceEqDiff, Nat.reduceAdd, Bool.false_eq_true, Nat.reduceBEq, ↓reduceIte]
        first | refine ev_call (wtext_ok _ _ _ h3 (by omega)) ?_ | refine ev_callP (wtext_ok _ _ _ h3 (by omega)) ?_
        rintro v_17 H_17 le_17 rfl _
        replace h1 := h1.le le_17
        replace h4 := h4.le le_17
        try simp only [go_sem, Nat.reduceEqDiff, Nat.reduceAdd, Bool.false_eq_true, Nat.reduceBEq, ↓reduceIte]
        first | refine ev_call (rtextI_ok _ _ _ h4 (by omega)) ?_ | refine ev_callP (rtextI_ok _ _ _ h4 (by omega)) ?_
        rintro v_18 H_18 le_18 rfl _
        replace h1 := h1.le le_18
        try simp only [go_sem, Nat.reduceEqDiff, Nat.reduceAdd, Bool.false_eq_true, Nat.reduceBEq, ↓reduceIte]
        refine ev_pos (by trivial) ?_
        try simp only [go_sem, Nat.reduceEqDiff, Nat.reduceAdd, Bool.false_eq_true, Nat.reduceBEq, ↓reduceIte]
        refine ev_pos (by trivial) ?_
        try simp only [go_sem, Nat.reduceEqDiff, Nat.reduceAdd, Bool.false_eq_true, Nat.reduceBEq, ↓reduceIte]
        first | refine ev_call (ratD_ok _ _ q h1 (by omega)) ?_ | refine ev_callP (ratD_ok _ _ q h1 (by omega)) ?_
        rintro v_19 H_19 le_19 h5 _
        try simp only [go_sem, Nat.reduceEqDiff, Nat.reduceAdd, Bool.false_eq_true, Nat.reduceBEq, ↓reduceIte]
        first | refine ev_call (rtext_ok' _ _ q h5 (by omega)) ?_ | refine ev_callP (rtext_ok' _ _ q h5 (by omega)) ?_
        rintro v_20 H_20 le_20 rfl _
        try simp only [go_sem, Nat.reduceEqDiff, Nat.reduceAdd, Bool.false_eq_true, Nat.reduceBEq, ↓reduceIte]
        refine ev_pos (by rw [htx, ofB_bs]) ?_
        try simp only [go_sem, Nat.reduceEqDiff, Nat.reduceAdd, Bool.false_eq_true, Nat.reduceBEq, ↓reduceIte]
        exact ⟨by trivial, by trivial⟩

theorem DyadParts_ok (H : PH) (hT : Tab H) (a : ByteArray) (ha : a.size ≤ 9223372036854775807) : FnP Tryd.prog 7 [.string a] H fun v _ => v = .bool true := by
  refine of_cincturelaw4_DyadParts (by simp) ?_
  try simp only [go_sem, Nat.reduceEqDiff, Nat.reduceAdd, Bool.false_eq_true, Nat.reduceBEq, ↓reduceIte, p_cincturelaw4_DyadParts]
  first | refine ev_call (numD_ok _ hT a ha) ?_ | refine ev_callP (numD_ok _ hT a ha) ?_
  rintro v_21 H_21 le_21 ⟨va, ra, rfl, h1, h2⟩ _
  replace hT := hT.le le_21
  try simp only [go_sem, Nat.reduceEqDiff, Nat.reduceAdd, Bool.false_eq_true, Nat.reduceBEq, ↓reduceIte]
  obtain ⟨A1, l1, c1, b1, rfl⟩ := h1.form
  obtain ⟨b2, A2, l2, c2, B2, m2, e2, rfl⟩ := h2.form
  cases hk : dok a with
  | false =>
    try simp only [go_sem, Nat.reduceEqDiff, Nat.reduceAdd, Bool.false_eq_true, Nat.reduceBEq, ↓reduceIte, hk]
    first | refine ev_call (aliveD_ok _ hT) ?_ | refine ev_callP (aliveD_ok _ hT) ?_
    rintro v_22 H_22 le_22 rfl _
    try simp only [go_sem, Nat.reduceEqDiff, Nat.reduceAdd, Bool.false_eq_true, Nat.reduceBEq, ↓reduceIte]
    exact ⟨by trivial, by trivial⟩
  | true =>
    rw [hk, if_pos rfl] at h1 h2
    obtain ⟨hbx, _, _, hdy⟩ := dok_br hk
    generalize rv (bs a) = x at *
    have k1 := bi_mo x
    have k3 := ex_bd x
    try simp only [go_sem, Nat.reduceEqDiff, Nat.reduceAdd, Bool.false_eq_true, Nat.reduceBEq, ↓reduceIte, hk]
    first | refine ev_call (aliveD_ok _ hT) ?_ | refine ev_callP (aliveD_ok _ hT) ?_
    rintro v_23 H_23 le_23 rfl _
    replace h1 := h1.le le_23
    replace hT := hT.le le_23
    try simp only [go_sem, Nat.reduceEqDiff, Nat.reduceAdd, Bool.false_eq_true, Nat.reduceBEq, ↓reduceIte]
    first | refine ev_call (dparts_ok _ _ x h1) ?_ | refine ev_callP (dparts_ok _ _ x h1) ?_
    rintro v_24 H_24 le_24 ⟨vp, rfl, h3⟩ _
    replace h1 := h1.le le_24
    replace hT := hT.le le_24
    try simp only [go_sem, Nat.reduceEqDiff, Nat.reduceAdd, Bool.false_eq_true, Nat.reduceBEq, ↓reduceIte]
    obtain ⟨A3, l3, c3, b3, rfl⟩ := h3.form
    try simp only [go_sem, Nat.reduceEqDiff, Nat.reduceAdd, Bool.false_eq_true, Nat.reduceBEq, ↓reduceIte]
    first | refine ev_call (wsign_ok _ _ _ h3 (by omega)) ?_ | refine ev_callP (wsign_ok _ _ _ h3 (by omega)) ?_
    rintro v_25 H_25 le_25 rfl _
    replace h1 := h1.le le_25
    replace h3 := h3.le le_25
    replace hT := hT.le le_25
    try simp only [go_sem, Nat.reduceEqDiff, Nat.reduceAdd, Bool.false_eq_true, Nat.reduceBEq, ↓reduceIte]
    refine ev_if (fun h => ?_) (fun h => ?_)
    · have hz : x = 0 := (mo_zero_iff hdy).1 (by unfold sgnI at h; split at h <;> (try split at h) <;> omega)
      subst hz
      try simp only [go_sem, Nat.reduceEqDiff, Nat.reduceAdd, Bool.false_eq_true, Nat.reduceBEq, ↓reduceIte]
      refine ev_pos ex_zero ?_
      try simp only [go_sem, Nat.reduceEqDiff, Nat.reduceAdd, Bool.false_eq_true, Nat.reduceBEq, ↓reduceIte]
      first | refine ev_call (ratD_ok _ _ 0 h1 (by decide)) ?_ | refine ev_callP (ratD_ok _ _ 0 h1 (by decide)) ?_
      rintro v_26 H_26 le_26 h5 _
      try simp only [go_sem, Nat.reduceEqDiff, Nat.reduceAdd, Bool.false_eq_true, Nat.reduceBEq, ↓reduceIte]
      first | refine ev_call (rsgn_ok _ _ 0 h5 (by decide)) ?_ | refine ev_callP (rsgn_ok _ _ 0 h5 (by decide)) ?_
      rintro v_27 H_27 le_27 rfl _
      try simp only [go_sem, Nat.reduceEqDiff, Nat.reduceAdd, Bool.false_eq_true, Nat.reduceBEq, ↓reduceIte]
      refine ev_pos (by decide) ?_
      try simp only [go_sem, Nat.reduceEqDiff, Nat.reduceAdd, Bool.false_eq_true, Nat.reduceBEq, ↓reduceIte]
      exact ⟨by trivial, by trivial⟩
    · have hz : mo x ≠ 0 := fun e0 => h (by rw [e0]; rfl)
      have hx0 : x.num ≠ 0 := fun e0 => hz (by rw [(num_eq_zero x).1 e0]; exact mo_zero)
      obtain ⟨m, hm1, hm2, hm3⟩ := z_split hx0
      have hmo : mo x = m := hm3
      have htz : tz (mo x).natAbs = 0 := tz_odd (by omega)
      try simp only [go_sem, Nat.reduceEqDiff, Nat.reduceAdd, Bool.false_eq_true, Nat.reduceBEq, ↓reduceIte]
      first | refine ev_call (wabs_ok _ _ _ h3) ?_ | refine ev_callP (wabs_ok _ _ _ h3) ?_
      rintro v_28 H_28 le_28 g1 _
      replace h1 := h1.le le_28
      replace h3 := h3.le le_28
      replace hT := hT.le le_28
      try simp only [go_sem, Nat.reduceEqDiff, Nat.reduceAdd, Bool.false_eq_true, Nat.reduceBEq, ↓reduceIte]
      first | refine ev_call (zeros_ok _ hT _ _ g1 (show bl (mo x).natAbs ≤ _ by unfold bi at k1; omega)) ?_ | refine ev_callP (zeros_ok _ hT _ _ g1 (show bl (mo x).natAbs ≤ _ by unfold bi at k1; omega)) ?_
      rintro v_29 H_29 le_29 rfl _
      replace h1 := h1.le le_29
      replace h3 := h3.le le_29
      replace hT := hT.le le_29
      try simp only [go_sem, Nat.reduceEqDiff, Nat.reduceAdd, Bool.false_eq_true, Nat.reduceBEq, ↓reduceIte]
      refine ev_pos (by rw [htz]; rfl) ?_
      try simp only [go_sem, Nat.reduceEqDiff, Nat.reduceAdd, Bool.false_eq_true, Nat.reduceBEq, ↓reduceIte]
      first | refine ev_call (dnew_ok _ hT _ _ (ex x) h3 (by omega)) ?_ | refine ev_callP (dnew_ok _ hT _ _ (ex x) h3 (by omega)) ?_
      rintro v_30 H_30 le_30 g2 _
      replace h1 := h1.le le_30
      replace h3 := h3.le le_30
      replace hT := hT.le le_30
      try simp only [go_sem, Nat.reduceEqDiff, Nat.reduceAdd, Bool.false_eq_true, Nat.reduceBEq, ↓reduceIte]
      rw [show nx (ex x) = ex x by unfold nx; omega, dy_val hdy] at g2
      first | refine ev_call (dcmp_ok _ hT _ _ _ _ g2 h1 (by omega)) ?_ | refine ev_callP (dcmp_ok _ hT _ _ _ _ g2 h1 (by omega)) ?_
      rintro v_31 H_31 le_31 rfl _
      replace h1 := h1.le le_31
      replace h3 := h3.le le_31
      replace hT := hT.le le_31
      try simp only [go_sem, Nat.reduceEqDiff, Nat.reduceAdd, Bool.false_eq_true, Nat.reduceBEq, ↓reduceIte]
      rw [cmpR_self]
      refine ev_pos (by trivial) ?_
      try simp only [go_sem, Nat.reduceEqDiff, Nat.reduceAdd, Bool.false_eq_true, Nat.reduceBEq, ↓reduceIte]
      first | refine ev_call (wof_ok _ 8 (by decide) (by decide)) ?_ | refine ev_callP (wof_ok _ 8 (by decide) (by decide)) ?_
      rintro v_32 H_32 le_32 g3 _
      replace h1 := h1.le le_32
      replace h3 := h3.le le_32
      replace hT := hT.le le_32
      try simp only [go_sem, Nat.reduceEqDiff, Nat.reduceAdd, Bool.false_eq_true, Nat.reduceBEq, ↓reduceIte]
      have s1 := bi_mul (mo x) 8
      have s2 : bi 8 = 4 := rfl
      first | refine ev_call (wmul_ok _ _ _ _ _ h3 g3 (by omega)) ?_ | refine ev_callP (wmul_ok _ _ _ _ _ h3 g3 (by omega)) ?_
      rintro v_33 H_33 le_33 g4 _
      replace h1 := h1.le le_33
      replace hT := hT.le le_33
      try simp only [go_sem, Nat.reduceEqDiff, Nat.reduceAdd, Bool.false_eq_true, Nat.reduceBEq, ↓reduceIte]
      rw [w64 (ex x - 3) (by omega) (by omega)]
      first | refine ev_call (dnew_ok _ hT _ _ (ex x - 3) g4 (by omega)) ?_ | refine ev_callP (dnew_ok _ hT _ _ (ex x - 3) g4 (by omega)) ?_
      rintro v_34 H_34 le_34 g5 _
      replace h1 := h1.le le_34
      replace hT := hT.le le_34
      try simp only [go_sem, Nat.reduceEqDiff, Nat.reduceAdd, Bool.false_eq_true, Nat.reduceBEq, ↓reduceIte]
      have e8 : ((mo x * 8 : Int) : Rat) * tw (nx (ex x - 3)) = x := by
        rw [show nx (ex x - 3) = ex x - 3 by unfold nx; omega]
        have h8 := tw_add (ex x - 3) 3
        rw [show ex x - 3 + 3 = ex x by omega, show tw 3 = 8 by decide +kernel] at h8
        rw [Rat.intCast_mul, show ((8 : Int) : Rat) = 8 from rfl]
        conv => rhs; rw [← dy_val hdy, h8]
        grind
      rw [e8] at g5
      first | refine ev_call (dcmp_ok _ hT _ _ _ _ g5 h1 (by omega)) ?_ | refine ev_callP (dcmp_ok _ hT _ _ _ _ g5 h1 (by omega)) ?_
      rintro v_35 H_35 le_35 rfl _
      try simp only [go_sem, Nat.reduceEqDiff, Nat.reduceAdd, Bool.false_eq_true, Nat.reduceBEq, ↓reduceIte]
      rw [cmpR_self]
      refine ev_pos (by trivial) ?_
      try simp only [go_sem, Nat.reduceEqDiff, Nat.reduceAdd, Bool.false_eq_true, Nat.reduceBEq, ↓reduceIte]
      exact ⟨by trivial, by trivial⟩

theorem DyadMids_ok (H : PH) (hT : Tab H) (a : ByteArray) (ha : a.size ≤ 9223372036854775807) (b : ByteArray) (hb : b.size ≤ 9223372036854775807) : FnP Tryd.prog 8 [.string a, .string b] H fun v _ => v = .bool true := by
  refine of_cincturelaw4_DyadMids (by simp) ?_
  try simp only [go_sem, Nat.reduceEqDiff, Nat.reduceAdd, Bool.false_eq_true, Nat.reduceBEq, ↓reduceIte, p_cincturelaw4_DyadMids]
  first | refine ev_call (numD_ok _ hT a ha) ?_ | refine ev_callP (numD_ok _ hT a ha) ?_
  rintro v_36 H_36 le_36 ⟨va, ra, rfl, h1, h2⟩ _
  replace hT := hT.le le_36
  try simp only [go_sem, Nat.reduceEqDiff, Nat.reduceAdd, Bool.false_eq_true, Nat.reduceBEq, ↓reduceIte]
  obtain ⟨A1, l1, c1, b1, rfl⟩ := h1.form
  obtain ⟨b2, A2, l2, c2, B2, m2, e2, rfl⟩ := h2.form
  try simp only [go_sem, Nat.reduceEqDiff, Nat.reduceAdd, Bool.false_eq_true, Nat.reduceBEq, ↓reduceIte]
  first | refine ev_call (numD_ok _ hT b hb) ?_ | refine ev_callP (numD_ok _ hT b hb) ?_
  rintro v_37 H_37 le_37 ⟨vb, rb, rfl, h3, h4⟩ _
  replace h1 := h1.le le_37
  replace h2 := h2.le le_37
  replace hT := hT.le le_37
  try simp only [go_sem, Nat.reduceEqDiff, Nat.reduceAdd, Bool.false_eq_true, Nat.reduceBEq, ↓reduceIte]
  obtain ⟨A3, l3, c3, b3, rfl⟩ := h3.form
  obtain ⟨b4, A4, l4, c4, B4, m4, e4, rfl⟩ := h4.form
  cases hk : dok a with
  | false =>
    try simp only [go_sem, Nat.reduceEqDiff, Nat.reduceAdd, Bool.false_eq_true, Nat.reduceBEq, ↓reduceIte, hk]
    first | refine ev_call (aliveD_ok _ hT) ?_ | refine ev_callP (aliveD_ok _ hT) ?_
    rintro v_22 H_22 le_22 rfl _
    try simp only [go_sem, Nat.reduceEqDiff, Nat.reduceAdd, Bool.false_eq_true, Nat.reduceBEq, ↓reduceIte]
    exact ⟨by trivial, by trivial⟩
  | true =>
    cases hk2 : dok b with
    | false =>
      try simp only [go_sem, Nat.reduceEqDiff, Nat.reduceAdd, Bool.false_eq_true, Nat.reduceBEq, ↓reduceIte, hk, hk2]
      first | refine ev_call (aliveD_ok _ hT) ?_ | refine ev_callP (aliveD_ok _ hT) ?_
      rintro v_22 H_22 le_22 rfl _
      try simp only [go_sem, Nat.reduceEqDiff, Nat.reduceAdd, Bool.false_eq_true, Nat.reduceBEq, ↓reduceIte]
      exact ⟨by trivial, by trivial⟩
    | true =>
      rw [hk, if_pos rfl] at h1 h2
      rw [hk2, if_pos rfl] at h3 h4
      obtain ⟨hbx, _, _, hdx⟩ := dok_br hk
      obtain ⟨hby, _, _, hdy⟩ := dok_br hk2
      generalize rv (bs a) = x at *
      generalize rv (bs b) = y at *
      have s1 := br_add x y
      have s2 := br_div (x + y) 2
      have s3 : br 2 = 2 := by decide +kernel
      have s4 := br_sub ((x + y) / 2) x
      have s5 := br_sub y ((x + y) / 2)
      try simp only [go_sem, Nat.reduceEqDiff, Nat.reduceAdd, Bool.false_eq_true, Nat.reduceBEq, ↓reduceIte, hk, hk2]
      first | refine ev_call (aliveD_ok _ hT) ?_ | refine ev_callP (aliveD_ok _ hT) ?_
      rintro v_38 H_38 le_38 rfl _
      replace h1 := h1.le le_38
      replace h2 := h2.le le_38
      replace h3 := h3.le le_38
      replace h4 := h4.le le_38
      replace hT := hT.le le_38
      try simp only [go_sem, Nat.reduceEqDiff, Nat.reduceAdd, Bool.false_eq_true, Nat.reduceBEq, ↓reduceIte]
      first | refine ev_call (dmid_ok _ hT _ _ x y h1 h3 (by omega)) ?_ | refine ev_callP (dmid_ok _ hT _ _ x y h1 h3 (by omega)) ?_
      rintro v_39 H_39 le_39 g1 _
      replace h1 := h1.le le_39
      replace h3 := h3.le le_39
      replace hT := hT.le le_39
      try simp only [go_sem, Nat.reduceEqDiff, Nat.reduceAdd, Bool.false_eq_true, Nat.reduceBEq, ↓reduceIte]
      obtain ⟨A5, l5, c5, b5, rfl⟩ := g1.form
      try simp only [go_sem, Nat.reduceEqDiff, Nat.reduceAdd, Bool.false_eq_true, Nat.reduceBEq, ↓reduceIte]
      first | refine ev_call (dcmp_ok _ hT _ _ x y h1 h3 (by omega)) ?_ | refine ev_callP (dcmp_ok _ hT _ _ x y h1 h3 (by omega)) ?_
      rintro v_40 H_40 le_40 rfl _
      replace h1 := h1.le le_40
      replace h3 := h3.le le_40
      replace g1 := g1.le le_40
      replace hT := hT.le le_40
      try simp only [go_sem, Nat.reduceEqDiff, Nat.reduceAdd, Bool.false_eq_true, Nat.reduceBEq, ↓reduceIte]
      first | refine ev_call (dsub_ok _ hT _ _ _ x g1 h1 (by omega)) ?_ | refine ev_callP (dsub_ok _ hT _ _ _ x g1 h1 (by omega)) ?_
      rintro v_41 H_41 le_41 g2 _
      replace h1 := h1.le le_41
      replace h3 := h3.le le_41
      replace g1 := g1.le le_41
      replace hT := hT.le le_41
      try simp only [go_sem, Nat.reduceEqDiff, Nat.reduceAdd, Bool.false_eq_true, Nat.reduceBEq, ↓reduceIte]
      first | refine ev_call (dsub_ok _ hT _ _ y _ h3 g1 (by omega)) ?_ | refine ev_callP (dsub_ok _ hT _ _ y _ h3 g1 (by omega)) ?_
      rintro v_42 H_42 le_42 g3 _
      replace h1 := h1.le le_42
      replace h3 := h3.le le_42
      replace g1 := g1.le le_42
      replace g2 := g2.le le_42
      replace hT := hT.le le_42
      try simp only [go_sem, Nat.reduceEqDiff, Nat.reduceAdd, Bool.false_eq_true, Nat.reduceBEq, ↓reduceIte]
      first | refine ev_call (dcmp_ok _ hT _ _ _ _ g2 g3 (by omega)) ?_ | refine ev_callP (dcmp_ok _ hT _ _ _ _ g2 g3 (by omega)) ?_
      rintro v_43 H_43 le_43 rfl _
      replace h1 := h1.le le_43
      replace h3 := h3.le le_43
      replace g1 := g1.le le_43
      replace hT := hT.le le_43
      try simp only [go_sem, Nat.reduceEqDiff, Nat.reduceAdd, Bool.false_eq_true, Nat.reduceBEq, ↓reduceIte]
      refine ev_pos (cmpR_eq (by grind)) ?_
      try simp only [go_sem, Nat.reduceEqDiff, Nat.reduceAdd, Bool.false_eq_true, Nat.reduceBEq, ↓reduceIte]
      first | refine ev_call (dcmp_ok _ hT _ _ x _ h1 g1 (by omega)) ?_ | refine ev_callP (dcmp_ok _ hT _ _ x _ h1 g1 (by omega)) ?_
      rintro v_44 H_44 le_44 rfl _
      replace h3 := h3.le le_44
      replace g1 := g1.le le_44
      replace hT := hT.le le_44
      try simp only [go_sem, Nat.reduceEqDiff, Nat.reduceAdd, Bool.false_eq_true, Nat.reduceBEq, ↓reduceIte]
      refine ev_pos (cmpR_mid1 x y) ?_
      try simp only [go_sem, Nat.reduceEqDiff, Nat.reduceAdd, Bool.false_eq_true, Nat.reduceBEq, ↓reduceIte]
      first | refine ev_call (dcmp_ok _ hT _ _ _ y g1 h3 (by omega)) ?_ | refine ev_callP (dcmp_ok _ hT _ _ _ y g1 h3 (by omega)) ?_
      rintro v_45 H_45 le_45 rfl _
      try simp only [go_sem, Nat.reduceEqDiff, Nat.reduceAdd, Bool.false_eq_true, Nat.reduceBEq, ↓reduceIte]
      refine ev_pos (cmpR_mid2 x y) ?_
      try simp only [go_sem, Nat.reduceEqDiff, Nat.reduceAdd, Bool.false_eq_true, Nat.reduceBEq, ↓reduceIte]
      exact ⟨by trivial, by trivial⟩

end Go.Proofs.YtmlmemnlmmpliaaDoor.X
set_option linter.unusedVariables false
set_option linter.unusedSimpArgs false
namespace Go.Proofs.YtmlmemnlmmpliaaDoor.X
open Go Go.RowKit Go.Proofs

theorem cmpR_le {p q : Rat} (h : p ≤ q) : cmpR p q ≤ 0 := by
  rcases cmpR_cases p q with c | c | c
  · omega
  · omega
  · exact absurd c.1 (by rw [Rat.not_lt]; exact h)
theorem cmpR_ge {p q : Rat} (h : q ≤ p) : 0 ≤ cmpR p q := by
  rcases cmpR_cases p q with c | c | c
  · exact absurd c.1 (by rw [Rat.not_lt]; exact h)
  · omega
  · omega
theorem cb_wth (n : Int) : 1 ≤ cb (wth n 1 100) ∧ cb (wth n 1 100) ≤ 100 ∧ wth n 1 100 = ((cb (wth n 1 100) : Nat) : Int) ∧ cb (wth n 1 100 + 1) = cb (wth n 1 100) + 1 := by
  have := @wth_bd n 1 100 (by decide)
  unfold cb
  omega

theorem DyadNews_ok (H : PH) (hT : Tab H) (m : ByteArray) (hm : m.size ≤ 9223372036854775807) (e : Int) (we : (Lit.int .i64 e).wf = true) (r : ByteArray) (hr : r.size ≤ 9223372036854775807) : FnP Tryd.prog 3 [.string m, .int .i64 e, .string r] H fun v _ => v = .bool true := by
  have he := i64_of_wf we
  refine of_cincturelaw4_DyadNews (by simp) ?_
  try simp only [go_sem, Nat.reduceEqDiff, Nat.reduceAdd, Bool.false_eq_true, Nat.reduceBEq, ↓reduceIte, p_cincturelaw4_DyadNews]
  first | refine ev_call (aliveD_ok _ hT) ?_ | refine ev_callP (aliveD_ok _ hT) ?_
  rintro v_1 H_1 le_1 rfl _
  replace hT := hT.le le_1
  try simp only [go_sem, Nat.reduceEqDiff, Nat.reduceAdd, Bool.false_eq_true, Nat.reduceBEq, ↓reduceIte]
  first | refine ev_call (rparseI_ok _ m) ?_ | refine ev_callP (rparseI_ok _ m) ?_
  rintro v_2 H_2 le_2 ⟨ra, rfl, h1⟩ _
  replace hT := hT.le le_2
  try simp only [go_sem, Nat.reduceEqDiff, Nat.reduceAdd, Bool.false_eq_true, Nat.reduceBEq, ↓reduceIte]
  obtain ⟨A1, l1, c1, b1, rfl⟩ := h1.form
  try simp only [go_sem, Nat.reduceEqDiff, Nat.reduceAdd, Bool.false_eq_true, Nat.reduceBEq, ↓reduceIte]
  first | refine ev_call (wparse_ok _ m) ?_ | refine ev_callP (wparse_ok _ m) ?_
  rintro v_3 H_3 le_3 ⟨va, rfl, h2⟩ _
  replace h1 := h1.le le_3
  replace hT := hT.le le_3
  try simp only [go_sem, Nat.reduceEqDiff, Nat.reduceAdd, Bool.false_eq_true, Nat.reduceBEq, ↓reduceIte]
  obtain ⟨A2, l2, c2, b2, rfl⟩ := h2.form
  cases hk : intOk (bs m) with
  | false =>
    try simp only [go_sem, Nat.reduceEqDiff, Nat.reduceAdd, Bool.false_eq_true, Nat.reduceBEq, ↓reduceIte, hk]
    exact ⟨by trivial, by trivial⟩
  | true =>
    have hbx := bi_iv hk
    rw [bs_length] at hbx
    rw [hk, if_pos rfl] at h1 h2
    generalize iv (bs m) = x at *
    try simp only [go_sem, Nat.reduceEqDiff, Nat.reduceAdd, Bool.false_eq_true, Nat.reduceBEq, ↓reduceIte, hk]
    refine ev_neg (by simp) ?_
    try simp only [go_sem, Nat.reduceEqDiff, Nat.reduceAdd, Bool.false_eq_true, Nat.reduceBEq, ↓reduceIte]
    refine ev_if (fun h => ?_) (fun h => ?_)
    · try simp only [go_sem, Nat.reduceEqDiff, Nat.reduceAdd, Bool.false_eq_true, Nat.reduceBEq, ↓reduceIte]
      exact ⟨by trivial, by trivial⟩
    · try simp only [go_sem, Nat.reduceEqDiff, Nat.reduceAdd, Bool.false_eq_true, Nat.reduceBEq, ↓reduceIte]
      have nx_bd : ∀ E : Int, (nx E).natAbs ≤ 4096 := by intro E; unfold nx; omega
      refine ev_if (fun h => ?_) (fun h => ?_)
      · try simp only [go_sem, Nat.reduceEqDiff, Nat.reduceAdd, Bool.false_eq_true, Nat.reduceBEq, ↓reduceIte]
        refine ev_rem (by decide) ?_
        try simp only [go_sem, Nat.reduceEqDiff, Nat.reduceAdd, Bool.false_eq_true, Nat.reduceBEq, ↓reduceIte]
        generalize e.tmod 300 = E
        first | refine ev_call (dnew_ok _ hT _ x _ h2 (by omega)) ?_ | refine ev_callP (dnew_ok _ hT _ x _ h2 (by omega)) ?_
        rintro v_4 H_4 le_4 g1 _
        replace h1 := h1.le le_4
        replace hT := hT.le le_4
        try simp only [go_sem, Nat.reduceEqDiff, Nat.reduceAdd, Bool.false_eq_true, Nat.reduceBEq, ↓reduceIte]
        first | refine ev_call (dtext_ok _ _ _ g1 (by have := br_z x (nx E); have := nx_bd E; omega)) ?_ | refine ev_callP (dtext_ok _ _ _ g1 (by have := br_z x (nx E); have := nx_bd E; omega)) ?_
        rintro v_5 H_5 le_5 rfl _
        replace h1 := h1.le le_5
        replace hT := hT.le le_5
        try simp only [go_sem, Nat.reduceEqDiff, Nat.reduceAdd, Bool.false_eq_true, Nat.reduceBEq, ↓reduceIte]
        first | refine ev_call (dyadNewR_ok _ _ x _ h1 (by omega)) ?_ | refine ev_callP (dyadNewR_ok _ _ x _ h1 (by omega)) ?_
        rintro v_6 H_6 le_6 g2 _
        replace hT := hT.le le_6
        try simp only [go_sem, Nat.reduceEqDiff, Nat.reduceAdd, Bool.false_eq_true, Nat.reduceBEq, ↓reduceIte]
        first | refine ev_call (rtextR_ok _ _ _ g2 (by have := br_z x (nx E); have := nx_bd E; omega)) ?_ | refine ev_callP (rtextR_ok _ _ _ g2 (by have := br_z x (nx E); have := nx_bd E; omega)) ?_
        rintro v_7 H_7 le_7 rfl _
        replace hT := hT.le le_7
        try simp only [go_sem, Nat.reduceEqDiff, Nat.reduceAdd, Bool.false_eq_true, Nat.reduceBEq, ↓reduceIte]
        refine ev_neg (by simp) ?_
        try simp only [go_sem, Nat.reduceEqDiff, Nat.reduceAdd, Bool.false_eq_true, Nat.reduceBEq, ↓reduceIte]
        first | refine ev_call (numQ_ok _ r hr) ?_ | refine ev_callP (numQ_ok _ r hr) ?_
        rintro v_8 H_8 le_8 ⟨vb, rb, rfl, h3, h4⟩ _
        replace hT := hT.le le_8
        try simp only [go_sem, Nat.reduceEqDiff, Nat.reduceAdd, Bool.false_eq_true, Nat.reduceBEq, ↓reduceIte]
        obtain ⟨A3, l3, c3, b3, B3, m3, e3, rfl⟩ := h3.form
        obtain ⟨b4, A4, l4, c4, B4, m4, e4, rfl⟩ := h4.form
        cases hk2 : qok r with
        | false =>
          try simp only [go_sem, Nat.reduceEqDiff, Nat.reduceAdd, Bool.false_eq_true, Nat.reduceBEq, ↓reduceIte, hk2]
          exact ⟨by trivial, by trivial⟩
        | true =>
          obtain ⟨hby, htx, _⟩ := qok_br hk2
          rw [hk2, if_pos rfl] at h3 h4
          generalize rv (bs r) = y at *
          try simp only [go_sem, Nat.reduceEqDiff, Nat.reduceAdd, Bool.false_eq_true, Nat.reduceBEq, ↓reduceIte, hk2]
          first | refine ev_call (dof_ok _ hT _ y h3 (by omega)) ?_ | refine ev_callP (dof_ok _ hT _ y h3 (by omega)) ?_
          rintro v_9 H_9 le_9 ⟨v5, rfl, h5⟩ _
          replace h4 := h4.le le_9
          replace hT := hT.le le_9
          try simp only [go_sem, Nat.reduceEqDiff, Nat.reduceAdd, Bool.false_eq_true, Nat.reduceBEq, ↓reduceIte]
          obtain ⟨A5, l5, c5, b5, rfl⟩ := h5.form
          try simp only [go_sem, Nat.reduceEqDiff, Nat.reduceAdd, Bool.false_eq_true, Nat.reduceBEq, ↓reduceIte]
          first | refine ev_call (dyadicR_ok _ _ y h4 (by omega)) ?_ | refine ev_callP (dyadicR_ok _ _ y h4 (by omega)) ?_
          rintro v_10 H_10 le_10 rfl _
          replace h5 := h5.le le_10
          replace hT := hT.le le_10
          try simp only [go_sem, Nat.reduceEqDiff, Nat.reduceAdd, Bool.false_eq_true, Nat.reduceBEq, ↓reduceIte]
          cases hi : isDy y with
          | false =>
            rw [hi] at h5
            try simp only [go_sem, Nat.reduceEqDiff, Nat.reduceAdd, Bool.false_eq_true, Nat.reduceBEq, ↓reduceIte, hi]
            first | refine ev_call (dtext_ok _ _ 0 h5 (by decide)) ?_ | refine ev_callP (dtext_ok _ _ 0 h5 (by decide)) ?_
            rintro v_11 H_11 le_11 rfl _
            try simp only [go_sem, Nat.reduceEqDiff, Nat.reduceAdd, Bool.false_eq_true, Nat.reduceBEq, ↓reduceIte]
            refine ev_pos rtx_zero ?_
            try simp only [go_sem, Nat.reduceEqDiff, Nat.reduceAdd, Bool.false_eq_true, Nat.reduceBEq, ↓reduceIte]
            exact ⟨by trivial, by trivial⟩
          | true =>
            rw [hi] at h5
            try simp only [go_sem, Nat.reduceEqDiff, Nat.reduceAdd, Bool.false_eq_true, Nat.reduceBEq, ↓reduceIte, hi]
            first | refine ev_call (dtext_ok _ _ y h5 (by omega)) ?_ | refine ev_callP (dtext_ok _ _ y h5 (by omega)) ?_
            rintro v_12 H_12 le_12 rfl _
            try simp only [go_sem, Nat.reduceEqDiff, Nat.reduceAdd, Bool.false_eq_true, Nat.reduceBEq, ↓reduceIte]
            refine ev_pos htx ?_
            try simp only [go_sem, Nat.reduceEqDiff, Nat.reduceAdd, Bool.false_eq_true, Nat.reduceBEq, ↓reduceIte]
            exact ⟨by trivial, by trivial⟩
      · try simp only [go_sem, Nat.reduceEqDiff, Nat.reduceAdd, Bool.false_eq_true, Nat.reduceBEq, ↓reduceIte]
        refine ev_if (fun h => ?_) (fun h => ?_)
        · try simp only [go_sem, Nat.reduceEqDiff, Nat.reduceAdd, Bool.false_eq_true, Nat.reduceBEq, ↓reduceIte]
          refine ev_rem (by decide) ?_
          try simp only [go_sem, Nat.reduceEqDiff, Nat.reduceAdd, Bool.false_eq_true, Nat.reduceBEq, ↓reduceIte]
          generalize e.tmod 300 = E
          first | refine ev_call (dnew_ok _ hT _ x _ h2 (by omega)) ?_ | refine ev_callP (dnew_ok _ hT _ x _ h2 (by omega)) ?_
          rintro v_4 H_4 le_4 g1 _
          replace h1 := h1.le le_4
          replace hT := hT.le le_4
          try simp only [go_sem, Nat.reduceEqDiff, Nat.reduceAdd, Bool.false_eq_true, Nat.reduceBEq, ↓reduceIte]
          first | refine ev_call (dtext_ok _ _ _ g1 (by have := br_z x (nx E); have := nx_bd E; omega)) ?_ | refine ev_callP (dtext_ok _ _ _ g1 (by have := br_z x (nx E); have := nx_bd E; omega)) ?_
          rintro v_5 H_5 le_5 rfl _
          replace h1 := h1.le le_5
          replace hT := hT.le le_5
          try simp only [go_sem, Nat.reduceEqDiff, Nat.reduceAdd, Bool.false_eq_true, Nat.reduceBEq, ↓reduceIte]
          first | refine ev_call (dyadNewR_ok _ _ x _ h1 (by omega)) ?_ | refine ev_callP (dyadNewR_ok _ _ x _ h1 (by omega)) ?_
          rintro v_6 H_6 le_6 g2 _
          replace hT := hT.le le_6
          try simp only [go_sem, Nat.reduceEqDiff, Nat.reduceAdd, Bool.false_eq_true, Nat.reduceBEq, ↓reduceIte]
          first | refine ev_call (rtextR_ok _ _ _ g2 (by have := br_z x (nx E); have := nx_bd E; omega)) ?_ | refine ev_callP (rtextR_ok _ _ _ g2 (by have := br_z x (nx E); have := nx_bd E; omega)) ?_
          rintro v_7 H_7 le_7 rfl _
          replace hT := hT.le le_7
          try simp only [go_sem, Nat.reduceEqDiff, Nat.reduceAdd, Bool.false_eq_true, Nat.reduceBEq, ↓reduceIte]
          refine ev_neg (by simp) ?_
          try simp only [go_sem, Nat.reduceEqDiff, Nat.reduceAdd, Bool.false_eq_true, Nat.reduceBEq, ↓reduceIte]
          first | refine ev_call (numQ_ok _ r hr) ?_ | refine ev_callP (numQ_ok _ r hr) ?_
          rintro v_8 H_8 le_8 ⟨vb, rb, rfl, h3, h4⟩ _
          replace hT := hT.le le_8
          try simp only [go_sem, Nat.reduceEqDiff, Nat.reduceAdd, Bool.false_eq_true, Nat.reduceBEq, ↓reduceIte]
          obtain ⟨A3, l3, c3, b3, B3, m3, e3, rfl⟩ := h3.form
          obtain ⟨b4, A4, l4, c4, B4, m4, e4, rfl⟩ := h4.form
          cases hk2 : qok r with
          | false =>
            try simp only [go_sem, Nat.reduceEqDiff, Nat.reduceAdd, Bool.false_eq_true, Nat.reduceBEq, ↓reduceIte, hk2]
            exact ⟨by trivial, by trivial⟩
          | true =>
            obtain ⟨hby, htx, _⟩ := qok_br hk2
            rw [hk2, if_pos rfl] at h3 h4
            generalize rv (bs r) = y at *
            try simp only [go_sem, Nat.reduceEqDiff, Nat.reduceAdd, Bool.false_eq_true, Nat.reduceBEq, ↓reduceIte, hk2]
            first | refine ev_call (dof_ok _ hT _ y h3 (by omega)) ?_ | refine ev_callP (dof_ok _ hT _ y h3 (by omega)) ?_
            rintro v_9 H_9 le_9 ⟨v5, rfl, h5⟩ _
            replace h4 := h4.le le_9
            replace hT := hT.le le_9
            try simp only [go_sem, Nat.reduceEqDiff, Nat.reduceAdd, Bool.false_eq_true, Nat.reduceBEq, ↓reduceIte]
            obtain ⟨A5, l5, c5, b5, rfl⟩ := h5.form
            try simp only [go_sem, Nat.reduceEqDiff, Nat.reduceAdd, Bool.false_eq_true, Nat.reduceBEq, ↓reduceIte]
            first | refine ev_call (dyadicR_ok _ _ y h4 (by omega)) ?_ | refine ev_callP (dyadicR_ok _ _ y h4 (by omega)) ?_
            rintro v_10 H_10 le_10 rfl _
            replace h5 := h5.le le_10
            replace hT := hT.le le_10
            try simp only [go_sem, Nat.reduceEqDiff, Nat.reduceAdd, Bool.false_eq_true, Nat.reduceBEq, ↓reduceIte]
            cases hi : isDy y with
            | false =>
              rw [hi] at h5
              try simp only [go_sem, Nat.reduceEqDiff, Nat.reduceAdd, Bool.false_eq_true, Nat.reduceBEq, ↓reduceIte, hi]
              first | refine ev_call (dtext_ok _ _ 0 h5 (by decide)) ?_ | refine ev_callP (dtext_ok _ _ 0 h5 (by decide)) ?_
              rintro v_11 H_11 le_11 rfl _
              try simp only [go_sem, Nat.reduceEqDiff, Nat.reduceAdd, Bool.false_eq_true, Nat.reduceBEq, ↓reduceIte]
              refine ev_pos rtx_zero ?_
              try simp only [go_sem, Nat.reduceEqDiff, Nat.reduceAdd, Bool.false_eq_true, Nat.reduceBEq, ↓reduceIte]
              exact ⟨by trivial, by trivial⟩
            | true =>
              rw [hi] at h5
              try simp only [go_sem, Nat.reduceEqDiff, Nat.reduceAdd, Bool.false_eq_true, Nat.reduceBEq, ↓reduceIte, hi]
              first | refine ev_call (dtext_ok _ _ y h5 (by omega)) ?_ | refine ev_callP (dtext_ok _ _ y h5 (by omega)) ?_
              rintro v_12 H_12 le_12 rfl _
              try simp only [go_sem, Nat.reduceEqDiff, Nat.reduceAdd, Bool.false_eq_true, Nat.reduceBEq, ↓reduceIte]
              refine ev_pos htx ?_
              try simp only [go_sem, Nat.reduceEqDiff, Nat.reduceAdd, Bool.false_eq_true, Nat.reduceBEq, ↓reduceIte]
              exact ⟨by trivial, by trivial⟩
        · try simp only [go_sem, Nat.reduceEqDiff, Nat.reduceAdd, Bool.false_eq_true, Nat.reduceBEq, ↓reduceIte]
          generalize e = E
          first | refine ev_call (dnew_ok _ hT _ x _ h2 (by omega)) ?_ | refine ev_callP (dnew_ok _ hT _ x _ h2 (by omega)) ?_
          rintro v_4 H_4 le_4 g1 _
          replace h1 := h1.le le_4
          replace hT := hT.le le_4
          try simp only [go_sem, Nat.reduceEqDiff, Nat.reduceAdd, Bool.false_eq_true, Nat.reduceBEq, ↓reduceIte]
          first | refine ev_call (dtext_ok _ _ _ g1 (by have := br_z x (nx E); have := nx_bd E; omega)) ?_ | refine ev_callP (dtext_ok _ _ _ g1 (by have := br_z x (nx E); have := nx_bd E; omega)) ?_
          rintro v_5 H_5 le_5 rfl _
          replace h1 := h1.le le_5
          replace hT := hT.le le_5
          try simp only [go_sem, Nat.reduceEqDiff, Nat.reduceAdd, Bool.false_eq_true, Nat.reduceBEq, ↓reduceIte]
          first | refine ev_call (dyadNewR_ok _ _ x _ h1 (by omega)) ?_ | refine ev_callP (dyadNewR_ok _ _ x _ h1 (by omega)) ?_
          rintro v_6 H_6 le_6 g2 _
          replace hT := hT.le le_6
          try simp only [go_sem, Nat.reduceEqDiff, Nat.reduceAdd, Bool.false_eq_true, Nat.reduceBEq, ↓reduceIte]
          first | refine ev_call (rtextR_ok _ _ _ g2 (by have := br_z x (nx E); have := nx_bd E; omega)) ?_ | refine ev_callP (rtextR_ok _ _ _ g2 (by have := br_z x (nx E); have := nx_bd E; omega)) ?_
          rintro v_7 H_7 le_7 rfl _
          replace hT := hT.le le_7
          try simp only [go_sem, Nat.reduceEqDiff, Nat.reduceAdd, Bool.false_eq_true, Nat.reduceBEq, ↓reduceIte]
          refine ev_neg (by simp) ?_
          try simp only [go_sem, Nat.reduceEqDiff, Nat.reduceAdd, Bool.false_eq_true, Nat.reduceBEq, ↓reduceIte]
          first | refine ev_call (numQ_ok _ r hr) ?_ | refine ev_callP (numQ_ok _ r hr) ?_
          rintro v_8 H_8 le_8 ⟨vb, rb, rfl, h3, h4⟩ _
          replace hT := hT.le le_8
          try simp only [go_sem, Nat.reduceEqDiff, Nat.reduceAdd, Bool.false_eq_true, Nat.reduceBEq, ↓reduceIte]
          obtain ⟨A3, l3, c3, b3, B3, m3, e3, rfl⟩ := h3.form
          obtain ⟨b4, A4, l4, c4, B4, m4, e4, rfl⟩ := h4.form
          cases hk2 : qok r with
          | false =>
            try simp only [go_sem, Nat.reduceEqDiff, Nat.reduceAdd, Bool.false_eq_true, Nat.reduceBEq, ↓reduceIte, hk2]
            exact ⟨by trivial, by trivial⟩
          | true =>
            obtain ⟨hby, htx, _⟩ := qok_br hk2
            rw [hk2, if_pos rfl] at h3 h4
            generalize rv (bs r) = y at *
            try simp only [go_sem, Nat.reduceEqDiff, Nat.reduceAdd, Bool.false_eq_true, Nat.reduceBEq, ↓reduceIte, hk2]
            first | refine ev_call (dof_ok _ hT _ y h3 (by omega)) ?_ | refine ev_callP (dof_ok _ hT _ y h3 (by omega)) ?_
            rintro v_9 H_9 le_9 ⟨v5, rfl, h5⟩ _
            replace h4 := h4.le le_9
            replace hT := hT.le le_9
            try simp only [go_sem, Nat.reduceEqDiff, Nat.reduceAdd, Bool.false_eq_true, Nat.reduceBEq, ↓reduceIte]
            obtain ⟨A5, l5, c5, b5, rfl⟩ := h5.form
            try simp only [go_sem, Nat.reduceEqDiff, Nat.reduceAdd, Bool.false_eq_true, Nat.reduceBEq, ↓reduceIte]
            first | refine ev_call (dyadicR_ok _ _ y h4 (by omega)) ?_ | refine ev_callP (dyadicR_ok _ _ y h4 (by omega)) ?_
            rintro v_10 H_10 le_10 rfl _
            replace h5 := h5.le le_10
            replace hT := hT.le le_10
            try simp only [go_sem, Nat.reduceEqDiff, Nat.reduceAdd, Bool.false_eq_true, Nat.reduceBEq, ↓reduceIte]
            cases hi : isDy y with
            | false =>
              rw [hi] at h5
              try simp only [go_sem, Nat.reduceEqDiff, Nat.reduceAdd, Bool.false_eq_true, Nat.reduceBEq, ↓reduceIte, hi]
              first | refine ev_call (dtext_ok _ _ 0 h5 (by decide)) ?_ | refine ev_callP (dtext_ok _ _ 0 h5 (by decide)) ?_
              rintro v_11 H_11 le_11 rfl _
              try simp only [go_sem, Nat.reduceEqDiff, Nat.reduceAdd, Bool.false_eq_true, Nat.reduceBEq, ↓reduceIte]
              refine ev_pos rtx_zero ?_
              try simp only [go_sem, Nat.reduceEqDiff, Nat.reduceAdd, Bool.false_eq_true, Nat.reduceBEq, ↓reduceIte]
              exact ⟨by trivial, by trivial⟩
            | true =>
              rw [hi] at h5
              try simp only [go_sem, Nat.reduceEqDiff, Nat.reduceAdd, Bool.false_eq_true, Nat.reduceBEq, ↓reduceIte, hi]
              first | refine ev_call (dtext_ok _ _ y h5 (by omega)) ?_ | refine ev_callP (dtext_ok _ _ y h5 (by omega)) ?_
              rintro v_12 H_12 le_12 rfl _
              try simp only [go_sem, Nat.reduceEqDiff, Nat.reduceAdd, Bool.false_eq_true, Nat.reduceBEq, ↓reduceIte]
              refine ev_pos htx ?_
              try simp only [go_sem, Nat.reduceEqDiff, Nat.reduceAdd, Bool.false_eq_true, Nat.reduceBEq, ↓reduceIte]
              exact ⟨by trivial, by trivial⟩

set_option maxHeartbeats 4000000 in
theorem DyadNear_ok (H : PH) (hT : Tab H) (a : ByteArray) (ha : a.size ≤ 9223372036854775807) (bits : Int) (wb : (Lit.int .i64 bits).wf = true) : FnP Tryd.prog 5 [.string a, .int .i64 bits] H fun v _ => v = .bool true := by
  have hbi := i64_of_wf wb
  refine of_cincturelaw4_DyadNear (by simp) ?_
  try simp only [go_sem, Nat.reduceEqDiff, Nat.reduceAdd, Bool.false_eq_true, Nat.reduceBEq, ↓reduceIte, p_cincturelaw4_DyadNear]
  first | refine ev_call (numQ_ok _ a ha) ?_ | refine ev_callP (numQ_ok _ a ha) ?_
  rintro v_13 H_13 le_13 ⟨va, ra, rfl, h1, h2⟩ _
  replace hT := hT.le le_13
  try simp only [go_sem, Nat.reduceEqDiff, Nat.reduceAdd, Bool.false_eq_true, Nat.reduceBEq, ↓reduceIte]
  obtain ⟨A1, l1, c1, b1, B1, m1, e1, rfl⟩ := h1.form
  obtain ⟨b2, A2, l2, c2, B2, m2, e2, rfl⟩ := h2.form
  cases hk : qok a with
  | false =>
    try simp only [go_sem, Nat.reduceEqDiff, Nat.reduceAdd, Bool.false_eq_true, Nat.reduceBEq, ↓reduceIte, hk]
    first | refine ev_call (aliveD_ok _ hT) ?_ | refine ev_callP (aliveD_ok _ hT) ?_
    rintro v_14 H_14 le_14 rfl _
    try simp only [go_sem, Nat.reduceEqDiff, Nat.reduceAdd, Bool.false_eq_true, Nat.reduceBEq, ↓reduceIte]
    exact ⟨by trivial, by trivial⟩
  | true =>
    rw [hk, if_pos rfl] at h1 h2
    obtain ⟨hbx, _, _⟩ := qok_br hk
    generalize rv (bs a) = x at *
    try simp only [go_sem, Nat.reduceEqDiff, Nat.reduceAdd, Bool.false_eq_true, Nat.reduceBEq, ↓reduceIte, hk]
    first | refine ev_call (aliveD_ok _ hT) ?_ | refine ev_callP (aliveD_ok _ hT) ?_
    rintro v_15 H_15 le_15 rfl _
    replace h1 := h1.le le_15
    replace hT := hT.le le_15
    try simp only [go_sem, Nat.reduceEqDiff, Nat.reduceAdd, Bool.false_eq_true, Nat.reduceBEq, ↓reduceIte]
    first | refine ev_call (within_ok _ bits 1 100 (by omega) (by omega) (by decide) (by decide) (by decide)) ?_ | refine ev_callP (within_ok _ bits 1 100 (by omega) (by omega) (by decide) (by decide) (by decide)) ?_
    rintro v_16 H_16 le_16 rfl _
    replace h1 := h1.le le_16
    replace hT := hT.le le_16
    try simp only [go_sem, Nat.reduceEqDiff, Nat.reduceAdd, Bool.false_eq_true, Nat.reduceBEq, ↓reduceIte]
    obtain ⟨n1, n2, n3, n4⟩ := cb_wth bits
    generalize wth bits 1 100 = w at *
    have s1 := br_rnd x n1 false
    have s2 := br_rnd x n1 true
    refine ev_cut (fun s => ∃ H' A3 l3 c3 b3 A4 l4 c4 b4, Tab H' ∧ RatV H' (.agg #[.slice A1 l1 c1, .bool b1, .slice B1 m1 e1]) x ∧ DyadV H' (.agg #[.slice A3 l3 c3, .bool b3, .int .i64 (ex (rndR x (cb w) false))]) (rndR x (cb w) false) ∧ DyadV H' (.agg #[.slice A4 l4 c4, .bool b4, .int .i64 (ex (rndR x (cb w) true))]) (rndR x (cb w) true) ∧
      s = ⟨[(9, .ptr 9 0), (8, .ptr 8 0), (5, .ptr 5 0), (1, .v (.int .i64 w))], [(9, [.slice A4 l4 c4, .bool b4, .int .i64 (ex (rndR x (cb w) true))]), (8, [.slice A3 l3 c3, .bool b3, .int .i64 (ex (rndR x (cb w) false))]), (5, [.slice A1 l1 c1, .bool b1, .slice B1 m1 e1])], H', PH.no⟩) ?_ ?_
    · try simp only [go_sem, Nat.reduceEqDiff, Nat.reduceAdd, Bool.false_eq_true, Nat.reduceBEq, ↓reduceIte]
      repeat' (with_reducible refine And.intro ?_ ?_)
      all_goals
        first | refine ev_call (down_ok _ hT _ x w h1 (by omega)) ?_ | refine ev_callP (down_ok _ hT _ x w h1 (by omega)) ?_
        rintro v_17 H_17 le_17 g1 _
        replace h1 := h1.le le_17
        replace hT := hT.le le_17
        try simp only [go_sem, Nat.reduceEqDiff, Nat.reduceAdd, Bool.false_eq_true, Nat.reduceBEq, ↓reduceIte]
        repeat' (with_reducible refine And.intro ?_ ?_)
        all_goals
          first | refine ev_call (up_ok _ hT _ x w h1 (by omega)) ?_ | refine ev_callP (up_ok _ hT _ x w h1 (by omega)) ?_
          rintro v_18 H_18 le_18 g2 _
          replace h1 := h1.le le_18
          replace hT := hT.le le_18
          replace g1 := g1.le le_18
          try simp only [go_sem, Nat.reduceEqDiff, Nat.reduceAdd, Bool.false_eq_true, Nat.reduceBEq, ↓reduceIte]
          obtain ⟨A3, l3, c3, b3, rfl⟩ := g1.form
          obtain ⟨A4, l4, c4, b4, rfl⟩ := g2.form
          try simp only [go_sem, Nat.reduceEqDiff, Nat.reduceAdd, Bool.false_eq_true, Nat.reduceBEq, ↓reduceIte]
          repeat' (with_reducible refine And.intro ?_ ?_)
          all_goals exact k_cut _ ⟨_, _, _, _, _, _, _, _, _, hT, h1, g1, g2, rfl⟩ ⟨rfl, by simp only [go_sem, Nat.reduceEqDiff, Nat.reduceAdd, Bool.false_eq_true, Nat.reduceBEq, ↓reduceIte, and_self, Option.some.injEq, SV.v.injEq, SV.ptr.injEq, Value.int.injEq, Value.bool.injEq, Value.slice.injEq, true_and, and_true] <;> (repeat' apply And.intro) <;> first | rfl | omega | (simp (disch := omega) only [w64, wu64, wu32, wu8] <;> omega), by simp only [go_sem, Nat.reduceEqDiff, Nat.reduceAdd, Bool.false_eq_true, Nat.reduceBEq, ↓reduceIte, and_self, Option.some.injEq, SV.v.injEq, SV.ptr.injEq, Value.int.injEq, Value.bool.injEq, Value.slice.injEq, true_and, and_true] <;> (repeat' apply And.intro) <;> rfl, rfl, PH.le.refl _⟩
    · rintro s ⟨H2, A3, l3, c3, b3, A4, l4, c4, b4, hT, h1, g1, g2, rfl⟩
      have k1 := bi_mo (rndR x (cb w) false)
      have k2 := bi_mo (rndR x (cb w) true)
      have t1 := rnd_bits x n1 false
      have t2 := rnd_bits x n1 true
      have t3 := rnd_fix x n1 false false
      have t4 := rnd_fix x n1 false true
      have t5 := rnd_le x (cb w)
      try simp only [go_sem, Nat.reduceEqDiff, Nat.reduceAdd, Bool.false_eq_true, Nat.reduceBEq, ↓reduceIte]
      first | refine ev_call (dparts_ok _ _ _ g1) ?_ | refine ev_callP (dparts_ok _ _ _ g1) ?_
      rintro v_19 H_19 le_19 ⟨v3, rfl, g3⟩ _
      replace h1 := h1.le le_19
      replace g1 := g1.le le_19
      replace g2 := g2.le le_19
      replace hT := hT.le le_19
      try simp only [go_sem, Nat.reduceEqDiff, Nat.reduceAdd, Bool.false_eq_true, Nat.reduceBEq, ↓reduceIte]
      obtain ⟨A5, l5, c5, b5, rfl⟩ := g3.form
      try simp only [go_sem, Nat.reduceEqDiff, Nat.reduceAdd, Bool.false_eq_true, Nat.reduceBEq, ↓reduceIte]
      first | refine ev_call (dparts_ok _ _ _ g2) ?_ | refine ev_callP (dparts_ok _ _ _ g2) ?_
      rintro v_20 H_20 le_20 ⟨v4, rfl, g4⟩ _
      replace h1 := h1.le le_20
      replace g1 := g1.le le_20
      replace g2 := g2.le le_20
      replace g3 := g3.le le_20
      replace hT := hT.le le_20
      try simp only [go_sem, Nat.reduceEqDiff, Nat.reduceAdd, Bool.false_eq_true, Nat.reduceBEq, ↓reduceIte]
      obtain ⟨A6, l6, c6, b6, rfl⟩ := g4.form
      try simp only [go_sem, Nat.reduceEqDiff, Nat.reduceAdd, Bool.false_eq_true, Nat.reduceBEq, ↓reduceIte]
      first | refine ev_call (ratD_ok _ _ _ g1 (by omega)) ?_ | refine ev_callP (ratD_ok _ _ _ g1 (by omega)) ?_
      rintro v_21 H_21 le_21 g5 _
      replace h1 := h1.le le_21
      replace g1 := g1.le le_21
      replace g2 := g2.le le_21
      replace g3 := g3.le le_21
      replace g4 := g4.le le_21
      replace hT := hT.le le_21
      try simp only [go_sem, Nat.reduceEqDiff, Nat.reduceAdd, Bool.false_eq_true, Nat.reduceBEq, ↓reduceIte]
      first | refine ev_call (rcmpR_ok _ _ _ _ x g5 h1 (by omega)) ?_ | refine ev_callP (rcmpR_ok _ _ _ _ x g5 h1 (by omega)) ?_
      rintro v_22 H_22 le_22 rfl _
      replace h1 := h1.le le_22
      replace g1 := g1.le le_22
      replace g2 := g2.le le_22
      replace g3 := g3.le le_22
      replace g4 := g4.le le_22
      replace hT := hT.le le_22
      try simp only [go_sem, Nat.reduceEqDiff, Nat.reduceAdd, Bool.false_eq_true, Nat.reduceBEq, ↓reduceIte]
      refine ev_pos (cmpR_le t5.1) ?_
      try simp only [go_sem, Nat.reduceEqDiff, Nat.reduceAdd, Bool.false_eq_true, Nat.reduceBEq, ↓reduceIte]
      first | refine ev_call (ratD_ok _ _ _ g2 (by omega)) ?_ | refine ev_callP (ratD_ok _ _ _ g2 (by omega)) ?_
      rintro v_23 H_23 le_23 g5 _
      replace h1 := h1.le le_23
      replace g1 := g1.le le_23
      replace g3 := g3.le le_23
      replace g4 := g4.le le_23
      replace hT := hT.le le_23
      try simp only [go_sem, Nat.reduceEqDiff, Nat.reduceAdd, Bool.false_eq_true, Nat.reduceBEq, ↓reduceIte]
      first | refine ev_call (rcmpR_ok _ _ _ x _ h1 g5 (by omega)) ?_ | refine ev_callP (rcmpR_ok _ _ _ x _ h1 g5 (by omega)) ?_
      rintro v_24 H_24 le_24 rfl _
      replace g1 := g1.le le_24
      replace g3 := g3.le le_24
      replace g4 := g4.le le_24
      replace hT := hT.le le_24
      try simp only [go_sem, Nat.reduceEqDiff, Nat.reduceAdd, Bool.false_eq_true, Nat.reduceBEq, ↓reduceIte]
      refine ev_pos (cmpR_le t5.2) ?_
      try simp only [go_sem, Nat.reduceEqDiff, Nat.reduceAdd, Bool.false_eq_true, Nat.reduceBEq, ↓reduceIte]
      first | refine ev_call (wabs_ok _ _ _ g3) ?_ | refine ev_callP (wabs_ok _ _ _ g3) ?_
      rintro v_25 H_25 le_25 g5 _
      replace g1 := g1.le le_25
      replace g4 := g4.le le_25
      replace hT := hT.le le_25
      try simp only [go_sem, Nat.reduceEqDiff, Nat.reduceAdd, Bool.false_eq_true, Nat.reduceBEq, ↓reduceIte]
      first | refine ev_call (nbits_ok _ _ _ g5 (show bl (mo (rndR x (cb w) false)).natAbs ≤ _ by unfold bi at k1; omega)) ?_ | refine ev_callP (nbits_ok _ _ _ g5 (show bl (mo (rndR x (cb w) false)).natAbs ≤ _ by unfold bi at k1; omega)) ?_
      rintro v_26 H_26 le_26 rfl _
      replace g1 := g1.le le_26
      replace g4 := g4.le le_26
      replace hT := hT.le le_26
      try simp only [go_sem, Nat.reduceEqDiff, Nat.reduceAdd, Bool.false_eq_true, Nat.reduceBEq, ↓reduceIte]
      refine ev_pos (by unfold bi at t1; omega) ?_
      try simp only [go_sem, Nat.reduceEqDiff, Nat.reduceAdd, Bool.false_eq_true, Nat.reduceBEq, ↓reduceIte]
      first | refine ev_call (wabs_ok _ _ _ g4) ?_ | refine ev_callP (wabs_ok _ _ _ g4) ?_
      rintro v_27 H_27 le_27 g5 _
      replace g1 := g1.le le_27
      replace hT := hT.le le_27
      try simp only [go_sem, Nat.reduceEqDiff, Nat.reduceAdd, Bool.false_eq_true, Nat.reduceBEq, ↓reduceIte]
      first | refine ev_call (nbits_ok _ _ _ g5 (show bl (mo (rndR x (cb w) true)).natAbs ≤ _ by unfold bi at k2; omega)) ?_ | refine ev_callP (nbits_ok _ _ _ g5 (show bl (mo (rndR x (cb w) true)).natAbs ≤ _ by unfold bi at k2; omega)) ?_
      rintro v_28 H_28 le_28 rfl _
      replace g1 := g1.le le_28
      replace hT := hT.le le_28
      try simp only [go_sem, Nat.reduceEqDiff, Nat.reduceAdd, Bool.false_eq_true, Nat.reduceBEq, ↓reduceIte]
      refine ev_pos (by unfold bi at t2; omega) ?_
      try simp only [go_sem, Nat.reduceEqDiff, Nat.reduceAdd, Bool.false_eq_true, Nat.reduceBEq, ↓reduceIte]
      first | refine ev_call (ratD_ok _ _ _ g1 (by omega)) ?_ | refine ev_callP (ratD_ok _ _ _ g1 (by omega)) ?_
      rintro v_29 H_29 le_29 g5 _
      replace g1 := g1.le le_29
      replace hT := hT.le le_29
      try simp only [go_sem, Nat.reduceEqDiff, Nat.reduceAdd, Bool.false_eq_true, Nat.reduceBEq, ↓reduceIte]
      first | refine ev_call (down_ok _ hT _ _ w g5 (by omega)) ?_ | refine ev_callP (down_ok _ hT _ _ w g5 (by omega)) ?_
      rintro v_30 H_30 le_30 g6 _
      replace g1 := g1.le le_30
      replace hT := hT.le le_30
      try simp only [go_sem, Nat.reduceEqDiff, Nat.reduceAdd, Bool.false_eq_true, Nat.reduceBEq, ↓reduceIte]
      rw [t3] at g6
      first | refine ev_call (dcmp_ok _ hT _ _ _ _ g6 g1 (by omega)) ?_ | refine ev_callP (dcmp_ok _ hT _ _ _ _ g6 g1 (by omega)) ?_
      rintro v_31 H_31 le_31 rfl _
      replace g1 := g1.le le_31
      replace hT := hT.le le_31
      try simp only [go_sem, Nat.reduceEqDiff, Nat.reduceAdd, Bool.false_eq_true, Nat.reduceBEq, ↓reduceIte]
      refine ev_pos (cmpR_self _) ?_
      try simp only [go_sem, Nat.reduceEqDiff, Nat.reduceAdd, Bool.false_eq_true, Nat.reduceBEq, ↓reduceIte]
      first | refine ev_call (ratD_ok _ _ _ g1 (by omega)) ?_ | refine ev_callP (ratD_ok _ _ _ g1 (by omega)) ?_
      rintro v_32 H_32 le_32 g5 _
      replace g1 := g1.le le_32
      replace hT := hT.le le_32
      try simp only [go_sem, Nat.reduceEqDiff, Nat.reduceAdd, Bool.false_eq_true, Nat.reduceBEq, ↓reduceIte]
      first | refine ev_call (up_ok _ hT _ _ w g5 (by omega)) ?_ | refine ev_callP (up_ok _ hT _ _ w g5 (by omega)) ?_
      rintro v_33 H_33 le_33 g6 _
      replace g1 := g1.le le_33
      replace hT := hT.le le_33
      try simp only [go_sem, Nat.reduceEqDiff, Nat.reduceAdd, Bool.false_eq_true, Nat.reduceBEq, ↓reduceIte]
      rw [t4] at g6
      first | refine ev_call (dcmp_ok _ hT _ _ _ _ g6 g1 (by omega)) ?_ | refine ev_callP (dcmp_ok _ hT _ _ _ _ g6 g1 (by omega)) ?_
      rintro v_34 H_34 le_34 rfl _
      try simp only [go_sem, Nat.reduceEqDiff, Nat.reduceAdd, Bool.false_eq_true, Nat.reduceBEq, ↓reduceIte]
      refine ev_pos (cmpR_self _) ?_
      try simp only [go_sem, Nat.reduceEqDiff, Nat.reduceAdd, Bool.false_eq_true, Nat.reduceBEq, ↓reduceIte]
      exact ⟨by trivial, by trivial⟩

set_option maxHeartbeats 4000000 in
theorem DyadSteps_ok (H : PH) (hT : Tab H) (a : ByteArray) (ha : a.size ≤ 9223372036854775807) (bits : Int) (wb : (Lit.int .i64 bits).wf = true) : FnP Tryd.prog 4 [.string a, .int .i64 bits] H fun v _ => v = .bool true := by
  have hbi := i64_of_wf wb
  refine of_cincturelaw4_DyadSteps (by simp) ?_
  try simp only [go_sem, Nat.reduceEqDiff, Nat.reduceAdd, Bool.false_eq_true, Nat.reduceBEq, ↓reduceIte, p_cincturelaw4_DyadSteps]
  first | refine ev_call (numQ_ok _ a ha) ?_ | refine ev_callP (numQ_ok _ a ha) ?_
  rintro v_13 H_13 le_13 ⟨va, ra, rfl, h1, h2⟩ _
  replace hT := hT.le le_13
  try simp only [go_sem, Nat.reduceEqDiff, Nat.reduceAdd, Bool.false_eq_true, Nat.reduceBEq, ↓reduceIte]
  obtain ⟨A1, l1, c1, b1, B1, m1, e1, rfl⟩ := h1.form
  obtain ⟨b2, A2, l2, c2, B2, m2, e2, rfl⟩ := h2.form
  cases hk : qok a with
  | false =>
    try simp only [go_sem, Nat.reduceEqDiff, Nat.reduceAdd, Bool.false_eq_true, Nat.reduceBEq, ↓reduceIte, hk]
    first | refine ev_call (aliveD_ok _ hT) ?_ | refine ev_callP (aliveD_ok _ hT) ?_
    rintro v_14 H_14 le_14 rfl _
    try simp only [go_sem, Nat.reduceEqDiff, Nat.reduceAdd, Bool.false_eq_true, Nat.reduceBEq, ↓reduceIte]
    exact ⟨by trivial, by trivial⟩
  | true =>
    rw [hk, if_pos rfl] at h1 h2
    obtain ⟨hbx, _, _⟩ := qok_br hk
    generalize rv (bs a) = x at *
    try simp only [go_sem, Nat.reduceEqDiff, Nat.reduceAdd, Bool.false_eq_true, Nat.reduceBEq, ↓reduceIte, hk]
    first | refine ev_call (aliveD_ok _ hT) ?_ | refine ev_callP (aliveD_ok _ hT) ?_
    rintro v_35 H_35 le_35 rfl _
    replace h1 := h1.le le_35
    replace hT := hT.le le_35
    try simp only [go_sem, Nat.reduceEqDiff, Nat.reduceAdd, Bool.false_eq_true, Nat.reduceBEq, ↓reduceIte]
    first | refine ev_call (within_ok _ bits 1 100 (by omega) (by omega) (by decide) (by decide) (by decide)) ?_ | refine ev_callP (within_ok _ bits 1 100 (by omega) (by omega) (by decide) (by decide) (by decide)) ?_
    rintro v_36 H_36 le_36 rfl _
    replace h1 := h1.le le_36
    replace hT := hT.le le_36
    try simp only [go_sem, Nat.reduceEqDiff, Nat.reduceAdd, Bool.false_eq_true, Nat.reduceBEq, ↓reduceIte]
    obtain ⟨n1, n2, n3, n4⟩ := cb_wth bits
    have hw9 := @wth_bd bits 1 100 (by decide)
    generalize wth bits 1 100 = w at *
    have s1 := br_rnd x n1 false
    have s2 := br_rnd x n1 true
    have s3 := br_rnd x (show 1 ≤ cb w + 1 by omega) false
    have s4 := br_rnd x (show 1 ≤ cb w + 1 by omega) true
    refine ev_cut (fun s => ∃ H' A3 l3 c3 b3 A4 l4 c4 b4, Tab H' ∧ RatV H' (.agg #[.slice A1 l1 c1, .bool b1, .slice B1 m1 e1]) x ∧ DyadV H' (.agg #[.slice A3 l3 c3, .bool b3, .int .i64 (ex (rndR (-x) (cb w) true))]) (rndR (-x) (cb w) true) ∧ DyadV H' (.agg #[.slice A4 l4 c4, .bool b4, .int .i64 (ex (rndR x (cb w) false))]) (rndR x (cb w) false) ∧
      s = ⟨[(9, .ptr 9 0), (8, .ptr 8 0), (5, .ptr 5 0), (1, .v (.int .i64 w))], [(9, [.slice A4 l4 c4, .bool b4, .int .i64 (ex (rndR x (cb w) false))]), (8, [.slice A3 l3 c3, .bool b3, .int .i64 (ex (rndR (-x) (cb w) true))]), (5, [.slice A1 l1 c1, .bool b1, .slice B1 m1 e1])], H', PH.no⟩) ?_ ?_
    · try simp only [go_sem, Nat.reduceEqDiff, Nat.reduceAdd, Bool.false_eq_true, Nat.reduceBEq, ↓reduceIte]
      repeat' (with_reducible refine And.intro ?_ ?_)
      all_goals
        first | refine ev_call (rneg'_ok _ _ x h1 (by omega)) ?_ | refine ev_callP (rneg'_ok _ _ x h1 (by omega)) ?_
        rintro v_37 H_37 le_37 g0 _
        replace h1 := h1.le le_37
        replace hT := hT.le le_37
        try simp only [go_sem, Nat.reduceEqDiff, Nat.reduceAdd, Bool.false_eq_true, Nat.reduceBEq, ↓reduceIte]
        repeat' (with_reducible refine And.intro ?_ ?_)
        all_goals
          first | refine ev_call (up_ok _ hT _ (-x) w g0 (by rw [br_neg]; omega)) ?_ | refine ev_callP (up_ok _ hT _ (-x) w g0 (by rw [br_neg]; omega)) ?_
          rintro v_38 H_38 le_38 g1 _
          replace h1 := h1.le le_38
          replace hT := hT.le le_38
          try simp only [go_sem, Nat.reduceEqDiff, Nat.reduceAdd, Bool.false_eq_true, Nat.reduceBEq, ↓reduceIte]
          repeat' (with_reducible refine And.intro ?_ ?_)
          all_goals
            first | refine ev_call (down_ok _ hT _ x w h1 (by omega)) ?_ | refine ev_callP (down_ok _ hT _ x w h1 (by omega)) ?_
            rintro v_39 H_39 le_39 g2 _
            replace h1 := h1.le le_39
            replace hT := hT.le le_39
            replace g1 := g1.le le_39
            try simp only [go_sem, Nat.reduceEqDiff, Nat.reduceAdd, Bool.false_eq_true, Nat.reduceBEq, ↓reduceIte]
            obtain ⟨A3, l3, c3, b3, rfl⟩ := g1.form
            obtain ⟨A4, l4, c4, b4, rfl⟩ := g2.form
            try simp only [go_sem, Nat.reduceEqDiff, Nat.reduceAdd, Bool.false_eq_true, Nat.reduceBEq, ↓reduceIte]
            repeat' (with_reducible refine And.intro ?_ ?_)
            all_goals exact k_cut _ ⟨_, _, _, _, _, _, _, _, _, hT, h1, g1, g2, rfl⟩ ⟨rfl, by simp only [go_sem, Nat.reduceEqDiff, Nat.reduceAdd, Bool.false_eq_true, Nat.reduceBEq, ↓reduceIte, and_self, Option.some.injEq, SV.v.injEq, SV.ptr.injEq, Value.int.injEq, Value.bool.injEq, Value.slice.injEq, true_and, and_true] <;> (repeat' apply And.intro) <;> first | rfl | omega | (simp (disch := omega) only [w64, wu64, wu32, wu8] <;> omega), by simp only [go_sem, Nat.reduceEqDiff, Nat.reduceAdd, Bool.false_eq_true, Nat.reduceBEq, ↓reduceIte, and_self, Option.some.injEq, SV.v.injEq, SV.ptr.injEq, Value.int.injEq, Value.bool.injEq, Value.slice.injEq, true_and, and_true] <;> (repeat' apply And.intro) <;> rfl, rfl, PH.le.refl _⟩
    · rintro s ⟨H2, A3, l3, c3, b3, A4, l4, c4, b4, hT, h1, g1, g2, rfl⟩
      have t5 := rnd_more x (cb w)
      have t6 : rndR (-x) (cb w) true = -(rndR x (cb w) false) := rnd_neg x (cb w) true
      try simp only [go_sem, Nat.reduceEqDiff, Nat.reduceAdd, Bool.false_eq_true, Nat.reduceBEq, ↓reduceIte]
      rw [w64 (w + 1) (by omega) (by omega)]
      first | refine ev_call (down_ok _ hT _ x (w + 1) h1 (by omega)) ?_ | refine ev_callP (down_ok _ hT _ x (w + 1) h1 (by omega)) ?_
      rintro v_40 H_40 le_40 g3 _
      replace h1 := h1.le le_40
      replace g1 := g1.le le_40
      replace g2 := g2.le le_40
      replace hT := hT.le le_40
      try simp only [go_sem, Nat.reduceEqDiff, Nat.reduceAdd, Bool.false_eq_true, Nat.reduceBEq, ↓reduceIte]
      rw [n4] at g3
      first | refine ev_call (dcmp_ok _ hT _ _ _ _ g3 g2 (by omega)) ?_ | refine ev_callP (dcmp_ok _ hT _ _ _ _ g3 g2 (by omega)) ?_
      rintro v_41 H_41 le_41 rfl _
      replace h1 := h1.le le_41
      replace g1 := g1.le le_41
      replace g2 := g2.le le_41
      replace hT := hT.le le_41
      try simp only [go_sem, Nat.reduceEqDiff, Nat.reduceAdd, Bool.false_eq_true, Nat.reduceBEq, ↓reduceIte]
      refine ev_pos (cmpR_ge t5.1) ?_
      try simp only [go_sem, Nat.reduceEqDiff, Nat.reduceAdd, Bool.false_eq_true, Nat.reduceBEq, ↓reduceIte]
      rw [w64 (w + 1) (by omega) (by omega)]
      first | refine ev_call (up_ok _ hT _ x (w + 1) h1 (by omega)) ?_ | refine ev_callP (up_ok _ hT _ x (w + 1) h1 (by omega)) ?_
      rintro v_42 H_42 le_42 g3 _
      replace h1 := h1.le le_42
      replace g1 := g1.le le_42
      replace g2 := g2.le le_42
      replace hT := hT.le le_42
      try simp only [go_sem, Nat.reduceEqDiff, Nat.reduceAdd, Bool.false_eq_true, Nat.reduceBEq, ↓reduceIte]
      rw [n4] at g3
      first | refine ev_call (up_ok _ hT _ x w h1 (by omega)) ?_ | refine ev_callP (up_ok _ hT _ x w h1 (by omega)) ?_
      rintro v_43 H_43 le_43 g4 _
      replace g1 := g1.le le_43
      replace g2 := g2.le le_43
      replace g3 := g3.le le_43
      replace hT := hT.le le_43
      try simp only [go_sem, Nat.reduceEqDiff, Nat.reduceAdd, Bool.false_eq_true, Nat.reduceBEq, ↓reduceIte]
      first | refine ev_call (dcmp_ok _ hT _ _ _ _ g3 g4 (by omega)) ?_ | refine ev_callP (dcmp_ok _ hT _ _ _ _ g3 g4 (by omega)) ?_
      rintro v_44 H_44 le_44 rfl _
      replace g1 := g1.le le_44
      replace g2 := g2.le le_44
      replace hT := hT.le le_44
      try simp only [go_sem, Nat.reduceEqDiff, Nat.reduceAdd, Bool.false_eq_true, Nat.reduceBEq, ↓reduceIte]
      refine ev_pos (cmpR_le t5.2) ?_
      try simp only [go_sem, Nat.reduceEqDiff, Nat.reduceAdd, Bool.false_eq_true, Nat.reduceBEq, ↓reduceIte]
      first | refine ev_call (dadd_ok _ hT _ _ _ _ g1 g2 (by rw [t6, br_neg]; omega)) ?_ | refine ev_callP (dadd_ok _ hT _ _ _ _ g1 g2 (by rw [t6, br_neg]; omega)) ?_
      rintro v_45 H_45 le_45 g3 _
      replace hT := hT.le le_45
      try simp only [go_sem, Nat.reduceEqDiff, Nat.reduceAdd, Bool.false_eq_true, Nat.reduceBEq, ↓reduceIte]
      rw [t6, show -(rndR x (cb w) false) + rndR x (cb w) false = 0 by grind] at g3
      first | refine ev_call (ratD_ok _ _ _ g3 (by decide)) ?_ | refine ev_callP (ratD_ok _ _ _ g3 (by decide)) ?_
      rintro v_46 H_46 le_46 g5 _
      try simp only [go_sem, Nat.reduceEqDiff, Nat.reduceAdd, Bool.false_eq_true, Nat.reduceBEq, ↓reduceIte]
      first | refine ev_call (rsgn_ok _ _ _ g5 (by decide)) ?_ | refine ev_callP (rsgn_ok _ _ _ g5 (by decide)) ?_
      rintro v_47 H_47 le_47 rfl _
      try simp only [go_sem, Nat.reduceEqDiff, Nat.reduceAdd, Bool.false_eq_true, Nat.reduceBEq, ↓reduceIte]
      refine ev_pos (by decide) ?_
      try simp only [go_sem, Nat.reduceEqDiff, Nat.reduceAdd, Bool.false_eq_true, Nat.reduceBEq, ↓reduceIte]
      exact ⟨by trivial, by trivial⟩

end Go.Proofs.YtmlmemnlmmpliaaDoor.X
