/- Package span. -/
import Derived.Test.YtpifafenmgceoaaGreatDoorZK
import Derived.Test.YtpifafenmgceoaaGreatDoorZH
import Derived.Test.YtpifafenmgceoaaGreatDoorZD
import Derived.Test.YtpifafenmgceoaaGreatDoorZE
set_option linter.unusedVariables false
set_option linter.unusedSimpArgs false
namespace Go.Proofs.YtpifafenmgceoaaGreatDoor.X
open Go Go.RowKit Go.Proofs

theorem br_zero : br 0 = 1 := by decide +kernel
/-- an interval -/
def SpanV (H : PH) (v : Value) (p q : Rat) : Prop := ∃ A l c b B m e A' l' c' b' B' m' e', v = .agg #[.slice A l c, .bool b, .slice B m e, .slice A' l' c', .bool b', .slice B' m' e'] ∧ RatV H (.agg #[.slice A l c, .bool b, .slice B m e]) p ∧ RatV H (.agg #[.slice A' l' c', .bool b', .slice B' m' e']) q
theorem SpanV.le {H H' : PH} {v : Value} {p q : Rat} (h : SpanV H v p q) (hl : H.le H') : SpanV H' v p q := by
  obtain ⟨A, l, c, b, B, m, e, A', l', c', b', B', m', e', h1, h2, h3⟩ := h
  exact ⟨A, l, c, b, B, m, e, A', l', c', b', B', m', e', h1, h2.le hl, h3.le hl⟩
theorem SpanV.form {H : PH} {v : Value} {p q : Rat} (h : SpanV H v p q) : ∃ A l c b B m e A' l' c' b' B' m' e', v = .agg #[.slice A l c, .bool b, .slice B m e, .slice A' l' c', .bool b', .slice B' m' e'] := by
  obtain ⟨A, l, c, b, B, m, e, A', l', c', b', B', m', e', h1, _⟩ := h
  exact ⟨A, l, c, b, B, m, e, A', l', c', b', B', m', e', h1⟩
theorem SpanV.parts {H : PH} {A B A' B' : Option Addr} {l c m e l' c' m' e' : Nat} {b b' : Bool} {p q : Rat} (h : SpanV H (.agg #[.slice A l c, .bool b, .slice B m e, .slice A' l' c', .bool b', .slice B' m' e']) p q) : RatV H (.agg #[.slice A l c, .bool b, .slice B m e]) p ∧ RatV H (.agg #[.slice A' l' c', .bool b', .slice B' m' e']) q := by
  obtain ⟨A1, l1, c1, b1, B1, m1, e1, A2, l2, c2, b2, B2, m2, e2, h1, h2, h3⟩ := h
  have : A = A1 ∧ l = l1 ∧ c = c1 ∧ b = b1 ∧ B = B1 ∧ m = m1 ∧ e = e1 ∧ A' = A2 ∧ l' = l2 ∧ c' = c2 ∧ b' = b2 ∧ B' = B2 ∧ m' = m2 ∧ e' = e2 := by simpa [and_assoc] using h1
  obtain ⟨rfl, rfl, rfl, rfl, rfl, rfl, rfl, rfl, rfl, rfl, rfl, rfl, rfl, rfl⟩ := this
  exact ⟨h2, h3⟩
theorem SpanV.mk {H : PH} {A B A' B' : Option Addr} {l c m e l' c' m' e' : Nat} {b b' : Bool} {p q : Rat} (h1 : RatV H (.agg #[.slice A l c, .bool b, .slice B m e]) p) (h2 : RatV H (.agg #[.slice A' l' c', .bool b', .slice B' m' e']) q) : SpanV H (.agg #[.slice A l c, .bool b, .slice B m e, .slice A' l' c', .bool b', .slice B' m' e']) p q :=
  ⟨A, l, c, b, B, m, e, A', l', c', b', B', m', e', rfl, h1, h2⟩
theorem SpanV.zero (H : PH) : SpanV H (.agg #[.slice none 0 0, .bool false, .slice none 0 0, .slice none 0 0, .bool false, .slice none 0 0]) 0 0 := SpanV.mk (RatV.zero H) (RatV.zero H)

theorem cmpR_le {p q : Rat} (h : p ≤ q) : cmpR p q ≤ 0 := by
  rcases cmpR_cases p q with c | c | c
  · omega
  · omega
  · exact absurd c.1 (by rw [Rat.not_lt]; exact h)
theorem cmpR_ge {p q : Rat} (h : q ≤ p) : 0 ≤ cmpR p q := by
  rcases cmpR_cases p q with c | c | c
  · exact absurd c.1 (by rw [Rat.not_lt]; exact h)
  · omega
  · omega
theorem cmpR_le_iff {p q : Rat} : cmpR p q ≤ 0 ↔ p ≤ q := by
  rcases cmpR_cases p q with c | c | c
  · exact ⟨fun _ => by have := c.1; grind, fun _ => by omega⟩
  · exact ⟨fun _ => by have := c.1; grind, fun _ => by omega⟩
  · exact ⟨fun h => by omega, fun h => absurd c.1 (by rw [Rat.not_lt]; exact h)⟩
theorem cmpR_lt_iff {p q : Rat} : cmpR p q < 0 ↔ p < q := by
  rcases cmpR_cases p q with c | c | c
  · exact ⟨fun _ => c.1, fun _ => by omega⟩
  · exact ⟨fun h => by omega, fun h => absurd h (by rw [c.1]; exact Rat.lt_irrefl)⟩
  · exact ⟨fun h => by omega, fun h => by have := c.1; grind⟩
theorem cmpR_gt_iff {p q : Rat} : 0 < cmpR p q ↔ q < p := by
  rcases cmpR_cases p q with c | c | c
  · exact ⟨fun h => by omega, fun h => by have := c.1; grind⟩
  · exact ⟨fun h => by omega, fun h => absurd h (by rw [c.1]; exact Rat.lt_irrefl)⟩
  · exact ⟨fun _ => c.1, fun _ => by omega⟩
theorem gt_R {p : Rat} {q : Rat} : 0 < cmpR p q ↔ q < p := cmpR_gt_iff
theorem cmpR_eq_iff {p q : Rat} : cmpR p q = 0 ↔ p = q := by
  rcases cmpR_cases p q with c | c | c
  · exact ⟨fun h => by omega, fun h => absurd c.1 (by rw [h]; exact Rat.lt_irrefl)⟩
  · exact ⟨fun _ => c.1, fun _ => by omega⟩
  · exact ⟨fun h => by omega, fun h => absurd c.1 (by rw [h]; exact Rat.lt_irrefl)⟩

theorem less_ok (H : PH) (va vb : Value) (p q : Rat) (ha : RatV H va p) (hb : RatV H vb q) (hbp : br p + br q ≤ 4294967000) : FnP Tryz.prog 71 [va, vb] H fun v H' => RatV H' v (minR p q) := by
  obtain ⟨A, l, c, b, B, m, e, rfl⟩ := ha.form
  obtain ⟨A1, l1, c1, b1, B1, m1, e1, rfl⟩ := hb.form
  refine of_span_less (by simp) ?_
  try simp only [go_sem, Nat.reduceEqDiff, Nat.reduceAdd, Bool.false_eq_true, Nat.reduceBEq, ↓reduceIte, p_span_less]
  first | refine ev_call (rcmpR_ok _ _ _ q p hb ha (by omega)) ?_ | refine ev_callP (rcmpR_ok _ _ _ q p hb ha (by omega)) ?_
  rintro v_1 H_1 le_1 rfl _
  replace ha := ha.le le_1
  replace hb := hb.le le_1
  try simp only [go_sem, Nat.reduceEqDiff, Nat.reduceAdd, Bool.false_eq_true, Nat.reduceBEq, ↓reduceIte]
  by_cases h : q < p
  · refine ev_pos (by rw [cmpR_lt h]; decide) ?_
    try simp only [go_sem, Nat.reduceEqDiff, Nat.reduceAdd, Bool.false_eq_true, Nat.reduceBEq, ↓reduceIte]
    unfold minR; rw [if_pos h]
    exact ⟨by trivial, hb⟩
  · refine ev_neg (by rcases cmpR_cases q p with k | k | k <;> first | exact absurd k.1 h | omega) ?_
    try simp only [go_sem, Nat.reduceEqDiff, Nat.reduceAdd, Bool.false_eq_true, Nat.reduceBEq, ↓reduceIte]
    unfold minR; rw [if_neg h]
    exact ⟨by trivial, ha⟩

theorem more_ok (H : PH) (va vb : Value) (p q : Rat) (ha : RatV H va p) (hb : RatV H vb q) (hbp : br p + br q ≤ 4294967000) : FnP Tryz.prog 72 [va, vb] H fun v H' => RatV H' v (maxR p q) := by
  obtain ⟨A, l, c, b, B, m, e, rfl⟩ := ha.form
  obtain ⟨A1, l1, c1, b1, B1, m1, e1, rfl⟩ := hb.form
  refine of_span_more (by simp) ?_
  try simp only [go_sem, Nat.reduceEqDiff, Nat.reduceAdd, Bool.false_eq_true, Nat.reduceBEq, ↓reduceIte, p_span_more]
  first | refine ev_call (rcmpR_ok _ _ _ q p hb ha (by omega)) ?_ | refine ev_callP (rcmpR_ok _ _ _ q p hb ha (by omega)) ?_
  rintro v_2 H_2 le_2 rfl _
  replace ha := ha.le le_2
  replace hb := hb.le le_2
  try simp only [go_sem, Nat.reduceEqDiff, Nat.reduceAdd, Bool.false_eq_true, Nat.reduceBEq, ↓reduceIte]
  by_cases h : p < q
  · refine ev_pos (by rw [cmpR_gt h]; decide) ?_
    try simp only [go_sem, Nat.reduceEqDiff, Nat.reduceAdd, Bool.false_eq_true, Nat.reduceBEq, ↓reduceIte]
    unfold maxR; rw [if_pos h]
    exact ⟨by trivial, hb⟩
  · refine ev_neg (by rcases cmpR_cases q p with k | k | k <;> first | exact absurd k.1 h | omega) ?_
    try simp only [go_sem, Nat.reduceEqDiff, Nat.reduceAdd, Bool.false_eq_true, Nat.reduceBEq, ↓reduceIte]
    unfold maxR; rw [if_neg h]
    exact ⟨by trivial, ha⟩

theorem around_ok (H : PH) (va vb : Value) (p q : Rat) (ha : RatV H va p) (hb : RatV H vb q) (hbp : br p + br q ≤ 4294967000) : FnP Tryz.prog 36 [va, vb] H fun v H' => SpanV H' v (minR p q) (maxR p q) := by
  obtain ⟨A, l, c, b, B, m, e, rfl⟩ := ha.form
  obtain ⟨A1, l1, c1, b1, B1, m1, e1, rfl⟩ := hb.form
  refine of_span_around (by simp) ?_
  try simp only [go_sem, Nat.reduceEqDiff, Nat.reduceAdd, Bool.false_eq_true, Nat.reduceBEq, ↓reduceIte, p_span_around]
  first | refine ev_call (less_ok _ _ _ p q ha hb hbp) ?_ | refine ev_callP (less_ok _ _ _ p q ha hb hbp) ?_
  rintro v_3 H_3 le_3 g1 _
  replace ha := ha.le le_3
  replace hb := hb.le le_3
  try simp only [go_sem, Nat.reduceEqDiff, Nat.reduceAdd, Bool.false_eq_true, Nat.reduceBEq, ↓reduceIte]
  first | refine ev_call (more_ok _ _ _ p q ha hb hbp) ?_ | refine ev_callP (more_ok _ _ _ p q ha hb hbp) ?_
  rintro v_4 H_4 le_4 g2 _
  replace g1 := g1.le le_4
  try simp only [go_sem, Nat.reduceEqDiff, Nat.reduceAdd, Bool.false_eq_true, Nat.reduceBEq, ↓reduceIte]
  obtain ⟨A2, l2, c2, b2, B2, m2, e2, rfl⟩ := g1.form
  obtain ⟨A3, l3, c3, b3, B3, m3, e3, rfl⟩ := g2.form
  try simp only [go_sem, Nat.reduceEqDiff, Nat.reduceAdd, Bool.false_eq_true, Nat.reduceBEq, ↓reduceIte]
  exact ⟨by trivial, SpanV.mk g1 g2⟩

theorem snew_ok (H : PH) (va vb : Value) (p q : Rat) (ha : RatV H va p) (hb : RatV H vb q) (hbp : br p + br q ≤ 4294967000) : FnP Tryz.prog 13 [va, vb] H fun v H' => ∃ v', v = .tuple #[v', .bool (decide (p ≤ q))] ∧ SpanV H' v' (if p ≤ q then p else 0) (if p ≤ q then q else 0) := by
  obtain ⟨A, l, c, b, B, m, e, rfl⟩ := ha.form
  obtain ⟨A1, l1, c1, b1, B1, m1, e1, rfl⟩ := hb.form
  refine of_span_New (by simp) ?_
  try simp only [go_sem, Nat.reduceEqDiff, Nat.reduceAdd, Bool.false_eq_true, Nat.reduceBEq, ↓reduceIte, p_span_New]
  first | refine ev_call (rcmpR_ok _ _ _ p q ha hb (by omega)) ?_ | refine ev_callP (rcmpR_ok _ _ _ p q ha hb (by omega)) ?_
  rintro v_5 H_5 le_5 rfl _
  replace ha := ha.le le_5
  replace hb := hb.le le_5
  try simp only [go_sem, Nat.reduceEqDiff, Nat.reduceAdd, Bool.false_eq_true, Nat.reduceBEq, ↓reduceIte]
  by_cases h : p ≤ q
  · refine ev_neg (by have := cmpR_le h; omega) ?_
    try simp only [go_sem, Nat.reduceEqDiff, Nat.reduceAdd, Bool.false_eq_true, Nat.reduceBEq, ↓reduceIte]
    rw [decide_eq_true h, if_pos h, if_pos h]
    repeat' (with_reducible refine And.intro ?_ ?_)
    all_goals first | trivial | exact ⟨_, rfl, SpanV.mk ha hb⟩
  · refine ev_pos (cmpR_gt_iff.2 (by grind)) ?_
    try simp only [go_sem, Nat.reduceEqDiff, Nat.reduceAdd, Bool.false_eq_true, Nat.reduceBEq, ↓reduceIte]
    rw [decide_eq_false h, if_neg h, if_neg h]
    repeat' (with_reducible refine And.intro ?_ ?_)
    all_goals first | trivial | exact ⟨_, rfl, SpanV.zero _⟩

/-- what the texts of an interval come to -/
def spOk (a b : ByteArray) : Bool := ratOk (bs a) && (ratOk (bs b) && decide (rv (bs a) ≤ rv (bs b)))
def spCode (a b : ByteArray) : Int := if ratOk (bs a) && ratOk (bs b) then (if rv (bs a) ≤ rv (bs b) then 0 else 1) else 2
theorem spCode_ok {a b : ByteArray} : spCode a b = 0 ↔ spOk a b = true := by
  unfold spCode spOk
  cases ratOk (bs a) <;> cases ratOk (bs b) <;> simp
theorem sparse_ok (H : PH) (a b : ByteArray) (ha : a.size ≤ 9223372036854775807) (hb : b.size ≤ 9223372036854775807) : FnP Tryz.prog 12 [.agg #[.string a, .string b]] H fun v H' => ∃ v', v = .tuple #[v', .int .i64 (spCode a b)] ∧ SpanV H' v' (if spOk a b then rv (bs a) else 0) (if spOk a b then rv (bs b) else 0) := by
  refine of_span_Parse (by simp) ?_
  try simp only [go_sem, Nat.reduceEqDiff, Nat.reduceAdd, Bool.false_eq_true, Nat.reduceBEq, ↓reduceIte, p_span_Parse]
  first | refine ev_call (rparse'_ok _ a ha) ?_ | refine ev_callP (rparse'_ok _ a ha) ?_
  rintro v_6 H_6 le_6 ⟨va, rfl, h1⟩ _
  try simp only [go_sem, Nat.reduceEqDiff, Nat.reduceAdd, Bool.false_eq_true, Nat.reduceBEq, ↓reduceIte]
  obtain ⟨A1, l1, c1, b1, B1, m1, e1, rfl⟩ := h1.form
  have bad : ∀ (n : Int) (H' : PH), spOk a b = false → spCode a b = n → ∃ v', (Value.tuple #[.agg #[.slice none 0 0, .bool false, .slice none 0 0, .slice none 0 0, .bool false, .slice none 0 0], .int .i64 n]) = .tuple #[v', .int .i64 (spCode a b)] ∧ SpanV H' v' (if spOk a b then rv (bs a) else 0) (if spOk a b then rv (bs b) else 0) := by
    intro n H' h k
    rw [h, k]
    exact ⟨_, rfl, SpanV.zero _⟩
  cases hk : ratOk (bs a) with
  | false =>
    try simp only [go_sem, Nat.reduceEqDiff, Nat.reduceAdd, Bool.false_eq_true, Nat.reduceBEq, ↓reduceIte, hk]
    refine ev_pos (by decide) ?_
    try simp only [go_sem, Nat.reduceEqDiff, Nat.reduceAdd, Bool.false_eq_true, Nat.reduceBEq, ↓reduceIte]
    repeat' (with_reducible refine And.intro ?_ ?_)
    all_goals first | trivial | exact bad _ _ (by unfold spOk; rw [hk]; rfl) (by unfold spCode; rw [hk]; rfl)
  | true =>
    try simp only [go_sem, Nat.reduceEqDiff, Nat.reduceAdd, Bool.false_eq_true, Nat.reduceBEq, ↓reduceIte, hk]
    refine ev_neg (by decide) ?_
    try simp only [go_sem, Nat.reduceEqDiff, Nat.reduceAdd, Bool.false_eq_true, Nat.reduceBEq, ↓reduceIte]
    first | refine ev_call (rparse'_ok _ b hb) ?_ | refine ev_callP (rparse'_ok _ b hb) ?_
    rintro v_7 H_7 le_7 ⟨vb, rfl, h2⟩ _
    replace h1 := h1.le le_7
    try simp only [go_sem, Nat.reduceEqDiff, Nat.reduceAdd, Bool.false_eq_true, Nat.reduceBEq, ↓reduceIte]
    obtain ⟨A2, l2, c2, b2, B2, m2, e2, rfl⟩ := h2.form
    cases hk2 : ratOk (bs b) with
    | false =>
      try simp only [go_sem, Nat.reduceEqDiff, Nat.reduceAdd, Bool.false_eq_true, Nat.reduceBEq, ↓reduceIte, hk2]
      refine ev_pos (by decide) ?_
      try simp only [go_sem, Nat.reduceEqDiff, Nat.reduceAdd, Bool.false_eq_true, Nat.reduceBEq, ↓reduceIte]
      repeat' (with_reducible refine And.intro ?_ ?_)
      all_goals first | trivial | exact bad _ _ (by unfold spOk; rw [hk, hk2]; rfl) (by unfold spCode; rw [hk, hk2]; rfl)
    | true =>
      have k1 := rv_max hk
      have k2 := rv_max hk2
      rw [hk, if_pos rfl] at h1
      rw [hk2, if_pos rfl] at h2
      try simp only [go_sem, Nat.reduceEqDiff, Nat.reduceAdd, Bool.false_eq_true, Nat.reduceBEq, ↓reduceIte, hk2]
      refine ev_neg (by decide) ?_
      try simp only [go_sem, Nat.reduceEqDiff, Nat.reduceAdd, Bool.false_eq_true, Nat.reduceBEq, ↓reduceIte]
      first | refine ev_call (snew_ok _ _ _ _ _ h1 h2 (by omega)) ?_ | refine ev_callP (snew_ok _ _ _ _ _ h1 h2 (by omega)) ?_
      rintro v_8 H_8 le_8 ⟨v3, rfl, h3⟩ _
      try simp only [go_sem, Nat.reduceEqDiff, Nat.reduceAdd, Bool.false_eq_true, Nat.reduceBEq, ↓reduceIte]
      by_cases h : rv (bs a) ≤ rv (bs b)
      · rw [if_pos h, if_pos h] at h3
        obtain ⟨A, l, c, b', B, m, e, A', l', c', b'', B', m', e', rfl⟩ := h3.form
        rw [decide_eq_true h]
        try simp only [go_sem, Nat.reduceEqDiff, Nat.reduceAdd, Bool.false_eq_true, Nat.reduceBEq, ↓reduceIte]
        rw [show spOk a b = true by unfold spOk; rw [hk, hk2, decide_eq_true h]; rfl, show spCode a b = 0 by unfold spCode; rw [hk, hk2, Bool.and_self, if_pos rfl, if_pos h]]
        repeat' (with_reducible refine And.intro ?_ ?_)
        all_goals first | trivial | exact ⟨_, rfl, h3⟩
      · obtain ⟨A, l, c, b', B, m, e, A', l', c', b'', B', m', e', rfl⟩ := h3.form
        rw [decide_eq_false h]
        try simp only [go_sem, Nat.reduceEqDiff, Nat.reduceAdd, Bool.false_eq_true, Nat.reduceBEq, ↓reduceIte]
        repeat' (with_reducible refine And.intro ?_ ?_)
        all_goals first | trivial | exact bad _ _ (by unfold spOk; rw [hk, hk2, decide_eq_false h]; rfl) (by unfold spCode; rw [hk, hk2, Bool.and_self, if_pos rfl, if_neg h])

/-- a question of two parts -/
theorem shas_ok (H : PH) (va vb : Value) (p q r : Rat) (ha : SpanV H va p q) (hb : RatV H vb r) (hbp : br p + br q + br r ≤ 4294967000) : FnP Tryz.prog 38 [va, vb] H fun v _ => v = .bool (decide (p ≤ r ∧ r ≤ q)) := by
  obtain ⟨A, l, c, b, B, m, e, A', l', c', b', B', m', e', rfl⟩ := ha.form
  obtain ⟨h1, h2⟩ := ha.parts
  obtain ⟨A1, l1, c1, b1, B1, m1, e1, rfl⟩ := hb.form
  refine of_span_Has (by simp) ?_
  try simp only [go_sem, Nat.reduceEqDiff, Nat.reduceAdd, Bool.false_eq_true, Nat.reduceBEq, ↓reduceIte, p_span_Has]
  first | refine ev_call (rcmpR_ok _ _ _ p r h1 hb (by omega)) ?_ | refine ev_callP (rcmpR_ok _ _ _ p r h1 hb (by omega)) ?_
  rintro v_27 H_27 le_27 rfl _
  replace h2 := h2.le le_27
  replace hb := hb.le le_27
  try simp only [go_sem, Nat.reduceEqDiff, Nat.reduceAdd, Bool.false_eq_true, Nat.reduceBEq, ↓reduceIte]
  rw [cmpR_le_iff]
  refine ev_if (fun k => ?_) (fun k => ?_)
  · try simp only [go_sem, Nat.reduceEqDiff, Nat.reduceAdd, Bool.false_eq_true, Nat.reduceBEq, ↓reduceIte]
    first | refine ev_call (rcmpR_ok _ _ _ r q hb h2 (by omega)) ?_ | refine ev_callP (rcmpR_ok _ _ _ r q hb h2 (by omega)) ?_
    rintro v_28 H_28 le_28 rfl _
    try simp only [go_sem, Nat.reduceEqDiff, Nat.reduceAdd, Bool.false_eq_true, Nat.reduceBEq, ↓reduceIte]
    rw [cmpR_le_iff]
    refine ev_if (fun k2 => ?_) (fun k2 => ?_)
    · try simp only [go_sem, Nat.reduceEqDiff, Nat.reduceAdd, Bool.false_eq_true, Nat.reduceBEq, ↓reduceIte]
      rw [decide_eq_true ⟨k, k2⟩]
      exact ⟨by trivial, by trivial⟩
    · try simp only [go_sem, Nat.reduceEqDiff, Nat.reduceAdd, Bool.false_eq_true, Nat.reduceBEq, ↓reduceIte]
      rw [decide_eq_false (fun k3 => k2 k3.2)]
      exact ⟨by trivial, by trivial⟩
  · try simp only [go_sem, Nat.reduceEqDiff, Nat.reduceAdd, Bool.false_eq_true, Nat.reduceBEq, ↓reduceIte]
    rw [decide_eq_false (fun k3 => k k3.1)]
    exact ⟨by trivial, by trivial⟩

theorem swithin_ok (H : PH) (va vb : Value) (p q r s : Rat) (ha : SpanV H va p q) (hb : SpanV H vb r s) (hbp : br p + br q + br r + br s ≤ 4294967000) : FnP Tryz.prog 10 [va, vb] H fun v _ => v = .bool (decide (r ≤ p ∧ q ≤ s)) := by
  obtain ⟨A, l, c, b, B, m, e, A', l', c', b', B', m', e', rfl⟩ := ha.form
  obtain ⟨h1, h2⟩ := ha.parts
  obtain ⟨A1, l1, c1, b1, B1, m1, e1, A1', l1', c1', b1', B1', m1', e1', rfl⟩ := hb.form
  obtain ⟨h3, h4⟩ := hb.parts
  refine of_span_Within (by simp) ?_
  try simp only [go_sem, Nat.reduceEqDiff, Nat.reduceAdd, Bool.false_eq_true, Nat.reduceBEq, ↓reduceIte, p_span_Within]
  first | refine ev_call (rcmpR_ok _ _ _ r p h3 h1 (by omega)) ?_ | refine ev_callP (rcmpR_ok _ _ _ r p h3 h1 (by omega)) ?_
  rintro v_29 H_29 le_29 rfl _
  replace h2 := h2.le le_29
  replace h4 := h4.le le_29
  try simp only [go_sem, Nat.reduceEqDiff, Nat.reduceAdd, Bool.false_eq_true, Nat.reduceBEq, ↓reduceIte]
  rw [cmpR_le_iff]
  refine ev_if (fun k => ?_) (fun k => ?_)
  · try simp only [go_sem, Nat.reduceEqDiff, Nat.reduceAdd, Bool.false_eq_true, Nat.reduceBEq, ↓reduceIte]
    first | refine ev_call (rcmpR_ok _ _ _ q s h2 h4 (by omega)) ?_ | refine ev_callP (rcmpR_ok _ _ _ q s h2 h4 (by omega)) ?_
    rintro v_30 H_30 le_30 rfl _
    try simp only [go_sem, Nat.reduceEqDiff, Nat.reduceAdd, Bool.false_eq_true, Nat.reduceBEq, ↓reduceIte]
    rw [cmpR_le_iff]
    refine ev_if (fun k2 => ?_) (fun k2 => ?_)
    · try simp only [go_sem, Nat.reduceEqDiff, Nat.reduceAdd, Bool.false_eq_true, Nat.reduceBEq, ↓reduceIte]
      rw [decide_eq_true ⟨k, k2⟩]
      exact ⟨by trivial, by trivial⟩
    · try simp only [go_sem, Nat.reduceEqDiff, Nat.reduceAdd, Bool.false_eq_true, Nat.reduceBEq, ↓reduceIte]
      rw [decide_eq_false (fun k3 => k2 k3.2)]
      exact ⟨by trivial, by trivial⟩
  · try simp only [go_sem, Nat.reduceEqDiff, Nat.reduceAdd, Bool.false_eq_true, Nat.reduceBEq, ↓reduceIte]
    rw [decide_eq_false (fun k3 => k k3.1)]
    exact ⟨by trivial, by trivial⟩

/-- 1 above 0, -1 below, else 0 -/
def spSgn (p q : Rat) : Int := if 0 < p then 1 else if q < 0 then -1 else 0
theorem spow_ok (H : PH) (va : Value) (p q : Rat) (n : Int) (ha : SpanV H va p q) (hbp : br p + br q ≤ 1000000) : FnP Tryz.prog 15 [va, .int .i64 n] H fun v H' => SpanV H' v (powLo p q (expN n)) (powHi p q (expN n)) := by
  obtain ⟨A, l, c, b, B, m, e, A', l', c', b', B', m', e', rfl⟩ := ha.form
  obtain ⟨h1, h2⟩ := ha.parts
  have hx : expN n ≤ 255 := by unfold expN; omega
  have s1 := br_pow p (expN n)
  have s2 := br_pow q (expN n)
  have t1 : expN n * br p ≤ 255 * br p := Nat.mul_le_mul_right _ hx
  have t2 : expN n * br q ≤ 255 * br q := Nat.mul_le_mul_right _ hx
  have htm : ((expN n : Nat) : Int).tmod 2 = ((expN n % 2 : Nat) : Int) := by rw [Int.tmod_eq_emod_of_nonneg (by omega)]; omega
  have hclamp : (if 255 < (if n < 0 then 0 else n) then 255 else (if n < 0 then 0 else n)) = ((expN n : Nat) : Int) := by unfold expN; split <;> (try split) <;> omega
  refine of_span_Pow (by simp) ?_
  try simp only [go_sem, Nat.reduceEqDiff, Nat.reduceAdd, Bool.false_eq_true, Nat.reduceBEq, ↓reduceIte, p_span_Pow]
  refine ev_cut (fun s => ∃ H' A2 l2 c2 b2 B2 m2 e2 A3 l3 c3 b3 B3 m3 e3, SpanV H' (.agg #[.slice A l c, .bool b, .slice B m e, .slice A' l' c', .bool b', .slice B' m' e']) p q ∧ SpanV H' (.agg #[.slice A2 l2 c2, .bool b2, .slice B2 m2 e2, .slice A3 l3 c3, .bool b3, .slice B3 m3 e3]) (minR (p ^ expN n) (q ^ expN n)) (maxR (p ^ expN n) (q ^ expN n)) ∧
    s = ⟨[(5, .ptr 5 0), (4, .ptr 4 0), (2, .ptr 2 0), (1, .v (.int .i64 n))], [(5, [.slice A2 l2 c2, .bool b2, .slice B2 m2 e2, .slice A3 l3 c3, .bool b3, .slice B3 m3 e3]), (4, [.slice none 0 0, .bool false, .slice none 0 0, .slice none 0 0, .bool false, .slice none 0 0]), (2, [.slice A l c, .bool b, .slice B m e, .slice A' l' c', .bool b', .slice B' m' e'])], H', PH.no⟩) ?_ ?_
  · try simp only [go_sem, Nat.reduceEqDiff, Nat.reduceAdd, Bool.false_eq_true, Nat.reduceBEq, ↓reduceIte]
    repeat' (with_reducible refine And.intro ?_ ?_)
    all_goals
      first | refine ev_call (rpow'_ok _ _ p n h1 (by omega)) ?_ | refine ev_callP (rpow'_ok _ _ p n h1 (by omega)) ?_
      rintro v_45 H_45 le_45 g1 _
      replace ha := ha.le le_45
      replace h2 := h2.le le_45
      try simp only [go_sem, Nat.reduceEqDiff, Nat.reduceAdd, Bool.false_eq_true, Nat.reduceBEq, ↓reduceIte]
      repeat' (with_reducible refine And.intro ?_ ?_)
      all_goals
        first | refine ev_call (rpow'_ok _ _ q n h2 (by omega)) ?_ | refine ev_callP (rpow'_ok _ _ q n h2 (by omega)) ?_
        rintro v_46 H_46 le_46 g2 _
        replace ha := ha.le le_46
        replace g1 := g1.le le_46
        try simp only [go_sem, Nat.reduceEqDiff, Nat.reduceAdd, Bool.false_eq_true, Nat.reduceBEq, ↓reduceIte]
        repeat' (with_reducible refine And.intro ?_ ?_)
        all_goals
          first | refine ev_call (around_ok _ _ _ _ _ g1 g2 (by omega)) ?_ | refine ev_callP (around_ok _ _ _ _ _ g1 g2 (by omega)) ?_
          rintro v_47 H_47 le_47 g3 _
          replace ha := ha.le le_47
          try simp only [go_sem, Nat.reduceEqDiff, Nat.reduceAdd, Bool.false_eq_true, Nat.reduceBEq, ↓reduceIte]
          obtain ⟨A2, l2, c2, b2, B2, m2, e2, A3, l3, c3, b3, B3, m3, e3, rfl⟩ := g3.form
          try simp only [go_sem, Nat.reduceEqDiff, Nat.reduceAdd, Bool.false_eq_true, Nat.reduceBEq, ↓reduceIte]
          exact k_cut _ ⟨_, _, _, _, _, _, _, _, _, _, _, _, _, _, _, ha, g3, rfl⟩ ⟨rfl, by simp only [go_sem, Nat.reduceEqDiff, Nat.reduceAdd, Bool.false_eq_true, Nat.reduceBEq, ↓reduceIte, and_self, Option.some.injEq, SV.v.injEq, SV.ptr.injEq, Value.int.injEq, Value.bool.injEq, Value.slice.injEq, true_and, and_true] <;> (repeat' apply And.intro) <;> first | rfl | omega | (simp (disch := omega) only [w64, wu64, wu32, wu8] <;> omega), by simp only [go_sem, Nat.reduceEqDiff, Nat.reduceAdd, Bool.false_eq_true, Nat.reduceBEq, ↓reduceIte, and_self, Option.some.injEq, SV.v.injEq, SV.ptr.injEq, Value.int.injEq, Value.bool.injEq, Value.slice.injEq, true_and, and_true] <;> (repeat' apply And.intro) <;> rfl, rfl, PH.le.refl _⟩
  · rintro s ⟨H2, A2, l2, c2, b2, B2, m2, e2, A3, l3, c3, b3, B3, m3, e3, ha, g3, rfl⟩
    try simp only [go_sem, Nat.reduceEqDiff, Nat.reduceAdd, Bool.false_eq_true, Nat.reduceBEq, ↓reduceIte]
    rw [hclamp]
    have plain : ¬ (0 < expN n ∧ expN n % 2 = 0 ∧ p ≤ 0 ∧ 0 ≤ q) → powLo p q (expN n) = minR (p ^ expN n) (q ^ expN n) := fun h => by unfold powLo; rw [if_neg h]
    refine ev_if (fun c1 => ?_) (fun c1 => ?_)
    · try simp only [go_sem, Nat.reduceEqDiff, Nat.reduceAdd, Bool.false_eq_true, Nat.reduceBEq, ↓reduceIte]
      refine ev_rem (by decide) ?_
      rw [htm]
      try simp only [go_sem, Nat.reduceEqDiff, Nat.reduceAdd, Bool.false_eq_true, Nat.reduceBEq, ↓reduceIte]
      refine ev_if (fun c2 => ?_) (fun c2 => ?_)
      · try simp only [go_sem, Nat.reduceEqDiff, Nat.reduceAdd, Bool.false_eq_true, Nat.reduceBEq, ↓reduceIte]
        first | refine ev_call (shas_ok _ _ _ p q 0 ha (RatV.zero _) (by rw [br_zero]; omega)) ?_ | refine ev_callP (shas_ok _ _ _ p q 0 ha (RatV.zero _) (by rw [br_zero]; omega)) ?_
        rintro v_48 H_48 le_48 rfl _
        replace g3 := g3.le le_48
        try simp only [go_sem, Nat.reduceEqDiff, Nat.reduceAdd, Bool.false_eq_true, Nat.reduceBEq, ↓reduceIte]
        by_cases c3 : p ≤ 0 ∧ 0 ≤ q
        · rw [decide_eq_true c3]
          try simp only [go_sem, Nat.reduceEqDiff, Nat.reduceAdd, Bool.false_eq_true, Nat.reduceBEq, ↓reduceIte]
          have hlo : powLo p q (expN n) = 0 := by unfold powLo; rw [if_pos ⟨by omega, by omega, c3.1, c3.2⟩]
          rw [hlo]
          exact ⟨by trivial, SpanV.mk (RatV.zero _) g3.parts.2⟩
        · rw [decide_eq_false c3]
          try simp only [go_sem, Nat.reduceEqDiff, Nat.reduceAdd, Bool.false_eq_true, Nat.reduceBEq, ↓reduceIte]
          rw [plain (fun h => c3 ⟨h.2.2.1, h.2.2.2⟩)]
          exact ⟨by trivial, g3⟩
      · try simp only [go_sem, Nat.reduceEqDiff, Nat.reduceAdd, Bool.false_eq_true, Nat.reduceBEq, ↓reduceIte]
        rw [plain (fun h => c2 (by omega))]
        exact ⟨by trivial, g3⟩
    · try simp only [go_sem, Nat.reduceEqDiff, Nat.reduceAdd, Bool.false_eq_true, Nat.reduceBEq, ↓reduceIte]
      rw [plain (fun h => c1 (by omega))]
      exact ⟨by trivial, g3⟩

end Go.Proofs.YtpifafenmgceoaaGreatDoor.X
set_option linter.unusedVariables false
set_option linter.unusedSimpArgs false
namespace Go.Proofs.YtpifafenmgceoaaGreatDoor.X
open Go Go.RowKit Go.Proofs

/-- an interval of the reference -/
def RSpan (H : PH) (v : Value) (p q : Rat) : Prop := ∃ b A l c B m e b' A' l' c' B' m' e', v = .agg #[.bool b, .slice A l c, .slice B m e, .bool b', .slice A' l' c', .slice B' m' e'] ∧ RRat H (.agg #[.bool b, .slice A l c, .slice B m e]) p ∧ RRat H (.agg #[.bool b', .slice A' l' c', .slice B' m' e']) q
theorem RSpan.le {H H' : PH} {v : Value} {p q : Rat} (h : RSpan H v p q) (hl : H.le H') : RSpan H' v p q := by
  obtain ⟨b, A, l, c, B, m, e, b', A', l', c', B', m', e', h1, h2, h3⟩ := h
  exact ⟨b, A, l, c, B, m, e, b', A', l', c', B', m', e', h1, h2.le hl, h3.le hl⟩
theorem RSpan.form {H : PH} {v : Value} {p q : Rat} (h : RSpan H v p q) : ∃ b A l c B m e b' A' l' c' B' m' e', v = .agg #[.bool b, .slice A l c, .slice B m e, .bool b', .slice A' l' c', .slice B' m' e'] := by
  obtain ⟨b, A, l, c, B, m, e, b', A', l', c', B', m', e', h1, _⟩ := h
  exact ⟨b, A, l, c, B, m, e, b', A', l', c', B', m', e', h1⟩
theorem RSpan.parts {H : PH} {A B A' B' : Option Addr} {l c m e l' c' m' e' : Nat} {b b' : Bool} {p q : Rat} (h : RSpan H (.agg #[.bool b, .slice A l c, .slice B m e, .bool b', .slice A' l' c', .slice B' m' e']) p q) : RRat H (.agg #[.bool b, .slice A l c, .slice B m e]) p ∧ RRat H (.agg #[.bool b', .slice A' l' c', .slice B' m' e']) q := by
  obtain ⟨b1, A1, l1, c1, B1, m1, e1, b2, A2, l2, c2, B2, m2, e2, h1, h2, h3⟩ := h
  have : b = b1 ∧ A = A1 ∧ l = l1 ∧ c = c1 ∧ B = B1 ∧ m = m1 ∧ e = e1 ∧ b' = b2 ∧ A' = A2 ∧ l' = l2 ∧ c' = c2 ∧ B' = B2 ∧ m' = m2 ∧ e' = e2 := by simpa [and_assoc] using h1
  obtain ⟨rfl, rfl, rfl, rfl, rfl, rfl, rfl, rfl, rfl, rfl, rfl, rfl, rfl, rfl⟩ := this
  exact ⟨h2, h3⟩
theorem RSpan.mk {H : PH} {A B A' B' : Option Addr} {l c m e l' c' m' e' : Nat} {b b' : Bool} {p q : Rat} (h1 : RRat H (.agg #[.bool b, .slice A l c, .slice B m e]) p) (h2 : RRat H (.agg #[.bool b', .slice A' l' c', .slice B' m' e']) q) : RSpan H (.agg #[.bool b, .slice A l c, .slice B m e, .bool b', .slice A' l' c', .slice B' m' e']) p q :=
  ⟨b, A, l, c, B, m, e, b', A', l', c', B', m', e', rfl, h1, h2⟩
theorem RSpan.zero (H : PH) : RSpan H (.agg #[.bool false, .slice none 0 0, .slice none 0 0, .bool false, .slice none 0 0, .slice none 0 0]) 0 0 := RSpan.mk (RRat.zero H) (RRat.zero H)

theorem sparseR_ok (H : PH) (a b : ByteArray) (ha : a.size ≤ 9223372036854775807) (hb : b.size ≤ 9223372036854775807) : FnP Tryz.prog 11 [.agg #[.string a, .string b]] H fun v H' => ∃ v', v = .tuple #[v', .int .i64 (spCode a b)] ∧ RSpan H' v' (if spOk a b then rv (bs a) else 0) (if spOk a b then rv (bs b) else 0) := by
  have bad : ∀ (n : Int) (H' : PH), spOk a b = false → spCode a b = n → ∃ v', (Value.tuple #[.agg #[.bool false, .slice none 0 0, .slice none 0 0, .bool false, .slice none 0 0, .slice none 0 0], .int .i64 n]) = .tuple #[v', .int .i64 (spCode a b)] ∧ RSpan H' v' (if spOk a b then rv (bs a) else 0) (if spOk a b then rv (bs b) else 0) := by
    intro n H' h k
    rw [h, k]
    exact ⟨_, rfl, RSpan.zero _⟩
  refine of_cinctureref1_SpanParse (by simp) ?_
  try simp only [go_sem, Nat.reduceEqDiff, Nat.reduceAdd, Bool.false_eq_true, Nat.reduceBEq, ↓reduceIte, p_cinctureref1_SpanParse]
  first | refine ev_call (rparseR_ok _ a ha) ?_ | refine ev_callP (rparseR_ok _ a ha) ?_
  rintro v_19 H_19 le_19 ⟨va, rfl, h1⟩ _
  try simp only [go_sem, Nat.reduceEqDiff, Nat.reduceAdd, Bool.false_eq_true, Nat.reduceBEq, ↓reduceIte]
  obtain ⟨b1, A1, l1, c1, B1, m1, e1, rfl⟩ := h1.form
  try simp only [go_sem, Nat.reduceEqDiff, Nat.reduceAdd, Bool.false_eq_true, Nat.reduceBEq, ↓reduceIte]
  first | refine ev_call (rparseR_ok _ b hb) ?_ | refine ev_callP (rparseR_ok _ b hb) ?_
  rintro v_20 H_20 le_20 ⟨vb, rfl, h2⟩ _
  replace h1 := h1.le le_20
  try simp only [go_sem, Nat.reduceEqDiff, Nat.reduceAdd, Bool.false_eq_true, Nat.reduceBEq, ↓reduceIte]
  obtain ⟨b2, A2, l2, c2, B2, m2, e2, rfl⟩ := h2.form
  cases hk : ratOk (bs a) with
  | false =>
    try simp only [go_sem, Nat.reduceEqDiff, Nat.reduceAdd, Bool.false_eq_true, Nat.reduceBEq, ↓reduceIte, hk]
    repeat' (with_reducible refine And.intro ?_ ?_)
    all_goals first | trivial | exact bad _ _ (by unfold spOk; rw [hk]; rfl) (by unfold spCode; rw [hk]; rfl)
  | true =>
    cases hk2 : ratOk (bs b) with
    | false =>
      try simp only [go_sem, Nat.reduceEqDiff, Nat.reduceAdd, Bool.false_eq_true, Nat.reduceBEq, ↓reduceIte, hk, hk2]
      repeat' (with_reducible refine And.intro ?_ ?_)
      all_goals first | trivial | exact bad _ _ (by unfold spOk; rw [hk, hk2]; rfl) (by unfold spCode; rw [hk, hk2]; rfl)
    | true =>
      have k1 := rv_max hk
      have k2 := rv_max hk2
      rw [hk, if_pos rfl] at h1
      rw [hk2, if_pos rfl] at h2
      try simp only [go_sem, Nat.reduceEqDiff, Nat.reduceAdd, Bool.false_eq_true, Nat.reduceBEq, ↓reduceIte, hk, hk2]
      first | refine ev_call (rcmpRR_ok _ _ _ _ _ h1 h2 (by omega)) ?_ | refine ev_callP (rcmpRR_ok _ _ _ _ _ h1 h2 (by omega)) ?_
      rintro v_21 H_21 le_21 rfl _
      replace h1 := h1.le le_21
      replace h2 := h2.le le_21
      try simp only [go_sem, Nat.reduceEqDiff, Nat.reduceAdd, Bool.false_eq_true, Nat.reduceBEq, ↓reduceIte]
      rw [gt_R]
      refine ev_if (fun h => ?_) (fun h => ?_)
      · have h' : ¬ rv (bs a) ≤ rv (bs b) := by rw [Rat.not_le]; exact h
        try simp only [go_sem, Nat.reduceEqDiff, Nat.reduceAdd, Bool.false_eq_true, Nat.reduceBEq, ↓reduceIte]
        repeat' (with_reducible refine And.intro ?_ ?_)
        all_goals first | trivial | exact bad _ _ (by unfold spOk; rw [hk, hk2, decide_eq_false h']; rfl) (by unfold spCode; rw [hk, hk2, Bool.and_self, if_pos rfl, if_neg h'])
      · have h' : rv (bs a) ≤ rv (bs b) := Rat.not_lt.1 h
        try simp only [go_sem, Nat.reduceEqDiff, Nat.reduceAdd, Bool.false_eq_true, Nat.reduceBEq, ↓reduceIte]
        rw [show spOk a b = true by unfold spOk; rw [hk, hk2, decide_eq_true h']; rfl, show spCode a b = 0 by unfold spCode; rw [hk, hk2, Bool.and_self, if_pos rfl, if_pos h']]
        repeat' (with_reducible refine And.intro ?_ ?_)
        all_goals first | trivial | exact ⟨_, rfl, RSpan.mk h1 h2⟩

abbrev RatsR (H : PH) (A : Option Addr) (l : List Rat) : Prop := ArrV 3 RRat H A l
theorem lstLo_snoc (q : Rat) (l : List Rat) (x : Rat) : lstLo q (l ++ [x]) = minR (lstLo q l) x := by unfold lstLo; rw [List.foldl_append]; rfl
theorem lstHi_snoc (q : Rat) (l : List Rat) (x : Rat) : lstHi q (l ++ [x]) = maxR (lstHi q l) x := by unfold lstHi; rw [List.foldl_append]; rfl
theorem br_lst {q : Rat} {n : Nat} (hq : br q ≤ n) : ∀ (l : List Rat), (∀ x ∈ l, br x ≤ n) → br (lstLo q l) ≤ n ∧ br (lstHi q l) ≤ n := by
  intro l
  induction l generalizing q with
  | nil => intro _; exact ⟨hq, hq⟩
  | cons x l ih =>
    intro h
    unfold lstLo lstHi
    rw [List.foldl_cons, List.foldl_cons]
    have hx := h x (by simp)
    exact ⟨(ih (br_min' hq hx) fun y hy => h y (by simp [hy])).1, (ih (br_max' hq hx) fun y hy => h y (by simp [hy])).2⟩

end Go.Proofs.YtpifafenmgceoaaGreatDoor.X
set_option linter.unusedVariables false
set_option linter.unusedSimpArgs false
namespace Go.Proofs.YtpifafenmgceoaaGreatDoor.X
open Go Go.RowKit Go.Proofs

/-- a text is a number, not too long -/
def qok (a : ByteArray) : Bool := ratOk (bs a) && decide (a.size ≤ 100)
theorem qok_br {a : ByteArray} (h : qok a = true) : br (rv (bs a)) ≤ 401 ∧ ofB (rtx (rv (bs a))) = a ∧ ratOk (bs a) = true := by
  unfold qok at h
  rw [Bool.and_eq_true, decide_eq_true_eq] at h
  have := rv_br h.1
  rw [bs_length] at this
  exact ⟨by omega, by rw [rtx_rv h.1, ofB_bs], h.1⟩

theorem isQ_ok (H : PH) (va vb : Value) (q : Rat) (ha : RatV H va q) (hb : RRat H vb q) (hbp : br q ≤ 4294967000) : FnP Tryz.prog 17 [va, vb] H fun v _ => v = .bool true := by
  obtain ⟨A, l, c, b, B, m, e, rfl⟩ := ha.form
  obtain ⟨b1, A1, l1, c1, B1, m1, e1, rfl⟩ := hb.form
  refine of_cincturelaw3_Is (by simp) ?_
  try simp only [go_sem, Nat.reduceEqDiff, Nat.reduceAdd, Bool.false_eq_true, Nat.reduceBEq, ↓reduceIte, p_cincturelaw3_Is]
  first | refine ev_call (rtext_ok' _ _ _ ha hbp) ?_ | refine ev_callP (rtext_ok' _ _ _ ha hbp) ?_
  rintro v_3 H_3 le_3 rfl _
  replace hb := hb.le le_3
  try simp only [go_sem, Nat.reduceEqDiff, Nat.reduceAdd, Bool.false_eq_true, Nat.reduceBEq, ↓reduceIte]
  first | refine ev_call (rtextR_ok _ _ _ hb hbp) ?_ | refine ev_callP (rtextR_ok _ _ _ hb hbp) ?_
  rintro v_4 H_4 le_4 rfl _
  try simp only [go_sem, Nat.reduceEqDiff, Nat.reduceAdd, Bool.false_eq_true, Nat.reduceBEq, ↓reduceIte]
  refine ev_pos (by trivial) ?_
  try simp only [go_sem, Nat.reduceEqDiff, Nat.reduceAdd, Bool.false_eq_true, Nat.reduceBEq, ↓reduceIte]
  exact ⟨by trivial, by trivial⟩

/-- a number from lo to hi, made of any number -/
def wth (n lo hi : Int) : Int := lo + (if n.tmod (hi - lo + 1) < 0 then n.tmod (hi - lo + 1) + (hi - lo + 1) else n.tmod (hi - lo + 1))
theorem wth_bd {n lo hi : Int} (h : lo ≤ hi) : lo ≤ wth n lo hi ∧ wth n lo hi ≤ hi := by
  unfold wth
  have h1 := Int.lt_tmod_of_pos n (show 0 < hi - lo + 1 by omega)
  have h2 := Int.tmod_lt_of_pos n (show 0 < hi - lo + 1 by omega)
  split <;> omega

end Go.Proofs.YtpifafenmgceoaaGreatDoor.X
set_option linter.unusedVariables false
set_option linter.unusedSimpArgs false
namespace Go.Proofs.YtpifafenmgceoaaGreatDoor.X
open Go Go.RowKit Go.Proofs

/-- a number of package dyad -/
def DyadV (H : PH) (v : Value) (q : Rat) : Prop := ∃ A l c b, v = .agg #[.slice A l c, .bool b, .int .i64 (ex q)] ∧ IntV H (.agg #[.slice A l c, .bool b]) (mo q) ∧ isDy q = true
theorem DyadV.le {H H' : PH} {v : Value} {q : Rat} (h : DyadV H v q) (hl : H.le H') : DyadV H' v q := by
  obtain ⟨A, l, c, b, h1, h2, h3⟩ := h
  exact ⟨A, l, c, b, h1, h2.le hl, h3⟩
theorem DyadV.zero (H : PH) : DyadV H (.agg #[.slice none 0 0, .bool false, .int .i64 0]) 0 := ⟨none, 0, 0, false, by rw [ex_zero], by rw [mo_zero]; exact IntV.zero H, dy_zero⟩
theorem DyadV.form {H : PH} {v : Value} {q : Rat} (h : DyadV H v q) : ∃ A l c b, v = .agg #[.slice A l c, .bool b, .int .i64 (ex q)] := by
  obtain ⟨A, l, c, b, h1, _⟩ := h
  exact ⟨A, l, c, b, h1⟩
theorem aggD_inj {A A' : Option Addr} {l l' c c' : Nat} {b b' : Bool} {e e' : Int} (h : (Value.agg #[.slice A l c, .bool b, .int .i64 e]) = .agg #[.slice A' l' c', .bool b', .int .i64 e']) : A = A' ∧ l = l' ∧ c = c' ∧ b = b' ∧ e = e' := by
  simpa [and_assoc] using h
theorem DyadV.parts {H : PH} {A : Option Addr} {l c : Nat} {b : Bool} {e : Int} {q : Rat} (h : DyadV H (.agg #[.slice A l c, .bool b, .int .i64 e]) q) : IntV H (.agg #[.slice A l c, .bool b]) (mo q) ∧ e = ex q ∧ isDy q = true := by
  obtain ⟨A', l', c', b', h1, h2, h3⟩ := h
  obtain ⟨rfl, rfl, rfl, rfl, rfl⟩ := aggD_inj h1
  exact ⟨h2, rfl, h3⟩
theorem DyadV.dy {H : PH} {v : Value} {q : Rat} (h : DyadV H v q) : isDy q = true := by
  obtain ⟨A, l, c, b, h1, h2, h3⟩ := h
  exact h3
theorem clip_of {n : Int} {k : Nat} (h : n = k) (hk : k ≤ 1048576) : clip n = k := by unfold clip; omega
theorem clip_to {n : Int} (h : n ≤ 1048576) : clip n = n.toNat := by unfold clip; omega

set_option maxHeartbeats 4000000 in
theorem odd_ok (H : PH) (hT : Tab H) (v : Value) (z e : Int) (hV : IntV H v z) (hb : bi z ≤ 1000000) (h1 : -1000000000000 ≤ e) (h2 : e ≤ 1000000000000) : FnP Tryz.prog 102 [v, .int .i64 e] H fun v H' => DyadV H' v ((z : Rat) * tw e) := by
  obtain ⟨A, l, c, b, rfl⟩ := hV.form
  refine of_dyad_odd (by simp) ?_
  try simp only [go_sem, Nat.reduceEqDiff, Nat.reduceAdd, Bool.false_eq_true, Nat.reduceBEq, ↓reduceIte, p_dyad_odd]
  first | refine ev_call (wsign_ok _ _ z hV (by omega)) ?_ | refine ev_callP (wsign_ok _ _ z hV (by omega)) ?_
  rintro v_1 H_1 le_1 rfl _
  replace hV := hV.le le_1
  replace hT := hT.le le_1
  try simp only [go_sem, Nat.reduceEqDiff, Nat.reduceAdd, Bool.false_eq_true, Nat.reduceBEq, ↓reduceIte]
  refine ev_if (fun h => ?_) (fun h => ?_)
  · have hz : z = 0 := by
      unfold sgnI at h
      split at h
      · omega
      · split at h <;> omega
    subst hz
    try simp only [go_sem, Nat.reduceEqDiff, Nat.reduceAdd, Bool.false_eq_true, Nat.reduceBEq, ↓reduceIte]
    refine ⟨by trivial, ?_⟩
    rw [Rat.intCast_zero, Rat.zero_mul]
    exact DyadV.zero _
  · have hz : z ≠ 0 := fun e0 => h (by rw [e0]; rfl)
    obtain ⟨p1, p2⟩ := z_parts z e hz
    have ht : tz z.natAbs < bi z := tz_lt_bl (by omega)
    have hdy := dy_z z e
    try simp only [go_sem, Nat.reduceEqDiff, Nat.reduceAdd, Bool.false_eq_true, Nat.reduceBEq, ↓reduceIte]
    repeat' (with_reducible refine And.intro ?_ ?_)
    all_goals
      first | refine ev_call (wabs_ok _ _ z hV) ?_ | refine ev_callP (wabs_ok _ _ z hV) ?_
      rintro v_2 H_2 le_2 g1 _
      replace hV := hV.le le_2
      replace hT := hT.le le_2
      try simp only [go_sem, Nat.reduceEqDiff, Nat.reduceAdd, Bool.false_eq_true, Nat.reduceBEq, ↓reduceIte]
      obtain ⟨A1, l1, c1, rfl⟩ := g1.form
      try simp only [go_sem, Nat.reduceEqDiff, Nat.reduceAdd, Bool.false_eq_true, Nat.reduceBEq, ↓reduceIte]
      first | refine ev_call (zeros_ok _ hT _ _ g1 (show bl z.natAbs ≤ _ by unfold bi at hb; omega)) ?_ | refine ev_callP (zeros_ok _ hT _ _ g1 (show bl z.natAbs ≤ _ by unfold bi at hb; omega)) ?_
      rintro v_3 H_3 le_3 rfl _
      replace hV := hV.le le_3
      replace g1 := g1.le le_3
      try simp only [go_sem, Nat.reduceEqDiff, Nat.reduceAdd, Bool.false_eq_true, Nat.reduceBEq, ↓reduceIte]
      first | refine ev_call (wsign_ok _ _ z hV (by omega)) ?_ | refine ev_callP (wsign_ok _ _ z hV (by omega)) ?_
      rintro v_4 H_4 le_4 rfl _
      replace hV := hV.le le_4
      replace g1 := g1.le le_4
      try simp only [go_sem, Nat.reduceEqDiff, Nat.reduceAdd, Bool.false_eq_true, Nat.reduceBEq, ↓reduceIte]
      have hsz := sgnI_cases z
      repeat' (with_reducible refine And.intro ?_ ?_)
      all_goals
        by_cases hzn : z < 0
        · refine ev_pos (by unfold sgnI; rw [if_pos hzn]; decide) ?_
          try simp only [go_sem, Nat.reduceEqDiff, Nat.reduceAdd, Bool.false_eq_true, Nat.reduceBEq, ↓reduceIte]
          repeat' (with_reducible refine And.intro ?_ ?_)
          all_goals
            first | refine ev_call (wabs_ok _ _ z hV) ?_ | refine ev_callP (wabs_ok _ _ z hV) ?_
            rintro v_5 H_5 le_5 g2 _
            replace hV := hV.le le_5
            try simp only [go_sem, Nat.reduceEqDiff, Nat.reduceAdd, Bool.false_eq_true, Nat.reduceBEq, ↓reduceIte]
            obtain ⟨A2, l2, c2, rfl⟩ := g2.form
            try simp only [go_sem, Nat.reduceEqDiff, Nat.reduceAdd, Bool.false_eq_true, Nat.reduceBEq, ↓reduceIte]
            first | refine ev_call (shr_ok _ _ _ (tz z.natAbs : Nat) g2 (show bl z.natAbs ≤ _ by unfold bi at hb; omega)) ?_ | refine ev_callP (shr_ok _ _ _ (tz z.natAbs : Nat) g2 (show bl z.natAbs ≤ _ by unfold bi at hb; omega)) ?_
            rintro v_6 H_6 le_6 g3 _
            replace hV := hV.le le_6
            try simp only [go_sem, Nat.reduceEqDiff, Nat.reduceAdd, Bool.false_eq_true, Nat.reduceBEq, ↓reduceIte]
            obtain ⟨A3, l3, c3, rfl⟩ := g3.form
            try simp only [go_sem, Nat.reduceEqDiff, Nat.reduceAdd, Bool.false_eq_true, Nat.reduceBEq, ↓reduceIte]
            first | refine ev_call (from_ok _ true _ _ g3 (by have := @bl_div z.natAbs 1000000 (2 ^ clip (tz z.natAbs)) hb; omega)) ?_ | refine ev_callP (from_ok _ true _ _ g3 (by have := @bl_div z.natAbs 1000000 (2 ^ clip (tz z.natAbs)) hb; omega)) ?_
            rintro v_7 H_7 le_7 g4 _
            replace hV := hV.le le_7
            try simp only [go_sem, Nat.reduceEqDiff, Nat.reduceAdd, Bool.false_eq_true, Nat.reduceBEq, ↓reduceIte]
            obtain ⟨A4, l4, c4, b4, rfl⟩ := g4.form
            try simp only [go_sem, Nat.reduceEqDiff, Nat.reduceAdd, Bool.false_eq_true, Nat.reduceBEq, ↓reduceIte]
            rw [clip_of rfl (by omega)] at g4
            rw [w64 (e + (tz z.natAbs : Int)) (by omega) (by omega)]
            refine ⟨by trivial, _, _, _, _, by rw [p2], ?_, hdy⟩
            rw [p1, ediv_sg (Nat.two_pow_pos _) ⟨_, (tz_spec (show z.natAbs ≠ 0 by omega)).choose_spec⟩, decide_eq_true hzn]
            exact g4
        · refine ev_neg (by unfold sgnI; rw [if_neg hzn]; split <;> decide) ?_
          try simp only [go_sem, Nat.reduceEqDiff, Nat.reduceAdd, Bool.false_eq_true, Nat.reduceBEq, ↓reduceIte]
          repeat' (with_reducible refine And.intro ?_ ?_)
          all_goals
            first | refine ev_call (wabs_ok _ _ z hV) ?_ | refine ev_callP (wabs_ok _ _ z hV) ?_
            rintro v_8 H_8 le_8 g2 _
            replace hV := hV.le le_8
            try simp only [go_sem, Nat.reduceEqDiff, Nat.reduceAdd, Bool.false_eq_true, Nat.reduceBEq, ↓reduceIte]
            obtain ⟨A2, l2, c2, rfl⟩ := g2.form
            try simp only [go_sem, Nat.reduceEqDiff, Nat.reduceAdd, Bool.false_eq_true, Nat.reduceBEq, ↓reduceIte]
            first | refine ev_call (shr_ok _ _ _ (tz z.natAbs : Nat) g2 (show bl z.natAbs ≤ _ by unfold bi at hb; omega)) ?_ | refine ev_callP (shr_ok _ _ _ (tz z.natAbs : Nat) g2 (show bl z.natAbs ≤ _ by unfold bi at hb; omega)) ?_
            rintro v_9 H_9 le_9 g3 _
            replace hV := hV.le le_9
            try simp only [go_sem, Nat.reduceEqDiff, Nat.reduceAdd, Bool.false_eq_true, Nat.reduceBEq, ↓reduceIte]
            obtain ⟨A3, l3, c3, rfl⟩ := g3.form
            try simp only [go_sem, Nat.reduceEqDiff, Nat.reduceAdd, Bool.false_eq_true, Nat.reduceBEq, ↓reduceIte]
            first | refine ev_call (from_ok _ false _ _ g3 (by have := @bl_div z.natAbs 1000000 (2 ^ clip (tz z.natAbs)) hb; omega)) ?_ | refine ev_callP (from_ok _ false _ _ g3 (by have := @bl_div z.natAbs 1000000 (2 ^ clip (tz z.natAbs)) hb; omega)) ?_
            rintro v_10 H_10 le_10 g4 _
            replace hV := hV.le le_10
            try simp only [go_sem, Nat.reduceEqDiff, Nat.reduceAdd, Bool.false_eq_true, Nat.reduceBEq, ↓reduceIte]
            obtain ⟨A4, l4, c4, b4, rfl⟩ := g4.form
            try simp only [go_sem, Nat.reduceEqDiff, Nat.reduceAdd, Bool.false_eq_true, Nat.reduceBEq, ↓reduceIte]
            rw [clip_of rfl (by omega)] at g4
            rw [w64 (e + (tz z.natAbs : Int)) (by omega) (by omega)]
            refine ⟨by trivial, _, _, _, _, by rw [p2], ?_, hdy⟩
            rw [p1, ediv_sg (Nat.two_pow_pos _) ⟨_, (tz_spec (show z.natAbs ≠ 0 by omega)).choose_spec⟩, decide_eq_false hzn]
            exact g4

theorem sg_shl (z : Int) (k : Nat) : sg (decide (z < 0)) (z.natAbs * k) = z * (k : Int) := by
  conv => rhs; rw [← sg_self z]
  cases decide (z < 0)
  · rw [sg_false, sg_false, Int.natCast_mul]
  · rw [sg_true, sg_true, Int.natCast_mul, Int.neg_mul]
theorem bi_shl {z : Int} {k n : Nat} (h : bi z ≤ n) : bi (z * ((2 ^ k : Nat) : Int)) ≤ n + k := by
  unfold bi at *
  rw [Int.natAbs_mul, Int.natAbs_natCast]
  exact bl_shl h
theorem shifted_ok (H : PH) (v : Value) (z n : Int) (hV : IntV H v z) (hb : bi z ≤ 1000000000) : FnP Tryz.prog 44 [v, .int .i64 n] H fun v H' => IntV H' v (z * ((2 ^ clip n : Nat) : Int)) := by
  obtain ⟨A, l, c, b, rfl⟩ := hV.form
  have hc := clip_le n
  have h1 : bl (z.natAbs * 2 ^ clip n) ≤ 1000000000 + clip n := bl_shl hb
  refine of_dyad_shifted (by simp) ?_
  try simp only [go_sem, Nat.reduceEqDiff, Nat.reduceAdd, Bool.false_eq_true, Nat.reduceBEq, ↓reduceIte, p_dyad_shifted]
  first | refine ev_call (wsign_ok _ _ z hV (by omega)) ?_ | refine ev_callP (wsign_ok _ _ z hV (by omega)) ?_
  rintro v_11 H_11 le_11 rfl _
  replace hV := hV.le le_11
  try simp only [go_sem, Nat.reduceEqDiff, Nat.reduceAdd, Bool.false_eq_true, Nat.reduceBEq, ↓reduceIte]
  by_cases hzn : z < 0
  · refine ev_pos (by unfold sgnI; rw [if_pos hzn]; decide) ?_
    try simp only [go_sem, Nat.reduceEqDiff, Nat.reduceAdd, Bool.false_eq_true, Nat.reduceBEq, ↓reduceIte]
    first | refine ev_call (wabs_ok _ _ z hV) ?_ | refine ev_callP (wabs_ok _ _ z hV) ?_
    rintro v_12 H_12 le_12 g2 _
    replace hV := hV.le le_12
    try simp only [go_sem, Nat.reduceEqDiff, Nat.reduceAdd, Bool.false_eq_true, Nat.reduceBEq, ↓reduceIte]
    obtain ⟨A2, l2, c2, rfl⟩ := g2.form
    try simp only [go_sem, Nat.reduceEqDiff, Nat.reduceAdd, Bool.false_eq_true, Nat.reduceBEq, ↓reduceIte]
    first | refine ev_call (shl_ok _ _ _ n g2 (show bl z.natAbs ≤ _ by unfold bi at hb; omega)) ?_ | refine ev_callP (shl_ok _ _ _ n g2 (show bl z.natAbs ≤ _ by unfold bi at hb; omega)) ?_
    rintro v_13 H_13 le_13 g3 _
    replace hV := hV.le le_13
    try simp only [go_sem, Nat.reduceEqDiff, Nat.reduceAdd, Bool.false_eq_true, Nat.reduceBEq, ↓reduceIte]
    obtain ⟨A3, l3, c3, rfl⟩ := g3.form
    try simp only [go_sem, Nat.reduceEqDiff, Nat.reduceAdd, Bool.false_eq_true, Nat.reduceBEq, ↓reduceIte]
    first | refine ev_call (from_ok _ _ _ _ g3 (by omega)) ?_ | refine ev_callP (from_ok _ _ _ _ g3 (by omega)) ?_
    rintro v_14 H_14 le_14 g4 _
    replace hV := hV.le le_14
    try simp only [go_sem, Nat.reduceEqDiff, Nat.reduceAdd, Bool.false_eq_true, Nat.reduceBEq, ↓reduceIte]
    obtain ⟨A4, l4, c4, b4, rfl⟩ := g4.form
    try simp only [go_sem, Nat.reduceEqDiff, Nat.reduceAdd, Bool.false_eq_true, Nat.reduceBEq, ↓reduceIte]
    refine ⟨by trivial, ?_⟩
    rw [← sg_shl, decide_eq_true hzn]
    exact g4
  · refine ev_neg (by unfold sgnI; rw [if_neg hzn]; split <;> decide) ?_
    try simp only [go_sem, Nat.reduceEqDiff, Nat.reduceAdd, Bool.false_eq_true, Nat.reduceBEq, ↓reduceIte]
    first | refine ev_call (wabs_ok _ _ z hV) ?_ | refine ev_callP (wabs_ok _ _ z hV) ?_
    rintro v_12 H_12 le_12 g2 _
    replace hV := hV.le le_12
    try simp only [go_sem, Nat.reduceEqDiff, Nat.reduceAdd, Bool.false_eq_true, Nat.reduceBEq, ↓reduceIte]
    obtain ⟨A2, l2, c2, rfl⟩ := g2.form
    try simp only [go_sem, Nat.reduceEqDiff, Nat.reduceAdd, Bool.false_eq_true, Nat.reduceBEq, ↓reduceIte]
    first | refine ev_call (shl_ok _ _ _ n g2 (show bl z.natAbs ≤ _ by unfold bi at hb; omega)) ?_ | refine ev_callP (shl_ok _ _ _ n g2 (show bl z.natAbs ≤ _ by unfold bi at hb; omega)) ?_
    rintro v_13 H_13 le_13 g3 _
    replace hV := hV.le le_13
    try simp only [go_sem, Nat.reduceEqDiff, Nat.reduceAdd, Bool.false_eq_true, Nat.reduceBEq, ↓reduceIte]
    obtain ⟨A3, l3, c3, rfl⟩ := g3.form
    try simp only [go_sem, Nat.reduceEqDiff, Nat.reduceAdd, Bool.false_eq_true, Nat.reduceBEq, ↓reduceIte]
    first | refine ev_call (from_ok _ _ _ _ g3 (by omega)) ?_ | refine ev_callP (from_ok _ _ _ _ g3 (by omega)) ?_
    rintro v_14 H_14 le_14 g4 _
    replace hV := hV.le le_14
    try simp only [go_sem, Nat.reduceEqDiff, Nat.reduceAdd, Bool.false_eq_true, Nat.reduceBEq, ↓reduceIte]
    obtain ⟨A4, l4, c4, b4, rfl⟩ := g4.form
    try simp only [go_sem, Nat.reduceEqDiff, Nat.reduceAdd, Bool.false_eq_true, Nat.reduceBEq, ↓reduceIte]
    refine ⟨by trivial, ?_⟩
    rw [← sg_shl, decide_eq_false hzn]
    exact g4

theorem rat_val {q : Rat} (h : isDy q = true) (h1 : (ex q).natAbs ≤ 1048576) : Rat.divInt (mo q * ((2 ^ clip (ex q) : Nat) : Int)) (1 * ((2 ^ clip (-(ex q)) : Nat) : Int)) = q := by
  rw [clip_to (by omega), clip_to (by omega), Int.one_mul, Rat.divInt_ofNat, Rat.mkRat_eq_div, Rat.intCast_mul, Rat.intCast_natCast]
  conv => rhs; rw [← dy_val h]
  unfold tw
  rw [Rat.div_def, Rat.div_def, Rat.mul_assoc]
theorem ratD_ok (H : PH) (v : Value) (q : Rat) (hV : DyadV H v q) (hb : br q ≤ 1000000) : FnP Tryz.prog 19 [v] H fun v H' => RatV H' v q := by
  obtain ⟨A, l, c, b, rfl⟩ := hV.form
  obtain ⟨h1, _, h3⟩ := hV.parts
  have b1 := bi_mo q
  have b2 := ex_bd q
  have hv := rat_val h3 (by omega)
  have hc := clip_le (ex q)
  have hc2 := clip_le (-(ex q))
  refine of_dyad_Dyad_Rat (by simp) ?_
  try simp only [go_sem, Nat.reduceEqDiff, Nat.reduceAdd, Bool.false_eq_true, Nat.reduceBEq, ↓reduceIte, p_dyad_Dyad_Rat]
  rw [show IntKind.i64.wrap (0 - ex q) = -(ex q) by rw [w64 _ (by omega) (by omega)]; omega]
  repeat' (with_reducible refine And.intro ?_ ?_)
  all_goals
    first | refine ev_call (shifted_ok _ _ _ (ex q) h1 (by omega)) ?_ | refine ev_callP (shifted_ok _ _ _ (ex q) h1 (by omega)) ?_
    rintro v_15 H_15 le_15 g1 _
    try simp only [go_sem, Nat.reduceEqDiff, Nat.reduceAdd, Bool.false_eq_true, Nat.reduceBEq, ↓reduceIte]
    repeat' (with_reducible refine And.intro ?_ ?_)
    all_goals
      first | refine ev_call (wof_ok _ 1 (by decide) (by decide)) ?_ | refine ev_callP (wof_ok _ 1 (by decide) (by decide)) ?_
      rintro v_16 H_16 le_16 g2 _
      replace g1 := g1.le le_16
      try simp only [go_sem, Nat.reduceEqDiff, Nat.reduceAdd, Bool.false_eq_true, Nat.reduceBEq, ↓reduceIte]
      repeat' (with_reducible refine And.intro ?_ ?_)
      all_goals
        first | refine ev_call (shifted_ok _ _ _ (-(ex q)) g2 (by decide)) ?_ | refine ev_callP (shifted_ok _ _ _ (-(ex q)) g2 (by decide)) ?_
        rintro v_17 H_17 le_17 g3 _
        replace g1 := g1.le le_17
        try simp only [go_sem, Nat.reduceEqDiff, Nat.reduceAdd, Bool.false_eq_true, Nat.reduceBEq, ↓reduceIte]
        repeat' (with_reducible refine And.intro ?_ ?_)
        all_goals
          first | refine ev_call (rnew_ok1 _ _ _ _ _ g1 g3 (by have := @bi_shl (mo q) (clip (ex q)) _ b1; omega) (by have := @bi_shl 1 (clip (-(ex q))) 1 (by decide); omega) (by have := Nat.two_pow_pos (clip (-(ex q))); omega)) ?_ | refine ev_callP (rnew_ok1 _ _ _ _ _ g1 g3 (by have := @bi_shl (mo q) (clip (ex q)) _ b1; omega) (by have := @bi_shl 1 (clip (-(ex q))) 1 (by decide); omega) (by have := Nat.two_pow_pos (clip (-(ex q))); omega)) ?_
          rintro v_18 H_18 le_18 ⟨v9, rfl, g4⟩ _
          try simp only [go_sem, Nat.reduceEqDiff, Nat.reduceAdd, Bool.false_eq_true, Nat.reduceBEq, ↓reduceIte]
          rw [hv] at g4
          obtain ⟨A4, l4, c4, b4, B4, m4, e4, rfl⟩ := g4.form
          try simp only [go_sem, Nat.reduceEqDiff, Nat.reduceAdd, Bool.false_eq_true, Nat.reduceBEq, ↓reduceIte]
          exact ⟨by trivial, g4⟩

theorem add_val {p q : Rat} (hp : isDy p = true) (hq : isDy q = true) : (((mo p * ((2 ^ (ex p - min (ex p) (ex q)).toNat : Nat) : Int) + mo q * ((2 ^ (ex q - min (ex p) (ex q)).toNat : Nat) : Int)) : Int) : Rat) * tw (min (ex p) (ex q)) = p + q := by
  have h1 := dy_val hp
  have h2 := dy_val hq
  have e1 : tw (ex p) = tw (ex p - min (ex p) (ex q)) * tw (min (ex p) (ex q)) := by rw [← tw_add]; congr 1; omega
  have e2 : tw (ex q) = tw (ex q - min (ex p) (ex q)) * tw (min (ex p) (ex q)) := by rw [← tw_add]; congr 1; omega
  obtain ⟨n1, hn1⟩ : ∃ n : Nat, ex p - min (ex p) (ex q) = n := ⟨(ex p - min (ex p) (ex q)).toNat, by omega⟩
  obtain ⟨n2, hn2⟩ : ∃ n : Nat, ex q - min (ex p) (ex q) = n := ⟨(ex q - min (ex p) (ex q)).toNat, by omega⟩
  rw [show (ex p - min (ex p) (ex q)).toNat = n1 by omega, show (ex q - min (ex p) (ex q)).toNat = n2 by omega]
  rw [Rat.intCast_add, Rat.intCast_mul, Rat.intCast_mul, Rat.intCast_natCast, Rat.intCast_natCast, ← tw_nat, ← tw_nat, ← hn1, ← hn2]
  conv => rhs; rw [← h1, ← h2, e1, e2]
  grind

theorem dneg_mk {H : PH} {A : Option Addr} {l c : Nat} {b : Bool} {q : Rat} (h : IntV H (.agg #[.slice A l c, .bool b]) (-(mo q))) (hd : isDy q = true) : DyadV H (.agg #[.slice A l c, .bool b, .int .i64 (ex q)]) (-q) :=
  ⟨A, l, c, b, by rw [ex_neg], by rw [mo_neg]; exact h, dy_neg hd⟩
/-- the exponent as New takes it -/
def nx (e : Int) : Int := min (max e (-4096)) 4096
theorem dy_num {q : Rat} (h : isDy q = true) : (q.num : Rat) * tw (-(tz q.den : Int)) = q := by
  obtain ⟨k, hk⟩ := isDy_den.1 h
  have ht : tz q.den = k := by rw [hk]; exact tz_uniq (m := 0) (by omega)
  conv => rhs; rw [num_den q, hk]
  rw [ht]
  unfold tw
  rw [show (-(k : Int)).toNat = 0 by omega, show (-(-(k : Int))).toNat = k by omega]
  rw [Nat.pow_zero, Rat.div_def, Rat.div_def]
  simp
end Go.Proofs.YtpifafenmgceoaaGreatDoor.X
set_option linter.unusedVariables false
set_option linter.unusedSimpArgs false
namespace Go.Proofs.YtpifafenmgceoaaGreatDoor.X
open Go Go.RowKit Go.Proofs

set_option maxHeartbeats 8000000 in
theorem near_ok (H : PH) (hT : Tab H) (v : Value) (q : Rat) (n : Nat) (up : Bool) (hV : RatV H v q) (h0 : 0 < q) (hn : 1 ≤ n) (hn2 : n ≤ 4096) (hb : br q ≤ 100000) : FnP Tryz.prog 80 [v, .int .i64 (n : Int), .bool up] H fun v H' => DyadV H' v (nearR q n up) := by
  obtain ⟨A, l, c, b, B, m, e, rfl⟩ := hV.form
  have k1 := bi_br q
  have k2 := bl_br q
  have k3 := e0_abs q n
  have k4 := e1_abs q n
  have k5 := nq_pos h0 (e0 q n)
  refine of_dyad_near (by simp) ?_
  try simp only [go_sem, Nat.reduceEqDiff, Nat.reduceAdd, Bool.false_eq_true, Nat.reduceBEq, ↓reduceIte, p_dyad_near]
  refine ev_cut (fun s => ∃ H' A1 l1 c1 b1 A2 l2 c2 b2, Tab H' ∧ RatV H' (.agg #[.slice A l c, .bool b, .slice B m e]) q ∧ IntV H' (.agg #[.slice A1 l1 c1, .bool b1]) q.num ∧ IntV H' (.agg #[.slice A2 l2 c2, .bool b2]) q.den ∧
    s = ⟨[(8, .ptr 8 0), (7, .ptr 7 0), (6, .ptr 6 0), (3, .ptr 3 0), (2, .v (.bool up)), (1, .v (.int .i64 (n : Int)))], [(8, [.slice A2 l2 c2, .bool b2]), (7, [.slice A1 l1 c1, .bool b1]), (6, [.slice none 0 0, .bool false, .int .i64 0]), (3, [.slice A l c, .bool b, .slice B m e])], H', PH.no⟩) ?_ ?_
  · try simp only [go_sem, Nat.reduceEqDiff, Nat.reduceAdd, Bool.false_eq_true, Nat.reduceBEq, ↓reduceIte]
    repeat' (with_reducible refine And.intro ?_ ?_)
    all_goals
      first | refine ev_call (rnum_ok _ _ q hV) ?_ | refine ev_callP (rnum_ok _ _ q hV) ?_
      rintro v_1 H_1 le_1 g1 _
      replace hV := hV.le le_1
      replace hT := hT.le le_1
      try simp only [go_sem, Nat.reduceEqDiff, Nat.reduceAdd, Bool.false_eq_true, Nat.reduceBEq, ↓reduceIte]
      repeat' (with_reducible refine And.intro ?_ ?_)
      all_goals
        first | refine ev_call (rden_ok _ _ q hV (by omega)) ?_ | refine ev_callP (rden_ok _ _ q hV (by omega)) ?_
        rintro v_2 H_2 le_2 g2 _
        replace hV := hV.le le_2
        replace hT := hT.le le_2
        replace g1 := g1.le le_2
        try simp only [go_sem, Nat.reduceEqDiff, Nat.reduceAdd, Bool.false_eq_true, Nat.reduceBEq, ↓reduceIte]
        obtain ⟨A1, l1, c1, b1, rfl⟩ := g1.form
        obtain ⟨A2, l2, c2, b2, rfl⟩ := g2.form
        try simp only [go_sem, Nat.reduceEqDiff, Nat.reduceAdd, Bool.false_eq_true, Nat.reduceBEq, ↓reduceIte]
        repeat' (with_reducible refine And.intro ?_ ?_)
        all_goals exact k_cut _ ⟨_, _, _, _, _, _, _, _, _, hT, hV, g1, g2, rfl⟩ ⟨rfl, by simp only [go_sem, Nat.reduceEqDiff, Nat.reduceAdd, Bool.false_eq_true, Nat.reduceBEq, ↓reduceIte, and_self, Option.some.injEq, SV.v.injEq, SV.ptr.injEq, Value.int.injEq, Value.bool.injEq, Value.slice.injEq, true_and, and_true] <;> (repeat' apply And.intro) <;> first | rfl | omega | (simp (disch := omega) only [w64, wu64, wu32, wu8] <;> omega), by simp only [go_sem, Nat.reduceEqDiff, Nat.reduceAdd, Bool.false_eq_true, Nat.reduceBEq, ↓reduceIte, and_self, Option.some.injEq, SV.v.injEq, SV.ptr.injEq, Value.int.injEq, Value.bool.injEq, Value.slice.injEq, true_and, and_true] <;> (repeat' apply And.intro) <;> rfl, rfl, PH.le.refl _⟩
  · rintro s ⟨H2, A1, l1, c1, b1, A2, l2, c2, b2, hT, hV, h1, h2, rfl⟩
    try simp only [go_sem, Nat.reduceEqDiff, Nat.reduceAdd, Bool.false_eq_true, Nat.reduceBEq, ↓reduceIte]
    first | refine ev_call (wabs_ok _ _ _ h1) ?_ | refine ev_callP (wabs_ok _ _ _ h1) ?_
    rintro v_3 H_3 le_3 g1 _
    replace hV := hV.le le_3
    replace hT := hT.le le_3
    replace h1 := h1.le le_3
    replace h2 := h2.le le_3
    try simp only [go_sem, Nat.reduceEqDiff, Nat.reduceAdd, Bool.false_eq_true, Nat.reduceBEq, ↓reduceIte]
    obtain ⟨A3, l3, c3, rfl⟩ := g1.form
    try simp only [go_sem, Nat.reduceEqDiff, Nat.reduceAdd, Bool.false_eq_true, Nat.reduceBEq, ↓reduceIte]
    first | refine ev_call (nbits_ok _ _ _ g1 (show bl q.num.natAbs ≤ _ by unfold bi at k1; omega)) ?_ | refine ev_callP (nbits_ok _ _ _ g1 (show bl q.num.natAbs ≤ _ by unfold bi at k1; omega)) ?_
    rintro v_4 H_4 le_4 rfl _
    replace hV := hV.le le_4
    replace hT := hT.le le_4
    replace h1 := h1.le le_4
    replace h2 := h2.le le_4
    try simp only [go_sem, Nat.reduceEqDiff, Nat.reduceAdd, Bool.false_eq_true, Nat.reduceBEq, ↓reduceIte]
    first | refine ev_call (wabs_ok _ _ _ h2) ?_ | refine ev_callP (wabs_ok _ _ _ h2) ?_
    rintro v_5 H_5 le_5 g2 _
    replace hV := hV.le le_5
    replace hT := hT.le le_5
    replace h1 := h1.le le_5
    replace h2 := h2.le le_5
    try simp only [go_sem, Nat.reduceEqDiff, Nat.reduceAdd, Bool.false_eq_true, Nat.reduceBEq, ↓reduceIte]
    obtain ⟨A4, l4, c4, rfl⟩ := g2.form
    rw [Int.natAbs_natCast] at g2
    try simp only [go_sem, Nat.reduceEqDiff, Nat.reduceAdd, Bool.false_eq_true, Nat.reduceBEq, ↓reduceIte]
    first | refine ev_call (nbits_ok _ _ _ g2 (by omega)) ?_ | refine ev_callP (nbits_ok _ _ _ g2 (by omega)) ?_
    rintro v_6 H_6 le_6 rfl _
    replace hV := hV.le le_6
    replace hT := hT.le le_6
    replace h1 := h1.le le_6
    replace h2 := h2.le le_6
    try simp only [go_sem, Nat.reduceEqDiff, Nat.reduceAdd, Bool.false_eq_true, Nat.reduceBEq, ↓reduceIte]
    have he : IntKind.i64.wrap (IntKind.i64.wrap ((bl q.num.natAbs : Int) - (bl q.den : Int)) - (n : Int)) = e0 q n := by
      unfold bi at k1
      rw [w64 ((bl q.num.natAbs : Int) - (bl q.den : Int)) (by omega) (by omega), w64 _ (by omega) (by omega)]
      rfl
    rw [he]
    refine ev_cut (fun s => ∃ H' A5 l5 c5 b5, Tab H' ∧ RatV H' (.agg #[.slice A l c, .bool b, .slice B m e]) q ∧ IntV H' (.agg #[.slice A5 l5 c5, .bool b5]) (nq q (e0 q n)) ∧
      s = ⟨[(10, .ptr 10 0), (9, .v (.int .i64 (e0 q n))), (6, .ptr 6 0), (3, .ptr 3 0), (2, .v (.bool up)), (1, .v (.int .i64 (n : Int)))], [(10, [.slice A5 l5 c5, .bool b5]), (6, [.slice none 0 0, .bool false, .int .i64 0]), (3, [.slice A l c, .bool b, .slice B m e])], H', PH.no⟩) ?_ ?_
    · try simp only [go_sem, Nat.reduceEqDiff, Nat.reduceAdd, Bool.false_eq_true, Nat.reduceBEq, ↓reduceIte]
      have hneg : IntKind.i64.wrap (0 - e0 q n) = -(e0 q n) := by rw [w64 _ (by omega) (by omega)]; omega
      rw [hneg]
      have c1 := clip_to (show -(e0 q n) ≤ 1048576 by omega)
      have c2 := clip_to (show e0 q n ≤ 1048576 by omega)
      have hc1 := clip_le (-(e0 q n))
      have hc2 := clip_le (e0 q n)
      have s1 := @bi_shl q.num (clip (-(e0 q n))) _ k1
      have s2 := @bi_shl (q.den : Int) (clip (e0 q n)) _ (show bi (q.den : Int) ≤ br q by rw [bi_cast]; exact k2)
      have hdp := q.den_pos
      have hpp := Nat.two_pow_pos (clip (e0 q n))
      have hw0 : (q.den : Int) * ((2 ^ clip (e0 q n) : Nat) : Int) ≠ 0 := Int.mul_ne_zero (by omega) (by omega)
      have hq := nq_fdiv q (e0 q n)
      rw [← c1, ← c2] at hq
      repeat' (with_reducible refine And.intro ?_ ?_)
      all_goals
        first | refine ev_call (shifted_ok _ _ _ (-(e0 q n)) h1 (by omega)) ?_ | refine ev_callP (shifted_ok _ _ _ (-(e0 q n)) h1 (by omega)) ?_
        rintro v_7 H_7 le_7 g3 _
        replace hV := hV.le le_7
        replace hT := hT.le le_7
        replace h1 := h1.le le_7
        replace h2 := h2.le le_7
        try simp only [go_sem, Nat.reduceEqDiff, Nat.reduceAdd, Bool.false_eq_true, Nat.reduceBEq, ↓reduceIte]
        repeat' (with_reducible refine And.intro ?_ ?_)
        all_goals
          first | refine ev_call (shifted_ok _ _ _ (e0 q n) h2 (by rw [bi_cast]; omega)) ?_ | refine ev_callP (shifted_ok _ _ _ (e0 q n) h2 (by rw [bi_cast]; omega)) ?_
          rintro v_8 H_8 le_8 g4 _
          replace hV := hV.le le_8
          replace hT := hT.le le_8
          replace g3 := g3.le le_8
          try simp only [go_sem, Nat.reduceEqDiff, Nat.reduceAdd, Bool.false_eq_true, Nat.reduceBEq, ↓reduceIte]
          repeat' (with_reducible refine And.intro ?_ ?_)
          all_goals
            first | refine ev_call (wdiv_ok1 _ _ _ _ _ g3 g4 (by omega) (by omega) hw0) ?_ | refine ev_callP (wdiv_ok1 _ _ _ _ _ g3 g4 (by omega) (by omega) hw0) ?_
            rintro v_9 H_9 le_9 ⟨vq, vr, rfl, g5, g6⟩ _
            replace hV := hV.le le_9
            replace hT := hT.le le_9
            try simp only [go_sem, Nat.reduceEqDiff, Nat.reduceAdd, Bool.false_eq_true, Nat.reduceBEq, ↓reduceIte]
            rw [hq] at g5
            obtain ⟨A5, l5, c5, b5, rfl⟩ := g5.form
            obtain ⟨A6, l6, c6, b6, rfl⟩ := g6.form
            try simp only [go_sem, Nat.reduceEqDiff, Nat.reduceAdd, Bool.false_eq_true, Nat.reduceBEq, ↓reduceIte]
            repeat' (with_reducible refine And.intro ?_ ?_)
            all_goals exact k_cut _ ⟨_, _, _, _, _, hT, hV, g5, rfl⟩ ⟨rfl, by simp only [go_sem, Nat.reduceEqDiff, Nat.reduceAdd, Bool.false_eq_true, Nat.reduceBEq, ↓reduceIte, and_self, Option.some.injEq, SV.v.injEq, SV.ptr.injEq, Value.int.injEq, Value.bool.injEq, Value.slice.injEq, true_and, and_true] <;> (repeat' apply And.intro) <;> first | rfl | omega | (simp (disch := omega) only [w64, wu64, wu32, wu8] <;> omega), by simp only [go_sem, Nat.reduceEqDiff, Nat.reduceAdd, Bool.false_eq_true, Nat.reduceBEq, ↓reduceIte, and_self, Option.some.injEq, SV.v.injEq, SV.ptr.injEq, Value.int.injEq, Value.bool.injEq, Value.slice.injEq, true_and, and_true] <;> (repeat' apply And.intro) <;> rfl, rfl, PH.le.refl _⟩
    · rintro s ⟨H3, A5, l5, c5, b5, hT, hV, h3, rfl⟩
      have q2 : nq q (e1 q n) < ((2 ^ n : Nat) : Int) := nq_lt.2 (by rw [p2_tw]; exact (e1_at h0 n).2)
      have q3 := nq_pos h0 (e1 q n)
      have hbq : bi (nq q (e1 q n)) ≤ n := by unfold bi; rw [bl_le_iff]; omega
      have hstep := near_step q (e1 q n)
      have hbn : br ((nq q (e1 q n) : Rat) * tw (e1 q n)) ≤ br q + 2 * n + 6 := br_near h0 hn false
      try simp only [go_sem, Nat.reduceEqDiff, Nat.reduceAdd, Bool.false_eq_true, Nat.reduceBEq, ↓reduceIte]
      first | refine ev_call (wabs_ok _ _ _ h3) ?_ | refine ev_callP (wabs_ok _ _ _ h3) ?_
      rintro v_16 H_16 le_16 g3 _
      replace hV := hV.le le_16
      replace hT := hT.le le_16
      replace h3 := h3.le le_16
      try simp only [go_sem, Nat.reduceEqDiff, Nat.reduceAdd, Bool.false_eq_true, Nat.reduceBEq, ↓reduceIte]
      obtain ⟨A6, l6, c6, rfl⟩ := g3.form
      have s4 : bl (nq q (e0 q n)).natAbs ≤ n + 1 := (nq_bl h0 _ _).2 (by rw [show e0 q n + ((n + 1 : Nat) : Int) = e0 q n + n + 1 by omega]; exact (e0_bd h0 n).2)
      try simp only [go_sem, Nat.reduceEqDiff, Nat.reduceAdd, Bool.false_eq_true, Nat.reduceBEq, ↓reduceIte]
      first | refine ev_call (nbits_ok _ _ _ g3 (by omega)) ?_ | refine ev_callP (nbits_ok _ _ _ g3 (by omega)) ?_
      rintro v_17 H_17 le_17 rfl _
      replace hV := hV.le le_17
      replace hT := hT.le le_17
      replace h3 := h3.le le_17
      try simp only [go_sem, Nat.reduceEqDiff, Nat.reduceAdd, Bool.false_eq_true, Nat.reduceBEq, ↓reduceIte]
      refine ev_if (fun h => ?_) (fun h => ?_)
      · have hee : e1 q n = e0 q n + 1 := by unfold e1; rw [if_neg (by omega)]
        try simp only [go_sem, Nat.reduceEqDiff, Nat.reduceAdd, Bool.false_eq_true, Nat.reduceBEq, ↓reduceIte]
        first | refine ev_call (wabs_ok _ _ _ h3) ?_ | refine ev_callP (wabs_ok _ _ _ h3) ?_
        rintro v_18 H_18 le_18 g4 _
        replace hV := hV.le le_18
        replace hT := hT.le le_18
        try simp only [go_sem, Nat.reduceEqDiff, Nat.reduceAdd, Bool.false_eq_true, Nat.reduceBEq, ↓reduceIte]
        obtain ⟨A6, l6, c6, rfl⟩ := g4.form
        try simp only [go_sem, Nat.reduceEqDiff, Nat.reduceAdd, Bool.false_eq_true, Nat.reduceBEq, ↓reduceIte]
        first | refine ev_call (shr_ok _ _ _ 1 g4 (by omega)) ?_ | refine ev_callP (shr_ok _ _ _ 1 g4 (by omega)) ?_
        rintro v_19 H_19 le_19 g5 _
        replace hV := hV.le le_19
        replace hT := hT.le le_19
        try simp only [go_sem, Nat.reduceEqDiff, Nat.reduceAdd, Bool.false_eq_true, Nat.reduceBEq, ↓reduceIte]
        obtain ⟨A6, l6, c6, rfl⟩ := g5.form
        have s7 := @bl_div (nq q (e0 q n)).natAbs (n + 1) (2 ^ clip 1) s4
        try simp only [go_sem, Nat.reduceEqDiff, Nat.reduceAdd, Bool.false_eq_true, Nat.reduceBEq, ↓reduceIte]
        first | refine ev_call (from_ok _ false _ _ g5 (by omega)) ?_ | refine ev_callP (from_ok _ false _ _ g5 (by omega)) ?_
        rintro v_20 H_20 le_20 g9 _
        replace hV := hV.le le_20
        replace hT := hT.le le_20
        try simp only [go_sem, Nat.reduceEqDiff, Nat.reduceAdd, Bool.false_eq_true, Nat.reduceBEq, ↓reduceIte]
        obtain ⟨A6, l6, c6, b6, rfl⟩ := g9.form
        have hv : sg false ((nq q (e0 q n)).natAbs / 2 ^ clip 1) = nq q (e1 q n) := by
          rw [hee, nq_half, sg_false, show clip 1 = 1 by decide]
          omega
        rw [hv] at g9
        try simp only [go_sem, Nat.reduceEqDiff, Nat.reduceAdd, Bool.false_eq_true, Nat.reduceBEq, ↓reduceIte]
        rw [w64 (e0 q n + 1) (by omega) (by omega), ← hee]
        try simp only [go_sem, Nat.reduceEqDiff, Nat.reduceAdd, Bool.false_eq_true, Nat.reduceBEq, ↓reduceIte]
        first | refine ev_call (odd_ok _ hT _ _ (e1 q n) g9 (by omega) (by omega) (by omega)) ?_ | refine ev_callP (odd_ok _ hT _ _ (e1 q n) g9 (by omega) (by omega) (by omega)) ?_
        rintro v_10 H_10 le_10 g10 _
        replace hV := hV.le le_10
        replace hT := hT.le le_10
        replace g9 := g9.le le_10
        try simp only [go_sem, Nat.reduceEqDiff, Nat.reduceAdd, Bool.false_eq_true, Nat.reduceBEq, ↓reduceIte]
        obtain ⟨A7, l7, c7, b7, rfl⟩ := g10.form
        try simp only [go_sem, Nat.reduceEqDiff, Nat.reduceAdd, Bool.false_eq_true, Nat.reduceBEq, ↓reduceIte]
        cases up with
        | false =>
          try simp only [go_sem, Nat.reduceEqDiff, Nat.reduceAdd, Bool.false_eq_true, Nat.reduceBEq, ↓reduceIte]
          exact ⟨by trivial, g10⟩
        | true =>
          try simp only [go_sem, Nat.reduceEqDiff, Nat.reduceAdd, Bool.false_eq_true, Nat.reduceBEq, ↓reduceIte]
          first | refine ev_call (ratD_ok _ _ _ g10 (by omega)) ?_ | refine ev_callP (ratD_ok _ _ _ g10 (by omega)) ?_
          rintro v_11 H_11 le_11 g11 _
          replace hV := hV.le le_11
          replace hT := hT.le le_11
          replace g9 := g9.le le_11
          replace g10 := g10.le le_11
          try simp only [go_sem, Nat.reduceEqDiff, Nat.reduceAdd, Bool.false_eq_true, Nat.reduceBEq, ↓reduceIte]
          first | refine ev_call (rcmpR_ok _ _ _ _ q g11 hV (by omega)) ?_ | refine ev_callP (rcmpR_ok _ _ _ _ q g11 hV (by omega)) ?_
          rintro v_12 H_12 le_12 rfl _
          replace hT := hT.le le_12
          replace g9 := g9.le le_12
          replace g10 := g10.le le_12
          try simp only [go_sem, Nat.reduceEqDiff, Nat.reduceAdd, Bool.false_eq_true, Nat.reduceBEq, ↓reduceIte]
          rw [near_up, hstep]
          refine ev_if (fun h => ?_) (fun h => ?_)
          · have hlt : (nq q (e1 q n) : Rat) * tw (e1 q n) < q := by
              unfold cmpR at h
              split at h
              · assumption
              · split at h <;> omega
            rw [if_pos hlt]
            try simp only [go_sem, Nat.reduceEqDiff, Nat.reduceAdd, Bool.false_eq_true, Nat.reduceBEq, ↓reduceIte]
            first | refine ev_call (wof_ok _ 1 (by decide) (by decide)) ?_ | refine ev_callP (wof_ok _ 1 (by decide) (by decide)) ?_
            rintro v_13 H_13 le_13 g12 _
            replace hT := hT.le le_13
            replace g9 := g9.le le_13
            try simp only [go_sem, Nat.reduceEqDiff, Nat.reduceAdd, Bool.false_eq_true, Nat.reduceBEq, ↓reduceIte]
            have s5 := bi_add (nq q (e1 q n)) 1
            have s6 : bi 1 = 1 := rfl
            first | refine ev_call (wadd_ok _ _ _ _ _ g9 g12 (by omega) (by decide)) ?_ | refine ev_callP (wadd_ok _ _ _ _ _ g9 g12 (by omega) (by decide)) ?_
            rintro v_14 H_14 le_14 g13 _
            replace hT := hT.le le_14
            try simp only [go_sem, Nat.reduceEqDiff, Nat.reduceAdd, Bool.false_eq_true, Nat.reduceBEq, ↓reduceIte]
            first | refine ev_call (odd_ok _ hT _ _ (e1 q n) g13 (by omega) (by omega) (by omega)) ?_ | refine ev_callP (odd_ok _ hT _ _ (e1 q n) g13 (by omega) (by omega) (by omega)) ?_
            rintro v_15 H_15 le_15 g14 _
            try simp only [go_sem, Nat.reduceEqDiff, Nat.reduceAdd, Bool.false_eq_true, Nat.reduceBEq, ↓reduceIte]
            obtain ⟨A8, l8, c8, b8, rfl⟩ := g14.form
            try simp only [go_sem, Nat.reduceEqDiff, Nat.reduceAdd, Bool.false_eq_true, Nat.reduceBEq, ↓reduceIte]
            exact ⟨by trivial, g14⟩
          · have hlt : ¬ (nq q (e1 q n) : Rat) * tw (e1 q n) < q := fun hl => h (by rw [cmpR_lt hl]; decide)
            rw [if_neg hlt]
            try simp only [go_sem, Nat.reduceEqDiff, Nat.reduceAdd, Bool.false_eq_true, Nat.reduceBEq, ↓reduceIte]
            exact ⟨by trivial, g10⟩
      · have hee : e0 q n = e1 q n := by unfold e1; rw [if_pos (by omega)]
        rw [hee] at h3
        have g9 := h3
        try simp only [go_sem, Nat.reduceEqDiff, Nat.reduceAdd, Bool.false_eq_true, Nat.reduceBEq, ↓reduceIte]
        rw [hee]
        try simp only [go_sem, Nat.reduceEqDiff, Nat.reduceAdd, Bool.false_eq_true, Nat.reduceBEq, ↓reduceIte]
        first | refine ev_call (odd_ok _ hT _ _ (e1 q n) g9 (by omega) (by omega) (by omega)) ?_ | refine ev_callP (odd_ok _ hT _ _ (e1 q n) g9 (by omega) (by omega) (by omega)) ?_
        rintro v_10 H_10 le_10 g10 _
        replace hV := hV.le le_10
        replace hT := hT.le le_10
        replace g9 := g9.le le_10
        try simp only [go_sem, Nat.reduceEqDiff, Nat.reduceAdd, Bool.false_eq_true, Nat.reduceBEq, ↓reduceIte]
        obtain ⟨A7, l7, c7, b7, rfl⟩ := g10.form
        try simp only [go_sem, Nat.reduceEqDiff, Nat.reduceAdd, Bool.false_eq_true, Nat.reduceBEq, ↓reduceIte]
        cases up with
        | false =>
          try simp only [go_sem, Nat.reduceEqDiff, Nat.reduceAdd, Bool.false_eq_true, Nat.reduceBEq, ↓reduceIte]
          exact ⟨by trivial, g10⟩
        | true =>
          try simp only [go_sem, Nat.reduceEqDiff, Nat.reduceAdd, Bool.false_eq_true, Nat.reduceBEq, ↓reduceIte]
          first | refine ev_call (ratD_ok _ _ _ g10 (by omega)) ?_ | refine ev_callP (ratD_ok _ _ _ g10 (by omega)) ?_
          rintro v_11 H_11 le_11 g11 _
          replace hV := hV.le le_11
          replace hT := hT.le le_11
          replace g9 := g9.le le_11
          replace g10 := g10.le le_11
          try simp only [go_sem, Nat.reduceEqDiff, Nat.reduceAdd, Bool.false_eq_true, Nat.reduceBEq, ↓reduceIte]
          first | refine ev_call (rcmpR_ok _ _ _ _ q g11 hV (by omega)) ?_ | refine ev_callP (rcmpR_ok _ _ _ _ q g11 hV (by omega)) ?_
          rintro v_12 H_12 le_12 rfl _
          replace hT := hT.le le_12
          replace g9 := g9.le le_12
          replace g10 := g10.le le_12
          try simp only [go_sem, Nat.reduceEqDiff, Nat.reduceAdd, Bool.false_eq_true, Nat.reduceBEq, ↓reduceIte]
          rw [near_up, hstep]
          refine ev_if (fun h => ?_) (fun h => ?_)
          · have hlt : (nq q (e1 q n) : Rat) * tw (e1 q n) < q := by
              unfold cmpR at h
              split at h
              · assumption
              · split at h <;> omega
            rw [if_pos hlt]
            try simp only [go_sem, Nat.reduceEqDiff, Nat.reduceAdd, Bool.false_eq_true, Nat.reduceBEq, ↓reduceIte]
            first | refine ev_call (wof_ok _ 1 (by decide) (by decide)) ?_ | refine ev_callP (wof_ok _ 1 (by decide) (by decide)) ?_
            rintro v_13 H_13 le_13 g12 _
            replace hT := hT.le le_13
            replace g9 := g9.le le_13
            try simp only [go_sem, Nat.reduceEqDiff, Nat.reduceAdd, Bool.false_eq_true, Nat.reduceBEq, ↓reduceIte]
            have s5 := bi_add (nq q (e1 q n)) 1
            have s6 : bi 1 = 1 := rfl
            first | refine ev_call (wadd_ok _ _ _ _ _ g9 g12 (by omega) (by decide)) ?_ | refine ev_callP (wadd_ok _ _ _ _ _ g9 g12 (by omega) (by decide)) ?_
            rintro v_14 H_14 le_14 g13 _
            replace hT := hT.le le_14
            try simp only [go_sem, Nat.reduceEqDiff, Nat.reduceAdd, Bool.false_eq_true, Nat.reduceBEq, ↓reduceIte]
            first | refine ev_call (odd_ok _ hT _ _ (e1 q n) g13 (by omega) (by omega) (by omega)) ?_ | refine ev_callP (odd_ok _ hT _ _ (e1 q n) g13 (by omega) (by omega) (by omega)) ?_
            rintro v_15 H_15 le_15 g14 _
            try simp only [go_sem, Nat.reduceEqDiff, Nat.reduceAdd, Bool.false_eq_true, Nat.reduceBEq, ↓reduceIte]
            obtain ⟨A8, l8, c8, b8, rfl⟩ := g14.form
            try simp only [go_sem, Nat.reduceEqDiff, Nat.reduceAdd, Bool.false_eq_true, Nat.reduceBEq, ↓reduceIte]
            exact ⟨by trivial, g14⟩
          · have hlt : ¬ (nq q (e1 q n) : Rat) * tw (e1 q n) < q := fun hl => h (by rw [cmpR_lt hl]; decide)
            rw [if_neg hlt]
            try simp only [go_sem, Nat.reduceEqDiff, Nat.reduceAdd, Bool.false_eq_true, Nat.reduceBEq, ↓reduceIte]
            exact ⟨by trivial, g10⟩

/-- the number of digits as it is taken -/
def cb (n : Int) : Nat := (min (max n 1) 4096).toNat
theorem cb_bd (n : Int) : 1 ≤ cb n ∧ cb n ≤ 4096 := by unfold cb; omega
theorem round_ok (H : PH) (hT : Tab H) (v : Value) (q : Rat) (n : Int) (up : Bool) (hV : RatV H v q) (hb : br q ≤ 100000) : FnP Tryz.prog 42 [v, .int .i64 n, .bool up] H fun v H' => DyadV H' v (rndR q (cb n) up) := by
  obtain ⟨A, l, c, b, B, m, e, rfl⟩ := hV.form
  obtain ⟨hc1, hc2⟩ := cb_bd n
  refine of_dyad_round (by simp) ?_
  try simp only [go_sem, Nat.reduceEqDiff, Nat.reduceAdd, Bool.false_eq_true, Nat.reduceBEq, ↓reduceIte, p_dyad_round]
  rw [show (if 4096 < (if n < 1 then 1 else n) then 4096 else (if n < 1 then 1 else n)) = ((cb n : Nat) : Int) by unfold cb; split <;> (try split) <;> omega]
  first | refine ev_call (rsgn_ok _ _ q hV (by omega)) ?_ | refine ev_callP (rsgn_ok _ _ q hV (by omega)) ?_
  rintro v_21 H_21 le_21 rfl _
  replace hV := hV.le le_21
  replace hT := hT.le le_21
  try simp only [go_sem, Nat.reduceEqDiff, Nat.reduceAdd, Bool.false_eq_true, Nat.reduceBEq, ↓reduceIte]
  rw [sgnI_R]
  rcases cmpR_cases q 0 with h | h | h
  · rw [h.2]
    refine ev_neg (by decide) ?_
    try simp only [go_sem, Nat.reduceEqDiff, Nat.reduceAdd, Bool.false_eq_true, Nat.reduceBEq, ↓reduceIte]
    refine ev_pos (by decide) ?_
    try simp only [go_sem, Nat.reduceEqDiff, Nat.reduceAdd, Bool.false_eq_true, Nat.reduceBEq, ↓reduceIte]
    first | refine ev_call (rneg'_ok _ _ q hV (by omega)) ?_ | refine ev_callP (rneg'_ok _ _ q hV (by omega)) ?_
    rintro v_22 H_22 le_22 g1 _
    replace hT := hT.le le_22
    try simp only [go_sem, Nat.reduceEqDiff, Nat.reduceAdd, Bool.false_eq_true, Nat.reduceBEq, ↓reduceIte]
    first | refine ev_call (near_ok _ hT _ (-q) (cb n) (!up) g1 (by have := h.1; grind) hc1 hc2 (by rw [br_neg]; exact hb)) ?_ | refine ev_callP (near_ok _ hT _ (-q) (cb n) (!up) g1 (by have := h.1; grind) hc1 hc2 (by rw [br_neg]; exact hb)) ?_
    rintro v_23 H_23 le_23 g2 _
    replace hT := hT.le le_23
    try simp only [go_sem, Nat.reduceEqDiff, Nat.reduceAdd, Bool.false_eq_true, Nat.reduceBEq, ↓reduceIte]
    obtain ⟨A2, l2, c2, b2, rfl⟩ := g2.form
    obtain ⟨h1, _, h2⟩ := g2.parts
    have hbn := br_near (a := -q) (by have := h.1; grind) hc1 (!up)
    rw [br_neg] at hbn
    have k1 := bi_mo (nearR (-q) (cb n) (!up))
    try simp only [go_sem, Nat.reduceEqDiff, Nat.reduceAdd, Bool.false_eq_true, Nat.reduceBEq, ↓reduceIte]
    first | refine ev_call (wneg_ok _ _ _ h1 (by omega)) ?_ | refine ev_callP (wneg_ok _ _ _ h1 (by omega)) ?_
    rintro v_24 H_24 le_24 g3 _
    try simp only [go_sem, Nat.reduceEqDiff, Nat.reduceAdd, Bool.false_eq_true, Nat.reduceBEq, ↓reduceIte]
    obtain ⟨A3, l3, c3, b3, rfl⟩ := g3.form
    try simp only [go_sem, Nat.reduceEqDiff, Nat.reduceAdd, Bool.false_eq_true, Nat.reduceBEq, ↓reduceIte]
    rw [rnd_lt h.1]
    exact ⟨by trivial, dneg_mk g3 h2⟩
  · rw [h.2]
    refine ev_pos (by decide) ?_
    try simp only [go_sem, Nat.reduceEqDiff, Nat.reduceAdd, Bool.false_eq_true, Nat.reduceBEq, ↓reduceIte]
    rw [h.1, rnd_zero]
    exact ⟨by trivial, DyadV.zero _⟩
  · rw [h.2]
    refine ev_neg (by decide) ?_
    try simp only [go_sem, Nat.reduceEqDiff, Nat.reduceAdd, Bool.false_eq_true, Nat.reduceBEq, ↓reduceIte]
    refine ev_neg (by decide) ?_
    try simp only [go_sem, Nat.reduceEqDiff, Nat.reduceAdd, Bool.false_eq_true, Nat.reduceBEq, ↓reduceIte]
    first | refine ev_call (near_ok _ hT _ q (cb n) up hV h.1 hc1 hc2 hb) ?_ | refine ev_callP (near_ok _ hT _ q (cb n) up hV h.1 hc1 hc2 hb) ?_
    rintro v_25 H_25 le_25 g2 _
    try simp only [go_sem, Nat.reduceEqDiff, Nat.reduceAdd, Bool.false_eq_true, Nat.reduceBEq, ↓reduceIte]
    obtain ⟨A2, l2, c2, b2, rfl⟩ := g2.form
    try simp only [go_sem, Nat.reduceEqDiff, Nat.reduceAdd, Bool.false_eq_true, Nat.reduceBEq, ↓reduceIte]
    rw [rnd_pos h.1]
    exact ⟨by trivial, g2⟩

theorem down_ok (H : PH) (hT : Tab H) (v : Value) (q : Rat) (n : Int) (hV : RatV H v q) (hb : br q ≤ 100000) : FnP Tryz.prog 18 [v, .int .i64 n] H fun v H' => DyadV H' v (rndR q (cb n) false) := by
  obtain ⟨A, l, c, b, B, m, e, rfl⟩ := hV.form
  refine of_dyad_Down (by simp) ?_
  try simp only [go_sem, Nat.reduceEqDiff, Nat.reduceAdd, Bool.false_eq_true, Nat.reduceBEq, ↓reduceIte, p_dyad_Down]
  first | refine ev_call (round_ok _ hT _ q n false hV hb) ?_ | refine ev_callP (round_ok _ hT _ q n false hV hb) ?_
  rintro v_26 H_26 le_26 g2 _
  try simp only [go_sem, Nat.reduceEqDiff, Nat.reduceAdd, Bool.false_eq_true, Nat.reduceBEq, ↓reduceIte]
  obtain ⟨A2, l2, c2, b2, rfl⟩ := g2.form
  try simp only [go_sem, Nat.reduceEqDiff, Nat.reduceAdd, Bool.false_eq_true, Nat.reduceBEq, ↓reduceIte]
  exact ⟨by trivial, g2⟩
theorem up_ok (H : PH) (hT : Tab H) (v : Value) (q : Rat) (n : Int) (hV : RatV H v q) (hb : br q ≤ 100000) : FnP Tryz.prog 20 [v, .int .i64 n] H fun v H' => DyadV H' v (rndR q (cb n) true) := by
  obtain ⟨A, l, c, b, B, m, e, rfl⟩ := hV.form
  refine of_dyad_Up (by simp) ?_
  try simp only [go_sem, Nat.reduceEqDiff, Nat.reduceAdd, Bool.false_eq_true, Nat.reduceBEq, ↓reduceIte, p_dyad_Up]
  first | refine ev_call (round_ok _ hT _ q n true hV hb) ?_ | refine ev_callP (round_ok _ hT _ q n true hV hb) ?_
  rintro v_27 H_27 le_27 g2 _
  try simp only [go_sem, Nat.reduceEqDiff, Nat.reduceAdd, Bool.false_eq_true, Nat.reduceBEq, ↓reduceIte]
  obtain ⟨A2, l2, c2, b2, rfl⟩ := g2.form
  try simp only [go_sem, Nat.reduceEqDiff, Nat.reduceAdd, Bool.false_eq_true, Nat.reduceBEq, ↓reduceIte]
  exact ⟨by trivial, g2⟩

end Go.Proofs.YtpifafenmgceoaaGreatDoor.X
set_option linter.unusedVariables false
set_option linter.unusedSimpArgs false
namespace Go.Proofs.YtpifafenmgceoaaGreatDoor.X
open Go Go.RowKit Go.Proofs

/-- a text is a dyadic number -/
def dyOk (t : ByteArray) : Bool := ratOk (bs t) && isDy (rv (bs t))
theorem twoR_ok (H : PH) (e : Int) (h1 : -1000000 ≤ e) (h2 : e ≤ 1000000) : FnP Tryz.prog 25 [.int .i64 e] H fun v H' => RRat H' v (tw e) := by
  obtain ⟨p1, p2⟩ := tw_parts e
  refine of_cinctureref1_two (by simp) ?_
  try simp only [go_sem, Nat.reduceEqDiff, Nat.reduceAdd, Bool.false_eq_true, Nat.reduceBEq, ↓reduceIte, p_cinctureref1_two]
  refine ev_if (fun h => ?_) (fun h => ?_)
  · try simp only [go_sem, Nat.reduceEqDiff, Nat.reduceAdd, Bool.false_eq_true, Nat.reduceBEq, ↓reduceIte]
    first | refine ev_call (rintOf_ok _ 1 (by decide) (by decide)) ?_ | refine ev_callP (rintOf_ok _ 1 (by decide) (by decide)) ?_
    rintro v_8 H_8 le_8 g1 _
    try simp only [go_sem, Nat.reduceEqDiff, Nat.reduceAdd, Bool.false_eq_true, Nat.reduceBEq, ↓reduceIte]
    first | refine ev_call (rnatOf_ok _ 1 (by decide)) ?_ | refine ev_callP (rnatOf_ok _ 1 (by decide)) ?_
    rintro v_9 H_9 le_9 g2 _
    replace g1 := g1.le le_9
    try simp only [go_sem, Nat.reduceEqDiff, Nat.reduceAdd, Bool.false_eq_true, Nat.reduceBEq, ↓reduceIte]
    rw [show IntKind.i64.wrap (0 - e) = (((-e).toNat : Nat) : Int) by rw [w64 _ (by omega) (by omega)]; omega]
    first | refine ev_call (rshl_ok _ _ _ (-e).toNat g2 (by decide) (by omega)) ?_ | refine ev_callP (rshl_ok _ _ _ (-e).toNat g2 (by decide) (by omega)) ?_
    rintro v_10 H_10 le_10 g3 _
    replace g1 := g1.le le_10
    try simp only [go_sem, Nat.reduceEqDiff, Nat.reduceAdd, Bool.false_eq_true, Nat.reduceBEq, ↓reduceIte]
    obtain ⟨A1, l1, c1, b1, rfl⟩ := g1.form
    obtain ⟨A2, l2, c2, rfl, _⟩ := g3.form
    try simp only [go_sem, Nat.reduceEqDiff, Nat.reduceAdd, Bool.false_eq_true, Nat.reduceBEq, ↓reduceIte]
    refine ⟨by trivial, RRat.mk ?_ ?_⟩
    · rw [p1, show e.toNat = 0 by omega]; exact g1
    · rw [p2]
      rw [Nat.one_mul] at g3
      exact g3
  · try simp only [go_sem, Nat.reduceEqDiff, Nat.reduceAdd, Bool.false_eq_true, Nat.reduceBEq, ↓reduceIte]
    first | refine ev_call (rnatOf_ok _ 1 (by decide)) ?_ | refine ev_callP (rnatOf_ok _ 1 (by decide)) ?_
    rintro v_11 H_11 le_11 g2 _
    try simp only [go_sem, Nat.reduceEqDiff, Nat.reduceAdd, Bool.false_eq_true, Nat.reduceBEq, ↓reduceIte]
    rw [show (e : Int) = ((e.toNat : Nat) : Int) by omega]
    first | refine ev_call (rshl_ok _ _ _ e.toNat g2 (by decide) (by omega)) ?_ | refine ev_callP (rshl_ok _ _ _ e.toNat g2 (by decide) (by omega)) ?_
    rintro v_12 H_12 le_12 g3 _
    try simp only [go_sem, Nat.reduceEqDiff, Nat.reduceAdd, Bool.false_eq_true, Nat.reduceBEq, ↓reduceIte]
    first | refine ev_call (rpos_ok _ _ _ g3) ?_ | refine ev_callP (rpos_ok _ _ _ g3) ?_
    rintro v_13 H_13 le_13 g1 _
    try simp only [go_sem, Nat.reduceEqDiff, Nat.reduceAdd, Bool.false_eq_true, Nat.reduceBEq, ↓reduceIte]
    first | refine ev_call (rnatOf_ok _ 1 (by decide)) ?_ | refine ev_callP (rnatOf_ok _ 1 (by decide)) ?_
    rintro v_14 H_14 le_14 g4 _
    replace g1 := g1.le le_14
    try simp only [go_sem, Nat.reduceEqDiff, Nat.reduceAdd, Bool.false_eq_true, Nat.reduceBEq, ↓reduceIte]
    obtain ⟨A1, l1, c1, b1, rfl⟩ := g1.form
    obtain ⟨A2, l2, c2, rfl, _⟩ := g4.form
    try simp only [go_sem, Nat.reduceEqDiff, Nat.reduceAdd, Bool.false_eq_true, Nat.reduceBEq, ↓reduceIte]
    rw [show ((e.toNat : Nat) : Int) = e by omega]
    refine ⟨by trivial, RRat.mk ?_ ?_⟩
    · rw [p1]
      rw [Nat.one_mul] at g1
      exact g1
    · rw [p2, show (-e).toNat = 0 by omega]
      exact g4

theorem RRat.int {H : PH} {A B : Option Addr} {l c m e : Nat} {b : Bool} {z : Int} (h1 : RInt H (.agg #[.bool b, .slice A l c]) z) (h2 : RefV H (.slice B m e) 1) : RRat H (.agg #[.bool b, .slice A l c, .slice B m e]) (z : Rat) :=
  RRat.mk (by rw [Rat.num_intCast]; exact h1) (by rw [Rat.den_intCast]; exact h2)

end Go.Proofs.YtpifafenmgceoaaGreatDoor.X
set_option linter.unusedVariables false
set_option linter.unusedSimpArgs false
namespace Go.Proofs.YtpifafenmgceoaaGreatDoor.X
open Go Go.RowKit Go.Proofs

set_option maxHeartbeats 8000000 in
theorem downR_ok (H : PH) (v : Value) (q : Rat) (m : Int) (hV : RRat H v q) (hb : br q ≤ 100000) : FnP Tryz.prog 8 [v, .int .i64 m] H fun v H' => RRat H' v (rndR q (cb m) false) := by
  obtain ⟨b, A, l, c, B, k, e, rfl⟩ := hV.form
  obtain ⟨hc1, hc2⟩ := cb_bd m
  obtain ⟨h1, _⟩ := hV.parts
  obtain ⟨h2, _⟩ := h1.abs
  have k1 := bi_br q
  have k2 := bl_br q
  have k3 := e0_abs q (cb m)
  refine of_cinctureref1_Down (by simp) ?_
  try simp only [go_sem, Nat.reduceEqDiff, Nat.reduceAdd, Bool.false_eq_true, Nat.reduceBEq, ↓reduceIte, p_cinctureref1_Down]
  rw [show (if 4096 < (if m < 1 then 1 else m) then 4096 else (if m < 1 then 1 else m)) = ((cb m : Nat) : Int) by unfold cb; split <;> (try split) <;> omega]
  generalize cb m = n at *
  first | refine ev_call (rsign_ok _ _ _ h1) ?_ | refine ev_callP (rsign_ok _ _ _ h1) ?_
  rintro v_1 H_1 le_1 rfl _
  replace hV := hV.le le_1
  replace h1 := h1.le le_1
  replace h2 := h2.le le_1
  try simp only [go_sem, Nat.reduceEqDiff, Nat.reduceAdd, Bool.false_eq_true, Nat.reduceBEq, ↓reduceIte]
  rw [sgnI_R]
  refine ev_if (fun h => ?_) (fun h => ?_)
  · have hz : q = 0 := by
      rcases cmpR_cases q 0 with c | c | c
      · omega
      · exact c.1
      · omega
    try simp only [go_sem, Nat.reduceEqDiff, Nat.reduceAdd, Bool.false_eq_true, Nat.reduceBEq, ↓reduceIte]
    first | refine ev_call (rratOf_ok _ 0 (by decide) (by decide)) ?_ | refine ev_callP (rratOf_ok _ 0 (by decide) (by decide)) ?_
    rintro v_2 H_2 le_2 g1 _
    try simp only [go_sem, Nat.reduceEqDiff, Nat.reduceAdd, Bool.false_eq_true, Nat.reduceBEq, ↓reduceIte]
    obtain ⟨b4, A4, l4, c4, B4, m4, e4, rfl⟩ := g1.form
    try simp only [go_sem, Nat.reduceEqDiff, Nat.reduceAdd, Bool.false_eq_true, Nat.reduceBEq, ↓reduceIte]
    rw [hz, rnd_zero]
    exact ⟨by trivial, g1⟩
  · have hz : q ≠ 0 := fun e0 => h (by rw [e0]; exact cmpR_self 0)
    try simp only [go_sem, Nat.reduceEqDiff, Nat.reduceAdd, Bool.false_eq_true, Nat.reduceBEq, ↓reduceIte]
    first | refine ev_call (rbits_ok _ _ _ h2 (by unfold bi at k1; omega)) ?_ | refine ev_callP (rbits_ok _ _ _ h2 (by unfold bi at k1; omega)) ?_
    rintro v_3 H_3 le_3 rfl _
    replace hV := hV.le le_3
    try simp only [go_sem, Nat.reduceEqDiff, Nat.reduceAdd, Bool.false_eq_true, Nat.reduceBEq, ↓reduceIte]
    first | refine ev_call (rden_okR _ _ q hV) ?_ | refine ev_callP (rden_okR _ _ q hV) ?_
    rintro v_4 H_4 le_4 g1 _
    replace hV := hV.le le_4
    try simp only [go_sem, Nat.reduceEqDiff, Nat.reduceAdd, Bool.false_eq_true, Nat.reduceBEq, ↓reduceIte]
    first | refine ev_call (rbits_ok _ _ _ g1 (by omega)) ?_ | refine ev_callP (rbits_ok _ _ _ g1 (by omega)) ?_
    rintro v_5 H_5 le_5 rfl _
    replace hV := hV.le le_5
    try simp only [go_sem, Nat.reduceEqDiff, Nat.reduceAdd, Bool.false_eq_true, Nat.reduceBEq, ↓reduceIte]
    have he : IntKind.i64.wrap (IntKind.i64.wrap ((bl q.num.natAbs : Int) - (bl q.den : Int)) - (n : Int)) = e0 q n := by
      unfold bi at k1
      rw [w64 ((bl q.num.natAbs : Int) - (bl q.den : Int)) (by omega) (by omega), w64 _ (by omega) (by omega)]
      rfl
    rw [he]
    refine ev_loop (fun n' s => ∃ H1 E, ((n' = 1 ∧ E = e0 q n) ∨ (n' = 0 ∧ E = e0 q n + 1 ∧ ¬ stop n (nq q (e0 q n)))) ∧ RRat H1 (.agg #[.bool b, .slice A l c, .slice B k e]) q ∧
      s = ⟨[(5, .v (.int .i64 E)), (4, .ptr 4 0), (2, .ptr 2 0), (1, .v (.int .i64 (n : Int)))], [(4, [.bool false, .slice none 0 0, .slice none 0 0]), (2, [.bool b, .slice A l c, .slice B k e])], H1, PH.no⟩) 1 _ ⟨_, _, .inl ⟨rfl, rfl⟩, hV, rfl⟩ ⟨rfl, by simp only [go_sem, Nat.reduceEqDiff, Nat.reduceAdd, Bool.false_eq_true, Nat.reduceBEq, ↓reduceIte, and_self, Option.some.injEq, SV.v.injEq, SV.ptr.injEq, Value.int.injEq, Value.bool.injEq, Value.slice.injEq, true_and, and_true] <;> (repeat' apply And.intro) <;> first | rfl | omega | (simp (disch := omega) only [w64, wu64, wu32, wu8] <;> omega), by simp only [go_sem, Nat.reduceEqDiff, Nat.reduceAdd, Bool.false_eq_true, Nat.reduceBEq, ↓reduceIte, and_self, Option.some.injEq, SV.v.injEq, SV.ptr.injEq, Value.int.injEq, Value.bool.injEq, Value.slice.injEq, true_and, and_true] <;> (repeat' apply And.intro) <;> rfl, rfl, PH.le.refl _⟩ ?_
    rintro n' s ⟨H1, E, hE, hV, rfl⟩
    have hEb : -200000 ≤ E ∧ E ≤ 200000 := by omega
    have hEo : E = e0 q n ∨ E = e0 q n + 1 := by omega
    have b1 := br_tw (-E)
    have b2 := br_mul q (tw (-E))
    have b4 := br_tw E
    try simp only [go_sem, Nat.reduceEqDiff, Nat.reduceAdd, Bool.false_eq_true, Nat.reduceBEq, ↓reduceIte]
    have hneg : IntKind.i64.wrap (0 - E) = -E := by rw [w64 _ (by omega) (by omega)]; omega
    refine ev_cut (fun s => ∃ H2 A6 l6 c6 b6 B6 m6 e6, RRat H2 (.agg #[.bool b, .slice A l c, .slice B k e]) q ∧ RRat H2 (.agg #[.bool b6, .slice A6 l6 c6, .slice B6 m6 e6]) (q * tw (-E)) ∧
      s = ⟨[(6, .ptr 6 0), (5, .v (.int .i64 E)), (4, .ptr 4 0), (2, .ptr 2 0), (1, .v (.int .i64 (n : Int)))], [(6, [.bool b6, .slice A6 l6 c6, .slice B6 m6 e6]), (4, [.bool false, .slice none 0 0, .slice none 0 0]), (2, [.bool b, .slice A l c, .slice B k e])], H2, PH.no⟩) ?_ ?_
    · try simp only [go_sem, Nat.reduceEqDiff, Nat.reduceAdd, Bool.false_eq_true, Nat.reduceBEq, ↓reduceIte]
      rw [hneg]
      repeat' (with_reducible refine And.intro ?_ ?_)
      all_goals
        first | refine ev_call (twoR_ok _ (-E) (by omega) (by omega)) ?_ | refine ev_callP (twoR_ok _ (-E) (by omega) (by omega)) ?_
        rintro v_6 H_6 le_6 g2 _
        replace hV := hV.le le_6
        try simp only [go_sem, Nat.reduceEqDiff, Nat.reduceAdd, Bool.false_eq_true, Nat.reduceBEq, ↓reduceIte]
        repeat' (with_reducible refine And.intro ?_ ?_)
        all_goals
          first | refine ev_call (rmulR_ok _ _ _ _ _ hV g2 (by omega)) ?_ | refine ev_callP (rmulR_ok _ _ _ _ _ hV g2 (by omega)) ?_
          rintro v_7 H_7 le_7 g3 _
          replace hV := hV.le le_7
          try simp only [go_sem, Nat.reduceEqDiff, Nat.reduceAdd, Bool.false_eq_true, Nat.reduceBEq, ↓reduceIte]
          obtain ⟨b6, A6, l6, c6, B6, m6, e6, rfl⟩ := g3.form
          try simp only [go_sem, Nat.reduceEqDiff, Nat.reduceAdd, Bool.false_eq_true, Nat.reduceBEq, ↓reduceIte]
          exact k_cut _ ⟨_, _, _, _, _, _, _, _, hV, g3, rfl⟩ ⟨rfl, by simp only [go_sem, Nat.reduceEqDiff, Nat.reduceAdd, Bool.false_eq_true, Nat.reduceBEq, ↓reduceIte, and_self, Option.some.injEq, SV.v.injEq, SV.ptr.injEq, Value.int.injEq, Value.bool.injEq, Value.slice.injEq, true_and, and_true] <;> (repeat' apply And.intro) <;> first | rfl | omega | (simp (disch := omega) only [w64, wu64, wu32, wu8] <;> omega), by simp only [go_sem, Nat.reduceEqDiff, Nat.reduceAdd, Bool.false_eq_true, Nat.reduceBEq, ↓reduceIte, and_self, Option.some.injEq, SV.v.injEq, SV.ptr.injEq, Value.int.injEq, Value.bool.injEq, Value.slice.injEq, true_and, and_true] <;> (repeat' apply And.intro) <;> rfl, rfl, PH.le.refl _⟩
    · rintro s ⟨H2, A6, l6, c6, b6, B6, m6, e6, hV, h3, rfl⟩
      obtain ⟨h4, _⟩ := h3.parts
      have hfd := nq_floor q E
      have b3 := bi_nq hz hc1 hEo
      have d1 := bi_br (q * tw (-E))
      have d2 := bl_br (q * tw (-E))
      have d3 := (q * tw (-E)).den_nz
      try simp only [go_sem, Nat.reduceEqDiff, Nat.reduceAdd, Bool.false_eq_true, Nat.reduceBEq, ↓reduceIte]
      refine ev_cut (fun s => ∃ H3 A7 l7 c7 b7, RRat H3 (.agg #[.bool b, .slice A l c, .slice B k e]) q ∧ RInt H3 (.agg #[.bool b7, .slice A7 l7 c7]) (nq q E) ∧
        s = ⟨[(7, .ptr 7 0), (5, .v (.int .i64 E)), (4, .ptr 4 0), (2, .ptr 2 0), (1, .v (.int .i64 (n : Int)))], [(7, [.bool b7, .slice A7 l7 c7]), (4, [.bool false, .slice none 0 0, .slice none 0 0]), (2, [.bool b, .slice A l c, .slice B k e])], H3, PH.no⟩) ?_ ?_
      · try simp only [go_sem, Nat.reduceEqDiff, Nat.reduceAdd, Bool.false_eq_true, Nat.reduceBEq, ↓reduceIte]
        repeat' (with_reducible refine And.intro ?_ ?_)
        all_goals
          first | refine ev_call (rden_okR _ _ _ h3) ?_ | refine ev_callP (rden_okR _ _ _ h3) ?_
          rintro v_8 H_8 le_8 g4 _
          replace hV := hV.le le_8
          replace h4 := h4.le le_8
          try simp only [go_sem, Nat.reduceEqDiff, Nat.reduceAdd, Bool.false_eq_true, Nat.reduceBEq, ↓reduceIte]
          repeat' (with_reducible refine And.intro ?_ ?_)
          all_goals
            first | refine ev_call (rpos_ok _ _ _ g4) ?_ | refine ev_callP (rpos_ok _ _ _ g4) ?_
            rintro v_9 H_9 le_9 g5 _
            replace hV := hV.le le_9
            replace h4 := h4.le le_9
            try simp only [go_sem, Nat.reduceEqDiff, Nat.reduceAdd, Bool.false_eq_true, Nat.reduceBEq, ↓reduceIte]
            repeat' (with_reducible refine And.intro ?_ ?_)
            all_goals
              first | refine ev_call (rdivI_ok _ _ _ _ _ h4 g5 (by omega) (by rw [bi_cast]; omega) (by omega)) ?_ | refine ev_callP (rdivI_ok _ _ _ _ _ h4 g5 (by omega) (by rw [bi_cast]; omega) (by omega)) ?_
              rintro v_10 H_10 le_10 ⟨vq, vr, rfl, g6, g7⟩ _
              replace hV := hV.le le_10
              try simp only [go_sem, Nat.reduceEqDiff, Nat.reduceAdd, Bool.false_eq_true, Nat.reduceBEq, ↓reduceIte]
              rw [hfd] at g6
              obtain ⟨A7, l7, c7, b7, rfl⟩ := g6.form
              obtain ⟨A8, l8, c8, b8, rfl⟩ := g7.form
              try simp only [go_sem, Nat.reduceEqDiff, Nat.reduceAdd, Bool.false_eq_true, Nat.reduceBEq, ↓reduceIte]
              repeat' (with_reducible refine And.intro ?_ ?_)
              all_goals exact k_cut _ ⟨_, _, _, _, _, hV, g6, rfl⟩ ⟨rfl, by simp only [go_sem, Nat.reduceEqDiff, Nat.reduceAdd, Bool.false_eq_true, Nat.reduceBEq, ↓reduceIte, and_self, Option.some.injEq, SV.v.injEq, SV.ptr.injEq, Value.int.injEq, Value.bool.injEq, Value.slice.injEq, true_and, and_true] <;> (repeat' apply And.intro) <;> first | rfl | omega | (simp (disch := omega) only [w64, wu64, wu32, wu8] <;> omega), by simp only [go_sem, Nat.reduceEqDiff, Nat.reduceAdd, Bool.false_eq_true, Nat.reduceBEq, ↓reduceIte, and_self, Option.some.injEq, SV.v.injEq, SV.ptr.injEq, Value.int.injEq, Value.bool.injEq, Value.slice.injEq, true_and, and_true] <;> (repeat' apply And.intro) <;> rfl, rfl, PH.le.refl _⟩
      · rintro s ⟨H3, A7, l7, c7, b7, hV, h5, rfl⟩
        obtain ⟨h6, _⟩ := h5.abs
        have hb6 : bl (nq q E).natAbs ≤ n + 3 := b3
        have b5 := br_int (nq q E)
        try simp only [go_sem, Nat.reduceEqDiff, Nat.reduceAdd, Bool.false_eq_true, Nat.reduceBEq, ↓reduceIte]
        first | refine ev_call (rbits_ok _ _ _ h6 (by omega)) ?_ | refine ev_callP (rbits_ok _ _ _ h6 (by omega)) ?_
        rintro v_11 H_11 le_11 rfl _
        replace hV := hV.le le_11
        replace h5 := h5.le le_11
        replace h6 := h6.le le_11
        try simp only [go_sem, Nat.reduceEqDiff, Nat.reduceAdd, Bool.false_eq_true, Nat.reduceBEq, ↓reduceIte]
        have hv : stop n (nq q E) → (nq q E : Rat) * tw E = rndR q n false := by
          intro hs
          rcases hE with ⟨_, rfl⟩ | ⟨_, rfl, hns⟩
          · exact ref_stop hz hc1 hs
          · exact (ref_next hz hns).2
        refine ev_if (fun h => ?_) (fun h => ?_)
        · have hval := hv (.inl (by omega))
          try simp only [go_sem, Nat.reduceEqDiff, Nat.reduceAdd, Bool.false_eq_true, Nat.reduceBEq, ↓reduceIte]
          first | refine ev_call (rnatOf_ok _ 1 (by decide)) ?_ | refine ev_callP (rnatOf_ok _ 1 (by decide)) ?_
          rintro v_12 H_12 le_12 g4 _
          replace h5 := h5.le le_12
          try simp only [go_sem, Nat.reduceEqDiff, Nat.reduceAdd, Bool.false_eq_true, Nat.reduceBEq, ↓reduceIte]
          obtain ⟨A8, l8, c8, rfl, _⟩ := g4.form
          have g5 := RRat.int h5 g4
          try simp only [go_sem, Nat.reduceEqDiff, Nat.reduceAdd, Bool.false_eq_true, Nat.reduceBEq, ↓reduceIte]
          first | refine ev_call (twoR_ok _ E (by omega) (by omega)) ?_ | refine ev_callP (twoR_ok _ E (by omega) (by omega)) ?_
          rintro v_13 H_13 le_13 g6 _
          replace g5 := g5.le le_13
          try simp only [go_sem, Nat.reduceEqDiff, Nat.reduceAdd, Bool.false_eq_true, Nat.reduceBEq, ↓reduceIte]
          first | refine ev_call (rmulR_ok _ _ _ _ _ g5 g6 (by omega)) ?_ | refine ev_callP (rmulR_ok _ _ _ _ _ g5 g6 (by omega)) ?_
          rintro v_14 H_14 le_14 g7 _
          try simp only [go_sem, Nat.reduceEqDiff, Nat.reduceAdd, Bool.false_eq_true, Nat.reduceBEq, ↓reduceIte]
          obtain ⟨b9, A9, l9, c9, B9, m9, e9, rfl⟩ := g7.form
          rw [hval] at g7
          try simp only [go_sem, Nat.reduceEqDiff, Nat.reduceAdd, Bool.false_eq_true, Nat.reduceBEq, ↓reduceIte]
          exact ⟨by trivial, g7⟩
        · try simp only [go_sem, Nat.reduceEqDiff, Nat.reduceAdd, Bool.false_eq_true, Nat.reduceBEq, ↓reduceIte]
          first | refine ev_call (rzeros_ok _ _ _ h6 (by omega)) ?_ | refine ev_callP (rzeros_ok _ _ _ h6 (by omega)) ?_
          rintro v_15 H_15 le_15 rfl _
          replace hV := hV.le le_15
          replace h5 := h5.le le_15
          replace h6 := h6.le le_15
          try simp only [go_sem, Nat.reduceEqDiff, Nat.reduceAdd, Bool.false_eq_true, Nat.reduceBEq, ↓reduceIte]
          first | refine ev_call (rbits_ok _ _ _ h6 (by omega)) ?_ | refine ev_callP (rbits_ok _ _ _ h6 (by omega)) ?_
          rintro v_16 H_16 le_16 rfl _
          replace hV := hV.le le_16
          replace h5 := h5.le le_16
          replace h6 := h6.le le_16
          try simp only [go_sem, Nat.reduceEqDiff, Nat.reduceAdd, Bool.false_eq_true, Nat.reduceBEq, ↓reduceIte]
          rw [w64 ((bl (nq q E).natAbs : Int) - 1) (by omega) (by omega)]
          refine ev_if (fun h9 => ?_) (fun h9 => ?_)
          · have hval := hv (.inr (by omega))
            try simp only [go_sem, Nat.reduceEqDiff, Nat.reduceAdd, Bool.false_eq_true, Nat.reduceBEq, ↓reduceIte]
            first | refine ev_call (rnatOf_ok _ 1 (by decide)) ?_ | refine ev_callP (rnatOf_ok _ 1 (by decide)) ?_
            rintro v_12 H_12 le_12 g4 _
            replace h5 := h5.le le_12
            try simp only [go_sem, Nat.reduceEqDiff, Nat.reduceAdd, Bool.false_eq_true, Nat.reduceBEq, ↓reduceIte]
            obtain ⟨A8, l8, c8, rfl, _⟩ := g4.form
            have g5 := RRat.int h5 g4
            try simp only [go_sem, Nat.reduceEqDiff, Nat.reduceAdd, Bool.false_eq_true, Nat.reduceBEq, ↓reduceIte]
            first | refine ev_call (twoR_ok _ E (by omega) (by omega)) ?_ | refine ev_callP (twoR_ok _ E (by omega) (by omega)) ?_
            rintro v_13 H_13 le_13 g6 _
            replace g5 := g5.le le_13
            try simp only [go_sem, Nat.reduceEqDiff, Nat.reduceAdd, Bool.false_eq_true, Nat.reduceBEq, ↓reduceIte]
            first | refine ev_call (rmulR_ok _ _ _ _ _ g5 g6 (by omega)) ?_ | refine ev_callP (rmulR_ok _ _ _ _ _ g5 g6 (by omega)) ?_
            rintro v_14 H_14 le_14 g7 _
            try simp only [go_sem, Nat.reduceEqDiff, Nat.reduceAdd, Bool.false_eq_true, Nat.reduceBEq, ↓reduceIte]
            obtain ⟨b9, A9, l9, c9, B9, m9, e9, rfl⟩ := g7.form
            rw [hval] at g7
            try simp only [go_sem, Nat.reduceEqDiff, Nat.reduceAdd, Bool.false_eq_true, Nat.reduceBEq, ↓reduceIte]
            exact ⟨by trivial, g7⟩
          · have hns : ¬ stop n (nq q E) := by
              unfold stop
              omega
            rcases hE with ⟨rfl, rfl⟩ | ⟨rfl, rfl, hns2⟩
            · try simp only [go_sem, Nat.reduceEqDiff, Nat.reduceAdd, Bool.false_eq_true, Nat.reduceBEq, ↓reduceIte]
              rw [w64 (e0 q n + 1) (by omega) (by omega)]
              exact k_next 0 _ (by omega) ⟨_, _, .inr ⟨rfl, rfl, hns⟩, hV, rfl⟩ ⟨rfl, by simp only [go_sem, Nat.reduceEqDiff, Nat.reduceAdd, Bool.false_eq_true, Nat.reduceBEq, ↓reduceIte, and_self, Option.some.injEq, SV.v.injEq, SV.ptr.injEq, Value.int.injEq, Value.bool.injEq, Value.slice.injEq, true_and, and_true] <;> (repeat' apply And.intro) <;> first | rfl | omega | (simp (disch := omega) only [w64, wu64, wu32, wu8] <;> omega), by simp only [go_sem, Nat.reduceEqDiff, Nat.reduceAdd, Bool.false_eq_true, Nat.reduceBEq, ↓reduceIte, and_self, Option.some.injEq, SV.v.injEq, SV.ptr.injEq, Value.int.injEq, Value.bool.injEq, Value.slice.injEq, true_and, and_true] <;> (repeat' apply And.intro) <;> rfl, rfl, PH.le.refl _⟩
            · exact absurd (ref_next hz hns2).1 hns

theorem upR_ok (H : PH) (v : Value) (q : Rat) (m : Int) (hV : RRat H v q) (hb : br q ≤ 100000) : FnP Tryz.prog 9 [v, .int .i64 m] H fun v H' => RRat H' v (rndR q (cb m) true) := by
  obtain ⟨b, A, l, c, B, k, e, rfl⟩ := hV.form
  refine of_cinctureref1_Up (by simp) ?_
  try simp only [go_sem, Nat.reduceEqDiff, Nat.reduceAdd, Bool.false_eq_true, Nat.reduceBEq, ↓reduceIte, p_cinctureref1_Up]
  first | refine ev_call (rnegR_ok _ _ q hV) ?_ | refine ev_callP (rnegR_ok _ _ q hV) ?_
  rintro v_17 H_17 le_17 g1 _
  try simp only [go_sem, Nat.reduceEqDiff, Nat.reduceAdd, Bool.false_eq_true, Nat.reduceBEq, ↓reduceIte]
  first | refine ev_call (downR_ok _ _ (-q) m g1 (by rw [br_neg]; exact hb)) ?_ | refine ev_callP (downR_ok _ _ (-q) m g1 (by rw [br_neg]; exact hb)) ?_
  rintro v_18 H_18 le_18 g2 _
  try simp only [go_sem, Nat.reduceEqDiff, Nat.reduceAdd, Bool.false_eq_true, Nat.reduceBEq, ↓reduceIte]
  first | refine ev_call (rnegR_ok _ _ _ g2) ?_ | refine ev_callP (rnegR_ok _ _ _ g2) ?_
  rintro v_19 H_19 le_19 g3 _
  try simp only [go_sem, Nat.reduceEqDiff, Nat.reduceAdd, Bool.false_eq_true, Nat.reduceBEq, ↓reduceIte]
  rw [rnd_neg, Rat.neg_neg] at g3
  obtain ⟨b9, A9, l9, c9, B9, m9, e9, rfl⟩ := g3.form
  try simp only [go_sem, Nat.reduceEqDiff, Nat.reduceAdd, Bool.false_eq_true, Nat.reduceBEq, ↓reduceIte]
  exact ⟨by trivial, g3⟩

end Go.Proofs.YtpifafenmgceoaaGreatDoor.X
