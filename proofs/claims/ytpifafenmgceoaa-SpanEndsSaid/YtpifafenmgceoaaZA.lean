/- Package span. -/
import Derived.Test.YtpifafenmgceoaaZK
import Derived.Test.YtpifafenmgceoaaZH
import Derived.Test.YtpifafenmgceoaaZD
import Derived.Test.YtpifafenmgceoaaZE
set_option linter.unusedVariables false
set_option linter.unusedSimpArgs false
namespace Go.Proofs.Ytpifafenmgceoaa.X
open Go Go.RowKit Go.Proofs

theorem br_zero : br 0 = 1 := by decide +kernel
/-- an interval -/
def SpanV (H : PH) (v : Value) (p q : Rat) : Prop := ∃ A l c b B m e A' l' c' b' B' m' e', v = .agg #[.slice A l c, .bool b, .slice B m e, .slice A' l' c', .bool b', .slice B' m' e'] ∧ RatV H (.agg #[.slice A l c, .bool b, .slice B m e]) p ∧ RatV H (.agg #[.slice A' l' c', .bool b', .slice B' m' e']) q
theorem SpanV.le {H H' : PH} {v : Value} {p q : Rat} (h : SpanV H v p q) (hl : H.le H') : SpanV H' v p q := by
  obtain ⟨A, l, c, b, B, m, e, A', l', c', b', B', m', e', h1, h2, h3⟩ := h
  exact ⟨A, l, c, b, B, m, e, A', l', c', b', B', m', e', h1, h2.le hl, h3.le hl⟩
theorem SpanV.form {H : PH} {v : Value} {p q : Rat} (h : SpanV H v p q) : ∃ A l c b B m e A' l' c' b' B' m' e', v = .agg #[.slice A l c, .bool b, .slice B m e, .slice A' l' c', .bool b', .slice B' m' e'] := by
  obtain ⟨A, l, c, b, B, m, e, A', l', c', b', B', m', e', h1, _⟩ := h
  exact ⟨A, l, c, b, B, m, e, A', l', c', b', B', m', e', h1⟩
theorem SpanV.parts {H : PH} {A B A' B' : Option Addr} {l c m e l' c' m' e' : Nat} {b b' : Bool} {p q : Rat} (h : SpanV H (.agg #[.slice A l c, .bool b, .slice B m e, .slice A' l' c', .bool b', .slice B' m' e']) p q) : RatV H (.agg #[.slice A l c, .bool b, .slice B m e]) p ∧ RatV H (.agg #[.slice A' l' c', .bool b', .slice B' m' e']) q := by
  obtain ⟨A1, l1, c1, b1, B1, m1, e1, A2, l2, c2, b2, B2, m2, e2, h1, h2, h3⟩ := h
  have : A = A1 ∧ l = l1 ∧ c = c1 ∧ b = b1 ∧ B = B1 ∧ m = m1 ∧ e = e1 ∧ A' = A2 ∧ l' = l2 ∧ c' = c2 ∧ b' = b2 ∧ B' = B2 ∧ m' = m2 ∧ e' = e2 := by simpa [and_assoc] using h1
  obtain ⟨rfl, rfl, rfl, rfl, rfl, rfl, rfl, rfl, rfl, rfl, rfl, rfl, rfl, rfl⟩ := this
  exact ⟨h2, h3⟩
theorem SpanV.mk {H : PH} {A B A' B' : Option Addr} {l c m e l' c' m' e' : Nat} {b b' : Bool} {p q : Rat} (h1 : RatV H (.agg #[.slice A l c, .bool b, .slice B m e]) p) (h2 : RatV H (.agg #[.slice A' l' c', .bool b', .slice B' m' e']) q) : SpanV H (.agg #[.slice A l c, .bool b, .slice B m e, .slice A' l' c', .bool b', .slice B' m' e']) p q :=
  ⟨A, l, c, b, B, m, e, A', l', c', b', B', m', e', rfl, h1, h2⟩
theorem SpanV.zero (H : PH) : SpanV H (.agg #[.slice none 0 0, .bool false, .slice none 0 0, .slice none 0 0, .bool false, .slice none 0 0]) 0 0 := SpanV.mk (RatV.zero H) (RatV.zero H)

theorem cmpR_le {p q : Rat} (h : p ≤ q) : cmpR p q ≤ 0 := by
  rcases cmpR_cases p q with c | c | c
  · omega
  · omega
  · exact absurd c.1 (by rw [Rat.not_lt]; exact h)
theorem cmpR_ge {p q : Rat} (h : q ≤ p) : 0 ≤ cmpR p q := by
  rcases cmpR_cases p q with c | c | c
  · exact absurd c.1 (by rw [Rat.not_lt]; exact h)
  · omega
  · omega
theorem cmpR_le_iff {p q : Rat} : cmpR p q ≤ 0 ↔ p ≤ q := by
  rcases cmpR_cases p q with c | c | c
  · exact ⟨fun _ => by have := c.1; grind, fun _ => by omega⟩
  · exact ⟨fun _ => by have := c.1; grind, fun _ => by omega⟩
  · exact ⟨fun h => by omega, fun h => absurd c.1 (by rw [Rat.not_lt]; exact h)⟩
theorem cmpR_lt_iff {p q : Rat} : cmpR p q < 0 ↔ p < q := by
  rcases cmpR_cases p q with c | c | c
  · exact ⟨fun _ => c.1, fun _ => by omega⟩
  · exact ⟨fun h => by omega, fun h => absurd h (by rw [c.1]; exact Rat.lt_irrefl)⟩
  · exact ⟨fun h => by omega, fun h => by have := c.1; grind⟩
theorem cmpR_gt_iff {p q : Rat} : 0 < cmpR p q ↔ q < p := by
  rcases cmpR_cases p q with c | c | c
  · exact ⟨fun h => by omega, fun h => by have := c.1; grind⟩
  · exact ⟨fun h => by omega, fun h => absurd h (by rw [c.1]; exact Rat.lt_irrefl)⟩
  · exact ⟨fun _ => c.1, fun _ => by omega⟩
theorem gt_R {p : Rat} {q : Rat} : 0 < cmpR p q ↔ q < p := cmpR_gt_iff
theorem cmpR_eq_iff {p q : Rat} : cmpR p q = 0 ↔ p = q := by
  rcases cmpR_cases p q with c | c | c
  · exact ⟨fun h => by omega, fun h => absurd c.1 (by rw [h]; exact Rat.lt_irrefl)⟩
  · exact ⟨fun _ => c.1, fun _ => by omega⟩
  · exact ⟨fun h => by omega, fun h => absurd c.1 (by rw [h]; exact Rat.lt_irrefl)⟩

theorem less_ok (H : PH) (va vb : Value) (p q : Rat) (ha : RatV H va p) (hb : RatV H vb q) (hbp : br p + br q ≤ 4294967000) : FnP Try.prog 56 [va, vb] H fun v H' => RatV H' v (minR p q) := by
  obtain ⟨A, l, c, b, B, m, e, rfl⟩ := ha.form
  obtain ⟨A1, l1, c1, b1, B1, m1, e1, rfl⟩ := hb.form
  refine of_span_less (by simp) ?_
  try simp only [go_sem, Nat.reduceEqDiff, Nat.reduceAdd, Bool.false_eq_true, Nat.reduceBEq, ↓reduceIte, p_span_less]
  first | refine ev_call (rcmpR_ok _ _ _ q p hb ha (by omega)) ?_ | refine ev_callP (rcmpR_ok _ _ _ q p hb ha (by omega)) ?_
  rintro v_1 H_1 le_1 rfl _
  replace ha := ha.le le_1
  replace hb := hb.le le_1
  try simp only [go_sem, Nat.reduceEqDiff, Nat.reduceAdd, Bool.false_eq_true, Nat.reduceBEq, ↓reduceIte]
  by_cases h : q < p
  · refine ev_pos (by rw [cmpR_lt h]; decide) ?_
    try simp only [go_sem, Nat.reduceEqDiff, Nat.reduceAdd, Bool.false_eq_true, Nat.reduceBEq, ↓reduceIte]
    unfold minR; rw [if_pos h]
    exact ⟨by trivial, hb⟩
  · refine ev_neg (by rcases cmpR_cases q p with k | k | k <;> first | exact absurd k.1 h | omega) ?_
    try simp only [go_sem, Nat.reduceEqDiff, Nat.reduceAdd, Bool.false_eq_true, Nat.reduceBEq, ↓reduceIte]
    unfold minR; rw [if_neg h]
    exact ⟨by trivial, ha⟩

theorem more_ok (H : PH) (va vb : Value) (p q : Rat) (ha : RatV H va p) (hb : RatV H vb q) (hbp : br p + br q ≤ 4294967000) : FnP Try.prog 57 [va, vb] H fun v H' => RatV H' v (maxR p q) := by
  obtain ⟨A, l, c, b, B, m, e, rfl⟩ := ha.form
  obtain ⟨A1, l1, c1, b1, B1, m1, e1, rfl⟩ := hb.form
  refine of_span_more (by simp) ?_
  try simp only [go_sem, Nat.reduceEqDiff, Nat.reduceAdd, Bool.false_eq_true, Nat.reduceBEq, ↓reduceIte, p_span_more]
  first | refine ev_call (rcmpR_ok _ _ _ q p hb ha (by omega)) ?_ | refine ev_callP (rcmpR_ok _ _ _ q p hb ha (by omega)) ?_
  rintro v_2 H_2 le_2 rfl _
  replace ha := ha.le le_2
  replace hb := hb.le le_2
  try simp only [go_sem, Nat.reduceEqDiff, Nat.reduceAdd, Bool.false_eq_true, Nat.reduceBEq, ↓reduceIte]
  by_cases h : p < q
  · refine ev_pos (by rw [cmpR_gt h]; decide) ?_
    try simp only [go_sem, Nat.reduceEqDiff, Nat.reduceAdd, Bool.false_eq_true, Nat.reduceBEq, ↓reduceIte]
    unfold maxR; rw [if_pos h]
    exact ⟨by trivial, hb⟩
  · refine ev_neg (by rcases cmpR_cases q p with k | k | k <;> first | exact absurd k.1 h | omega) ?_
    try simp only [go_sem, Nat.reduceEqDiff, Nat.reduceAdd, Bool.false_eq_true, Nat.reduceBEq, ↓reduceIte]
    unfold maxR; rw [if_neg h]
    exact ⟨by trivial, ha⟩

theorem around_ok (H : PH) (va vb : Value) (p q : Rat) (ha : RatV H va p) (hb : RatV H vb q) (hbp : br p + br q ≤ 4294967000) : FnP Try.prog 28 [va, vb] H fun v H' => SpanV H' v (minR p q) (maxR p q) := by
  obtain ⟨A, l, c, b, B, m, e, rfl⟩ := ha.form
  obtain ⟨A1, l1, c1, b1, B1, m1, e1, rfl⟩ := hb.form
  refine of_span_around (by simp) ?_
  try simp only [go_sem, Nat.reduceEqDiff, Nat.reduceAdd, Bool.false_eq_true, Nat.reduceBEq, ↓reduceIte, p_span_around]
  first | refine ev_call (less_ok _ _ _ p q ha hb hbp) ?_ | refine ev_callP (less_ok _ _ _ p q ha hb hbp) ?_
  rintro v_3 H_3 le_3 g1 _
  replace ha := ha.le le_3
  replace hb := hb.le le_3
  try simp only [go_sem, Nat.reduceEqDiff, Nat.reduceAdd, Bool.false_eq_true, Nat.reduceBEq, ↓reduceIte]
  first | refine ev_call (more_ok _ _ _ p q ha hb hbp) ?_ | refine ev_callP (more_ok _ _ _ p q ha hb hbp) ?_
  rintro v_4 H_4 le_4 g2 _
  replace g1 := g1.le le_4
  try simp only [go_sem, Nat.reduceEqDiff, Nat.reduceAdd, Bool.false_eq_true, Nat.reduceBEq, ↓reduceIte]
  obtain ⟨A2, l2, c2, b2, B2, m2, e2, rfl⟩ := g1.form
  obtain ⟨A3, l3, c3, b3, B3, m3, e3, rfl⟩ := g2.form
  try simp only [go_sem, Nat.reduceEqDiff, Nat.reduceAdd, Bool.false_eq_true, Nat.reduceBEq, ↓reduceIte]
  exact ⟨by trivial, SpanV.mk g1 g2⟩

theorem snew_ok (H : PH) (va vb : Value) (p q : Rat) (ha : RatV H va p) (hb : RatV H vb q) (hbp : br p + br q ≤ 4294967000) : FnP Try.prog 14 [va, vb] H fun v H' => ∃ v', v = .tuple #[v', .bool (decide (p ≤ q))] ∧ SpanV H' v' (if p ≤ q then p else 0) (if p ≤ q then q else 0) := by
  obtain ⟨A, l, c, b, B, m, e, rfl⟩ := ha.form
  obtain ⟨A1, l1, c1, b1, B1, m1, e1, rfl⟩ := hb.form
  refine of_span_New (by simp) ?_
  try simp only [go_sem, Nat.reduceEqDiff, Nat.reduceAdd, Bool.false_eq_true, Nat.reduceBEq, ↓reduceIte, p_span_New]
  first | refine ev_call (rcmpR_ok _ _ _ p q ha hb (by omega)) ?_ | refine ev_callP (rcmpR_ok _ _ _ p q ha hb (by omega)) ?_
  rintro v_5 H_5 le_5 rfl _
  replace ha := ha.le le_5
  replace hb := hb.le le_5
  try simp only [go_sem, Nat.reduceEqDiff, Nat.reduceAdd, Bool.false_eq_true, Nat.reduceBEq, ↓reduceIte]
  by_cases h : p ≤ q
  · refine ev_neg (by have := cmpR_le h; omega) ?_
    try simp only [go_sem, Nat.reduceEqDiff, Nat.reduceAdd, Bool.false_eq_true, Nat.reduceBEq, ↓reduceIte]
    rw [decide_eq_true h, if_pos h, if_pos h]
    repeat' (with_reducible refine And.intro ?_ ?_)
    all_goals first | trivial | exact ⟨_, rfl, SpanV.mk ha hb⟩
  · refine ev_pos (cmpR_gt_iff.2 (by grind)) ?_
    try simp only [go_sem, Nat.reduceEqDiff, Nat.reduceAdd, Bool.false_eq_true, Nat.reduceBEq, ↓reduceIte]
    rw [decide_eq_false h, if_neg h, if_neg h]
    repeat' (with_reducible refine And.intro ?_ ?_)
    all_goals first | trivial | exact ⟨_, rfl, SpanV.zero _⟩

theorem sof_ok (H : PH) (va : Value) (p : Rat) (ha : RatV H va p) : FnP Try.prog 18 [va] H fun v H' => SpanV H' v p p := by
  obtain ⟨A, l, c, b, B, m, e, rfl⟩ := ha.form
  refine of_span_Of (by simp) ?_
  try simp only [go_sem, Nat.reduceEqDiff, Nat.reduceAdd, Bool.false_eq_true, Nat.reduceBEq, ↓reduceIte, p_span_Of]
  exact ⟨by trivial, SpanV.mk ha ha⟩

/-- what the texts of an interval come to -/
def spOk (a b : ByteArray) : Bool := ratOk (bs a) && (ratOk (bs b) && decide (rv (bs a) ≤ rv (bs b)))
def spCode (a b : ByteArray) : Int := if ratOk (bs a) && ratOk (bs b) then (if rv (bs a) ≤ rv (bs b) then 0 else 1) else 2
theorem spCode_ok {a b : ByteArray} : spCode a b = 0 ↔ spOk a b = true := by
  unfold spCode spOk
  cases ratOk (bs a) <;> cases ratOk (bs b) <;> simp
theorem sparse_ok (H : PH) (a b : ByteArray) (ha : a.size ≤ 9223372036854775807) (hb : b.size ≤ 9223372036854775807) : FnP Try.prog 12 [.agg #[.string a, .string b]] H fun v H' => ∃ v', v = .tuple #[v', .int .i64 (spCode a b)] ∧ SpanV H' v' (if spOk a b then rv (bs a) else 0) (if spOk a b then rv (bs b) else 0) := by
  refine of_span_Parse (by simp) ?_
  try simp only [go_sem, Nat.reduceEqDiff, Nat.reduceAdd, Bool.false_eq_true, Nat.reduceBEq, ↓reduceIte, p_span_Parse]
  first | refine ev_call (rparse'_ok _ a ha) ?_ | refine ev_callP (rparse'_ok _ a ha) ?_
  rintro v_6 H_6 le_6 ⟨va, rfl, h1⟩ _
  try simp only [go_sem, Nat.reduceEqDiff, Nat.reduceAdd, Bool.false_eq_true, Nat.reduceBEq, ↓reduceIte]
  obtain ⟨A1, l1, c1, b1, B1, m1, e1, rfl⟩ := h1.form
  have bad : ∀ (n : Int) (H' : PH), spOk a b = false → spCode a b = n → ∃ v', (Value.tuple #[.agg #[.slice none 0 0, .bool false, .slice none 0 0, .slice none 0 0, .bool false, .slice none 0 0], .int .i64 n]) = .tuple #[v', .int .i64 (spCode a b)] ∧ SpanV H' v' (if spOk a b then rv (bs a) else 0) (if spOk a b then rv (bs b) else 0) := by
    intro n H' h k
    rw [h, k]
    exact ⟨_, rfl, SpanV.zero _⟩
  cases hk : ratOk (bs a) with
  | false =>
    try simp only [go_sem, Nat.reduceEqDiff, Nat.reduceAdd, Bool.false_eq_true, Nat.reduceBEq, ↓reduceIte, hk]
    refine ev_pos (by decide) ?_
    try simp only [go_sem, Nat.reduceEqDiff, Nat.reduceAdd, Bool.false_eq_true, Nat.reduceBEq, ↓reduceIte]
    repeat' (with_reducible refine And.intro ?_ ?_)
    all_goals first | trivial | exact bad _ _ (by unfold spOk; rw [hk]; rfl) (by unfold spCode; rw [hk]; rfl)
  | true =>
    try simp only [go_sem, Nat.reduceEqDiff, Nat.reduceAdd, Bool.false_eq_true, Nat.reduceBEq, ↓reduceIte, hk]
    refine ev_neg (by decide) ?_
    try simp only [go_sem, Nat.reduceEqDiff, Nat.reduceAdd, Bool.false_eq_true, Nat.reduceBEq, ↓reduceIte]
    first | refine ev_call (rparse'_ok _ b hb) ?_ | refine ev_callP (rparse'_ok _ b hb) ?_
    rintro v_7 H_7 le_7 ⟨vb, rfl, h2⟩ _
    replace h1 := h1.le le_7
    try simp only [go_sem, Nat.reduceEqDiff, Nat.reduceAdd, Bool.false_eq_true, Nat.reduceBEq, ↓reduceIte]
    obtain ⟨A2, l2, c2, b2, B2, m2, e2, rfl⟩ := h2.form
    cases hk2 : ratOk (bs b) with
    | false =>
      try simp only [go_sem, Nat.reduceEqDiff, Nat.reduceAdd, Bool.false_eq_true, Nat.reduceBEq, ↓reduceIte, hk2]
      refine ev_pos (by decide) ?_
      try simp only [go_sem, Nat.reduceEqDiff, Nat.reduceAdd, Bool.false_eq_true, Nat.reduceBEq, ↓reduceIte]
      repeat' (with_reducible refine And.intro ?_ ?_)
      all_goals first | trivial | exact bad _ _ (by unfold spOk; rw [hk, hk2]; rfl) (by unfold spCode; rw [hk, hk2]; rfl)
    | true =>
      have k1 := rv_max hk
      have k2 := rv_max hk2
      rw [hk, if_pos rfl] at h1
      rw [hk2, if_pos rfl] at h2
      try simp only [go_sem, Nat.reduceEqDiff, Nat.reduceAdd, Bool.false_eq_true, Nat.reduceBEq, ↓reduceIte, hk2]
      refine ev_neg (by decide) ?_
      try simp only [go_sem, Nat.reduceEqDiff, Nat.reduceAdd, Bool.false_eq_true, Nat.reduceBEq, ↓reduceIte]
      first | refine ev_call (snew_ok _ _ _ _ _ h1 h2 (by omega)) ?_ | refine ev_callP (snew_ok _ _ _ _ _ h1 h2 (by omega)) ?_
      rintro v_8 H_8 le_8 ⟨v3, rfl, h3⟩ _
      try simp only [go_sem, Nat.reduceEqDiff, Nat.reduceAdd, Bool.false_eq_true, Nat.reduceBEq, ↓reduceIte]
      by_cases h : rv (bs a) ≤ rv (bs b)
      · rw [if_pos h, if_pos h] at h3
        obtain ⟨A, l, c, b', B, m, e, A', l', c', b'', B', m', e', rfl⟩ := h3.form
        rw [decide_eq_true h]
        try simp only [go_sem, Nat.reduceEqDiff, Nat.reduceAdd, Bool.false_eq_true, Nat.reduceBEq, ↓reduceIte]
        rw [show spOk a b = true by unfold spOk; rw [hk, hk2, decide_eq_true h]; rfl, show spCode a b = 0 by unfold spCode; rw [hk, hk2, Bool.and_self, if_pos rfl, if_pos h]]
        repeat' (with_reducible refine And.intro ?_ ?_)
        all_goals first | trivial | exact ⟨_, rfl, h3⟩
      · obtain ⟨A, l, c, b', B, m, e, A', l', c', b'', B', m', e', rfl⟩ := h3.form
        rw [decide_eq_false h]
        try simp only [go_sem, Nat.reduceEqDiff, Nat.reduceAdd, Bool.false_eq_true, Nat.reduceBEq, ↓reduceIte]
        repeat' (with_reducible refine And.intro ?_ ?_)
        all_goals first | trivial | exact bad _ _ (by unfold spOk; rw [hk, hk2, decide_eq_false h]; rfl) (by unfold spCode; rw [hk, hk2, Bool.and_self, if_pos rfl, if_neg h])

theorem splain_ok (H : PH) (v : Value) (p q : Rat) (hV : SpanV H v p q) (hbp : br p ≤ 4294967000) (hbq : br q ≤ 4294967000) : FnP Try.prog 16 [v] H fun v _ => v = .agg #[.string (ofB (rtx p)), .string (ofB (rtx q))] := by
  obtain ⟨A, l, c, b, B, m, e, A', l', c', b', B', m', e', rfl⟩ := hV.form
  obtain ⟨h1, h2⟩ := hV.parts
  refine of_span_Plain (by simp) ?_
  try simp only [go_sem, Nat.reduceEqDiff, Nat.reduceAdd, Bool.false_eq_true, Nat.reduceBEq, ↓reduceIte, p_span_Plain]
  first | refine ev_call (rtext_ok' _ _ p h1 hbp) ?_ | refine ev_callP (rtext_ok' _ _ p h1 hbp) ?_
  rintro v_9 H_9 le_9 rfl _
  replace h2 := h2.le le_9
  try simp only [go_sem, Nat.reduceEqDiff, Nat.reduceAdd, Bool.false_eq_true, Nat.reduceBEq, ↓reduceIte]
  first | refine ev_call (rtext_ok' _ _ q h2 hbq) ?_ | refine ev_callP (rtext_ok' _ _ q h2 hbq) ?_
  rintro v_10 H_10 le_10 rfl _
  try simp only [go_sem, Nat.reduceEqDiff, Nat.reduceAdd, Bool.false_eq_true, Nat.reduceBEq, ↓reduceIte]
  exact ⟨by trivial, by trivial⟩

theorem shull_ok (H : PH) (va vb : Value) (p q r s : Rat) (ha : SpanV H va p q) (hb : SpanV H vb r s) (hbp : br p + br q + br r + br s ≤ 4294960000) : FnP Try.prog 40 [va, vb] H fun v H' => SpanV H' v (minR p r) (maxR q s) := by
  obtain ⟨A, l, c, b, B, m, e, A', l', c', b', B', m', e', rfl⟩ := ha.form
  obtain ⟨h1, h2⟩ := ha.parts
  obtain ⟨A1, l1, c1, b1, B1, m1, e1, A1', l1', c1', b1', B1', m1', e1', rfl⟩ := hb.form
  obtain ⟨h3, h4⟩ := hb.parts
  refine of_span_Hull (by simp) ?_
  try simp only [go_sem, Nat.reduceEqDiff, Nat.reduceAdd, Bool.false_eq_true, Nat.reduceBEq, ↓reduceIte, p_span_Hull]
  first | refine ev_call (less_ok _ _ _ p r h1 h3 (by omega)) ?_ | refine ev_callP (less_ok _ _ _ p r h1 h3 (by omega)) ?_
  rintro v_15 H_15 le_15 g1 _
  replace h2 := h2.le le_15
  replace h4 := h4.le le_15
  try simp only [go_sem, Nat.reduceEqDiff, Nat.reduceAdd, Bool.false_eq_true, Nat.reduceBEq, ↓reduceIte]
  first | refine ev_call (more_ok _ _ _ q s h2 h4 (by omega)) ?_ | refine ev_callP (more_ok _ _ _ q s h2 h4 (by omega)) ?_
  rintro v_16 H_16 le_16 g2 _
  replace g1 := g1.le le_16
  try simp only [go_sem, Nat.reduceEqDiff, Nat.reduceAdd, Bool.false_eq_true, Nat.reduceBEq, ↓reduceIte]
  obtain ⟨A2, l2, c2, b2, B2, m2, e2, rfl⟩ := g1.form
  obtain ⟨A3, l3, c3, b3, B3, m3, e3, rfl⟩ := g2.form
  try simp only [go_sem, Nat.reduceEqDiff, Nat.reduceAdd, Bool.false_eq_true, Nat.reduceBEq, ↓reduceIte]
  exact ⟨by trivial, SpanV.mk g1 g2⟩

theorem smul_ok (H : PH) (va vb : Value) (p q r s : Rat) (ha : SpanV H va p q) (hb : SpanV H vb r s) (hbp : br p + br q + br r + br s ≤ 100000000) : FnP Try.prog 20 [va, vb] H fun v H' => SpanV H' v (mulLo p q r s) (mulHi p q r s) := by
  obtain ⟨A, l, c, b, B, m, e, A', l', c', b', B', m', e', rfl⟩ := ha.form
  obtain ⟨h1, h2⟩ := ha.parts
  obtain ⟨A1, l1, c1, b1, B1, m1, e1, A1', l1', c1', b1', B1', m1', e1', rfl⟩ := hb.form
  obtain ⟨h3, h4⟩ := hb.parts
  have s1 := br_mul p r
  have s2 := br_mul q s
  have s3 := br_mul p s
  have s4 := br_mul q r
  have t1 := br_min (p * r) (q * s)
  have t2 := br_max (p * r) (q * s)
  have t3 := br_min (p * s) (q * r)
  have t4 := br_max (p * s) (q * r)
  refine of_span_Mul (by simp) ?_
  try simp only [go_sem, Nat.reduceEqDiff, Nat.reduceAdd, Bool.false_eq_true, Nat.reduceBEq, ↓reduceIte, p_span_Mul]
  first | refine ev_call (rmul'_ok _ _ _ p r h1 h3 (by omega)) ?_ | refine ev_callP (rmul'_ok _ _ _ p r h1 h3 (by omega)) ?_
  rintro v_17 H_17 le_17 g1 _
  replace h1 := h1.le le_17
  replace h2 := h2.le le_17
  replace h3 := h3.le le_17
  replace h4 := h4.le le_17
  try simp only [go_sem, Nat.reduceEqDiff, Nat.reduceAdd, Bool.false_eq_true, Nat.reduceBEq, ↓reduceIte]
  first | refine ev_call (rmul'_ok _ _ _ q s h2 h4 (by omega)) ?_ | refine ev_callP (rmul'_ok _ _ _ q s h2 h4 (by omega)) ?_
  rintro v_18 H_18 le_18 g2 _
  replace h1 := h1.le le_18
  replace h2 := h2.le le_18
  replace h3 := h3.le le_18
  replace h4 := h4.le le_18
  replace g1 := g1.le le_18
  try simp only [go_sem, Nat.reduceEqDiff, Nat.reduceAdd, Bool.false_eq_true, Nat.reduceBEq, ↓reduceIte]
  first | refine ev_call (around_ok _ _ _ _ _ g1 g2 (by omega)) ?_ | refine ev_callP (around_ok _ _ _ _ _ g1 g2 (by omega)) ?_
  rintro v_19 H_19 le_19 g3 _
  replace h1 := h1.le le_19
  replace h2 := h2.le le_19
  replace h3 := h3.le le_19
  replace h4 := h4.le le_19
  try simp only [go_sem, Nat.reduceEqDiff, Nat.reduceAdd, Bool.false_eq_true, Nat.reduceBEq, ↓reduceIte]
  first | refine ev_call (rmul'_ok _ _ _ p s h1 h4 (by omega)) ?_ | refine ev_callP (rmul'_ok _ _ _ p s h1 h4 (by omega)) ?_
  rintro v_20 H_20 le_20 g4 _
  replace h2 := h2.le le_20
  replace h3 := h3.le le_20
  replace g3 := g3.le le_20
  try simp only [go_sem, Nat.reduceEqDiff, Nat.reduceAdd, Bool.false_eq_true, Nat.reduceBEq, ↓reduceIte]
  first | refine ev_call (rmul'_ok _ _ _ q r h2 h3 (by omega)) ?_ | refine ev_callP (rmul'_ok _ _ _ q r h2 h3 (by omega)) ?_
  rintro v_21 H_21 le_21 g5 _
  replace g3 := g3.le le_21
  replace g4 := g4.le le_21
  try simp only [go_sem, Nat.reduceEqDiff, Nat.reduceAdd, Bool.false_eq_true, Nat.reduceBEq, ↓reduceIte]
  first | refine ev_call (around_ok _ _ _ _ _ g4 g5 (by omega)) ?_ | refine ev_callP (around_ok _ _ _ _ _ g4 g5 (by omega)) ?_
  rintro v_22 H_22 le_22 g6 _
  replace g3 := g3.le le_22
  try simp only [go_sem, Nat.reduceEqDiff, Nat.reduceAdd, Bool.false_eq_true, Nat.reduceBEq, ↓reduceIte]
  first | refine ev_call (shull_ok _ _ _ _ _ _ _ g3 g6 (by omega)) ?_ | refine ev_callP (shull_ok _ _ _ _ _ _ _ g3 g6 (by omega)) ?_
  rintro v_23 H_23 le_23 g7 _
  try simp only [go_sem, Nat.reduceEqDiff, Nat.reduceAdd, Bool.false_eq_true, Nat.reduceBEq, ↓reduceIte]
  obtain ⟨A2, l2, c2, b2, B2, m2, e2, A2', l2', c2', b2', B2', m2', e2', rfl⟩ := g7.form
  try simp only [go_sem, Nat.reduceEqDiff, Nat.reduceAdd, Bool.false_eq_true, Nat.reduceBEq, ↓reduceIte]
  exact ⟨by trivial, g7⟩

/-- a question of two parts -/
theorem shas_ok (H : PH) (va vb : Value) (p q r : Rat) (ha : SpanV H va p q) (hb : RatV H vb r) (hbp : br p + br q + br r ≤ 4294967000) : FnP Try.prog 29 [va, vb] H fun v _ => v = .bool (decide (p ≤ r ∧ r ≤ q)) := by
  obtain ⟨A, l, c, b, B, m, e, A', l', c', b', B', m', e', rfl⟩ := ha.form
  obtain ⟨h1, h2⟩ := ha.parts
  obtain ⟨A1, l1, c1, b1, B1, m1, e1, rfl⟩ := hb.form
  refine of_span_Has (by simp) ?_
  try simp only [go_sem, Nat.reduceEqDiff, Nat.reduceAdd, Bool.false_eq_true, Nat.reduceBEq, ↓reduceIte, p_span_Has]
  first | refine ev_call (rcmpR_ok _ _ _ p r h1 hb (by omega)) ?_ | refine ev_callP (rcmpR_ok _ _ _ p r h1 hb (by omega)) ?_
  rintro v_27 H_27 le_27 rfl _
  replace h2 := h2.le le_27
  replace hb := hb.le le_27
  try simp only [go_sem, Nat.reduceEqDiff, Nat.reduceAdd, Bool.false_eq_true, Nat.reduceBEq, ↓reduceIte]
  rw [cmpR_le_iff]
  refine ev_if (fun k => ?_) (fun k => ?_)
  · try simp only [go_sem, Nat.reduceEqDiff, Nat.reduceAdd, Bool.false_eq_true, Nat.reduceBEq, ↓reduceIte]
    first | refine ev_call (rcmpR_ok _ _ _ r q hb h2 (by omega)) ?_ | refine ev_callP (rcmpR_ok _ _ _ r q hb h2 (by omega)) ?_
    rintro v_28 H_28 le_28 rfl _
    try simp only [go_sem, Nat.reduceEqDiff, Nat.reduceAdd, Bool.false_eq_true, Nat.reduceBEq, ↓reduceIte]
    rw [cmpR_le_iff]
    refine ev_if (fun k2 => ?_) (fun k2 => ?_)
    · try simp only [go_sem, Nat.reduceEqDiff, Nat.reduceAdd, Bool.false_eq_true, Nat.reduceBEq, ↓reduceIte]
      rw [decide_eq_true ⟨k, k2⟩]
      exact ⟨by trivial, by trivial⟩
    · try simp only [go_sem, Nat.reduceEqDiff, Nat.reduceAdd, Bool.false_eq_true, Nat.reduceBEq, ↓reduceIte]
      rw [decide_eq_false (fun k3 => k2 k3.2)]
      exact ⟨by trivial, by trivial⟩
  · try simp only [go_sem, Nat.reduceEqDiff, Nat.reduceAdd, Bool.false_eq_true, Nat.reduceBEq, ↓reduceIte]
    rw [decide_eq_false (fun k3 => k k3.1)]
    exact ⟨by trivial, by trivial⟩

theorem ssame_ok (H : PH) (va vb : Value) (p q r s : Rat) (ha : SpanV H va p q) (hb : SpanV H vb r s) (hbp : br p + br q + br r + br s ≤ 4294967000) : FnP Try.prog 17 [va, vb] H fun v _ => v = .bool (decide (p = r ∧ q = s)) := by
  obtain ⟨A, l, c, b, B, m, e, A', l', c', b', B', m', e', rfl⟩ := ha.form
  obtain ⟨h1, h2⟩ := ha.parts
  obtain ⟨A1, l1, c1, b1, B1, m1, e1, A1', l1', c1', b1', B1', m1', e1', rfl⟩ := hb.form
  obtain ⟨h3, h4⟩ := hb.parts
  refine of_span_Same (by simp) ?_
  try simp only [go_sem, Nat.reduceEqDiff, Nat.reduceAdd, Bool.false_eq_true, Nat.reduceBEq, ↓reduceIte, p_span_Same]
  first | refine ev_call (rcmpR_ok _ _ _ p r h1 h3 (by omega)) ?_ | refine ev_callP (rcmpR_ok _ _ _ p r h1 h3 (by omega)) ?_
  rintro v_33 H_33 le_33 rfl _
  replace h2 := h2.le le_33
  replace h4 := h4.le le_33
  try simp only [go_sem, Nat.reduceEqDiff, Nat.reduceAdd, Bool.false_eq_true, Nat.reduceBEq, ↓reduceIte]
  rw [cmpR_eq_iff]
  refine ev_if (fun k => ?_) (fun k => ?_)
  · try simp only [go_sem, Nat.reduceEqDiff, Nat.reduceAdd, Bool.false_eq_true, Nat.reduceBEq, ↓reduceIte]
    first | refine ev_call (rcmpR_ok _ _ _ q s h2 h4 (by omega)) ?_ | refine ev_callP (rcmpR_ok _ _ _ q s h2 h4 (by omega)) ?_
    rintro v_34 H_34 le_34 rfl _
    try simp only [go_sem, Nat.reduceEqDiff, Nat.reduceAdd, Bool.false_eq_true, Nat.reduceBEq, ↓reduceIte]
    rw [cmpR_eq_iff]
    refine ev_if (fun k2 => ?_) (fun k2 => ?_)
    · try simp only [go_sem, Nat.reduceEqDiff, Nat.reduceAdd, Bool.false_eq_true, Nat.reduceBEq, ↓reduceIte]
      rw [decide_eq_true ⟨k, k2⟩]
      exact ⟨by trivial, by trivial⟩
    · try simp only [go_sem, Nat.reduceEqDiff, Nat.reduceAdd, Bool.false_eq_true, Nat.reduceBEq, ↓reduceIte]
      rw [decide_eq_false (fun k3 => k2 k3.2)]
      exact ⟨by trivial, by trivial⟩
  · try simp only [go_sem, Nat.reduceEqDiff, Nat.reduceAdd, Bool.false_eq_true, Nat.reduceBEq, ↓reduceIte]
    rw [decide_eq_false (fun k3 => k k3.1)]
    exact ⟨by trivial, by trivial⟩

/-- 1 above 0, -1 below, else 0 -/
def spSgn (p q : Rat) : Int := if 0 < p then 1 else if q < 0 then -1 else 0
theorem spow_ok (H : PH) (va : Value) (p q : Rat) (n : Int) (ha : SpanV H va p q) (hbp : br p + br q ≤ 1000000) : FnP Try.prog 10 [va, .int .i64 n] H fun v H' => SpanV H' v (powLo p q (expN n)) (powHi p q (expN n)) := by
  obtain ⟨A, l, c, b, B, m, e, A', l', c', b', B', m', e', rfl⟩ := ha.form
  obtain ⟨h1, h2⟩ := ha.parts
  have hx : expN n ≤ 255 := by unfold expN; omega
  have s1 := br_pow p (expN n)
  have s2 := br_pow q (expN n)
  have t1 : expN n * br p ≤ 255 * br p := Nat.mul_le_mul_right _ hx
  have t2 : expN n * br q ≤ 255 * br q := Nat.mul_le_mul_right _ hx
  have htm : ((expN n : Nat) : Int).tmod 2 = ((expN n % 2 : Nat) : Int) := by rw [Int.tmod_eq_emod_of_nonneg (by omega)]; omega
  have hclamp : (if 255 < (if n < 0 then 0 else n) then 255 else (if n < 0 then 0 else n)) = ((expN n : Nat) : Int) := by unfold expN; split <;> (try split) <;> omega
  refine of_span_Pow (by simp) ?_
  try simp only [go_sem, Nat.reduceEqDiff, Nat.reduceAdd, Bool.false_eq_true, Nat.reduceBEq, ↓reduceIte, p_span_Pow]
  refine ev_cut (fun s => ∃ H' A2 l2 c2 b2 B2 m2 e2 A3 l3 c3 b3 B3 m3 e3, SpanV H' (.agg #[.slice A l c, .bool b, .slice B m e, .slice A' l' c', .bool b', .slice B' m' e']) p q ∧ SpanV H' (.agg #[.slice A2 l2 c2, .bool b2, .slice B2 m2 e2, .slice A3 l3 c3, .bool b3, .slice B3 m3 e3]) (minR (p ^ expN n) (q ^ expN n)) (maxR (p ^ expN n) (q ^ expN n)) ∧
    s = ⟨[(5, .ptr 5 0), (4, .ptr 4 0), (2, .ptr 2 0), (1, .v (.int .i64 n))], [(5, [.slice A2 l2 c2, .bool b2, .slice B2 m2 e2, .slice A3 l3 c3, .bool b3, .slice B3 m3 e3]), (4, [.slice none 0 0, .bool false, .slice none 0 0, .slice none 0 0, .bool false, .slice none 0 0]), (2, [.slice A l c, .bool b, .slice B m e, .slice A' l' c', .bool b', .slice B' m' e'])], H', PH.no⟩) ?_ ?_
  · try simp only [go_sem, Nat.reduceEqDiff, Nat.reduceAdd, Bool.false_eq_true, Nat.reduceBEq, ↓reduceIte]
    repeat' (with_reducible refine And.intro ?_ ?_)
    all_goals
      first | refine ev_call (rpow'_ok _ _ p n h1 (by omega)) ?_ | refine ev_callP (rpow'_ok _ _ p n h1 (by omega)) ?_
      rintro v_45 H_45 le_45 g1 _
      replace ha := ha.le le_45
      replace h2 := h2.le le_45
      try simp only [go_sem, Nat.reduceEqDiff, Nat.reduceAdd, Bool.false_eq_true, Nat.reduceBEq, ↓reduceIte]
      repeat' (with_reducible refine And.intro ?_ ?_)
      all_goals
        first | refine ev_call (rpow'_ok _ _ q n h2 (by omega)) ?_ | refine ev_callP (rpow'_ok _ _ q n h2 (by omega)) ?_
        rintro v_46 H_46 le_46 g2 _
        replace ha := ha.le le_46
        replace g1 := g1.le le_46
        try simp only [go_sem, Nat.reduceEqDiff, Nat.reduceAdd, Bool.false_eq_true, Nat.reduceBEq, ↓reduceIte]
        repeat' (with_reducible refine And.intro ?_ ?_)
        all_goals
          first | refine ev_call (around_ok _ _ _ _ _ g1 g2 (by omega)) ?_ | refine ev_callP (around_ok _ _ _ _ _ g1 g2 (by omega)) ?_
          rintro v_47 H_47 le_47 g3 _
          replace ha := ha.le le_47
          try simp only [go_sem, Nat.reduceEqDiff, Nat.reduceAdd, Bool.false_eq_true, Nat.reduceBEq, ↓reduceIte]
          obtain ⟨A2, l2, c2, b2, B2, m2, e2, A3, l3, c3, b3, B3, m3, e3, rfl⟩ := g3.form
          try simp only [go_sem, Nat.reduceEqDiff, Nat.reduceAdd, Bool.false_eq_true, Nat.reduceBEq, ↓reduceIte]
          exact k_cut _ ⟨_, _, _, _, _, _, _, _, _, _, _, _, _, _, _, ha, g3, rfl⟩ ⟨rfl, by simp only [go_sem, Nat.reduceEqDiff, Nat.reduceAdd, Bool.false_eq_true, Nat.reduceBEq, ↓reduceIte, and_self, Option.some.injEq, SV.v.injEq, SV.ptr.injEq, Value.int.injEq, Value.bool.injEq, Value.slice.injEq, true_and, and_true] <;> (repeat' apply And.intro) <;> first | rfl | omega | (simp (disch := omega) only [w64, wu64, wu32, wu8] <;> omega), by simp only [go_sem, Nat.reduceEqDiff, Nat.reduceAdd, Bool.false_eq_true, Nat.reduceBEq, ↓reduceIte, and_self, Option.some.injEq, SV.v.injEq, SV.ptr.injEq, Value.int.injEq, Value.bool.injEq, Value.slice.injEq, true_and, and_true] <;> (repeat' apply And.intro) <;> rfl, rfl, PH.le.refl _⟩
  · rintro s ⟨H2, A2, l2, c2, b2, B2, m2, e2, A3, l3, c3, b3, B3, m3, e3, ha, g3, rfl⟩
    try simp only [go_sem, Nat.reduceEqDiff, Nat.reduceAdd, Bool.false_eq_true, Nat.reduceBEq, ↓reduceIte]
    rw [hclamp]
    have plain : ¬ (0 < expN n ∧ expN n % 2 = 0 ∧ p ≤ 0 ∧ 0 ≤ q) → powLo p q (expN n) = minR (p ^ expN n) (q ^ expN n) := fun h => by unfold powLo; rw [if_neg h]
    refine ev_if (fun c1 => ?_) (fun c1 => ?_)
    · try simp only [go_sem, Nat.reduceEqDiff, Nat.reduceAdd, Bool.false_eq_true, Nat.reduceBEq, ↓reduceIte]
      refine ev_rem (by decide) ?_
      rw [htm]
      try simp only [go_sem, Nat.reduceEqDiff, Nat.reduceAdd, Bool.false_eq_true, Nat.reduceBEq, ↓reduceIte]
      refine ev_if (fun c2 => ?_) (fun c2 => ?_)
      · try simp only [go_sem, Nat.reduceEqDiff, Nat.reduceAdd, Bool.false_eq_true, Nat.reduceBEq, ↓reduceIte]
        first | refine ev_call (shas_ok _ _ _ p q 0 ha (RatV.zero _) (by rw [br_zero]; omega)) ?_ | refine ev_callP (shas_ok _ _ _ p q 0 ha (RatV.zero _) (by rw [br_zero]; omega)) ?_
        rintro v_48 H_48 le_48 rfl _
        replace g3 := g3.le le_48
        try simp only [go_sem, Nat.reduceEqDiff, Nat.reduceAdd, Bool.false_eq_true, Nat.reduceBEq, ↓reduceIte]
        by_cases c3 : p ≤ 0 ∧ 0 ≤ q
        · rw [decide_eq_true c3]
          try simp only [go_sem, Nat.reduceEqDiff, Nat.reduceAdd, Bool.false_eq_true, Nat.reduceBEq, ↓reduceIte]
          have hlo : powLo p q (expN n) = 0 := by unfold powLo; rw [if_pos ⟨by omega, by omega, c3.1, c3.2⟩]
          rw [hlo]
          exact ⟨by trivial, SpanV.mk (RatV.zero _) g3.parts.2⟩
        · rw [decide_eq_false c3]
          try simp only [go_sem, Nat.reduceEqDiff, Nat.reduceAdd, Bool.false_eq_true, Nat.reduceBEq, ↓reduceIte]
          rw [plain (fun h => c3 ⟨h.2.2.1, h.2.2.2⟩)]
          exact ⟨by trivial, g3⟩
      · try simp only [go_sem, Nat.reduceEqDiff, Nat.reduceAdd, Bool.false_eq_true, Nat.reduceBEq, ↓reduceIte]
        rw [plain (fun h => c2 (by omega))]
        exact ⟨by trivial, g3⟩
    · try simp only [go_sem, Nat.reduceEqDiff, Nat.reduceAdd, Bool.false_eq_true, Nat.reduceBEq, ↓reduceIte]
      rw [plain (fun h => c1 (by omega))]
      exact ⟨by trivial, g3⟩

end Go.Proofs.Ytpifafenmgceoaa.X
set_option linter.unusedVariables false
set_option linter.unusedSimpArgs false
namespace Go.Proofs.Ytpifafenmgceoaa.X
open Go Go.RowKit Go.Proofs

/-- an interval of the reference -/
def RSpan (H : PH) (v : Value) (p q : Rat) : Prop := ∃ b A l c B m e b' A' l' c' B' m' e', v = .agg #[.bool b, .slice A l c, .slice B m e, .bool b', .slice A' l' c', .slice B' m' e'] ∧ RRat H (.agg #[.bool b, .slice A l c, .slice B m e]) p ∧ RRat H (.agg #[.bool b', .slice A' l' c', .slice B' m' e']) q
theorem RSpan.le {H H' : PH} {v : Value} {p q : Rat} (h : RSpan H v p q) (hl : H.le H') : RSpan H' v p q := by
  obtain ⟨b, A, l, c, B, m, e, b', A', l', c', B', m', e', h1, h2, h3⟩ := h
  exact ⟨b, A, l, c, B, m, e, b', A', l', c', B', m', e', h1, h2.le hl, h3.le hl⟩
theorem RSpan.form {H : PH} {v : Value} {p q : Rat} (h : RSpan H v p q) : ∃ b A l c B m e b' A' l' c' B' m' e', v = .agg #[.bool b, .slice A l c, .slice B m e, .bool b', .slice A' l' c', .slice B' m' e'] := by
  obtain ⟨b, A, l, c, B, m, e, b', A', l', c', B', m', e', h1, _⟩ := h
  exact ⟨b, A, l, c, B, m, e, b', A', l', c', B', m', e', h1⟩
theorem RSpan.parts {H : PH} {A B A' B' : Option Addr} {l c m e l' c' m' e' : Nat} {b b' : Bool} {p q : Rat} (h : RSpan H (.agg #[.bool b, .slice A l c, .slice B m e, .bool b', .slice A' l' c', .slice B' m' e']) p q) : RRat H (.agg #[.bool b, .slice A l c, .slice B m e]) p ∧ RRat H (.agg #[.bool b', .slice A' l' c', .slice B' m' e']) q := by
  obtain ⟨b1, A1, l1, c1, B1, m1, e1, b2, A2, l2, c2, B2, m2, e2, h1, h2, h3⟩ := h
  have : b = b1 ∧ A = A1 ∧ l = l1 ∧ c = c1 ∧ B = B1 ∧ m = m1 ∧ e = e1 ∧ b' = b2 ∧ A' = A2 ∧ l' = l2 ∧ c' = c2 ∧ B' = B2 ∧ m' = m2 ∧ e' = e2 := by simpa [and_assoc] using h1
  obtain ⟨rfl, rfl, rfl, rfl, rfl, rfl, rfl, rfl, rfl, rfl, rfl, rfl, rfl, rfl⟩ := this
  exact ⟨h2, h3⟩
theorem RSpan.mk {H : PH} {A B A' B' : Option Addr} {l c m e l' c' m' e' : Nat} {b b' : Bool} {p q : Rat} (h1 : RRat H (.agg #[.bool b, .slice A l c, .slice B m e]) p) (h2 : RRat H (.agg #[.bool b', .slice A' l' c', .slice B' m' e']) q) : RSpan H (.agg #[.bool b, .slice A l c, .slice B m e, .bool b', .slice A' l' c', .slice B' m' e']) p q :=
  ⟨b, A, l, c, B, m, e, b', A', l', c', B', m', e', rfl, h1, h2⟩
theorem RSpan.zero (H : PH) : RSpan H (.agg #[.bool false, .slice none 0 0, .slice none 0 0, .bool false, .slice none 0 0, .slice none 0 0]) 0 0 := RSpan.mk (RRat.zero H) (RRat.zero H)

theorem pointR_ok (H : PH) (va : Value) (p : Rat) (ha : RRat H va p) : FnP Try.prog 19 [va] H fun v H' => RSpan H' v p p := by
  obtain ⟨b, A, l, c, B, m, e, rfl⟩ := ha.form
  refine of_cinctureref1_Point (by simp) ?_
  try simp only [go_sem, Nat.reduceEqDiff, Nat.reduceAdd, Bool.false_eq_true, Nat.reduceBEq, ↓reduceIte, p_cinctureref1_Point]
  exact ⟨by trivial, RSpan.mk ha ha⟩

theorem sparseR_ok (H : PH) (a b : ByteArray) (ha : a.size ≤ 9223372036854775807) (hb : b.size ≤ 9223372036854775807) : FnP Try.prog 13 [.agg #[.string a, .string b]] H fun v H' => ∃ v', v = .tuple #[v', .int .i64 (spCode a b)] ∧ RSpan H' v' (if spOk a b then rv (bs a) else 0) (if spOk a b then rv (bs b) else 0) := by
  have bad : ∀ (n : Int) (H' : PH), spOk a b = false → spCode a b = n → ∃ v', (Value.tuple #[.agg #[.bool false, .slice none 0 0, .slice none 0 0, .bool false, .slice none 0 0, .slice none 0 0], .int .i64 n]) = .tuple #[v', .int .i64 (spCode a b)] ∧ RSpan H' v' (if spOk a b then rv (bs a) else 0) (if spOk a b then rv (bs b) else 0) := by
    intro n H' h k
    rw [h, k]
    exact ⟨_, rfl, RSpan.zero _⟩
  refine of_cinctureref1_SpanParse (by simp) ?_
  try simp only [go_sem, Nat.reduceEqDiff, Nat.reduceAdd, Bool.false_eq_true, Nat.reduceBEq, ↓reduceIte, p_cinctureref1_SpanParse]
  first | refine ev_call (rparseR_ok _ a ha) ?_ | refine ev_callP (rparseR_ok _ a ha) ?_
  rintro v_19 H_19 le_19 ⟨va, rfl, h1⟩ _
  try simp only [go_sem, Nat.reduceEqDiff, Nat.reduceAdd, Bool.false_eq_true, Nat.reduceBEq, ↓reduceIte]
  obtain ⟨b1, A1, l1, c1, B1, m1, e1, rfl⟩ := h1.form
  try simp only [go_sem, Nat.reduceEqDiff, Nat.reduceAdd, Bool.false_eq_true, Nat.reduceBEq, ↓reduceIte]
  first | refine ev_call (rparseR_ok _ b hb) ?_ | refine ev_callP (rparseR_ok _ b hb) ?_
  rintro v_20 H_20 le_20 ⟨vb, rfl, h2⟩ _
  replace h1 := h1.le le_20
  try simp only [go_sem, Nat.reduceEqDiff, Nat.reduceAdd, Bool.false_eq_true, Nat.reduceBEq, ↓reduceIte]
  obtain ⟨b2, A2, l2, c2, B2, m2, e2, rfl⟩ := h2.form
  cases hk : ratOk (bs a) with
  | false =>
    try simp only [go_sem, Nat.reduceEqDiff, Nat.reduceAdd, Bool.false_eq_true, Nat.reduceBEq, ↓reduceIte, hk]
    repeat' (with_reducible refine And.intro ?_ ?_)
    all_goals first | trivial | exact bad _ _ (by unfold spOk; rw [hk]; rfl) (by unfold spCode; rw [hk]; rfl)
  | true =>
    cases hk2 : ratOk (bs b) with
    | false =>
      try simp only [go_sem, Nat.reduceEqDiff, Nat.reduceAdd, Bool.false_eq_true, Nat.reduceBEq, ↓reduceIte, hk, hk2]
      repeat' (with_reducible refine And.intro ?_ ?_)
      all_goals first | trivial | exact bad _ _ (by unfold spOk; rw [hk, hk2]; rfl) (by unfold spCode; rw [hk, hk2]; rfl)
    | true =>
      have k1 := rv_max hk
      have k2 := rv_max hk2
      rw [hk, if_pos rfl] at h1
      rw [hk2, if_pos rfl] at h2
      try simp only [go_sem, Nat.reduceEqDiff, Nat.reduceAdd, Bool.false_eq_true, Nat.reduceBEq, ↓reduceIte, hk, hk2]
      first | refine ev_call (rcmpRR_ok _ _ _ _ _ h1 h2 (by omega)) ?_ | refine ev_callP (rcmpRR_ok _ _ _ _ _ h1 h2 (by omega)) ?_
      rintro v_21 H_21 le_21 rfl _
      replace h1 := h1.le le_21
      replace h2 := h2.le le_21
      try simp only [go_sem, Nat.reduceEqDiff, Nat.reduceAdd, Bool.false_eq_true, Nat.reduceBEq, ↓reduceIte]
      rw [gt_R]
      refine ev_if (fun h => ?_) (fun h => ?_)
      · have h' : ¬ rv (bs a) ≤ rv (bs b) := by rw [Rat.not_le]; exact h
        try simp only [go_sem, Nat.reduceEqDiff, Nat.reduceAdd, Bool.false_eq_true, Nat.reduceBEq, ↓reduceIte]
        repeat' (with_reducible refine And.intro ?_ ?_)
        all_goals first | trivial | exact bad _ _ (by unfold spOk; rw [hk, hk2, decide_eq_false h']; rfl) (by unfold spCode; rw [hk, hk2, Bool.and_self, if_pos rfl, if_neg h'])
      · have h' : rv (bs a) ≤ rv (bs b) := Rat.not_lt.1 h
        try simp only [go_sem, Nat.reduceEqDiff, Nat.reduceAdd, Bool.false_eq_true, Nat.reduceBEq, ↓reduceIte]
        rw [show spOk a b = true by unfold spOk; rw [hk, hk2, decide_eq_true h']; rfl, show spCode a b = 0 by unfold spCode; rw [hk, hk2, Bool.and_self, if_pos rfl, if_pos h']]
        repeat' (with_reducible refine And.intro ?_ ?_)
        all_goals first | trivial | exact ⟨_, rfl, RSpan.mk h1 h2⟩

abbrev RatsR (H : PH) (A : Option Addr) (l : List Rat) : Prop := ArrV 3 RRat H A l
theorem lstLo_snoc (q : Rat) (l : List Rat) (x : Rat) : lstLo q (l ++ [x]) = minR (lstLo q l) x := by unfold lstLo; rw [List.foldl_append]; rfl
theorem lstHi_snoc (q : Rat) (l : List Rat) (x : Rat) : lstHi q (l ++ [x]) = maxR (lstHi q l) x := by unfold lstHi; rw [List.foldl_append]; rfl
theorem br_lst {q : Rat} {n : Nat} (hq : br q ≤ n) : ∀ (l : List Rat), (∀ x ∈ l, br x ≤ n) → br (lstLo q l) ≤ n ∧ br (lstHi q l) ≤ n := by
  intro l
  induction l generalizing q with
  | nil => intro _; exact ⟨hq, hq⟩
  | cons x l ih =>
    intro h
    unfold lstLo lstHi
    rw [List.foldl_cons, List.foldl_cons]
    have hx := h x (by simp)
    exact ⟨(ih (br_min' hq hx) fun y hy => h y (by simp [hy])).1, (ih (br_max' hq hx) fun y hy => h y (by simp [hy])).2⟩

set_option maxHeartbeats 4000000 in
theorem least4_ok (H : PH) (A : Option Addr) (q : Rat) (rest : List Rat) (k cp : Nat) (hk : k = rest.length + 1) (hA : RatsR H A (q :: rest)) (hlen : rest.length ≤ 1000) (hq : br q ≤ 1000000) (hb : ∀ x ∈ rest, br x ≤ 1000000) : FnP Try.prog 32 [.slice A k cp] H fun v H' => RSpan H' v (lstLo q rest) (lstHi q rest) := by
  obtain ⟨b, off, cs, T, fz, rfl, hH, hel⟩ := hA.open (by simp)
  obtain ⟨v0, hv0, hR0⟩ := hel 0 q rfl
  obtain ⟨b0, A0, l0, c0, B0, m0, e0, rfl⟩ := hR0.form
  refine of_cinctureref1_Least (by simp) ?_
  try simp only [go_sem, Nat.reduceEqDiff, Nat.reduceAdd, Bool.false_eq_true, Nat.reduceBEq, ↓reduceIte, p_cinctureref1_Least]
  refine ev_ia rfl (by decide) (by omega) ?_
  try simp only [go_sem, Nat.reduceEqDiff, Nat.reduceAdd, Bool.false_eq_true, Nat.reduceBEq, ↓reduceIte]
  refine ev_ldH rfl hH hv0 ?_
  try simp only [go_sem, Nat.reduceEqDiff, Nat.reduceAdd, Bool.false_eq_true, Nat.reduceBEq, ↓reduceIte]
  refine ev_ia rfl (by decide) (by omega) ?_
  try simp only [go_sem, Nat.reduceEqDiff, Nat.reduceAdd, Bool.false_eq_true, Nat.reduceBEq, ↓reduceIte]
  refine ev_ldH rfl hH hv0 ?_
  try simp only [go_sem, Nat.reduceEqDiff, Nat.reduceAdd, Bool.false_eq_true, Nat.reduceBEq, ↓reduceIte]
  refine ev_loop (fun n' s => ∃ (i : Nat) (H1 : PH) (b1 : Bool) (A1 : Option Addr) (l1 c1 : Nat) (B1 : Option Addr) (m1 e1 : Nat) (b2 : Bool) (A2 : Option Addr) (l2 c2 : Nat) (B2 : Option Addr) (m2 e2 : Nat), i ≤ rest.length ∧ n' = rest.length - i ∧ H.le H1 ∧
    RRat H1 (.agg #[.bool b1, .slice A1 l1 c1, .slice B1 m1 e1]) (lstLo q (rest.take i)) ∧ RRat H1 (.agg #[.bool b2, .slice A2 l2 c2, .slice B2 m2 e2]) (lstHi q (rest.take i)) ∧
    s = ⟨[(4, .v (.int .i64 ((i + 1 : Nat) : Int))), (3, .ptr 3 0), (2, .ptr 2 0), (0, .v (.slice (some ⟨b, off, none⟩) k cp))], [(3, [.bool b1, .slice A1 l1 c1, .slice B1 m1 e1, .bool b2, .slice A2 l2 c2, .slice B2 m2 e2]), (2, [.bool false, .slice none 0 0, .slice none 0 0, .bool false, .slice none 0 0, .slice none 0 0])], H1, PH.no⟩)
    rest.length _ ⟨0, H, _, _, _, _, _, _, _, _, _, _, _, _, _, _, Nat.zero_le _, by omega, PH.le.refl _, hR0, hR0, rfl⟩ ⟨rfl, by simp only [go_sem, Nat.reduceEqDiff, Nat.reduceAdd, Bool.false_eq_true, Nat.reduceBEq, ↓reduceIte, and_self, Option.some.injEq, SV.v.injEq, SV.ptr.injEq, Value.int.injEq, Value.bool.injEq, Value.slice.injEq, true_and, and_true] <;> (repeat' apply And.intro) <;> first | rfl | omega | (simp (disch := omega) only [w64, wu64, wu32, wu8] <;> omega), by simp only [go_sem, Nat.reduceEqDiff, Nat.reduceAdd, Bool.false_eq_true, Nat.reduceBEq, ↓reduceIte, and_self, Option.some.injEq, SV.v.injEq, SV.ptr.injEq, Value.int.injEq, Value.bool.injEq, Value.slice.injEq, true_and, and_true] <;> (repeat' apply And.intro) <;> rfl, rfl, PH.le.refl _⟩ ?_
  rintro n' s ⟨i, H1, b1, A1, l1, c1, B1, m1, e1, b2, A2, l2, c2, B2, m2, e2, hi, hn', hle, hlo, hhi, rfl⟩
  have hbnd := br_lst hq (rest.take i) (fun x hx => hb x (List.mem_of_mem_take hx))
  try simp only [go_sem, Nat.reduceEqDiff, Nat.reduceAdd, Bool.false_eq_true, Nat.reduceBEq, ↓reduceIte]
  refine ev_if (fun h => ?_) (fun h => ?_)
  · have hil : i < rest.length := by omega
    obtain ⟨x, hx⟩ : ∃ x, rest[i]? = some x := ⟨rest[i], List.getElem?_eq_getElem hil⟩
    have hxb : br x ≤ 1000000 := hb x (List.mem_of_getElem? hx)
    have htk : rest.take (i + 1) = rest.take i ++ [x] := by
      rw [List.take_add_one, hx]; rfl
    obtain ⟨vx, hvx, hRx⟩ := hel (i + 1) x (by rw [List.getElem?_cons_succ]; exact hx)
    have hvx' : ldv true 3 (off + ((i + 1 : Nat) : Int).toNat * 3) cs.toList = some vx := by rw [Int.toNat_natCast]; exact hvx
    obtain ⟨bx, Ax, lx, cx, Bx, mx, ex, rfl⟩ := hRx.form
    replace hRx := hRx.le hle
    try simp only [go_sem, Nat.reduceEqDiff, Nat.reduceAdd, Bool.false_eq_true, Nat.reduceBEq, ↓reduceIte]
    refine ev_ia rfl (by omega) (by omega) ?_
    try simp only [go_sem, Nat.reduceEqDiff, Nat.reduceAdd, Bool.false_eq_true, Nat.reduceBEq, ↓reduceIte]
    refine ev_ldH rfl (hle _ _ hH) hvx' ?_
    try simp only [go_sem, Nat.reduceEqDiff, Nat.reduceAdd, Bool.false_eq_true, Nat.reduceBEq, ↓reduceIte]
    first | refine ev_call (rcmpRR_ok _ _ _ _ _ hRx hlo (by omega)) ?_ | refine ev_callP (rcmpRR_ok _ _ _ _ _ hRx hlo (by omega)) ?_
    rintro v_26 H_26 le_26 rfl _
    replace hRx := hRx.le le_26
    replace hlo := hlo.le le_26
    replace hhi := hhi.le le_26
    replace hle := hle.le le_26
    try simp only [go_sem, Nat.reduceEqDiff, Nat.reduceAdd, Bool.false_eq_true, Nat.reduceBEq, ↓reduceIte]
    rw [cmpR_lt_iff]
    refine ev_if (fun h2 => ?_) (fun h2 => ?_)
    · try simp only [go_sem, Nat.reduceEqDiff, Nat.reduceAdd, Bool.false_eq_true, Nat.reduceBEq, ↓reduceIte]
      refine ev_ia rfl (by omega) (by omega) ?_
      try simp only [go_sem, Nat.reduceEqDiff, Nat.reduceAdd, Bool.false_eq_true, Nat.reduceBEq, ↓reduceIte]
      refine ev_ldH rfl (hle _ _ hH) hvx' ?_
      try simp only [go_sem, Nat.reduceEqDiff, Nat.reduceAdd, Bool.false_eq_true, Nat.reduceBEq, ↓reduceIte]
      have k1 := hRx
      rw [show x = minR (lstLo q (rest.take i)) x by unfold minR; rw [if_pos h2]] at k1
      try simp only [go_sem, Nat.reduceEqDiff, Nat.reduceAdd, Bool.false_eq_true, Nat.reduceBEq, ↓reduceIte]
      refine ev_ia rfl (by omega) (by omega) ?_
      try simp only [go_sem, Nat.reduceEqDiff, Nat.reduceAdd, Bool.false_eq_true, Nat.reduceBEq, ↓reduceIte]
      refine ev_ldH rfl (hle _ _ hH) hvx' ?_
      try simp only [go_sem, Nat.reduceEqDiff, Nat.reduceAdd, Bool.false_eq_true, Nat.reduceBEq, ↓reduceIte]
      first | refine ev_call (rcmpRR_ok _ _ _ _ _ hRx hhi (by omega)) ?_ | refine ev_callP (rcmpRR_ok _ _ _ _ _ hRx hhi (by omega)) ?_
      rintro v_27 H_27 le_27 rfl _
      replace hRx := hRx.le le_27
      replace hhi := hhi.le le_27
      replace k1 := k1.le le_27
      replace hle := hle.le le_27
      try simp only [go_sem, Nat.reduceEqDiff, Nat.reduceAdd, Bool.false_eq_true, Nat.reduceBEq, ↓reduceIte]
      rw [gt_R]
      refine ev_if (fun h3 => ?_) (fun h3 => ?_)
      · try simp only [go_sem, Nat.reduceEqDiff, Nat.reduceAdd, Bool.false_eq_true, Nat.reduceBEq, ↓reduceIte]
        refine ev_ia rfl (by omega) (by omega) ?_
        try simp only [go_sem, Nat.reduceEqDiff, Nat.reduceAdd, Bool.false_eq_true, Nat.reduceBEq, ↓reduceIte]
        refine ev_ldH rfl (hle _ _ hH) hvx' ?_
        try simp only [go_sem, Nat.reduceEqDiff, Nat.reduceAdd, Bool.false_eq_true, Nat.reduceBEq, ↓reduceIte]
        have k2 := hRx
        rw [show x = maxR (lstHi q (rest.take i)) x by unfold maxR; rw [if_pos h3]] at k2
        try simp only [go_sem, Nat.reduceEqDiff, Nat.reduceAdd, Bool.false_eq_true, Nat.reduceBEq, ↓reduceIte]
        rw [w64 (((i + 1 : Nat) : Int) + 1) (by omega) (by omega), show ((i + 1 : Nat) : Int) + 1 = ((i + 1 + 1 : Nat) : Int) by omega]
        refine k_next (rest.length - (i + 1)) _ (by omega) ⟨i + 1, _, _, _, _, _, _, _, _, _, _, _, _, _, _, _, by omega, rfl, hle, ?_, ?_, rfl⟩ ⟨rfl, by simp only [go_sem, Nat.reduceEqDiff, Nat.reduceAdd, Bool.false_eq_true, Nat.reduceBEq, ↓reduceIte, and_self, Option.some.injEq, SV.v.injEq, SV.ptr.injEq, Value.int.injEq, Value.bool.injEq, Value.slice.injEq, true_and, and_true] <;> (repeat' apply And.intro) <;> first | rfl | omega | (simp (disch := omega) only [w64, wu64, wu32, wu8] <;> omega), by simp only [go_sem, Nat.reduceEqDiff, Nat.reduceAdd, Bool.false_eq_true, Nat.reduceBEq, ↓reduceIte, and_self, Option.some.injEq, SV.v.injEq, SV.ptr.injEq, Value.int.injEq, Value.bool.injEq, Value.slice.injEq, true_and, and_true] <;> (repeat' apply And.intro) <;> rfl, rfl, PH.le.refl _⟩
        · rw [htk, lstLo_snoc]; exact k1
        · rw [htk, lstHi_snoc]; exact k2
      · have k2 := hhi
        rw [show lstHi q (rest.take i) = maxR (lstHi q (rest.take i)) x by unfold maxR; rw [if_neg h3]] at k2
        try simp only [go_sem, Nat.reduceEqDiff, Nat.reduceAdd, Bool.false_eq_true, Nat.reduceBEq, ↓reduceIte]
        rw [w64 (((i + 1 : Nat) : Int) + 1) (by omega) (by omega), show ((i + 1 : Nat) : Int) + 1 = ((i + 1 + 1 : Nat) : Int) by omega]
        refine k_next (rest.length - (i + 1)) _ (by omega) ⟨i + 1, _, _, _, _, _, _, _, _, _, _, _, _, _, _, _, by omega, rfl, hle, ?_, ?_, rfl⟩ ⟨rfl, by simp only [go_sem, Nat.reduceEqDiff, Nat.reduceAdd, Bool.false_eq_true, Nat.reduceBEq, ↓reduceIte, and_self, Option.some.injEq, SV.v.injEq, SV.ptr.injEq, Value.int.injEq, Value.bool.injEq, Value.slice.injEq, true_and, and_true] <;> (repeat' apply And.intro) <;> first | rfl | omega | (simp (disch := omega) only [w64, wu64, wu32, wu8] <;> omega), by simp only [go_sem, Nat.reduceEqDiff, Nat.reduceAdd, Bool.false_eq_true, Nat.reduceBEq, ↓reduceIte, and_self, Option.some.injEq, SV.v.injEq, SV.ptr.injEq, Value.int.injEq, Value.bool.injEq, Value.slice.injEq, true_and, and_true] <;> (repeat' apply And.intro) <;> rfl, rfl, PH.le.refl _⟩
        · rw [htk, lstLo_snoc]; exact k1
        · rw [htk, lstHi_snoc]; exact k2
    · have k1 := hlo
      rw [show lstLo q (rest.take i) = minR (lstLo q (rest.take i)) x by unfold minR; rw [if_neg h2]] at k1
      try simp only [go_sem, Nat.reduceEqDiff, Nat.reduceAdd, Bool.false_eq_true, Nat.reduceBEq, ↓reduceIte]
      refine ev_ia rfl (by omega) (by omega) ?_
      try simp only [go_sem, Nat.reduceEqDiff, Nat.reduceAdd, Bool.false_eq_true, Nat.reduceBEq, ↓reduceIte]
      refine ev_ldH rfl (hle _ _ hH) hvx' ?_
      try simp only [go_sem, Nat.reduceEqDiff, Nat.reduceAdd, Bool.false_eq_true, Nat.reduceBEq, ↓reduceIte]
      first | refine ev_call (rcmpRR_ok _ _ _ _ _ hRx hhi (by omega)) ?_ | refine ev_callP (rcmpRR_ok _ _ _ _ _ hRx hhi (by omega)) ?_
      rintro v_27 H_27 le_27 rfl _
      replace hRx := hRx.le le_27
      replace hhi := hhi.le le_27
      replace k1 := k1.le le_27
      replace hle := hle.le le_27
      try simp only [go_sem, Nat.reduceEqDiff, Nat.reduceAdd, Bool.false_eq_true, Nat.reduceBEq, ↓reduceIte]
      rw [gt_R]
      refine ev_if (fun h3 => ?_) (fun h3 => ?_)
      · try simp only [go_sem, Nat.reduceEqDiff, Nat.reduceAdd, Bool.false_eq_true, Nat.reduceBEq, ↓reduceIte]
        refine ev_ia rfl (by omega) (by omega) ?_
        try simp only [go_sem, Nat.reduceEqDiff, Nat.reduceAdd, Bool.false_eq_true, Nat.reduceBEq, ↓reduceIte]
        refine ev_ldH rfl (hle _ _ hH) hvx' ?_
        try simp only [go_sem, Nat.reduceEqDiff, Nat.reduceAdd, Bool.false_eq_true, Nat.reduceBEq, ↓reduceIte]
        have k2 := hRx
        rw [show x = maxR (lstHi q (rest.take i)) x by unfold maxR; rw [if_pos h3]] at k2
        try simp only [go_sem, Nat.reduceEqDiff, Nat.reduceAdd, Bool.false_eq_true, Nat.reduceBEq, ↓reduceIte]
        rw [w64 (((i + 1 : Nat) : Int) + 1) (by omega) (by omega), show ((i + 1 : Nat) : Int) + 1 = ((i + 1 + 1 : Nat) : Int) by omega]
        refine k_next (rest.length - (i + 1)) _ (by omega) ⟨i + 1, _, _, _, _, _, _, _, _, _, _, _, _, _, _, _, by omega, rfl, hle, ?_, ?_, rfl⟩ ⟨rfl, by simp only [go_sem, Nat.reduceEqDiff, Nat.reduceAdd, Bool.false_eq_true, Nat.reduceBEq, ↓reduceIte, and_self, Option.some.injEq, SV.v.injEq, SV.ptr.injEq, Value.int.injEq, Value.bool.injEq, Value.slice.injEq, true_and, and_true] <;> (repeat' apply And.intro) <;> first | rfl | omega | (simp (disch := omega) only [w64, wu64, wu32, wu8] <;> omega), by simp only [go_sem, Nat.reduceEqDiff, Nat.reduceAdd, Bool.false_eq_true, Nat.reduceBEq, ↓reduceIte, and_self, Option.some.injEq, SV.v.injEq, SV.ptr.injEq, Value.int.injEq, Value.bool.injEq, Value.slice.injEq, true_and, and_true] <;> (repeat' apply And.intro) <;> rfl, rfl, PH.le.refl _⟩
        · rw [htk, lstLo_snoc]; exact k1
        · rw [htk, lstHi_snoc]; exact k2
      · have k2 := hhi
        rw [show lstHi q (rest.take i) = maxR (lstHi q (rest.take i)) x by unfold maxR; rw [if_neg h3]] at k2
        try simp only [go_sem, Nat.reduceEqDiff, Nat.reduceAdd, Bool.false_eq_true, Nat.reduceBEq, ↓reduceIte]
        rw [w64 (((i + 1 : Nat) : Int) + 1) (by omega) (by omega), show ((i + 1 : Nat) : Int) + 1 = ((i + 1 + 1 : Nat) : Int) by omega]
        refine k_next (rest.length - (i + 1)) _ (by omega) ⟨i + 1, _, _, _, _, _, _, _, _, _, _, _, _, _, _, _, by omega, rfl, hle, ?_, ?_, rfl⟩ ⟨rfl, by simp only [go_sem, Nat.reduceEqDiff, Nat.reduceAdd, Bool.false_eq_true, Nat.reduceBEq, ↓reduceIte, and_self, Option.some.injEq, SV.v.injEq, SV.ptr.injEq, Value.int.injEq, Value.bool.injEq, Value.slice.injEq, true_and, and_true] <;> (repeat' apply And.intro) <;> first | rfl | omega | (simp (disch := omega) only [w64, wu64, wu32, wu8] <;> omega), by simp only [go_sem, Nat.reduceEqDiff, Nat.reduceAdd, Bool.false_eq_true, Nat.reduceBEq, ↓reduceIte, and_self, Option.some.injEq, SV.v.injEq, SV.ptr.injEq, Value.int.injEq, Value.bool.injEq, Value.slice.injEq, true_and, and_true] <;> (repeat' apply And.intro) <;> rfl, rfl, PH.le.refl _⟩
        · rw [htk, lstLo_snoc]; exact k1
        · rw [htk, lstHi_snoc]; exact k2
  · have : rest.take i = rest := List.take_of_length_le (by omega)
    rw [this] at hlo hhi
    try simp only [go_sem, Nat.reduceEqDiff, Nat.reduceAdd, Bool.false_eq_true, Nat.reduceBEq, ↓reduceIte]
    exact ⟨by trivial, RSpan.mk hlo hhi⟩

end Go.Proofs.Ytpifafenmgceoaa.X
set_option linter.unusedVariables false
set_option linter.unusedSimpArgs false
namespace Go.Proofs.Ytpifafenmgceoaa.X
open Go Go.RowKit Go.Proofs

/-- a text is a number, not too long -/
def qok (a : ByteArray) : Bool := ratOk (bs a) && decide (a.size ≤ 100)
theorem qok_br {a : ByteArray} (h : qok a = true) : br (rv (bs a)) ≤ 401 ∧ ofB (rtx (rv (bs a))) = a ∧ ratOk (bs a) = true := by
  unfold qok at h
  rw [Bool.and_eq_true, decide_eq_true_eq] at h
  have := rv_br h.1
  rw [bs_length] at this
  exact ⟨by omega, by rw [rtx_rv h.1, ofB_bs], h.1⟩

theorem isQ_ok (H : PH) (va vb : Value) (q : Rat) (ha : RatV H va q) (hb : RRat H vb q) (hbp : br q ≤ 4294967000) : FnP Try.prog 27 [va, vb] H fun v _ => v = .bool true := by
  obtain ⟨A, l, c, b, B, m, e, rfl⟩ := ha.form
  obtain ⟨b1, A1, l1, c1, B1, m1, e1, rfl⟩ := hb.form
  refine of_cincturelaw3_Is (by simp) ?_
  try simp only [go_sem, Nat.reduceEqDiff, Nat.reduceAdd, Bool.false_eq_true, Nat.reduceBEq, ↓reduceIte, p_cincturelaw3_Is]
  first | refine ev_call (rtext_ok' _ _ _ ha hbp) ?_ | refine ev_callP (rtext_ok' _ _ _ ha hbp) ?_
  rintro v_3 H_3 le_3 rfl _
  replace hb := hb.le le_3
  try simp only [go_sem, Nat.reduceEqDiff, Nat.reduceAdd, Bool.false_eq_true, Nat.reduceBEq, ↓reduceIte]
  first | refine ev_call (rtextR_ok _ _ _ hb hbp) ?_ | refine ev_callP (rtextR_ok _ _ _ hb hbp) ?_
  rintro v_4 H_4 le_4 rfl _
  try simp only [go_sem, Nat.reduceEqDiff, Nat.reduceAdd, Bool.false_eq_true, Nat.reduceBEq, ↓reduceIte]
  refine ev_pos (by trivial) ?_
  try simp only [go_sem, Nat.reduceEqDiff, Nat.reduceAdd, Bool.false_eq_true, Nat.reduceBEq, ↓reduceIte]
  exact ⟨by trivial, by trivial⟩

/-- a number from lo to hi, made of any number -/
def wth (n lo hi : Int) : Int := lo + (if n.tmod (hi - lo + 1) < 0 then n.tmod (hi - lo + 1) + (hi - lo + 1) else n.tmod (hi - lo + 1))
theorem wth_bd {n lo hi : Int} (h : lo ≤ hi) : lo ≤ wth n lo hi ∧ wth n lo hi ≤ hi := by
  unfold wth
  have h1 := Int.lt_tmod_of_pos n (show 0 < hi - lo + 1 by omega)
  have h2 := Int.tmod_lt_of_pos n (show 0 < hi - lo + 1 by omega)
  split <;> omega

theorem within_ok (H : PH) (n lo hi : Int) (h1 : -9223372036854775808 ≤ n) (h2 : n ≤ 9223372036854775807) (h3 : -1000 ≤ lo) (h4 : lo ≤ hi) (h5 : hi ≤ 1000) : FnP Try.prog 8 [.int .i64 n, .int .i64 lo, .int .i64 hi] H fun v _ => v = .int .i64 (wth n lo hi) := by
  have b1 := Int.lt_tmod_of_pos n (show 0 < hi - lo + 1 by omega)
  have b2 := Int.tmod_lt_of_pos n (show 0 < hi - lo + 1 by omega)
  refine of_cincturebook_Within (by simp) ?_
  try simp only [go_sem, Nat.reduceEqDiff, Nat.reduceAdd, Bool.false_eq_true, Nat.reduceBEq, ↓reduceIte, p_cincturebook_Within]
  rw [w64 (hi - lo) (by omega) (by omega), w64 (hi - lo + 1) (by omega) (by omega)]
  refine ev_rem (by omega) ?_
  try simp only [go_sem, Nat.reduceEqDiff, Nat.reduceAdd, Bool.false_eq_true, Nat.reduceBEq, ↓reduceIte]
  refine ev_if (fun h => ?_) (fun h => ?_)
  · try simp only [go_sem, Nat.reduceEqDiff, Nat.reduceAdd, Bool.false_eq_true, Nat.reduceBEq, ↓reduceIte]
    rw [w64 (hi - lo) (by omega) (by omega), w64 (hi - lo + 1) (by omega) (by omega), w64 (n.tmod (hi - lo + 1) + (hi - lo + 1)) (by omega) (by omega), w64 (lo + (n.tmod (hi - lo + 1) + (hi - lo + 1))) (by omega) (by omega)]
    refine ⟨by trivial, ?_⟩
    unfold wth
    rw [if_pos h]
  · try simp only [go_sem, Nat.reduceEqDiff, Nat.reduceAdd, Bool.false_eq_true, Nat.reduceBEq, ↓reduceIte]
    rw [w64 (lo + n.tmod (hi - lo + 1)) (by omega) (by omega)]
    refine ⟨by trivial, ?_⟩
    unfold wth
    rw [if_neg h]

end Go.Proofs.Ytpifafenmgceoaa.X
