/- Package span. -/
import Derived.Test.YtpifafenmgceoaaGreatZK
import Derived.Test.YtpifafenmgceoaaGreatZH
import Derived.Test.YtpifafenmgceoaaGreatZD
import Derived.Test.YtpifafenmgceoaaGreatZE
set_option linter.unusedVariables false
set_option linter.unusedSimpArgs false
namespace Go.Proofs.YtpifafenmgceoaaGreat.X
open Go Go.RowKit Go.Proofs

theorem br_zero : br 0 = 1 := by decide +kernel
/-- an interval -/
def SpanV (H : PH) (v : Value) (p q : Rat) : Prop := ∃ A l c b B m e A' l' c' b' B' m' e', v = .agg #[.slice A l c, .bool b, .slice B m e, .slice A' l' c', .bool b', .slice B' m' e'] ∧ RatV H (.agg #[.slice A l c, .bool b, .slice B m e]) p ∧ RatV H (.agg #[.slice A' l' c', .bool b', .slice B' m' e']) q
theorem SpanV.le {H H' : PH} {v : Value} {p q : Rat} (h : SpanV H v p q) (hl : H.le H') : SpanV H' v p q := by
  obtain ⟨A, l, c, b, B, m, e, A', l', c', b', B', m', e', h1, h2, h3⟩ := h
  exact ⟨A, l, c, b, B, m, e, A', l', c', b', B', m', e', h1, h2.le hl, h3.le hl⟩
theorem SpanV.form {H : PH} {v : Value} {p q : Rat} (h : SpanV H v p q) : ∃ A l c b B m e A' l' c' b' B' m' e', v = .agg #[.slice A l c, .bool b, .slice B m e, .slice A' l' c', .bool b', .slice B' m' e'] := by
  obtain ⟨A, l, c, b, B, m, e, A', l', c', b', B', m', e', h1, _⟩ := h
  exact ⟨A, l, c, b, B, m, e, A', l', c', b', B', m', e', h1⟩
theorem SpanV.parts {H : PH} {A B A' B' : Option Addr} {l c m e l' c' m' e' : Nat} {b b' : Bool} {p q : Rat} (h : SpanV H (.agg #[.slice A l c, .bool b, .slice B m e, .slice A' l' c', .bool b', .slice B' m' e']) p q) : RatV H (.agg #[.slice A l c, .bool b, .slice B m e]) p ∧ RatV H (.agg #[.slice A' l' c', .bool b', .slice B' m' e']) q := by
  obtain ⟨A1, l1, c1, b1, B1, m1, e1, A2, l2, c2, b2, B2, m2, e2, h1, h2, h3⟩ := h
  have : A = A1 ∧ l = l1 ∧ c = c1 ∧ b = b1 ∧ B = B1 ∧ m = m1 ∧ e = e1 ∧ A' = A2 ∧ l' = l2 ∧ c' = c2 ∧ b' = b2 ∧ B' = B2 ∧ m' = m2 ∧ e' = e2 := by simpa [and_assoc] using h1
  obtain ⟨rfl, rfl, rfl, rfl, rfl, rfl, rfl, rfl, rfl, rfl, rfl, rfl, rfl, rfl⟩ := this
  exact ⟨h2, h3⟩
theorem SpanV.mk {H : PH} {A B A' B' : Option Addr} {l c m e l' c' m' e' : Nat} {b b' : Bool} {p q : Rat} (h1 : RatV H (.agg #[.slice A l c, .bool b, .slice B m e]) p) (h2 : RatV H (.agg #[.slice A' l' c', .bool b', .slice B' m' e']) q) : SpanV H (.agg #[.slice A l c, .bool b, .slice B m e, .slice A' l' c', .bool b', .slice B' m' e']) p q :=
  ⟨A, l, c, b, B, m, e, A', l', c', b', B', m', e', rfl, h1, h2⟩
theorem SpanV.zero (H : PH) : SpanV H (.agg #[.slice none 0 0, .bool false, .slice none 0 0, .slice none 0 0, .bool false, .slice none 0 0]) 0 0 := SpanV.mk (RatV.zero H) (RatV.zero H)

theorem cmpR_le {p q : Rat} (h : p ≤ q) : cmpR p q ≤ 0 := by
  rcases cmpR_cases p q with c | c | c
  · omega
  · omega
  · exact absurd c.1 (by rw [Rat.not_lt]; exact h)
theorem cmpR_ge {p q : Rat} (h : q ≤ p) : 0 ≤ cmpR p q := by
  rcases cmpR_cases p q with c | c | c
  · exact absurd c.1 (by rw [Rat.not_lt]; exact h)
  · omega
  · omega
theorem cmpR_le_iff {p q : Rat} : cmpR p q ≤ 0 ↔ p ≤ q := by
  rcases cmpR_cases p q with c | c | c
  · exact ⟨fun _ => by have := c.1; grind, fun _ => by omega⟩
  · exact ⟨fun _ => by have := c.1; grind, fun _ => by omega⟩
  · exact ⟨fun h => by omega, fun h => absurd c.1 (by rw [Rat.not_lt]; exact h)⟩
theorem cmpR_lt_iff {p q : Rat} : cmpR p q < 0 ↔ p < q := by
  rcases cmpR_cases p q with c | c | c
  · exact ⟨fun _ => c.1, fun _ => by omega⟩
  · exact ⟨fun h => by omega, fun h => absurd h (by rw [c.1]; exact Rat.lt_irrefl)⟩
  · exact ⟨fun h => by omega, fun h => by have := c.1; grind⟩
theorem cmpR_gt_iff {p q : Rat} : 0 < cmpR p q ↔ q < p := by
  rcases cmpR_cases p q with c | c | c
  · exact ⟨fun h => by omega, fun h => by have := c.1; grind⟩
  · exact ⟨fun h => by omega, fun h => absurd h (by rw [c.1]; exact Rat.lt_irrefl)⟩
  · exact ⟨fun _ => c.1, fun _ => by omega⟩
theorem gt_R {p : Rat} {q : Rat} : 0 < cmpR p q ↔ q < p := cmpR_gt_iff
theorem cmpR_eq_iff {p q : Rat} : cmpR p q = 0 ↔ p = q := by
  rcases cmpR_cases p q with c | c | c
  · exact ⟨fun h => by omega, fun h => absurd c.1 (by rw [h]; exact Rat.lt_irrefl)⟩
  · exact ⟨fun _ => c.1, fun _ => by omega⟩
  · exact ⟨fun h => by omega, fun h => absurd c.1 (by rw [h]; exact Rat.lt_irrefl)⟩

theorem less_ok (H : PH) (va vb : Value) (p q : Rat) (ha : RatV H va p) (hb : RatV H vb q) (hbp : br p + br q ≤ 4294967000) : FnP Tryz.prog 58 [va, vb] H fun v H' => RatV H' v (minR p q) := by
  obtain ⟨A, l, c, b, B, m, e, rfl⟩ := ha.form
  obtain ⟨A1, l1, c1, b1, B1, m1, e1, rfl⟩ := hb.form
  refine of_span_less (by simp) ?_
  try simp only [go_sem, Nat.reduceEqDiff, Nat.reduceAdd, Bool.false_eq_true, Nat.reduceBEq, ↓reduceIte, p_span_less]
  first | refine ev_call (rcmpR_ok _ _ _ q p hb ha (by omega)) ?_ | refine ev_callP (rcmpR_ok _ _ _ q p hb ha (by omega)) ?_
  rintro v_1 H_1 le_1 rfl _
  replace ha := ha.le le_1
  replace hb := hb.le le_1
  try simp only [go_sem, Nat.reduceEqDiff, Nat.reduceAdd, Bool.false_eq_true, Nat.reduceBEq, ↓reduceIte]
  by_cases h : q < p
  · refine ev_pos (by rw [cmpR_lt h]; decide) ?_
    try simp only [go_sem, Nat.reduceEqDiff, Nat.reduceAdd, Bool.false_eq_true, Nat.reduceBEq, ↓reduceIte]
    unfold minR; rw [if_pos h]
    exact ⟨by trivial, hb⟩
  · refine ev_neg (by rcases cmpR_cases q p with k | k | k <;> first | exact absurd k.1 h | omega) ?_
    try simp only [go_sem, Nat.reduceEqDiff, Nat.reduceAdd, Bool.false_eq_true, Nat.reduceBEq, ↓reduceIte]
    unfold minR; rw [if_neg h]
    exact ⟨by trivial, ha⟩

theorem more_ok (H : PH) (va vb : Value) (p q : Rat) (ha : RatV H va p) (hb : RatV H vb q) (hbp : br p + br q ≤ 4294967000) : FnP Tryz.prog 57 [va, vb] H fun v H' => RatV H' v (maxR p q) := by
  obtain ⟨A, l, c, b, B, m, e, rfl⟩ := ha.form
  obtain ⟨A1, l1, c1, b1, B1, m1, e1, rfl⟩ := hb.form
  refine of_span_more (by simp) ?_
  try simp only [go_sem, Nat.reduceEqDiff, Nat.reduceAdd, Bool.false_eq_true, Nat.reduceBEq, ↓reduceIte, p_span_more]
  first | refine ev_call (rcmpR_ok _ _ _ q p hb ha (by omega)) ?_ | refine ev_callP (rcmpR_ok _ _ _ q p hb ha (by omega)) ?_
  rintro v_2 H_2 le_2 rfl _
  replace ha := ha.le le_2
  replace hb := hb.le le_2
  try simp only [go_sem, Nat.reduceEqDiff, Nat.reduceAdd, Bool.false_eq_true, Nat.reduceBEq, ↓reduceIte]
  by_cases h : p < q
  · refine ev_pos (by rw [cmpR_gt h]; decide) ?_
    try simp only [go_sem, Nat.reduceEqDiff, Nat.reduceAdd, Bool.false_eq_true, Nat.reduceBEq, ↓reduceIte]
    unfold maxR; rw [if_pos h]
    exact ⟨by trivial, hb⟩
  · refine ev_neg (by rcases cmpR_cases q p with k | k | k <;> first | exact absurd k.1 h | omega) ?_
    try simp only [go_sem, Nat.reduceEqDiff, Nat.reduceAdd, Bool.false_eq_true, Nat.reduceBEq, ↓reduceIte]
    unfold maxR; rw [if_neg h]
    exact ⟨by trivial, ha⟩

theorem around_ok (H : PH) (va vb : Value) (p q : Rat) (ha : RatV H va p) (hb : RatV H vb q) (hbp : br p + br q ≤ 4294967000) : FnP Tryz.prog 54 [va, vb] H fun v H' => SpanV H' v (minR p q) (maxR p q) := by
  obtain ⟨A, l, c, b, B, m, e, rfl⟩ := ha.form
  obtain ⟨A1, l1, c1, b1, B1, m1, e1, rfl⟩ := hb.form
  refine of_span_around (by simp) ?_
  try simp only [go_sem, Nat.reduceEqDiff, Nat.reduceAdd, Bool.false_eq_true, Nat.reduceBEq, ↓reduceIte, p_span_around]
  first | refine ev_call (less_ok _ _ _ p q ha hb hbp) ?_ | refine ev_callP (less_ok _ _ _ p q ha hb hbp) ?_
  rintro v_3 H_3 le_3 g1 _
  replace ha := ha.le le_3
  replace hb := hb.le le_3
  try simp only [go_sem, Nat.reduceEqDiff, Nat.reduceAdd, Bool.false_eq_true, Nat.reduceBEq, ↓reduceIte]
  first | refine ev_call (more_ok _ _ _ p q ha hb hbp) ?_ | refine ev_callP (more_ok _ _ _ p q ha hb hbp) ?_
  rintro v_4 H_4 le_4 g2 _
  replace g1 := g1.le le_4
  try simp only [go_sem, Nat.reduceEqDiff, Nat.reduceAdd, Bool.false_eq_true, Nat.reduceBEq, ↓reduceIte]
  obtain ⟨A2, l2, c2, b2, B2, m2, e2, rfl⟩ := g1.form
  obtain ⟨A3, l3, c3, b3, B3, m3, e3, rfl⟩ := g2.form
  try simp only [go_sem, Nat.reduceEqDiff, Nat.reduceAdd, Bool.false_eq_true, Nat.reduceBEq, ↓reduceIte]
  exact ⟨by trivial, SpanV.mk g1 g2⟩

theorem snew_ok (H : PH) (va vb : Value) (p q : Rat) (ha : RatV H va p) (hb : RatV H vb q) (hbp : br p + br q ≤ 4294967000) : FnP Tryz.prog 25 [va, vb] H fun v H' => ∃ v', v = .tuple #[v', .bool (decide (p ≤ q))] ∧ SpanV H' v' (if p ≤ q then p else 0) (if p ≤ q then q else 0) := by
  obtain ⟨A, l, c, b, B, m, e, rfl⟩ := ha.form
  obtain ⟨A1, l1, c1, b1, B1, m1, e1, rfl⟩ := hb.form
  refine of_span_New (by simp) ?_
  try simp only [go_sem, Nat.reduceEqDiff, Nat.reduceAdd, Bool.false_eq_true, Nat.reduceBEq, ↓reduceIte, p_span_New]
  first | refine ev_call (rcmpR_ok _ _ _ p q ha hb (by omega)) ?_ | refine ev_callP (rcmpR_ok _ _ _ p q ha hb (by omega)) ?_
  rintro v_5 H_5 le_5 rfl _
  replace ha := ha.le le_5
  replace hb := hb.le le_5
  try simp only [go_sem, Nat.reduceEqDiff, Nat.reduceAdd, Bool.false_eq_true, Nat.reduceBEq, ↓reduceIte]
  by_cases h : p ≤ q
  · refine ev_neg (by have := cmpR_le h; omega) ?_
    try simp only [go_sem, Nat.reduceEqDiff, Nat.reduceAdd, Bool.false_eq_true, Nat.reduceBEq, ↓reduceIte]
    rw [decide_eq_true h, if_pos h, if_pos h]
    repeat' (with_reducible refine And.intro ?_ ?_)
    all_goals first | trivial | exact ⟨_, rfl, SpanV.mk ha hb⟩
  · refine ev_pos (cmpR_gt_iff.2 (by grind)) ?_
    try simp only [go_sem, Nat.reduceEqDiff, Nat.reduceAdd, Bool.false_eq_true, Nat.reduceBEq, ↓reduceIte]
    rw [decide_eq_false h, if_neg h, if_neg h]
    repeat' (with_reducible refine And.intro ?_ ?_)
    all_goals first | trivial | exact ⟨_, rfl, SpanV.zero _⟩

/-- what the texts of an interval come to -/
def spOk (a b : ByteArray) : Bool := ratOk (bs a) && (ratOk (bs b) && decide (rv (bs a) ≤ rv (bs b)))
def spCode (a b : ByteArray) : Int := if ratOk (bs a) && ratOk (bs b) then (if rv (bs a) ≤ rv (bs b) then 0 else 1) else 2
theorem spCode_ok {a b : ByteArray} : spCode a b = 0 ↔ spOk a b = true := by
  unfold spCode spOk
  cases ratOk (bs a) <;> cases ratOk (bs b) <;> simp
theorem ratOk_len {l : List Nat} (h : ratOk l = true) : l.length ≤ 8002 := by
  have key : ∀ {l : List Nat}, intOk l = true → l.length ≤ 4001 := by
    intro l h
    unfold intOk at h
    split at h
    · rw [Bool.and_eq_true] at h
      have := h.1
      simp only [decOk, Bool.and_eq_true, decide_eq_true_eq, List.length_drop] at this
      omega
    · simp only [decOk, Bool.and_eq_true, decide_eq_true_eq] at h
      omega
  by_cases h0 : sl l = l.length
  · unfold ratOk at h
    rw [if_pos h0] at h
    have := key h
    omega
  · obtain ⟨k1, k2, k3, k4⟩ := ratOk_parts h0 h
    have h1 := key k1
    simp only [decOk, Bool.and_eq_true, decide_eq_true_eq, List.length_drop] at k2
    have h2 := k2.1.2
    have h3 := sl_le l
    rw [List.length_take] at h1
    omega
theorem rv_max {l : List Nat} (h : ratOk l = true) : br (rv l) ≤ 32009 := by
  have h1 := rv_br h
  have h2 := ratOk_len h
  omega
theorem sparse_ok (H : PH) (a b : ByteArray) (ha : a.size ≤ 9223372036854775807) (hb : b.size ≤ 9223372036854775807) : FnP Tryz.prog 47 [.agg #[.string a, .string b]] H fun v H' => ∃ v', v = .tuple #[v', .int .i64 (spCode a b)] ∧ SpanV H' v' (if spOk a b then rv (bs a) else 0) (if spOk a b then rv (bs b) else 0) := by
  refine of_span_Parse (by simp) ?_
  try simp only [go_sem, Nat.reduceEqDiff, Nat.reduceAdd, Bool.false_eq_true, Nat.reduceBEq, ↓reduceIte, p_span_Parse]
  first | refine ev_call (rparse'_ok _ a ha) ?_ | refine ev_callP (rparse'_ok _ a ha) ?_
  rintro v_6 H_6 le_6 ⟨va, rfl, h1⟩ _
  try simp only [go_sem, Nat.reduceEqDiff, Nat.reduceAdd, Bool.false_eq_true, Nat.reduceBEq, ↓reduceIte]
  obtain ⟨A1, l1, c1, b1, B1, m1, e1, rfl⟩ := h1.form
  have bad : ∀ (n : Int) (H' : PH), spOk a b = false → spCode a b = n → ∃ v', (Value.tuple #[.agg #[.slice none 0 0, .bool false, .slice none 0 0, .slice none 0 0, .bool false, .slice none 0 0], .int .i64 n]) = .tuple #[v', .int .i64 (spCode a b)] ∧ SpanV H' v' (if spOk a b then rv (bs a) else 0) (if spOk a b then rv (bs b) else 0) := by
    intro n H' h k
    rw [h, k]
    exact ⟨_, rfl, SpanV.zero _⟩
  cases hk : ratOk (bs a) with
  | false =>
    try simp only [go_sem, Nat.reduceEqDiff, Nat.reduceAdd, Bool.false_eq_true, Nat.reduceBEq, ↓reduceIte, hk]
    refine ev_pos (by decide) ?_
    try simp only [go_sem, Nat.reduceEqDiff, Nat.reduceAdd, Bool.false_eq_true, Nat.reduceBEq, ↓reduceIte]
    repeat' (with_reducible refine And.intro ?_ ?_)
    all_goals first | trivial | exact bad _ _ (by unfold spOk; rw [hk]; rfl) (by unfold spCode; rw [hk]; rfl)
  | true =>
    try simp only [go_sem, Nat.reduceEqDiff, Nat.reduceAdd, Bool.false_eq_true, Nat.reduceBEq, ↓reduceIte, hk]
    refine ev_neg (by decide) ?_
    try simp only [go_sem, Nat.reduceEqDiff, Nat.reduceAdd, Bool.false_eq_true, Nat.reduceBEq, ↓reduceIte]
    first | refine ev_call (rparse'_ok _ b hb) ?_ | refine ev_callP (rparse'_ok _ b hb) ?_
    rintro v_7 H_7 le_7 ⟨vb, rfl, h2⟩ _
    replace h1 := h1.le le_7
    try simp only [go_sem, Nat.reduceEqDiff, Nat.reduceAdd, Bool.false_eq_true, Nat.reduceBEq, ↓reduceIte]
    obtain ⟨A2, l2, c2, b2, B2, m2, e2, rfl⟩ := h2.form
    cases hk2 : ratOk (bs b) with
    | false =>
      try simp only [go_sem, Nat.reduceEqDiff, Nat.reduceAdd, Bool.false_eq_true, Nat.reduceBEq, ↓reduceIte, hk2]
      refine ev_pos (by decide) ?_
      try simp only [go_sem, Nat.reduceEqDiff, Nat.reduceAdd, Bool.false_eq_true, Nat.reduceBEq, ↓reduceIte]
      repeat' (with_reducible refine And.intro ?_ ?_)
      all_goals first | trivial | exact bad _ _ (by unfold spOk; rw [hk, hk2]; rfl) (by unfold spCode; rw [hk, hk2]; rfl)
    | true =>
      have k1 := rv_max hk
      have k2 := rv_max hk2
      rw [hk, if_pos rfl] at h1
      rw [hk2, if_pos rfl] at h2
      try simp only [go_sem, Nat.reduceEqDiff, Nat.reduceAdd, Bool.false_eq_true, Nat.reduceBEq, ↓reduceIte, hk2]
      refine ev_neg (by decide) ?_
      try simp only [go_sem, Nat.reduceEqDiff, Nat.reduceAdd, Bool.false_eq_true, Nat.reduceBEq, ↓reduceIte]
      first | refine ev_call (snew_ok _ _ _ _ _ h1 h2 (by omega)) ?_ | refine ev_callP (snew_ok _ _ _ _ _ h1 h2 (by omega)) ?_
      rintro v_8 H_8 le_8 ⟨v3, rfl, h3⟩ _
      try simp only [go_sem, Nat.reduceEqDiff, Nat.reduceAdd, Bool.false_eq_true, Nat.reduceBEq, ↓reduceIte]
      by_cases h : rv (bs a) ≤ rv (bs b)
      · rw [if_pos h, if_pos h] at h3
        obtain ⟨A, l, c, b', B, m, e, A', l', c', b'', B', m', e', rfl⟩ := h3.form
        rw [decide_eq_true h]
        try simp only [go_sem, Nat.reduceEqDiff, Nat.reduceAdd, Bool.false_eq_true, Nat.reduceBEq, ↓reduceIte]
        rw [show spOk a b = true by unfold spOk; rw [hk, hk2, decide_eq_true h]; rfl, show spCode a b = 0 by unfold spCode; rw [hk, hk2, Bool.and_self, if_pos rfl, if_pos h]]
        repeat' (with_reducible refine And.intro ?_ ?_)
        all_goals first | trivial | exact ⟨_, rfl, h3⟩
      · obtain ⟨A, l, c, b', B, m, e, A', l', c', b'', B', m', e', rfl⟩ := h3.form
        rw [decide_eq_false h]
        try simp only [go_sem, Nat.reduceEqDiff, Nat.reduceAdd, Bool.false_eq_true, Nat.reduceBEq, ↓reduceIte]
        repeat' (with_reducible refine And.intro ?_ ?_)
        all_goals first | trivial | exact bad _ _ (by unfold spOk; rw [hk, hk2, decide_eq_false h]; rfl) (by unfold spCode; rw [hk, hk2, Bool.and_self, if_pos rfl, if_neg h])

theorem sadd_ok (H : PH) (va vb : Value) (p q r s : Rat) (ha : SpanV H va p q) (hb : SpanV H vb r s) (hbp : br p + br q + br r + br s ≤ 4294960000) : FnP Tryz.prog 12 [va, vb] H fun v H' => SpanV H' v (p + r) (q + s) := by
  obtain ⟨A, l, c, b, B, m, e, A', l', c', b', B', m', e', rfl⟩ := ha.form
  obtain ⟨h1, h2⟩ := ha.parts
  obtain ⟨A1, l1, c1, b1, B1, m1, e1, A1', l1', c1', b1', B1', m1', e1', rfl⟩ := hb.form
  obtain ⟨h3, h4⟩ := hb.parts
  refine of_span_Add (by simp) ?_
  try simp only [go_sem, Nat.reduceEqDiff, Nat.reduceAdd, Bool.false_eq_true, Nat.reduceBEq, ↓reduceIte, p_span_Add]
  first | refine ev_call (radd'_ok _ _ _ p r h1 h3 (by omega)) ?_ | refine ev_callP (radd'_ok _ _ _ p r h1 h3 (by omega)) ?_
  rintro v_11 H_11 le_11 g1 _
  replace h2 := h2.le le_11
  replace h4 := h4.le le_11
  try simp only [go_sem, Nat.reduceEqDiff, Nat.reduceAdd, Bool.false_eq_true, Nat.reduceBEq, ↓reduceIte]
  first | refine ev_call (radd'_ok _ _ _ q s h2 h4 (by omega)) ?_ | refine ev_callP (radd'_ok _ _ _ q s h2 h4 (by omega)) ?_
  rintro v_12 H_12 le_12 g2 _
  replace g1 := g1.le le_12
  try simp only [go_sem, Nat.reduceEqDiff, Nat.reduceAdd, Bool.false_eq_true, Nat.reduceBEq, ↓reduceIte]
  obtain ⟨A2, l2, c2, b2, B2, m2, e2, rfl⟩ := g1.form
  obtain ⟨A3, l3, c3, b3, B3, m3, e3, rfl⟩ := g2.form
  try simp only [go_sem, Nat.reduceEqDiff, Nat.reduceAdd, Bool.false_eq_true, Nat.reduceBEq, ↓reduceIte]
  exact ⟨by trivial, SpanV.mk g1 g2⟩

theorem ssub_ok (H : PH) (va vb : Value) (p q r s : Rat) (ha : SpanV H va p q) (hb : SpanV H vb r s) (hbp : br p + br q + br r + br s ≤ 4294960000) : FnP Tryz.prog 14 [va, vb] H fun v H' => SpanV H' v (p - s) (q - r) := by
  obtain ⟨A, l, c, b, B, m, e, A', l', c', b', B', m', e', rfl⟩ := ha.form
  obtain ⟨h1, h2⟩ := ha.parts
  obtain ⟨A1, l1, c1, b1, B1, m1, e1, A1', l1', c1', b1', B1', m1', e1', rfl⟩ := hb.form
  obtain ⟨h3, h4⟩ := hb.parts
  refine of_span_Sub (by simp) ?_
  try simp only [go_sem, Nat.reduceEqDiff, Nat.reduceAdd, Bool.false_eq_true, Nat.reduceBEq, ↓reduceIte, p_span_Sub]
  first | refine ev_call (rsub'_ok _ _ _ p s h1 h4 (by omega)) ?_ | refine ev_callP (rsub'_ok _ _ _ p s h1 h4 (by omega)) ?_
  rintro v_13 H_13 le_13 g1 _
  replace h2 := h2.le le_13
  replace h3 := h3.le le_13
  try simp only [go_sem, Nat.reduceEqDiff, Nat.reduceAdd, Bool.false_eq_true, Nat.reduceBEq, ↓reduceIte]
  first | refine ev_call (rsub'_ok _ _ _ q r h2 h3 (by omega)) ?_ | refine ev_callP (rsub'_ok _ _ _ q r h2 h3 (by omega)) ?_
  rintro v_14 H_14 le_14 g2 _
  replace g1 := g1.le le_14
  try simp only [go_sem, Nat.reduceEqDiff, Nat.reduceAdd, Bool.false_eq_true, Nat.reduceBEq, ↓reduceIte]
  obtain ⟨A2, l2, c2, b2, B2, m2, e2, rfl⟩ := g1.form
  obtain ⟨A3, l3, c3, b3, B3, m3, e3, rfl⟩ := g2.form
  try simp only [go_sem, Nat.reduceEqDiff, Nat.reduceAdd, Bool.false_eq_true, Nat.reduceBEq, ↓reduceIte]
  exact ⟨by trivial, SpanV.mk g1 g2⟩

theorem shull_ok (H : PH) (va vb : Value) (p q r s : Rat) (ha : SpanV H va p q) (hb : SpanV H vb r s) (hbp : br p + br q + br r + br s ≤ 4294960000) : FnP Tryz.prog 29 [va, vb] H fun v H' => SpanV H' v (minR p r) (maxR q s) := by
  obtain ⟨A, l, c, b, B, m, e, A', l', c', b', B', m', e', rfl⟩ := ha.form
  obtain ⟨h1, h2⟩ := ha.parts
  obtain ⟨A1, l1, c1, b1, B1, m1, e1, A1', l1', c1', b1', B1', m1', e1', rfl⟩ := hb.form
  obtain ⟨h3, h4⟩ := hb.parts
  refine of_span_Hull (by simp) ?_
  try simp only [go_sem, Nat.reduceEqDiff, Nat.reduceAdd, Bool.false_eq_true, Nat.reduceBEq, ↓reduceIte, p_span_Hull]
  first | refine ev_call (less_ok _ _ _ p r h1 h3 (by omega)) ?_ | refine ev_callP (less_ok _ _ _ p r h1 h3 (by omega)) ?_
  rintro v_15 H_15 le_15 g1 _
  replace h2 := h2.le le_15
  replace h4 := h4.le le_15
  try simp only [go_sem, Nat.reduceEqDiff, Nat.reduceAdd, Bool.false_eq_true, Nat.reduceBEq, ↓reduceIte]
  first | refine ev_call (more_ok _ _ _ q s h2 h4 (by omega)) ?_ | refine ev_callP (more_ok _ _ _ q s h2 h4 (by omega)) ?_
  rintro v_16 H_16 le_16 g2 _
  replace g1 := g1.le le_16
  try simp only [go_sem, Nat.reduceEqDiff, Nat.reduceAdd, Bool.false_eq_true, Nat.reduceBEq, ↓reduceIte]
  obtain ⟨A2, l2, c2, b2, B2, m2, e2, rfl⟩ := g1.form
  obtain ⟨A3, l3, c3, b3, B3, m3, e3, rfl⟩ := g2.form
  try simp only [go_sem, Nat.reduceEqDiff, Nat.reduceAdd, Bool.false_eq_true, Nat.reduceBEq, ↓reduceIte]
  exact ⟨by trivial, SpanV.mk g1 g2⟩

theorem smul_ok (H : PH) (va vb : Value) (p q r s : Rat) (ha : SpanV H va p q) (hb : SpanV H vb r s) (hbp : br p + br q + br r + br s ≤ 100000000) : FnP Tryz.prog 16 [va, vb] H fun v H' => SpanV H' v (mulLo p q r s) (mulHi p q r s) := by
  obtain ⟨A, l, c, b, B, m, e, A', l', c', b', B', m', e', rfl⟩ := ha.form
  obtain ⟨h1, h2⟩ := ha.parts
  obtain ⟨A1, l1, c1, b1, B1, m1, e1, A1', l1', c1', b1', B1', m1', e1', rfl⟩ := hb.form
  obtain ⟨h3, h4⟩ := hb.parts
  have s1 := br_mul p r
  have s2 := br_mul q s
  have s3 := br_mul p s
  have s4 := br_mul q r
  have t1 := br_min (p * r) (q * s)
  have t2 := br_max (p * r) (q * s)
  have t3 := br_min (p * s) (q * r)
  have t4 := br_max (p * s) (q * r)
  refine of_span_Mul (by simp) ?_
  try simp only [go_sem, Nat.reduceEqDiff, Nat.reduceAdd, Bool.false_eq_true, Nat.reduceBEq, ↓reduceIte, p_span_Mul]
  first | refine ev_call (rmul'_ok _ _ _ p r h1 h3 (by omega)) ?_ | refine ev_callP (rmul'_ok _ _ _ p r h1 h3 (by omega)) ?_
  rintro v_17 H_17 le_17 g1 _
  replace h1 := h1.le le_17
  replace h2 := h2.le le_17
  replace h3 := h3.le le_17
  replace h4 := h4.le le_17
  try simp only [go_sem, Nat.reduceEqDiff, Nat.reduceAdd, Bool.false_eq_true, Nat.reduceBEq, ↓reduceIte]
  first | refine ev_call (rmul'_ok _ _ _ q s h2 h4 (by omega)) ?_ | refine ev_callP (rmul'_ok _ _ _ q s h2 h4 (by omega)) ?_
  rintro v_18 H_18 le_18 g2 _
  replace h1 := h1.le le_18
  replace h2 := h2.le le_18
  replace h3 := h3.le le_18
  replace h4 := h4.le le_18
  replace g1 := g1.le le_18
  try simp only [go_sem, Nat.reduceEqDiff, Nat.reduceAdd, Bool.false_eq_true, Nat.reduceBEq, ↓reduceIte]
  first | refine ev_call (around_ok _ _ _ _ _ g1 g2 (by omega)) ?_ | refine ev_callP (around_ok _ _ _ _ _ g1 g2 (by omega)) ?_
  rintro v_19 H_19 le_19 g3 _
  replace h1 := h1.le le_19
  replace h2 := h2.le le_19
  replace h3 := h3.le le_19
  replace h4 := h4.le le_19
  try simp only [go_sem, Nat.reduceEqDiff, Nat.reduceAdd, Bool.false_eq_true, Nat.reduceBEq, ↓reduceIte]
  first | refine ev_call (rmul'_ok _ _ _ p s h1 h4 (by omega)) ?_ | refine ev_callP (rmul'_ok _ _ _ p s h1 h4 (by omega)) ?_
  rintro v_20 H_20 le_20 g4 _
  replace h2 := h2.le le_20
  replace h3 := h3.le le_20
  replace g3 := g3.le le_20
  try simp only [go_sem, Nat.reduceEqDiff, Nat.reduceAdd, Bool.false_eq_true, Nat.reduceBEq, ↓reduceIte]
  first | refine ev_call (rmul'_ok _ _ _ q r h2 h3 (by omega)) ?_ | refine ev_callP (rmul'_ok _ _ _ q r h2 h3 (by omega)) ?_
  rintro v_21 H_21 le_21 g5 _
  replace g3 := g3.le le_21
  replace g4 := g4.le le_21
  try simp only [go_sem, Nat.reduceEqDiff, Nat.reduceAdd, Bool.false_eq_true, Nat.reduceBEq, ↓reduceIte]
  first | refine ev_call (around_ok _ _ _ _ _ g4 g5 (by omega)) ?_ | refine ev_callP (around_ok _ _ _ _ _ g4 g5 (by omega)) ?_
  rintro v_22 H_22 le_22 g6 _
  replace g3 := g3.le le_22
  try simp only [go_sem, Nat.reduceEqDiff, Nat.reduceAdd, Bool.false_eq_true, Nat.reduceBEq, ↓reduceIte]
  first | refine ev_call (shull_ok _ _ _ _ _ _ _ g3 g6 (by omega)) ?_ | refine ev_callP (shull_ok _ _ _ _ _ _ _ g3 g6 (by omega)) ?_
  rintro v_23 H_23 le_23 g7 _
  try simp only [go_sem, Nat.reduceEqDiff, Nat.reduceAdd, Bool.false_eq_true, Nat.reduceBEq, ↓reduceIte]
  obtain ⟨A2, l2, c2, b2, B2, m2, e2, A2', l2', c2', b2', B2', m2', e2', rfl⟩ := g7.form
  try simp only [go_sem, Nat.reduceEqDiff, Nat.reduceAdd, Bool.false_eq_true, Nat.reduceBEq, ↓reduceIte]
  exact ⟨by trivial, g7⟩

theorem sscale_ok (H : PH) (va vb : Value) (p q r : Rat) (ha : SpanV H va p q) (hb : RatV H vb r) (hbp : br p + br q + br r ≤ 100000000) : FnP Tryz.prog 18 [va, vb] H fun v H' => SpanV H' v (minR (p * r) (q * r)) (maxR (p * r) (q * r)) := by
  obtain ⟨A, l, c, b, B, m, e, A', l', c', b', B', m', e', rfl⟩ := ha.form
  obtain ⟨h1, h2⟩ := ha.parts
  obtain ⟨A1, l1, c1, b1, B1, m1, e1, rfl⟩ := hb.form
  have s1 := br_mul p r
  have s2 := br_mul q r
  refine of_span_Scale (by simp) ?_
  try simp only [go_sem, Nat.reduceEqDiff, Nat.reduceAdd, Bool.false_eq_true, Nat.reduceBEq, ↓reduceIte, p_span_Scale]
  first | refine ev_call (rmul'_ok _ _ _ p r h1 hb (by omega)) ?_ | refine ev_callP (rmul'_ok _ _ _ p r h1 hb (by omega)) ?_
  rintro v_24 H_24 le_24 g1 _
  replace h2 := h2.le le_24
  replace hb := hb.le le_24
  try simp only [go_sem, Nat.reduceEqDiff, Nat.reduceAdd, Bool.false_eq_true, Nat.reduceBEq, ↓reduceIte]
  first | refine ev_call (rmul'_ok _ _ _ q r h2 hb (by omega)) ?_ | refine ev_callP (rmul'_ok _ _ _ q r h2 hb (by omega)) ?_
  rintro v_25 H_25 le_25 g2 _
  replace g1 := g1.le le_25
  try simp only [go_sem, Nat.reduceEqDiff, Nat.reduceAdd, Bool.false_eq_true, Nat.reduceBEq, ↓reduceIte]
  first | refine ev_call (around_ok _ _ _ _ _ g1 g2 (by omega)) ?_ | refine ev_callP (around_ok _ _ _ _ _ g1 g2 (by omega)) ?_
  rintro v_26 H_26 le_26 g3 _
  try simp only [go_sem, Nat.reduceEqDiff, Nat.reduceAdd, Bool.false_eq_true, Nat.reduceBEq, ↓reduceIte]
  obtain ⟨A2, l2, c2, b2, B2, m2, e2, A2', l2', c2', b2', B2', m2', e2', rfl⟩ := g3.form
  try simp only [go_sem, Nat.reduceEqDiff, Nat.reduceAdd, Bool.false_eq_true, Nat.reduceBEq, ↓reduceIte]
  exact ⟨by trivial, g3⟩

/-- a question of two parts -/
theorem shas_ok (H : PH) (va vb : Value) (p q r : Rat) (ha : SpanV H va p q) (hb : RatV H vb r) (hbp : br p + br q + br r ≤ 4294967000) : FnP Tryz.prog 21 [va, vb] H fun v _ => v = .bool (decide (p ≤ r ∧ r ≤ q)) := by
  obtain ⟨A, l, c, b, B, m, e, A', l', c', b', B', m', e', rfl⟩ := ha.form
  obtain ⟨h1, h2⟩ := ha.parts
  obtain ⟨A1, l1, c1, b1, B1, m1, e1, rfl⟩ := hb.form
  refine of_span_Has (by simp) ?_
  try simp only [go_sem, Nat.reduceEqDiff, Nat.reduceAdd, Bool.false_eq_true, Nat.reduceBEq, ↓reduceIte, p_span_Has]
  first | refine ev_call (rcmpR_ok _ _ _ p r h1 hb (by omega)) ?_ | refine ev_callP (rcmpR_ok _ _ _ p r h1 hb (by omega)) ?_
  rintro v_27 H_27 le_27 rfl _
  replace h2 := h2.le le_27
  replace hb := hb.le le_27
  try simp only [go_sem, Nat.reduceEqDiff, Nat.reduceAdd, Bool.false_eq_true, Nat.reduceBEq, ↓reduceIte]
  rw [cmpR_le_iff]
  refine ev_if (fun k => ?_) (fun k => ?_)
  · try simp only [go_sem, Nat.reduceEqDiff, Nat.reduceAdd, Bool.false_eq_true, Nat.reduceBEq, ↓reduceIte]
    first | refine ev_call (rcmpR_ok _ _ _ r q hb h2 (by omega)) ?_ | refine ev_callP (rcmpR_ok _ _ _ r q hb h2 (by omega)) ?_
    rintro v_28 H_28 le_28 rfl _
    try simp only [go_sem, Nat.reduceEqDiff, Nat.reduceAdd, Bool.false_eq_true, Nat.reduceBEq, ↓reduceIte]
    rw [cmpR_le_iff]
    refine ev_if (fun k2 => ?_) (fun k2 => ?_)
    · try simp only [go_sem, Nat.reduceEqDiff, Nat.reduceAdd, Bool.false_eq_true, Nat.reduceBEq, ↓reduceIte]
      rw [decide_eq_true ⟨k, k2⟩]
      exact ⟨by trivial, by trivial⟩
    · try simp only [go_sem, Nat.reduceEqDiff, Nat.reduceAdd, Bool.false_eq_true, Nat.reduceBEq, ↓reduceIte]
      rw [decide_eq_false (fun k3 => k2 k3.2)]
      exact ⟨by trivial, by trivial⟩
  · try simp only [go_sem, Nat.reduceEqDiff, Nat.reduceAdd, Bool.false_eq_true, Nat.reduceBEq, ↓reduceIte]
    rw [decide_eq_false (fun k3 => k k3.1)]
    exact ⟨by trivial, by trivial⟩

theorem swithin_ok (H : PH) (va vb : Value) (p q r s : Rat) (ha : SpanV H va p q) (hb : SpanV H vb r s) (hbp : br p + br q + br r + br s ≤ 4294967000) : FnP Tryz.prog 22 [va, vb] H fun v _ => v = .bool (decide (r ≤ p ∧ q ≤ s)) := by
  obtain ⟨A, l, c, b, B, m, e, A', l', c', b', B', m', e', rfl⟩ := ha.form
  obtain ⟨h1, h2⟩ := ha.parts
  obtain ⟨A1, l1, c1, b1, B1, m1, e1, A1', l1', c1', b1', B1', m1', e1', rfl⟩ := hb.form
  obtain ⟨h3, h4⟩ := hb.parts
  refine of_span_Within (by simp) ?_
  try simp only [go_sem, Nat.reduceEqDiff, Nat.reduceAdd, Bool.false_eq_true, Nat.reduceBEq, ↓reduceIte, p_span_Within]
  first | refine ev_call (rcmpR_ok _ _ _ r p h3 h1 (by omega)) ?_ | refine ev_callP (rcmpR_ok _ _ _ r p h3 h1 (by omega)) ?_
  rintro v_29 H_29 le_29 rfl _
  replace h2 := h2.le le_29
  replace h4 := h4.le le_29
  try simp only [go_sem, Nat.reduceEqDiff, Nat.reduceAdd, Bool.false_eq_true, Nat.reduceBEq, ↓reduceIte]
  rw [cmpR_le_iff]
  refine ev_if (fun k => ?_) (fun k => ?_)
  · try simp only [go_sem, Nat.reduceEqDiff, Nat.reduceAdd, Bool.false_eq_true, Nat.reduceBEq, ↓reduceIte]
    first | refine ev_call (rcmpR_ok _ _ _ q s h2 h4 (by omega)) ?_ | refine ev_callP (rcmpR_ok _ _ _ q s h2 h4 (by omega)) ?_
    rintro v_30 H_30 le_30 rfl _
    try simp only [go_sem, Nat.reduceEqDiff, Nat.reduceAdd, Bool.false_eq_true, Nat.reduceBEq, ↓reduceIte]
    rw [cmpR_le_iff]
    refine ev_if (fun k2 => ?_) (fun k2 => ?_)
    · try simp only [go_sem, Nat.reduceEqDiff, Nat.reduceAdd, Bool.false_eq_true, Nat.reduceBEq, ↓reduceIte]
      rw [decide_eq_true ⟨k, k2⟩]
      exact ⟨by trivial, by trivial⟩
    · try simp only [go_sem, Nat.reduceEqDiff, Nat.reduceAdd, Bool.false_eq_true, Nat.reduceBEq, ↓reduceIte]
      rw [decide_eq_false (fun k3 => k2 k3.2)]
      exact ⟨by trivial, by trivial⟩
  · try simp only [go_sem, Nat.reduceEqDiff, Nat.reduceAdd, Bool.false_eq_true, Nat.reduceBEq, ↓reduceIte]
    rw [decide_eq_false (fun k3 => k k3.1)]
    exact ⟨by trivial, by trivial⟩

theorem sinside_ok (H : PH) (va vb : Value) (p q r s : Rat) (ha : SpanV H va p q) (hb : SpanV H vb r s) (hbp : br p + br q + br r + br s ≤ 4294967000) : FnP Tryz.prog 24 [va, vb] H fun v _ => v = .bool (decide (r < p ∧ q < s)) := by
  obtain ⟨A, l, c, b, B, m, e, A', l', c', b', B', m', e', rfl⟩ := ha.form
  obtain ⟨h1, h2⟩ := ha.parts
  obtain ⟨A1, l1, c1, b1, B1, m1, e1, A1', l1', c1', b1', B1', m1', e1', rfl⟩ := hb.form
  obtain ⟨h3, h4⟩ := hb.parts
  refine of_span_Inside (by simp) ?_
  try simp only [go_sem, Nat.reduceEqDiff, Nat.reduceAdd, Bool.false_eq_true, Nat.reduceBEq, ↓reduceIte, p_span_Inside]
  first | refine ev_call (rcmpR_ok _ _ _ r p h3 h1 (by omega)) ?_ | refine ev_callP (rcmpR_ok _ _ _ r p h3 h1 (by omega)) ?_
  rintro v_31 H_31 le_31 rfl _
  replace h2 := h2.le le_31
  replace h4 := h4.le le_31
  try simp only [go_sem, Nat.reduceEqDiff, Nat.reduceAdd, Bool.false_eq_true, Nat.reduceBEq, ↓reduceIte]
  rw [cmpR_lt_iff]
  refine ev_if (fun k => ?_) (fun k => ?_)
  · try simp only [go_sem, Nat.reduceEqDiff, Nat.reduceAdd, Bool.false_eq_true, Nat.reduceBEq, ↓reduceIte]
    first | refine ev_call (rcmpR_ok _ _ _ q s h2 h4 (by omega)) ?_ | refine ev_callP (rcmpR_ok _ _ _ q s h2 h4 (by omega)) ?_
    rintro v_32 H_32 le_32 rfl _
    try simp only [go_sem, Nat.reduceEqDiff, Nat.reduceAdd, Bool.false_eq_true, Nat.reduceBEq, ↓reduceIte]
    rw [cmpR_lt_iff]
    refine ev_if (fun k2 => ?_) (fun k2 => ?_)
    · try simp only [go_sem, Nat.reduceEqDiff, Nat.reduceAdd, Bool.false_eq_true, Nat.reduceBEq, ↓reduceIte]
      rw [decide_eq_true ⟨k, k2⟩]
      exact ⟨by trivial, by trivial⟩
    · try simp only [go_sem, Nat.reduceEqDiff, Nat.reduceAdd, Bool.false_eq_true, Nat.reduceBEq, ↓reduceIte]
      rw [decide_eq_false (fun k3 => k2 k3.2)]
      exact ⟨by trivial, by trivial⟩
  · try simp only [go_sem, Nat.reduceEqDiff, Nat.reduceAdd, Bool.false_eq_true, Nat.reduceBEq, ↓reduceIte]
    rw [decide_eq_false (fun k3 => k k3.1)]
    exact ⟨by trivial, by trivial⟩

theorem ssame_ok (H : PH) (va vb : Value) (p q r s : Rat) (ha : SpanV H va p q) (hb : SpanV H vb r s) (hbp : br p + br q + br r + br s ≤ 4294967000) : FnP Tryz.prog 45 [va, vb] H fun v _ => v = .bool (decide (p = r ∧ q = s)) := by
  obtain ⟨A, l, c, b, B, m, e, A', l', c', b', B', m', e', rfl⟩ := ha.form
  obtain ⟨h1, h2⟩ := ha.parts
  obtain ⟨A1, l1, c1, b1, B1, m1, e1, A1', l1', c1', b1', B1', m1', e1', rfl⟩ := hb.form
  obtain ⟨h3, h4⟩ := hb.parts
  refine of_span_Same (by simp) ?_
  try simp only [go_sem, Nat.reduceEqDiff, Nat.reduceAdd, Bool.false_eq_true, Nat.reduceBEq, ↓reduceIte, p_span_Same]
  first | refine ev_call (rcmpR_ok _ _ _ p r h1 h3 (by omega)) ?_ | refine ev_callP (rcmpR_ok _ _ _ p r h1 h3 (by omega)) ?_
  rintro v_33 H_33 le_33 rfl _
  replace h2 := h2.le le_33
  replace h4 := h4.le le_33
  try simp only [go_sem, Nat.reduceEqDiff, Nat.reduceAdd, Bool.false_eq_true, Nat.reduceBEq, ↓reduceIte]
  rw [cmpR_eq_iff]
  refine ev_if (fun k => ?_) (fun k => ?_)
  · try simp only [go_sem, Nat.reduceEqDiff, Nat.reduceAdd, Bool.false_eq_true, Nat.reduceBEq, ↓reduceIte]
    first | refine ev_call (rcmpR_ok _ _ _ q s h2 h4 (by omega)) ?_ | refine ev_callP (rcmpR_ok _ _ _ q s h2 h4 (by omega)) ?_
    rintro v_34 H_34 le_34 rfl _
    try simp only [go_sem, Nat.reduceEqDiff, Nat.reduceAdd, Bool.false_eq_true, Nat.reduceBEq, ↓reduceIte]
    rw [cmpR_eq_iff]
    refine ev_if (fun k2 => ?_) (fun k2 => ?_)
    · try simp only [go_sem, Nat.reduceEqDiff, Nat.reduceAdd, Bool.false_eq_true, Nat.reduceBEq, ↓reduceIte]
      rw [decide_eq_true ⟨k, k2⟩]
      exact ⟨by trivial, by trivial⟩
    · try simp only [go_sem, Nat.reduceEqDiff, Nat.reduceAdd, Bool.false_eq_true, Nat.reduceBEq, ↓reduceIte]
      rw [decide_eq_false (fun k3 => k2 k3.2)]
      exact ⟨by trivial, by trivial⟩
  · try simp only [go_sem, Nat.reduceEqDiff, Nat.reduceAdd, Bool.false_eq_true, Nat.reduceBEq, ↓reduceIte]
    rw [decide_eq_false (fun k3 => k k3.1)]
    exact ⟨by trivial, by trivial⟩

theorem smeet_ok (H : PH) (va vb : Value) (p q r s : Rat) (ha : SpanV H va p q) (hb : SpanV H vb r s) (hbp : br p + br q + br r + br s ≤ 1000000000) : FnP Tryz.prog 20 [va, vb] H fun v H' => ∃ v', v = .tuple #[v', .bool (decide (maxR p r ≤ minR q s))] ∧ SpanV H' v' (if maxR p r ≤ minR q s then maxR p r else 0) (if maxR p r ≤ minR q s then minR q s else 0) := by
  obtain ⟨A, l, c, b, B, m, e, A', l', c', b', B', m', e', rfl⟩ := ha.form
  obtain ⟨h1, h2⟩ := ha.parts
  obtain ⟨A1, l1, c1, b1, B1, m1, e1, A1', l1', c1', b1', B1', m1', e1', rfl⟩ := hb.form
  obtain ⟨h3, h4⟩ := hb.parts
  have t1 := br_max p r
  have t2 := br_min q s
  refine of_span_Meet (by simp) ?_
  try simp only [go_sem, Nat.reduceEqDiff, Nat.reduceAdd, Bool.false_eq_true, Nat.reduceBEq, ↓reduceIte, p_span_Meet]
  repeat' (with_reducible refine And.intro ?_ ?_)
  all_goals
    first | refine ev_call (more_ok _ _ _ p r h1 h3 (by omega)) ?_ | refine ev_callP (more_ok _ _ _ p r h1 h3 (by omega)) ?_
    rintro v_35 H_35 le_35 g1 _
    replace h2 := h2.le le_35
    replace h4 := h4.le le_35
    try simp only [go_sem, Nat.reduceEqDiff, Nat.reduceAdd, Bool.false_eq_true, Nat.reduceBEq, ↓reduceIte]
    repeat' (with_reducible refine And.intro ?_ ?_)
    all_goals
      first | refine ev_call (less_ok _ _ _ q s h2 h4 (by omega)) ?_ | refine ev_callP (less_ok _ _ _ q s h2 h4 (by omega)) ?_
      rintro v_36 H_36 le_36 g2 _
      replace g1 := g1.le le_36
      try simp only [go_sem, Nat.reduceEqDiff, Nat.reduceAdd, Bool.false_eq_true, Nat.reduceBEq, ↓reduceIte]
      repeat' (with_reducible refine And.intro ?_ ?_)
      all_goals
        first | refine ev_call (snew_ok _ _ _ _ _ g1 g2 (by omega)) ?_ | refine ev_callP (snew_ok _ _ _ _ _ g1 g2 (by omega)) ?_
        rintro v_37 H_37 le_37 ⟨v9, rfl, g3⟩ _
        try simp only [go_sem, Nat.reduceEqDiff, Nat.reduceAdd, Bool.false_eq_true, Nat.reduceBEq, ↓reduceIte]
        obtain ⟨A2, l2, c2, b2, B2, m2, e2, A2', l2', c2', b2', B2', m2', e2', rfl⟩ := g3.form
        try simp only [go_sem, Nat.reduceEqDiff, Nat.reduceAdd, Bool.false_eq_true, Nat.reduceBEq, ↓reduceIte]
        repeat' (with_reducible refine And.intro ?_ ?_)
        all_goals first | trivial | exact ⟨_, rfl, g3⟩

theorem shalf_ok (H : PH) (va : Value) (p : Rat) (ha : RatV H va p) (hbp : br p ≤ 1000000000) : FnP Tryz.prog 60 [va] H fun v H' => RatV H' v (p / 2) := by
  obtain ⟨A, l, c, b, B, m, e, rfl⟩ := ha.form
  have s3 : br ((2 : Int) : Rat) = 2 := by decide +kernel
  refine of_span_half (by simp) ?_
  try simp only [go_sem, Nat.reduceEqDiff, Nat.reduceAdd, Bool.false_eq_true, Nat.reduceBEq, ↓reduceIte, p_span_half]
  repeat' (with_reducible refine And.intro ?_ ?_)
  all_goals
    first | refine ev_call (rof_ok _ 2 (by decide) (by decide)) ?_ | refine ev_callP (rof_ok _ 2 (by decide) (by decide)) ?_
    rintro v_38 H_38 le_38 g1 _
    replace ha := ha.le le_38
    try simp only [go_sem, Nat.reduceEqDiff, Nat.reduceAdd, Bool.false_eq_true, Nat.reduceBEq, ↓reduceIte]
    repeat' (with_reducible refine And.intro ?_ ?_)
    all_goals
      first | refine ev_call (rdiv'_ok1 _ _ _ p _ ha g1 (by omega) (by decide)) ?_ | refine ev_callP (rdiv'_ok1 _ _ _ p _ ha g1 (by omega) (by decide)) ?_
      rintro v_39 H_39 le_39 ⟨v9, rfl, g2⟩ _
      try simp only [go_sem, Nat.reduceEqDiff, Nat.reduceAdd, Bool.false_eq_true, Nat.reduceBEq, ↓reduceIte]
      obtain ⟨A3, l3, c3, b3, B3, m3, e3, rfl⟩ := g2.form
      try simp only [go_sem, Nat.reduceEqDiff, Nat.reduceAdd, Bool.false_eq_true, Nat.reduceBEq, ↓reduceIte]
      repeat' (with_reducible refine And.intro ?_ ?_)
      all_goals first | trivial | exact g2

theorem smid_ok (H : PH) (va : Value) (p q : Rat) (ha : SpanV H va p q) (hbp : br p + br q ≤ 100000000) : FnP Tryz.prog 23 [va] H fun v H' => RatV H' v ((p + q) / 2) := by
  obtain ⟨A, l, c, b, B, m, e, A', l', c', b', B', m', e', rfl⟩ := ha.form
  obtain ⟨h1, h2⟩ := ha.parts
  have s1 := br_add p q
  refine of_span_Mid (by simp) ?_
  try simp only [go_sem, Nat.reduceEqDiff, Nat.reduceAdd, Bool.false_eq_true, Nat.reduceBEq, ↓reduceIte, p_span_Mid]
  first | refine ev_call (radd'_ok _ _ _ p q h1 h2 (by omega)) ?_ | refine ev_callP (radd'_ok _ _ _ p q h1 h2 (by omega)) ?_
  rintro v_40 H_40 le_40 g1 _
  try simp only [go_sem, Nat.reduceEqDiff, Nat.reduceAdd, Bool.false_eq_true, Nat.reduceBEq, ↓reduceIte]
  first | refine ev_call (shalf_ok _ _ _ g1 (by omega)) ?_ | refine ev_callP (shalf_ok _ _ _ g1 (by omega)) ?_
  rintro v_41 H_41 le_41 g2 _
  try simp only [go_sem, Nat.reduceEqDiff, Nat.reduceAdd, Bool.false_eq_true, Nat.reduceBEq, ↓reduceIte]
  obtain ⟨A3, l3, c3, b3, B3, m3, e3, rfl⟩ := g2.form
  try simp only [go_sem, Nat.reduceEqDiff, Nat.reduceAdd, Bool.false_eq_true, Nat.reduceBEq, ↓reduceIte]
  exact ⟨by trivial, g2⟩

theorem swidth_ok (H : PH) (va : Value) (p q : Rat) (ha : SpanV H va p q) (hbp : br p + br q ≤ 100000000) : FnP Tryz.prog 41 [va] H fun v H' => RatV H' v (q - p) := by
  obtain ⟨A, l, c, b, B, m, e, A', l', c', b', B', m', e', rfl⟩ := ha.form
  obtain ⟨h1, h2⟩ := ha.parts
  refine of_span_Width (by simp) ?_
  try simp only [go_sem, Nat.reduceEqDiff, Nat.reduceAdd, Bool.false_eq_true, Nat.reduceBEq, ↓reduceIte, p_span_Width]
  first | refine ev_call (rsub'_ok _ _ _ q p h2 h1 (by omega)) ?_ | refine ev_callP (rsub'_ok _ _ _ q p h2 h1 (by omega)) ?_
  rintro v_42 H_42 le_42 g2 _
  try simp only [go_sem, Nat.reduceEqDiff, Nat.reduceAdd, Bool.false_eq_true, Nat.reduceBEq, ↓reduceIte]
  obtain ⟨A3, l3, c3, b3, B3, m3, e3, rfl⟩ := g2.form
  try simp only [go_sem, Nat.reduceEqDiff, Nat.reduceAdd, Bool.false_eq_true, Nat.reduceBEq, ↓reduceIte]
  exact ⟨by trivial, g2⟩

/-- 1 above 0, -1 below, else 0 -/
def spSgn (p q : Rat) : Int := if 0 < p then 1 else if q < 0 then -1 else 0
theorem ssign_ok (H : PH) (va : Value) (p q : Rat) (ha : SpanV H va p q) (hbp : br p + br q ≤ 100000000) : FnP Tryz.prog 43 [va] H fun v _ => v = .int .i64 (spSgn p q) := by
  obtain ⟨A, l, c, b, B, m, e, A', l', c', b', B', m', e', rfl⟩ := ha.form
  obtain ⟨h1, h2⟩ := ha.parts
  refine of_span_Sign (by simp) ?_
  try simp only [go_sem, Nat.reduceEqDiff, Nat.reduceAdd, Bool.false_eq_true, Nat.reduceBEq, ↓reduceIte, p_span_Sign]
  first | refine ev_call (rsgn_ok _ _ p h1 (by omega)) ?_ | refine ev_callP (rsgn_ok _ _ p h1 (by omega)) ?_
  rintro v_43 H_43 le_43 rfl _
  replace h2 := h2.le le_43
  try simp only [go_sem, Nat.reduceEqDiff, Nat.reduceAdd, Bool.false_eq_true, Nat.reduceBEq, ↓reduceIte]
  rw [sgnI_R, gt_R]
  refine ev_if (fun k => ?_) (fun k => ?_)
  · try simp only [go_sem, Nat.reduceEqDiff, Nat.reduceAdd, Bool.false_eq_true, Nat.reduceBEq, ↓reduceIte]
    unfold spSgn
    rw [if_pos k]
    exact ⟨by trivial, by trivial⟩
  · try simp only [go_sem, Nat.reduceEqDiff, Nat.reduceAdd, Bool.false_eq_true, Nat.reduceBEq, ↓reduceIte]
    first | refine ev_call (rsgn_ok _ _ q h2 (by omega)) ?_ | refine ev_callP (rsgn_ok _ _ q h2 (by omega)) ?_
    rintro v_44 H_44 le_44 rfl _
    try simp only [go_sem, Nat.reduceEqDiff, Nat.reduceAdd, Bool.false_eq_true, Nat.reduceBEq, ↓reduceIte]
    rw [sgnI_R, cmpR_lt_iff]
    refine ev_if (fun k2 => ?_) (fun k2 => ?_)
    · try simp only [go_sem, Nat.reduceEqDiff, Nat.reduceAdd, Bool.false_eq_true, Nat.reduceBEq, ↓reduceIte]
      unfold spSgn
      rw [if_neg k, if_pos k2]
      exact ⟨by trivial, by trivial⟩
    · try simp only [go_sem, Nat.reduceEqDiff, Nat.reduceAdd, Bool.false_eq_true, Nat.reduceBEq, ↓reduceIte]
      unfold spSgn
      rw [if_neg k, if_neg k2]
      exact ⟨by trivial, by trivial⟩

theorem spow_ok (H : PH) (va : Value) (p q : Rat) (n : Int) (ha : SpanV H va p q) (hbp : br p + br q ≤ 1000000) : FnP Tryz.prog 28 [va, .int .i64 n] H fun v H' => SpanV H' v (powLo p q (expN n)) (powHi p q (expN n)) := by
  obtain ⟨A, l, c, b, B, m, e, A', l', c', b', B', m', e', rfl⟩ := ha.form
  obtain ⟨h1, h2⟩ := ha.parts
  have hx : expN n ≤ 255 := by unfold expN; omega
  have s1 := br_pow p (expN n)
  have s2 := br_pow q (expN n)
  have t1 : expN n * br p ≤ 255 * br p := Nat.mul_le_mul_right _ hx
  have t2 : expN n * br q ≤ 255 * br q := Nat.mul_le_mul_right _ hx
  have htm : ((expN n : Nat) : Int).tmod 2 = ((expN n % 2 : Nat) : Int) := by rw [Int.tmod_eq_emod_of_nonneg (by omega)]; omega
  have hclamp : (if 255 < (if n < 0 then 0 else n) then 255 else (if n < 0 then 0 else n)) = ((expN n : Nat) : Int) := by unfold expN; split <;> (try split) <;> omega
  refine of_span_Pow (by simp) ?_
  try simp only [go_sem, Nat.reduceEqDiff, Nat.reduceAdd, Bool.false_eq_true, Nat.reduceBEq, ↓reduceIte, p_span_Pow]
  refine ev_cut (fun s => ∃ H' A2 l2 c2 b2 B2 m2 e2 A3 l3 c3 b3 B3 m3 e3, SpanV H' (.agg #[.slice A l c, .bool b, .slice B m e, .slice A' l' c', .bool b', .slice B' m' e']) p q ∧ SpanV H' (.agg #[.slice A2 l2 c2, .bool b2, .slice B2 m2 e2, .slice A3 l3 c3, .bool b3, .slice B3 m3 e3]) (minR (p ^ expN n) (q ^ expN n)) (maxR (p ^ expN n) (q ^ expN n)) ∧
    s = ⟨[(5, .ptr 5 0), (4, .ptr 4 0), (2, .ptr 2 0), (1, .v (.int .i64 n))], [(5, [.slice A2 l2 c2, .bool b2, .slice B2 m2 e2, .slice A3 l3 c3, .bool b3, .slice B3 m3 e3]), (4, [.slice none 0 0, .bool false, .slice none 0 0, .slice none 0 0, .bool false, .slice none 0 0]), (2, [.slice A l c, .bool b, .slice B m e, .slice A' l' c', .bool b', .slice B' m' e'])], H', PH.no⟩) ?_ ?_
  · try simp only [go_sem, Nat.reduceEqDiff, Nat.reduceAdd, Bool.false_eq_true, Nat.reduceBEq, ↓reduceIte]
    repeat' (with_reducible refine And.intro ?_ ?_)
    all_goals
      first | refine ev_call (rpow'_ok _ _ p n h1 (by omega)) ?_ | refine ev_callP (rpow'_ok _ _ p n h1 (by omega)) ?_
      rintro v_45 H_45 le_45 g1 _
      replace ha := ha.le le_45
      replace h2 := h2.le le_45
      try simp only [go_sem, Nat.reduceEqDiff, Nat.reduceAdd, Bool.false_eq_true, Nat.reduceBEq, ↓reduceIte]
      repeat' (with_reducible refine And.intro ?_ ?_)
      all_goals
        first | refine ev_call (rpow'_ok _ _ q n h2 (by omega)) ?_ | refine ev_callP (rpow'_ok _ _ q n h2 (by omega)) ?_
        rintro v_46 H_46 le_46 g2 _
        replace ha := ha.le le_46
        replace g1 := g1.le le_46
        try simp only [go_sem, Nat.reduceEqDiff, Nat.reduceAdd, Bool.false_eq_true, Nat.reduceBEq, ↓reduceIte]
        repeat' (with_reducible refine And.intro ?_ ?_)
        all_goals
          first | refine ev_call (around_ok _ _ _ _ _ g1 g2 (by omega)) ?_ | refine ev_callP (around_ok _ _ _ _ _ g1 g2 (by omega)) ?_
          rintro v_47 H_47 le_47 g3 _
          replace ha := ha.le le_47
          try simp only [go_sem, Nat.reduceEqDiff, Nat.reduceAdd, Bool.false_eq_true, Nat.reduceBEq, ↓reduceIte]
          obtain ⟨A2, l2, c2, b2, B2, m2, e2, A3, l3, c3, b3, B3, m3, e3, rfl⟩ := g3.form
          try simp only [go_sem, Nat.reduceEqDiff, Nat.reduceAdd, Bool.false_eq_true, Nat.reduceBEq, ↓reduceIte]
          exact k_cut _ ⟨_, _, _, _, _, _, _, _, _, _, _, _, _, _, _, ha, g3, rfl⟩ ⟨rfl, by simp only [go_sem, Nat.reduceEqDiff, Nat.reduceAdd, Bool.false_eq_true, Nat.reduceBEq, ↓reduceIte, and_self, Option.some.injEq, SV.v.injEq, SV.ptr.injEq, Value.int.injEq, Value.bool.injEq, Value.slice.injEq, true_and, and_true] <;> (repeat' apply And.intro) <;> first | rfl | omega | (simp (disch := omega) only [w64, wu64, wu32, wu8] <;> omega), by simp only [go_sem, Nat.reduceEqDiff, Nat.reduceAdd, Bool.false_eq_true, Nat.reduceBEq, ↓reduceIte, and_self, Option.some.injEq, SV.v.injEq, SV.ptr.injEq, Value.int.injEq, Value.bool.injEq, Value.slice.injEq, true_and, and_true] <;> (repeat' apply And.intro) <;> rfl, rfl, PH.le.refl _⟩
  · rintro s ⟨H2, A2, l2, c2, b2, B2, m2, e2, A3, l3, c3, b3, B3, m3, e3, ha, g3, rfl⟩
    try simp only [go_sem, Nat.reduceEqDiff, Nat.reduceAdd, Bool.false_eq_true, Nat.reduceBEq, ↓reduceIte]
    rw [hclamp]
    have plain : ¬ (0 < expN n ∧ expN n % 2 = 0 ∧ p ≤ 0 ∧ 0 ≤ q) → powLo p q (expN n) = minR (p ^ expN n) (q ^ expN n) := fun h => by unfold powLo; rw [if_neg h]
    refine ev_if (fun c1 => ?_) (fun c1 => ?_)
    · try simp only [go_sem, Nat.reduceEqDiff, Nat.reduceAdd, Bool.false_eq_true, Nat.reduceBEq, ↓reduceIte]
      refine ev_rem (by decide) ?_
      rw [htm]
      try simp only [go_sem, Nat.reduceEqDiff, Nat.reduceAdd, Bool.false_eq_true, Nat.reduceBEq, ↓reduceIte]
      refine ev_if (fun c2 => ?_) (fun c2 => ?_)
      · try simp only [go_sem, Nat.reduceEqDiff, Nat.reduceAdd, Bool.false_eq_true, Nat.reduceBEq, ↓reduceIte]
        first | refine ev_call (shas_ok _ _ _ p q 0 ha (RatV.zero _) (by rw [br_zero]; omega)) ?_ | refine ev_callP (shas_ok _ _ _ p q 0 ha (RatV.zero _) (by rw [br_zero]; omega)) ?_
        rintro v_48 H_48 le_48 rfl _
        replace g3 := g3.le le_48
        try simp only [go_sem, Nat.reduceEqDiff, Nat.reduceAdd, Bool.false_eq_true, Nat.reduceBEq, ↓reduceIte]
        by_cases c3 : p ≤ 0 ∧ 0 ≤ q
        · rw [decide_eq_true c3]
          try simp only [go_sem, Nat.reduceEqDiff, Nat.reduceAdd, Bool.false_eq_true, Nat.reduceBEq, ↓reduceIte]
          have hlo : powLo p q (expN n) = 0 := by unfold powLo; rw [if_pos ⟨by omega, by omega, c3.1, c3.2⟩]
          rw [hlo]
          exact ⟨by trivial, SpanV.mk (RatV.zero _) g3.parts.2⟩
        · rw [decide_eq_false c3]
          try simp only [go_sem, Nat.reduceEqDiff, Nat.reduceAdd, Bool.false_eq_true, Nat.reduceBEq, ↓reduceIte]
          rw [plain (fun h => c3 ⟨h.2.2.1, h.2.2.2⟩)]
          exact ⟨by trivial, g3⟩
      · try simp only [go_sem, Nat.reduceEqDiff, Nat.reduceAdd, Bool.false_eq_true, Nat.reduceBEq, ↓reduceIte]
        rw [plain (fun h => c2 (by omega))]
        exact ⟨by trivial, g3⟩
    · try simp only [go_sem, Nat.reduceEqDiff, Nat.reduceAdd, Bool.false_eq_true, Nat.reduceBEq, ↓reduceIte]
      rw [plain (fun h => c1 (by omega))]
      exact ⟨by trivial, g3⟩

end Go.Proofs.YtpifafenmgceoaaGreat.X
set_option linter.unusedVariables false
set_option linter.unusedSimpArgs false
namespace Go.Proofs.YtpifafenmgceoaaGreat.X
open Go Go.RowKit Go.Proofs

/-- an interval of the reference -/
def RSpan (H : PH) (v : Value) (p q : Rat) : Prop := ∃ b A l c B m e b' A' l' c' B' m' e', v = .agg #[.bool b, .slice A l c, .slice B m e, .bool b', .slice A' l' c', .slice B' m' e'] ∧ RRat H (.agg #[.bool b, .slice A l c, .slice B m e]) p ∧ RRat H (.agg #[.bool b', .slice A' l' c', .slice B' m' e']) q
theorem RSpan.le {H H' : PH} {v : Value} {p q : Rat} (h : RSpan H v p q) (hl : H.le H') : RSpan H' v p q := by
  obtain ⟨b, A, l, c, B, m, e, b', A', l', c', B', m', e', h1, h2, h3⟩ := h
  exact ⟨b, A, l, c, B, m, e, b', A', l', c', B', m', e', h1, h2.le hl, h3.le hl⟩
theorem RSpan.form {H : PH} {v : Value} {p q : Rat} (h : RSpan H v p q) : ∃ b A l c B m e b' A' l' c' B' m' e', v = .agg #[.bool b, .slice A l c, .slice B m e, .bool b', .slice A' l' c', .slice B' m' e'] := by
  obtain ⟨b, A, l, c, B, m, e, b', A', l', c', B', m', e', h1, _⟩ := h
  exact ⟨b, A, l, c, B, m, e, b', A', l', c', B', m', e', h1⟩
theorem RSpan.parts {H : PH} {A B A' B' : Option Addr} {l c m e l' c' m' e' : Nat} {b b' : Bool} {p q : Rat} (h : RSpan H (.agg #[.bool b, .slice A l c, .slice B m e, .bool b', .slice A' l' c', .slice B' m' e']) p q) : RRat H (.agg #[.bool b, .slice A l c, .slice B m e]) p ∧ RRat H (.agg #[.bool b', .slice A' l' c', .slice B' m' e']) q := by
  obtain ⟨b1, A1, l1, c1, B1, m1, e1, b2, A2, l2, c2, B2, m2, e2, h1, h2, h3⟩ := h
  have : b = b1 ∧ A = A1 ∧ l = l1 ∧ c = c1 ∧ B = B1 ∧ m = m1 ∧ e = e1 ∧ b' = b2 ∧ A' = A2 ∧ l' = l2 ∧ c' = c2 ∧ B' = B2 ∧ m' = m2 ∧ e' = e2 := by simpa [and_assoc] using h1
  obtain ⟨rfl, rfl, rfl, rfl, rfl, rfl, rfl, rfl, rfl, rfl, rfl, rfl, rfl, rfl⟩ := this
  exact ⟨h2, h3⟩
theorem RSpan.mk {H : PH} {A B A' B' : Option Addr} {l c m e l' c' m' e' : Nat} {b b' : Bool} {p q : Rat} (h1 : RRat H (.agg #[.bool b, .slice A l c, .slice B m e]) p) (h2 : RRat H (.agg #[.bool b', .slice A' l' c', .slice B' m' e']) q) : RSpan H (.agg #[.bool b, .slice A l c, .slice B m e, .bool b', .slice A' l' c', .slice B' m' e']) p q :=
  ⟨b, A, l, c, B, m, e, b', A', l', c', B', m', e', rfl, h1, h2⟩
theorem RSpan.zero (H : PH) : RSpan H (.agg #[.bool false, .slice none 0 0, .slice none 0 0, .bool false, .slice none 0 0, .slice none 0 0]) 0 0 := RSpan.mk (RRat.zero H) (RRat.zero H)

theorem pointR_ok (H : PH) (va : Value) (p : Rat) (ha : RRat H va p) : FnP Tryz.prog 56 [va] H fun v H' => RSpan H' v p p := by
  obtain ⟨b, A, l, c, B, m, e, rfl⟩ := ha.form
  refine of_cinctureref1_Point (by simp) ?_
  try simp only [go_sem, Nat.reduceEqDiff, Nat.reduceAdd, Bool.false_eq_true, Nat.reduceBEq, ↓reduceIte, p_cinctureref1_Point]
  exact ⟨by trivial, RSpan.mk ha ha⟩

theorem saddR_ok (H : PH) (va vb : Value) (p q r s : Rat) (ha : RSpan H va p q) (hb : RSpan H vb r s) (hbp : br p + br q + br r + br s ≤ 4294960000) : FnP Tryz.prog 13 [va, vb] H fun v H' => RSpan H' v (p + r) (q + s) := by
  obtain ⟨b, A, l, c, B, m, e, b', A', l', c', B', m', e', rfl⟩ := ha.form
  obtain ⟨h1, h2⟩ := ha.parts
  obtain ⟨b1, A1, l1, c1, B1, m1, e1, b1', A1', l1', c1', B1', m1', e1', rfl⟩ := hb.form
  obtain ⟨h3, h4⟩ := hb.parts
  refine of_cinctureref1_SpanAdd (by simp) ?_
  try simp only [go_sem, Nat.reduceEqDiff, Nat.reduceAdd, Bool.false_eq_true, Nat.reduceBEq, ↓reduceIte, p_cinctureref1_SpanAdd]
  first | refine ev_call (raddR_ok _ _ _ p r h1 h3 (by omega)) ?_ | refine ev_callP (raddR_ok _ _ _ p r h1 h3 (by omega)) ?_
  rintro v_1 H_1 le_1 g1 _
  replace h2 := h2.le le_1
  replace h4 := h4.le le_1
  try simp only [go_sem, Nat.reduceEqDiff, Nat.reduceAdd, Bool.false_eq_true, Nat.reduceBEq, ↓reduceIte]
  first | refine ev_call (raddR_ok _ _ _ q s h2 h4 (by omega)) ?_ | refine ev_callP (raddR_ok _ _ _ q s h2 h4 (by omega)) ?_
  rintro v_2 H_2 le_2 g2 _
  replace g1 := g1.le le_2
  try simp only [go_sem, Nat.reduceEqDiff, Nat.reduceAdd, Bool.false_eq_true, Nat.reduceBEq, ↓reduceIte]
  obtain ⟨b2, A2, l2, c2, B2, m2, e2, rfl⟩ := g1.form
  obtain ⟨b3, A3, l3, c3, B3, m3, e3, rfl⟩ := g2.form
  try simp only [go_sem, Nat.reduceEqDiff, Nat.reduceAdd, Bool.false_eq_true, Nat.reduceBEq, ↓reduceIte]
  exact ⟨by trivial, RSpan.mk g1 g2⟩

theorem ssubR_ok (H : PH) (va vb : Value) (p q r s : Rat) (ha : RSpan H va p q) (hb : RSpan H vb r s) (hbp : br p + br q + br r + br s ≤ 4294960000) : FnP Tryz.prog 15 [va, vb] H fun v H' => RSpan H' v (p - s) (q - r) := by
  obtain ⟨b, A, l, c, B, m, e, b', A', l', c', B', m', e', rfl⟩ := ha.form
  obtain ⟨h1, h2⟩ := ha.parts
  obtain ⟨b1, A1, l1, c1, B1, m1, e1, b1', A1', l1', c1', B1', m1', e1', rfl⟩ := hb.form
  obtain ⟨h3, h4⟩ := hb.parts
  refine of_cinctureref1_SpanSub (by simp) ?_
  try simp only [go_sem, Nat.reduceEqDiff, Nat.reduceAdd, Bool.false_eq_true, Nat.reduceBEq, ↓reduceIte, p_cinctureref1_SpanSub]
  first | refine ev_call (rsubR_ok _ _ _ p s h1 h4 (by omega)) ?_ | refine ev_callP (rsubR_ok _ _ _ p s h1 h4 (by omega)) ?_
  rintro v_3 H_3 le_3 g1 _
  replace h2 := h2.le le_3
  replace h3 := h3.le le_3
  try simp only [go_sem, Nat.reduceEqDiff, Nat.reduceAdd, Bool.false_eq_true, Nat.reduceBEq, ↓reduceIte]
  first | refine ev_call (rsubR_ok _ _ _ q r h2 h3 (by omega)) ?_ | refine ev_callP (rsubR_ok _ _ _ q r h2 h3 (by omega)) ?_
  rintro v_4 H_4 le_4 g2 _
  replace g1 := g1.le le_4
  try simp only [go_sem, Nat.reduceEqDiff, Nat.reduceAdd, Bool.false_eq_true, Nat.reduceBEq, ↓reduceIte]
  obtain ⟨b2, A2, l2, c2, B2, m2, e2, rfl⟩ := g1.form
  obtain ⟨b3, A3, l3, c3, B3, m3, e3, rfl⟩ := g2.form
  try simp only [go_sem, Nat.reduceEqDiff, Nat.reduceAdd, Bool.false_eq_true, Nat.reduceBEq, ↓reduceIte]
  exact ⟨by trivial, RSpan.mk g1 g2⟩

theorem shasR_ok (H : PH) (va vb : Value) (p q r : Rat) (ha : RSpan H va p q) (hb : RRat H vb r) (hbp : br p + br q + br r ≤ 4294966000) : FnP Tryz.prog 36 [va, vb] H fun v _ => v = .bool (decide (p ≤ r ∧ r ≤ q)) := by
  obtain ⟨b, A, l, c, B, m, e, b', A', l', c', B', m', e', rfl⟩ := ha.form
  obtain ⟨h1, h2⟩ := ha.parts
  obtain ⟨b1, A1, l1, c1, B1, m1, e1, rfl⟩ := hb.form
  refine of_cinctureref1_SpanHas (by simp) ?_
  try simp only [go_sem, Nat.reduceEqDiff, Nat.reduceAdd, Bool.false_eq_true, Nat.reduceBEq, ↓reduceIte, p_cinctureref1_SpanHas]
  first | refine ev_call (rcmpRR_ok _ _ _ p r h1 hb (by omega)) ?_ | refine ev_callP (rcmpRR_ok _ _ _ p r h1 hb (by omega)) ?_
  rintro v_5 H_5 le_5 rfl _
  replace h2 := h2.le le_5
  replace hb := hb.le le_5
  try simp only [go_sem, Nat.reduceEqDiff, Nat.reduceAdd, Bool.false_eq_true, Nat.reduceBEq, ↓reduceIte]
  rw [cmpR_le_iff]
  refine ev_if (fun k => ?_) (fun k => ?_)
  · try simp only [go_sem, Nat.reduceEqDiff, Nat.reduceAdd, Bool.false_eq_true, Nat.reduceBEq, ↓reduceIte]
    first | refine ev_call (rcmpRR_ok _ _ _ r q hb h2 (by omega)) ?_ | refine ev_callP (rcmpRR_ok _ _ _ r q hb h2 (by omega)) ?_
    rintro v_6 H_6 le_6 rfl _
    try simp only [go_sem, Nat.reduceEqDiff, Nat.reduceAdd, Bool.false_eq_true, Nat.reduceBEq, ↓reduceIte]
    rw [cmpR_le_iff]
    refine ev_if (fun k2 => ?_) (fun k2 => ?_)
    · try simp only [go_sem, Nat.reduceEqDiff, Nat.reduceAdd, Bool.false_eq_true, Nat.reduceBEq, ↓reduceIte]
      rw [decide_eq_true ⟨k, k2⟩]
      exact ⟨by trivial, by trivial⟩
    · try simp only [go_sem, Nat.reduceEqDiff, Nat.reduceAdd, Bool.false_eq_true, Nat.reduceBEq, ↓reduceIte]
      rw [decide_eq_false (fun k3 => k2 k3.2)]
      exact ⟨by trivial, by trivial⟩
  · try simp only [go_sem, Nat.reduceEqDiff, Nat.reduceAdd, Bool.false_eq_true, Nat.reduceBEq, ↓reduceIte]
    rw [decide_eq_false (fun k3 => k k3.1)]
    exact ⟨by trivial, by trivial⟩

theorem swithinR_ok (H : PH) (va vb : Value) (p q r s : Rat) (ha : RSpan H va p q) (hb : RSpan H vb r s) (hbp : br p + br q + br r + br s ≤ 4294966000) : FnP Tryz.prog 37 [va, vb] H fun v _ => v = .bool (decide (r ≤ p ∧ q ≤ s)) := by
  obtain ⟨b, A, l, c, B, m, e, b', A', l', c', B', m', e', rfl⟩ := ha.form
  obtain ⟨h1, h2⟩ := ha.parts
  obtain ⟨b1, A1, l1, c1, B1, m1, e1, b1', A1', l1', c1', B1', m1', e1', rfl⟩ := hb.form
  obtain ⟨h3, h4⟩ := hb.parts
  refine of_cinctureref1_SpanWithin (by simp) ?_
  try simp only [go_sem, Nat.reduceEqDiff, Nat.reduceAdd, Bool.false_eq_true, Nat.reduceBEq, ↓reduceIte, p_cinctureref1_SpanWithin]
  first | refine ev_call (rcmpRR_ok _ _ _ r p h3 h1 (by omega)) ?_ | refine ev_callP (rcmpRR_ok _ _ _ r p h3 h1 (by omega)) ?_
  rintro v_7 H_7 le_7 rfl _
  replace h2 := h2.le le_7
  replace h4 := h4.le le_7
  try simp only [go_sem, Nat.reduceEqDiff, Nat.reduceAdd, Bool.false_eq_true, Nat.reduceBEq, ↓reduceIte]
  rw [cmpR_le_iff]
  refine ev_if (fun k => ?_) (fun k => ?_)
  · try simp only [go_sem, Nat.reduceEqDiff, Nat.reduceAdd, Bool.false_eq_true, Nat.reduceBEq, ↓reduceIte]
    first | refine ev_call (rcmpRR_ok _ _ _ q s h2 h4 (by omega)) ?_ | refine ev_callP (rcmpRR_ok _ _ _ q s h2 h4 (by omega)) ?_
    rintro v_8 H_8 le_8 rfl _
    try simp only [go_sem, Nat.reduceEqDiff, Nat.reduceAdd, Bool.false_eq_true, Nat.reduceBEq, ↓reduceIte]
    rw [cmpR_le_iff]
    refine ev_if (fun k2 => ?_) (fun k2 => ?_)
    · try simp only [go_sem, Nat.reduceEqDiff, Nat.reduceAdd, Bool.false_eq_true, Nat.reduceBEq, ↓reduceIte]
      rw [decide_eq_true ⟨k, k2⟩]
      exact ⟨by trivial, by trivial⟩
    · try simp only [go_sem, Nat.reduceEqDiff, Nat.reduceAdd, Bool.false_eq_true, Nat.reduceBEq, ↓reduceIte]
      rw [decide_eq_false (fun k3 => k2 k3.2)]
      exact ⟨by trivial, by trivial⟩
  · try simp only [go_sem, Nat.reduceEqDiff, Nat.reduceAdd, Bool.false_eq_true, Nat.reduceBEq, ↓reduceIte]
    rw [decide_eq_false (fun k3 => k k3.1)]
    exact ⟨by trivial, by trivial⟩

theorem sinsideR_ok (H : PH) (va vb : Value) (p q r s : Rat) (ha : RSpan H va p q) (hb : RSpan H vb r s) (hbp : br p + br q + br r + br s ≤ 4294966000) : FnP Tryz.prog 38 [va, vb] H fun v _ => v = .bool (decide (r < p ∧ q < s)) := by
  obtain ⟨b, A, l, c, B, m, e, b', A', l', c', B', m', e', rfl⟩ := ha.form
  obtain ⟨h1, h2⟩ := ha.parts
  obtain ⟨b1, A1, l1, c1, B1, m1, e1, b1', A1', l1', c1', B1', m1', e1', rfl⟩ := hb.form
  obtain ⟨h3, h4⟩ := hb.parts
  refine of_cinctureref1_SpanInside (by simp) ?_
  try simp only [go_sem, Nat.reduceEqDiff, Nat.reduceAdd, Bool.false_eq_true, Nat.reduceBEq, ↓reduceIte, p_cinctureref1_SpanInside]
  first | refine ev_call (rcmpRR_ok _ _ _ r p h3 h1 (by omega)) ?_ | refine ev_callP (rcmpRR_ok _ _ _ r p h3 h1 (by omega)) ?_
  rintro v_9 H_9 le_9 rfl _
  replace h2 := h2.le le_9
  replace h4 := h4.le le_9
  try simp only [go_sem, Nat.reduceEqDiff, Nat.reduceAdd, Bool.false_eq_true, Nat.reduceBEq, ↓reduceIte]
  rw [cmpR_lt_iff]
  refine ev_if (fun k => ?_) (fun k => ?_)
  · try simp only [go_sem, Nat.reduceEqDiff, Nat.reduceAdd, Bool.false_eq_true, Nat.reduceBEq, ↓reduceIte]
    first | refine ev_call (rcmpRR_ok _ _ _ q s h2 h4 (by omega)) ?_ | refine ev_callP (rcmpRR_ok _ _ _ q s h2 h4 (by omega)) ?_
    rintro v_10 H_10 le_10 rfl _
    try simp only [go_sem, Nat.reduceEqDiff, Nat.reduceAdd, Bool.false_eq_true, Nat.reduceBEq, ↓reduceIte]
    rw [cmpR_lt_iff]
    refine ev_if (fun k2 => ?_) (fun k2 => ?_)
    · try simp only [go_sem, Nat.reduceEqDiff, Nat.reduceAdd, Bool.false_eq_true, Nat.reduceBEq, ↓reduceIte]
      rw [decide_eq_true ⟨k, k2⟩]
      exact ⟨by trivial, by trivial⟩
    · try simp only [go_sem, Nat.reduceEqDiff, Nat.reduceAdd, Bool.false_eq_true, Nat.reduceBEq, ↓reduceIte]
      rw [decide_eq_false (fun k3 => k2 k3.2)]
      exact ⟨by trivial, by trivial⟩
  · try simp only [go_sem, Nat.reduceEqDiff, Nat.reduceAdd, Bool.false_eq_true, Nat.reduceBEq, ↓reduceIte]
    rw [decide_eq_false (fun k3 => k k3.1)]
    exact ⟨by trivial, by trivial⟩

theorem ssignR_ok (H : PH) (va : Value) (p q : Rat) (ha : RSpan H va p q) : FnP Tryz.prog 44 [va] H fun v _ => v = .int .i64 (spSgn p q) := by
  obtain ⟨b, A, l, c, B, m, e, b', A', l', c', B', m', e', rfl⟩ := ha.form
  obtain ⟨h1, h2⟩ := ha.parts
  obtain ⟨k1, _⟩ := h1.parts
  obtain ⟨k2, _⟩ := h2.parts
  refine of_cinctureref1_SpanSign (by simp) ?_
  try simp only [go_sem, Nat.reduceEqDiff, Nat.reduceAdd, Bool.false_eq_true, Nat.reduceBEq, ↓reduceIte, p_cinctureref1_SpanSign]
  first | refine ev_call (rsign_ok _ _ _ k1) ?_ | refine ev_callP (rsign_ok _ _ _ k1) ?_
  rintro v_11 H_11 le_11 rfl _
  replace k2 := k2.le le_11
  try simp only [go_sem, Nat.reduceEqDiff, Nat.reduceAdd, Bool.false_eq_true, Nat.reduceBEq, ↓reduceIte]
  rw [sgnI_R, gt_R]
  refine ev_if (fun k => ?_) (fun k => ?_)
  · try simp only [go_sem, Nat.reduceEqDiff, Nat.reduceAdd, Bool.false_eq_true, Nat.reduceBEq, ↓reduceIte]
    unfold spSgn
    rw [if_pos k]
    exact ⟨by trivial, by trivial⟩
  · try simp only [go_sem, Nat.reduceEqDiff, Nat.reduceAdd, Bool.false_eq_true, Nat.reduceBEq, ↓reduceIte]
    first | refine ev_call (rsign_ok _ _ _ k2) ?_ | refine ev_callP (rsign_ok _ _ _ k2) ?_
    rintro v_12 H_12 le_12 rfl _
    try simp only [go_sem, Nat.reduceEqDiff, Nat.reduceAdd, Bool.false_eq_true, Nat.reduceBEq, ↓reduceIte]
    rw [sgnI_R, cmpR_lt_iff]
    refine ev_if (fun k2 => ?_) (fun k2 => ?_)
    · try simp only [go_sem, Nat.reduceEqDiff, Nat.reduceAdd, Bool.false_eq_true, Nat.reduceBEq, ↓reduceIte]
      unfold spSgn
      rw [if_neg k, if_pos k2]
      exact ⟨by trivial, by trivial⟩
    · try simp only [go_sem, Nat.reduceEqDiff, Nat.reduceAdd, Bool.false_eq_true, Nat.reduceBEq, ↓reduceIte]
      unfold spSgn
      rw [if_neg k, if_neg k2]
      exact ⟨by trivial, by trivial⟩

theorem halfS_ok (H : PH) (v : Value) (q : Rat) (hV : RRat H v q) (hb : br q ≤ 1000000) : FnP Tryz.prog 77 [v] H fun v H' => RRat H' v (q / 2) := by
  obtain ⟨b, A, l, c, B, m, e, rfl⟩ := hV.form
  have hbm : br (mkRat 1 2) = 2 := by decide +kernel
  refine of_cinctureref1_Half (by simp) ?_
  try simp only [go_sem, Nat.reduceEqDiff, Nat.reduceAdd, Bool.false_eq_true, Nat.reduceBEq, ↓reduceIte, p_cinctureref1_Half]
  first | refine ev_call (rintOf_ok _ 1 (by decide) (by decide)) ?_ | refine ev_callP (rintOf_ok _ 1 (by decide) (by decide)) ?_
  rintro v_13 H_13 le_13 g1 _
  replace hV := hV.le le_13
  try simp only [go_sem, Nat.reduceEqDiff, Nat.reduceAdd, Bool.false_eq_true, Nat.reduceBEq, ↓reduceIte]
  first | refine ev_call (rnatOf_ok _ 2 (by decide)) ?_ | refine ev_callP (rnatOf_ok _ 2 (by decide)) ?_
  rintro v_14 H_14 le_14 g2 _
  replace hV := hV.le le_14
  replace g1 := g1.le le_14
  try simp only [go_sem, Nat.reduceEqDiff, Nat.reduceAdd, Bool.false_eq_true, Nat.reduceBEq, ↓reduceIte]
  obtain ⟨A1, l1, c1, b1, rfl⟩ := g1.form
  obtain ⟨A2, l2, c2, rfl, _⟩ := g2.form
  have e1 : (mkRat 1 2).num = 1 := by decide +kernel
  have e2 : (mkRat 1 2).den = 2 := by decide +kernel
  rw [← e1] at g1
  rw [← e2] at g2
  have g3 := RRat.mk g1 g2
  try simp only [go_sem, Nat.reduceEqDiff, Nat.reduceAdd, Bool.false_eq_true, Nat.reduceBEq, ↓reduceIte]
  first | refine ev_call (rmulR_ok _ _ _ _ _ hV g3 (by omega)) ?_ | refine ev_callP (rmulR_ok _ _ _ _ _ hV g3 (by omega)) ?_
  rintro v_15 H_15 le_15 g4 _
  try simp only [go_sem, Nat.reduceEqDiff, Nat.reduceAdd, Bool.false_eq_true, Nat.reduceBEq, ↓reduceIte]
  obtain ⟨b4, A4, l4, c4, B4, m4, e4, rfl⟩ := g4.form
  have e9 : q * mkRat 1 2 = q / 2 := by rw [show mkRat 1 2 = (1 : Rat) / 2 by decide +kernel]; grind
  rw [e9] at g4
  try simp only [go_sem, Nat.reduceEqDiff, Nat.reduceAdd, Bool.false_eq_true, Nat.reduceBEq, ↓reduceIte]
  exact ⟨by trivial, g4⟩
theorem smidR_ok (H : PH) (va : Value) (p q : Rat) (ha : RSpan H va p q) (hbp : br p + br q ≤ 100000) : FnP Tryz.prog 40 [va] H fun v H' => RRat H' v ((p + q) / 2) := by
  obtain ⟨b, A, l, c, B, m, e, b', A', l', c', B', m', e', rfl⟩ := ha.form
  obtain ⟨h1, h2⟩ := ha.parts
  have s1 := br_add p q
  refine of_cinctureref1_Mid (by simp) ?_
  try simp only [go_sem, Nat.reduceEqDiff, Nat.reduceAdd, Bool.false_eq_true, Nat.reduceBEq, ↓reduceIte, p_cinctureref1_Mid]
  first | refine ev_call (raddR_ok _ _ _ p q h1 h2 (by omega)) ?_ | refine ev_callP (raddR_ok _ _ _ p q h1 h2 (by omega)) ?_
  rintro v_16 H_16 le_16 g1 _
  try simp only [go_sem, Nat.reduceEqDiff, Nat.reduceAdd, Bool.false_eq_true, Nat.reduceBEq, ↓reduceIte]
  first | refine ev_call (halfS_ok _ _ _ g1 (by omega)) ?_ | refine ev_callP (halfS_ok _ _ _ g1 (by omega)) ?_
  rintro v_17 H_17 le_17 g2 _
  try simp only [go_sem, Nat.reduceEqDiff, Nat.reduceAdd, Bool.false_eq_true, Nat.reduceBEq, ↓reduceIte]
  obtain ⟨b3, A3, l3, c3, B3, m3, e3, rfl⟩ := g2.form
  try simp only [go_sem, Nat.reduceEqDiff, Nat.reduceAdd, Bool.false_eq_true, Nat.reduceBEq, ↓reduceIte]
  exact ⟨by trivial, g2⟩
theorem swidthR_ok (H : PH) (va : Value) (p q : Rat) (ha : RSpan H va p q) (hbp : br p + br q ≤ 100000) : FnP Tryz.prog 42 [va] H fun v H' => RRat H' v (q - p) := by
  obtain ⟨b, A, l, c, B, m, e, b', A', l', c', B', m', e', rfl⟩ := ha.form
  obtain ⟨h1, h2⟩ := ha.parts
  refine of_cinctureref1_Width (by simp) ?_
  try simp only [go_sem, Nat.reduceEqDiff, Nat.reduceAdd, Bool.false_eq_true, Nat.reduceBEq, ↓reduceIte, p_cinctureref1_Width]
  first | refine ev_call (rsubR_ok _ _ _ q p h2 h1 (by omega)) ?_ | refine ev_callP (rsubR_ok _ _ _ q p h2 h1 (by omega)) ?_
  rintro v_18 H_18 le_18 g2 _
  try simp only [go_sem, Nat.reduceEqDiff, Nat.reduceAdd, Bool.false_eq_true, Nat.reduceBEq, ↓reduceIte]
  obtain ⟨b3, A3, l3, c3, B3, m3, e3, rfl⟩ := g2.form
  try simp only [go_sem, Nat.reduceEqDiff, Nat.reduceAdd, Bool.false_eq_true, Nat.reduceBEq, ↓reduceIte]
  exact ⟨by trivial, g2⟩

theorem sparseR_ok (H : PH) (a b : ByteArray) (ha : a.size ≤ 9223372036854775807) (hb : b.size ≤ 9223372036854775807) : FnP Tryz.prog 46 [.agg #[.string a, .string b]] H fun v H' => ∃ v', v = .tuple #[v', .int .i64 (spCode a b)] ∧ RSpan H' v' (if spOk a b then rv (bs a) else 0) (if spOk a b then rv (bs b) else 0) := by
  have bad : ∀ (n : Int) (H' : PH), spOk a b = false → spCode a b = n → ∃ v', (Value.tuple #[.agg #[.bool false, .slice none 0 0, .slice none 0 0, .bool false, .slice none 0 0, .slice none 0 0], .int .i64 n]) = .tuple #[v', .int .i64 (spCode a b)] ∧ RSpan H' v' (if spOk a b then rv (bs a) else 0) (if spOk a b then rv (bs b) else 0) := by
    intro n H' h k
    rw [h, k]
    exact ⟨_, rfl, RSpan.zero _⟩
  refine of_cinctureref1_SpanParse (by simp) ?_
  try simp only [go_sem, Nat.reduceEqDiff, Nat.reduceAdd, Bool.false_eq_true, Nat.reduceBEq, ↓reduceIte, p_cinctureref1_SpanParse]
  first | refine ev_call (rparseR_ok _ a ha) ?_ | refine ev_callP (rparseR_ok _ a ha) ?_
  rintro v_19 H_19 le_19 ⟨va, rfl, h1⟩ _
  try simp only [go_sem, Nat.reduceEqDiff, Nat.reduceAdd, Bool.false_eq_true, Nat.reduceBEq, ↓reduceIte]
  obtain ⟨b1, A1, l1, c1, B1, m1, e1, rfl⟩ := h1.form
  try simp only [go_sem, Nat.reduceEqDiff, Nat.reduceAdd, Bool.false_eq_true, Nat.reduceBEq, ↓reduceIte]
  first | refine ev_call (rparseR_ok _ b hb) ?_ | refine ev_callP (rparseR_ok _ b hb) ?_
  rintro v_20 H_20 le_20 ⟨vb, rfl, h2⟩ _
  replace h1 := h1.le le_20
  try simp only [go_sem, Nat.reduceEqDiff, Nat.reduceAdd, Bool.false_eq_true, Nat.reduceBEq, ↓reduceIte]
  obtain ⟨b2, A2, l2, c2, B2, m2, e2, rfl⟩ := h2.form
  cases hk : ratOk (bs a) with
  | false =>
    try simp only [go_sem, Nat.reduceEqDiff, Nat.reduceAdd, Bool.false_eq_true, Nat.reduceBEq, ↓reduceIte, hk]
    repeat' (with_reducible refine And.intro ?_ ?_)
    all_goals first | trivial | exact bad _ _ (by unfold spOk; rw [hk]; rfl) (by unfold spCode; rw [hk]; rfl)
  | true =>
    cases hk2 : ratOk (bs b) with
    | false =>
      try simp only [go_sem, Nat.reduceEqDiff, Nat.reduceAdd, Bool.false_eq_true, Nat.reduceBEq, ↓reduceIte, hk, hk2]
      repeat' (with_reducible refine And.intro ?_ ?_)
      all_goals first | trivial | exact bad _ _ (by unfold spOk; rw [hk, hk2]; rfl) (by unfold spCode; rw [hk, hk2]; rfl)
    | true =>
      have k1 := rv_max hk
      have k2 := rv_max hk2
      rw [hk, if_pos rfl] at h1
      rw [hk2, if_pos rfl] at h2
      try simp only [go_sem, Nat.reduceEqDiff, Nat.reduceAdd, Bool.false_eq_true, Nat.reduceBEq, ↓reduceIte, hk, hk2]
      first | refine ev_call (rcmpRR_ok _ _ _ _ _ h1 h2 (by omega)) ?_ | refine ev_callP (rcmpRR_ok _ _ _ _ _ h1 h2 (by omega)) ?_
      rintro v_21 H_21 le_21 rfl _
      replace h1 := h1.le le_21
      replace h2 := h2.le le_21
      try simp only [go_sem, Nat.reduceEqDiff, Nat.reduceAdd, Bool.false_eq_true, Nat.reduceBEq, ↓reduceIte]
      rw [gt_R]
      refine ev_if (fun h => ?_) (fun h => ?_)
      · have h' : ¬ rv (bs a) ≤ rv (bs b) := by rw [Rat.not_le]; exact h
        try simp only [go_sem, Nat.reduceEqDiff, Nat.reduceAdd, Bool.false_eq_true, Nat.reduceBEq, ↓reduceIte]
        repeat' (with_reducible refine And.intro ?_ ?_)
        all_goals first | trivial | exact bad _ _ (by unfold spOk; rw [hk, hk2, decide_eq_false h']; rfl) (by unfold spCode; rw [hk, hk2, Bool.and_self, if_pos rfl, if_neg h'])
      · have h' : rv (bs a) ≤ rv (bs b) := Rat.not_lt.1 h
        try simp only [go_sem, Nat.reduceEqDiff, Nat.reduceAdd, Bool.false_eq_true, Nat.reduceBEq, ↓reduceIte]
        rw [show spOk a b = true by unfold spOk; rw [hk, hk2, decide_eq_true h']; rfl, show spCode a b = 0 by unfold spCode; rw [hk, hk2, Bool.and_self, if_pos rfl, if_pos h']]
        repeat' (with_reducible refine And.intro ?_ ?_)
        all_goals first | trivial | exact ⟨_, rfl, RSpan.mk h1 h2⟩

theorem smeetR_ok (H : PH) (va vb : Value) (p q r s : Rat) (ha : RSpan H va p q) (hb : RSpan H vb r s) (hbp : br p + br q + br r + br s ≤ 1000000000) : FnP Tryz.prog 34 [va, vb] H fun v H' => ∃ v', v = .tuple #[v', .bool (decide (maxR p r ≤ minR q s))] ∧ RSpan H' v' (maxR p r) (minR q s) := by
  obtain ⟨b, A, l, c, B, m, e, b', A', l', c', B', m', e', rfl⟩ := ha.form
  obtain ⟨h1, h2⟩ := ha.parts
  obtain ⟨b1, A1, l1, c1, B1, m1, e1, b1', A1', l1', c1', B1', m1', e1', rfl⟩ := hb.form
  obtain ⟨h3, h4⟩ := hb.parts
  refine of_cinctureref1_Meet (by simp) ?_
  try simp only [go_sem, Nat.reduceEqDiff, Nat.reduceAdd, Bool.false_eq_true, Nat.reduceBEq, ↓reduceIte, p_cinctureref1_Meet]
  first | refine ev_call (rcmpRR_ok _ _ _ r p h3 h1 (by omega)) ?_ | refine ev_callP (rcmpRR_ok _ _ _ r p h3 h1 (by omega)) ?_
  rintro v_23 H_23 le_23 rfl _
  replace h1 := h1.le le_23
  replace h2 := h2.le le_23
  replace h3 := h3.le le_23
  replace h4 := h4.le le_23
  try simp only [go_sem, Nat.reduceEqDiff, Nat.reduceAdd, Bool.false_eq_true, Nat.reduceBEq, ↓reduceIte]
  rw [gt_R]
  refine ev_if (fun c1 => ?_) (fun c1 => ?_)
  · try simp only [go_sem, Nat.reduceEqDiff, Nat.reduceAdd, Bool.false_eq_true, Nat.reduceBEq, ↓reduceIte]
    first | refine ev_call (rcmpRR_ok _ _ _ s q h4 h2 (by omega)) ?_ | refine ev_callP (rcmpRR_ok _ _ _ s q h4 h2 (by omega)) ?_
    rintro v_24 H_24 le_24 rfl _
    replace h1 := h1.le le_24
    replace h2 := h2.le le_24
    replace h3 := h3.le le_24
    replace h4 := h4.le le_24
    try simp only [go_sem, Nat.reduceEqDiff, Nat.reduceAdd, Bool.false_eq_true, Nat.reduceBEq, ↓reduceIte]
    rw [cmpR_lt_iff]
    refine ev_if (fun c2 => ?_) (fun c2 => ?_)
    · have k1 := h3
      have k2 := h4
      try simp only [go_sem, Nat.reduceEqDiff, Nat.reduceAdd, Bool.false_eq_true, Nat.reduceBEq, ↓reduceIte]
      first | refine ev_call (rcmpRR_ok _ _ _ _ _ k1 k2 (by omega)) ?_ | refine ev_callP (rcmpRR_ok _ _ _ _ _ k1 k2 (by omega)) ?_
      rintro v_22 H_22 le_22 rfl _
      replace k1 := k1.le le_22
      replace k2 := k2.le le_22
      try simp only [go_sem, Nat.reduceEqDiff, Nat.reduceAdd, Bool.false_eq_true, Nat.reduceBEq, ↓reduceIte]
      rw [cmpR_le_iff]
      refine ev_if (fun h => ?_) (fun h => ?_)
      · try simp only [go_sem, Nat.reduceEqDiff, Nat.reduceAdd, Bool.false_eq_true, Nat.reduceBEq, ↓reduceIte]
        unfold maxR minR at *
        first | rw [if_pos c1] at * | rw [if_neg c1] at *
        first | rw [if_pos c2] at * | rw [if_neg c2] at *
        rw [decide_eq_true h]
        repeat' (with_reducible refine And.intro ?_ ?_)
        all_goals first | trivial | exact ⟨_, rfl, RSpan.mk k1 k2⟩
      · try simp only [go_sem, Nat.reduceEqDiff, Nat.reduceAdd, Bool.false_eq_true, Nat.reduceBEq, ↓reduceIte]
        unfold maxR minR at *
        first | rw [if_pos c1] at * | rw [if_neg c1] at *
        first | rw [if_pos c2] at * | rw [if_neg c2] at *
        rw [decide_eq_false h]
        repeat' (with_reducible refine And.intro ?_ ?_)
        all_goals first | trivial | exact ⟨_, rfl, RSpan.mk k1 k2⟩
    · have k1 := h3
      have k2 := h2
      try simp only [go_sem, Nat.reduceEqDiff, Nat.reduceAdd, Bool.false_eq_true, Nat.reduceBEq, ↓reduceIte]
      first | refine ev_call (rcmpRR_ok _ _ _ _ _ k1 k2 (by omega)) ?_ | refine ev_callP (rcmpRR_ok _ _ _ _ _ k1 k2 (by omega)) ?_
      rintro v_22 H_22 le_22 rfl _
      replace k1 := k1.le le_22
      replace k2 := k2.le le_22
      try simp only [go_sem, Nat.reduceEqDiff, Nat.reduceAdd, Bool.false_eq_true, Nat.reduceBEq, ↓reduceIte]
      rw [cmpR_le_iff]
      refine ev_if (fun h => ?_) (fun h => ?_)
      · try simp only [go_sem, Nat.reduceEqDiff, Nat.reduceAdd, Bool.false_eq_true, Nat.reduceBEq, ↓reduceIte]
        unfold maxR minR at *
        first | rw [if_pos c1] at * | rw [if_neg c1] at *
        first | rw [if_pos c2] at * | rw [if_neg c2] at *
        rw [decide_eq_true h]
        repeat' (with_reducible refine And.intro ?_ ?_)
        all_goals first | trivial | exact ⟨_, rfl, RSpan.mk k1 k2⟩
      · try simp only [go_sem, Nat.reduceEqDiff, Nat.reduceAdd, Bool.false_eq_true, Nat.reduceBEq, ↓reduceIte]
        unfold maxR minR at *
        first | rw [if_pos c1] at * | rw [if_neg c1] at *
        first | rw [if_pos c2] at * | rw [if_neg c2] at *
        rw [decide_eq_false h]
        repeat' (with_reducible refine And.intro ?_ ?_)
        all_goals first | trivial | exact ⟨_, rfl, RSpan.mk k1 k2⟩
  · try simp only [go_sem, Nat.reduceEqDiff, Nat.reduceAdd, Bool.false_eq_true, Nat.reduceBEq, ↓reduceIte]
    first | refine ev_call (rcmpRR_ok _ _ _ s q h4 h2 (by omega)) ?_ | refine ev_callP (rcmpRR_ok _ _ _ s q h4 h2 (by omega)) ?_
    rintro v_25 H_25 le_25 rfl _
    replace h1 := h1.le le_25
    replace h2 := h2.le le_25
    replace h3 := h3.le le_25
    replace h4 := h4.le le_25
    try simp only [go_sem, Nat.reduceEqDiff, Nat.reduceAdd, Bool.false_eq_true, Nat.reduceBEq, ↓reduceIte]
    rw [cmpR_lt_iff]
    refine ev_if (fun c2 => ?_) (fun c2 => ?_)
    · have k1 := h1
      have k2 := h4
      try simp only [go_sem, Nat.reduceEqDiff, Nat.reduceAdd, Bool.false_eq_true, Nat.reduceBEq, ↓reduceIte]
      first | refine ev_call (rcmpRR_ok _ _ _ _ _ k1 k2 (by omega)) ?_ | refine ev_callP (rcmpRR_ok _ _ _ _ _ k1 k2 (by omega)) ?_
      rintro v_22 H_22 le_22 rfl _
      replace k1 := k1.le le_22
      replace k2 := k2.le le_22
      try simp only [go_sem, Nat.reduceEqDiff, Nat.reduceAdd, Bool.false_eq_true, Nat.reduceBEq, ↓reduceIte]
      rw [cmpR_le_iff]
      refine ev_if (fun h => ?_) (fun h => ?_)
      · try simp only [go_sem, Nat.reduceEqDiff, Nat.reduceAdd, Bool.false_eq_true, Nat.reduceBEq, ↓reduceIte]
        unfold maxR minR at *
        first | rw [if_pos c1] at * | rw [if_neg c1] at *
        first | rw [if_pos c2] at * | rw [if_neg c2] at *
        rw [decide_eq_true h]
        repeat' (with_reducible refine And.intro ?_ ?_)
        all_goals first | trivial | exact ⟨_, rfl, RSpan.mk k1 k2⟩
      · try simp only [go_sem, Nat.reduceEqDiff, Nat.reduceAdd, Bool.false_eq_true, Nat.reduceBEq, ↓reduceIte]
        unfold maxR minR at *
        first | rw [if_pos c1] at * | rw [if_neg c1] at *
        first | rw [if_pos c2] at * | rw [if_neg c2] at *
        rw [decide_eq_false h]
        repeat' (with_reducible refine And.intro ?_ ?_)
        all_goals first | trivial | exact ⟨_, rfl, RSpan.mk k1 k2⟩
    · have k1 := h1
      have k2 := h2
      try simp only [go_sem, Nat.reduceEqDiff, Nat.reduceAdd, Bool.false_eq_true, Nat.reduceBEq, ↓reduceIte]
      first | refine ev_call (rcmpRR_ok _ _ _ _ _ k1 k2 (by omega)) ?_ | refine ev_callP (rcmpRR_ok _ _ _ _ _ k1 k2 (by omega)) ?_
      rintro v_22 H_22 le_22 rfl _
      replace k1 := k1.le le_22
      replace k2 := k2.le le_22
      try simp only [go_sem, Nat.reduceEqDiff, Nat.reduceAdd, Bool.false_eq_true, Nat.reduceBEq, ↓reduceIte]
      rw [cmpR_le_iff]
      refine ev_if (fun h => ?_) (fun h => ?_)
      · try simp only [go_sem, Nat.reduceEqDiff, Nat.reduceAdd, Bool.false_eq_true, Nat.reduceBEq, ↓reduceIte]
        unfold maxR minR at *
        first | rw [if_pos c1] at * | rw [if_neg c1] at *
        first | rw [if_pos c2] at * | rw [if_neg c2] at *
        rw [decide_eq_true h]
        repeat' (with_reducible refine And.intro ?_ ?_)
        all_goals first | trivial | exact ⟨_, rfl, RSpan.mk k1 k2⟩
      · try simp only [go_sem, Nat.reduceEqDiff, Nat.reduceAdd, Bool.false_eq_true, Nat.reduceBEq, ↓reduceIte]
        unfold maxR minR at *
        first | rw [if_pos c1] at * | rw [if_neg c1] at *
        first | rw [if_pos c2] at * | rw [if_neg c2] at *
        rw [decide_eq_false h]
        repeat' (with_reducible refine And.intro ?_ ?_)
        all_goals first | trivial | exact ⟨_, rfl, RSpan.mk k1 k2⟩

abbrev RatsR (H : PH) (A : Option Addr) (l : List Rat) : Prop := ArrV 3 RRat H A l
theorem lstLo_snoc (q : Rat) (l : List Rat) (x : Rat) : lstLo q (l ++ [x]) = minR (lstLo q l) x := by unfold lstLo; rw [List.foldl_append]; rfl
theorem lstHi_snoc (q : Rat) (l : List Rat) (x : Rat) : lstHi q (l ++ [x]) = maxR (lstHi q l) x := by unfold lstHi; rw [List.foldl_append]; rfl
theorem br_lst {q : Rat} {n : Nat} (hq : br q ≤ n) : ∀ (l : List Rat), (∀ x ∈ l, br x ≤ n) → br (lstLo q l) ≤ n ∧ br (lstHi q l) ≤ n := by
  intro l
  induction l generalizing q with
  | nil => intro _; exact ⟨hq, hq⟩
  | cons x l ih =>
    intro h
    unfold lstLo lstHi
    rw [List.foldl_cons, List.foldl_cons]
    have hx := h x (by simp)
    exact ⟨(ih (br_min' hq hx) fun y hy => h y (by simp [hy])).1, (ih (br_max' hq hx) fun y hy => h y (by simp [hy])).2⟩

set_option maxHeartbeats 4000000 in
theorem least4_ok (H : PH) (A : Option Addr) (q : Rat) (rest : List Rat) (k cp : Nat) (hk : k = rest.length + 1) (hA : RatsR H A (q :: rest)) (hlen : rest.length ≤ 1000) (hq : br q ≤ 1000000) (hb : ∀ x ∈ rest, br x ≤ 1000000) : FnP Tryz.prog 35 [.slice A k cp] H fun v H' => RSpan H' v (lstLo q rest) (lstHi q rest) := by
  obtain ⟨b, off, cs, T, fz, rfl, hH, hel⟩ := hA.open (by simp)
  obtain ⟨v0, hv0, hR0⟩ := hel 0 q rfl
  obtain ⟨b0, A0, l0, c0, B0, m0, e0, rfl⟩ := hR0.form
  refine of_cinctureref1_Least (by simp) ?_
  try simp only [go_sem, Nat.reduceEqDiff, Nat.reduceAdd, Bool.false_eq_true, Nat.reduceBEq, ↓reduceIte, p_cinctureref1_Least]
  refine ev_ia rfl (by decide) (by omega) ?_
  try simp only [go_sem, Nat.reduceEqDiff, Nat.reduceAdd, Bool.false_eq_true, Nat.reduceBEq, ↓reduceIte]
  refine ev_ldH rfl hH hv0 ?_
  try simp only [go_sem, Nat.reduceEqDiff, Nat.reduceAdd, Bool.false_eq_true, Nat.reduceBEq, ↓reduceIte]
  refine ev_ia rfl (by decide) (by omega) ?_
  try simp only [go_sem, Nat.reduceEqDiff, Nat.reduceAdd, Bool.false_eq_true, Nat.reduceBEq, ↓reduceIte]
  refine ev_ldH rfl hH hv0 ?_
  try simp only [go_sem, Nat.reduceEqDiff, Nat.reduceAdd, Bool.false_eq_true, Nat.reduceBEq, ↓reduceIte]
  refine ev_loop (fun n' s => ∃ (i : Nat) (H1 : PH) (b1 : Bool) (A1 : Option Addr) (l1 c1 : Nat) (B1 : Option Addr) (m1 e1 : Nat) (b2 : Bool) (A2 : Option Addr) (l2 c2 : Nat) (B2 : Option Addr) (m2 e2 : Nat), i ≤ rest.length ∧ n' = rest.length - i ∧ H.le H1 ∧
    RRat H1 (.agg #[.bool b1, .slice A1 l1 c1, .slice B1 m1 e1]) (lstLo q (rest.take i)) ∧ RRat H1 (.agg #[.bool b2, .slice A2 l2 c2, .slice B2 m2 e2]) (lstHi q (rest.take i)) ∧
    s = ⟨[(4, .v (.int .i64 ((i + 1 : Nat) : Int))), (3, .ptr 3 0), (2, .ptr 2 0), (0, .v (.slice (some ⟨b, off, none⟩) k cp))], [(3, [.bool b1, .slice A1 l1 c1, .slice B1 m1 e1, .bool b2, .slice A2 l2 c2, .slice B2 m2 e2]), (2, [.bool false, .slice none 0 0, .slice none 0 0, .bool false, .slice none 0 0, .slice none 0 0])], H1, PH.no⟩)
    rest.length _ ⟨0, H, _, _, _, _, _, _, _, _, _, _, _, _, _, _, Nat.zero_le _, by omega, PH.le.refl _, hR0, hR0, rfl⟩ ⟨rfl, by simp only [go_sem, Nat.reduceEqDiff, Nat.reduceAdd, Bool.false_eq_true, Nat.reduceBEq, ↓reduceIte, and_self, Option.some.injEq, SV.v.injEq, SV.ptr.injEq, Value.int.injEq, Value.bool.injEq, Value.slice.injEq, true_and, and_true] <;> (repeat' apply And.intro) <;> first | rfl | omega | (simp (disch := omega) only [w64, wu64, wu32, wu8] <;> omega), by simp only [go_sem, Nat.reduceEqDiff, Nat.reduceAdd, Bool.false_eq_true, Nat.reduceBEq, ↓reduceIte, and_self, Option.some.injEq, SV.v.injEq, SV.ptr.injEq, Value.int.injEq, Value.bool.injEq, Value.slice.injEq, true_and, and_true] <;> (repeat' apply And.intro) <;> rfl, rfl, PH.le.refl _⟩ ?_
  rintro n' s ⟨i, H1, b1, A1, l1, c1, B1, m1, e1, b2, A2, l2, c2, B2, m2, e2, hi, hn', hle, hlo, hhi, rfl⟩
  have hbnd := br_lst hq (rest.take i) (fun x hx => hb x (List.mem_of_mem_take hx))
  try simp only [go_sem, Nat.reduceEqDiff, Nat.reduceAdd, Bool.false_eq_true, Nat.reduceBEq, ↓reduceIte]
  refine ev_if (fun h => ?_) (fun h => ?_)
  · have hil : i < rest.length := by omega
    obtain ⟨x, hx⟩ : ∃ x, rest[i]? = some x := ⟨rest[i], List.getElem?_eq_getElem hil⟩
    have hxb : br x ≤ 1000000 := hb x (List.mem_of_getElem? hx)
    have htk : rest.take (i + 1) = rest.take i ++ [x] := by
      rw [List.take_add_one, hx]; rfl
    obtain ⟨vx, hvx, hRx⟩ := hel (i + 1) x (by rw [List.getElem?_cons_succ]; exact hx)
    have hvx' : ldv true 3 (off + ((i + 1 : Nat) : Int).toNat * 3) cs.toList = some vx := by rw [Int.toNat_natCast]; exact hvx
    obtain ⟨bx, Ax, lx, cx, Bx, mx, ex, rfl⟩ := hRx.form
    replace hRx := hRx.le hle
    try simp only [go_sem, Nat.reduceEqDiff, Nat.reduceAdd, Bool.false_eq_true, Nat.reduceBEq, ↓reduceIte]
    refine ev_ia rfl (by omega) (by omega) ?_
    try simp only [go_sem, Nat.reduceEqDiff, Nat.reduceAdd, Bool.false_eq_true, Nat.reduceBEq, ↓reduceIte]
    refine ev_ldH rfl (hle _ _ hH) hvx' ?_
    try simp only [go_sem, Nat.reduceEqDiff, Nat.reduceAdd, Bool.false_eq_true, Nat.reduceBEq, ↓reduceIte]
    first | refine ev_call (rcmpRR_ok _ _ _ _ _ hRx hlo (by omega)) ?_ | refine ev_callP (rcmpRR_ok _ _ _ _ _ hRx hlo (by omega)) ?_
    rintro v_26 H_26 le_26 rfl _
    replace hRx := hRx.le le_26
    replace hlo := hlo.le le_26
    replace hhi := hhi.le le_26
    replace hle := hle.le le_26
    try simp only [go_sem, Nat.reduceEqDiff, Nat.reduceAdd, Bool.false_eq_true, Nat.reduceBEq, ↓reduceIte]
    rw [cmpR_lt_iff]
    refine ev_if (fun h2 => ?_) (fun h2 => ?_)
    · try simp only [go_sem, Nat.reduceEqDiff, Nat.reduceAdd, Bool.false_eq_true, Nat.reduceBEq, ↓reduceIte]
      refine ev_ia rfl (by omega) (by omega) ?_
      try simp only [go_sem, Nat.reduceEqDiff, Nat.reduceAdd, Bool.false_eq_true, Nat.reduceBEq, ↓reduceIte]
      refine ev_ldH rfl (hle _ _ hH) hvx' ?_
      try simp only [go_sem, Nat.reduceEqDiff, Nat.reduceAdd, Bool.false_eq_true, Nat.reduceBEq, ↓reduceIte]
      have k1 := hRx
      rw [show x = minR (lstLo q (rest.take i)) x by unfold minR; rw [if_pos h2]] at k1
      try simp only [go_sem, Nat.reduceEqDiff, Nat.reduceAdd, Bool.false_eq_true, Nat.reduceBEq, ↓reduceIte]
      refine ev_ia rfl (by omega) (by omega) ?_
      try simp only [go_sem, Nat.reduceEqDiff, Nat.reduceAdd, Bool.false_eq_true, Nat.reduceBEq, ↓reduceIte]
      refine ev_ldH rfl (hle _ _ hH) hvx' ?_
      try simp only [go_sem, Nat.reduceEqDiff, Nat.reduceAdd, Bool.false_eq_true, Nat.reduceBEq, ↓reduceIte]
      first | refine ev_call (rcmpRR_ok _ _ _ _ _ hRx hhi (by omega)) ?_ | refine ev_callP (rcmpRR_ok _ _ _ _ _ hRx hhi (by omega)) ?_
      rintro v_27 H_27 le_27 rfl _
      replace hRx := hRx.le le_27
      replace hhi := hhi.le le_27
      replace k1 := k1.le le_27
      replace hle := hle.le le_27
      try simp only [go_sem, Nat.reduceEqDiff, Nat.reduceAdd, Bool.false_eq_true, Nat.reduceBEq, ↓reduceIte]
      rw [gt_R]
      refine ev_if (fun h3 => ?_) (fun h3 => ?_)
      · try simp only [go_sem, Nat.reduceEqDiff, Nat.reduceAdd, Bool.false_eq_true, Nat.reduceBEq, ↓reduceIte]
        refine ev_ia rfl (by omega) (by omega) ?_
        try simp only [go_sem, Nat.reduceEqDiff, Nat.reduceAdd, Bool.false_eq_true, Nat.reduceBEq, ↓reduceIte]
        refine ev_ldH rfl (hle _ _ hH) hvx' ?_
        try simp only [go_sem, Nat.reduceEqDiff, Nat.reduceAdd, Bool.false_eq_true, Nat.reduceBEq, ↓reduceIte]
        have k2 := hRx
        rw [show x = maxR (lstHi q (rest.take i)) x by unfold maxR; rw [if_pos h3]] at k2
        try simp only [go_sem, Nat.reduceEqDiff, Nat.reduceAdd, Bool.false_eq_true, Nat.reduceBEq, ↓reduceIte]
        rw [w64 (((i + 1 : Nat) : Int) + 1) (by omega) (by omega), show ((i + 1 : Nat) : Int) + 1 = ((i + 1 + 1 : Nat) : Int) by omega]
        refine k_next (rest.length - (i + 1)) _ (by omega) ⟨i + 1, _, _, _, _, _, _, _, _, _, _, _, _, _, _, _, by omega, rfl, hle, ?_, ?_, rfl⟩ ⟨rfl, by simp only [go_sem, Nat.reduceEqDiff, Nat.reduceAdd, Bool.false_eq_true, Nat.reduceBEq, ↓reduceIte, and_self, Option.some.injEq, SV.v.injEq, SV.ptr.injEq, Value.int.injEq, Value.bool.injEq, Value.slice.injEq, true_and, and_true] <;> (repeat' apply And.intro) <;> first | rfl | omega | (simp (disch := omega) only [w64, wu64, wu32, wu8] <;> omega), by simp only [go_sem, Nat.reduceEqDiff, Nat.reduceAdd, Bool.false_eq_true, Nat.reduceBEq, ↓reduceIte, and_self, Option.some.injEq, SV.v.injEq, SV.ptr.injEq, Value.int.injEq, Value.bool.injEq, Value.slice.injEq, true_and, and_true] <;> (repeat' apply And.intro) <;> rfl, rfl, PH.le.refl _⟩
        · rw [htk, lstLo_snoc]; exact k1
        · rw [htk, lstHi_snoc]; exact k2
      · have k2 := hhi
        rw [show lstHi q (rest.take i) = maxR (lstHi q (rest.take i)) x by unfold maxR; rw [if_neg h3]] at k2
        try simp only [go_sem, Nat.reduceEqDiff, Nat.reduceAdd, Bool.false_eq_true, Nat.reduceBEq, ↓reduceIte]
        rw [w64 (((i + 1 : Nat) : Int) + 1) (by omega) (by omega), show ((i + 1 : Nat) : Int) + 1 = ((i + 1 + 1 : Nat) : Int) by omega]
        refine k_next (rest.length - (i + 1)) _ (by omega) ⟨i + 1, _, _, _, _, _, _, _, _, _, _, _, _, _, _, _, by omega, rfl, hle, ?_, ?_, rfl⟩ ⟨rfl, by simp only [go_sem, Nat.reduceEqDiff, Nat.reduceAdd, Bool.false_eq_true, Nat.reduceBEq, ↓reduceIte, and_self, Option.some.injEq, SV.v.injEq, SV.ptr.injEq, Value.int.injEq, Value.bool.injEq, Value.slice.injEq, true_and, and_true] <;> (repeat' apply And.intro) <;> first | rfl | omega | (simp (disch := omega) only [w64, wu64, wu32, wu8] <;> omega), by simp only [go_sem, Nat.reduceEqDiff, Nat.reduceAdd, Bool.false_eq_true, Nat.reduceBEq, ↓reduceIte, and_self, Option.some.injEq, SV.v.injEq, SV.ptr.injEq, Value.int.injEq, Value.bool.injEq, Value.slice.injEq, true_and, and_true] <;> (repeat' apply And.intro) <;> rfl, rfl, PH.le.refl _⟩
        · rw [htk, lstLo_snoc]; exact k1
        · rw [htk, lstHi_snoc]; exact k2
    · have k1 := hlo
      rw [show lstLo q (rest.take i) = minR (lstLo q (rest.take i)) x by unfold minR; rw [if_neg h2]] at k1
      try simp only [go_sem, Nat.reduceEqDiff, Nat.reduceAdd, Bool.false_eq_true, Nat.reduceBEq, ↓reduceIte]
      refine ev_ia rfl (by omega) (by omega) ?_
      try simp only [go_sem, Nat.reduceEqDiff, Nat.reduceAdd, Bool.false_eq_true, Nat.reduceBEq, ↓reduceIte]
      refine ev_ldH rfl (hle _ _ hH) hvx' ?_
      try simp only [go_sem, Nat.reduceEqDiff, Nat.reduceAdd, Bool.false_eq_true, Nat.reduceBEq, ↓reduceIte]
      first | refine ev_call (rcmpRR_ok _ _ _ _ _ hRx hhi (by omega)) ?_ | refine ev_callP (rcmpRR_ok _ _ _ _ _ hRx hhi (by omega)) ?_
      rintro v_27 H_27 le_27 rfl _
      replace hRx := hRx.le le_27
      replace hhi := hhi.le le_27
      replace k1 := k1.le le_27
      replace hle := hle.le le_27
      try simp only [go_sem, Nat.reduceEqDiff, Nat.reduceAdd, Bool.false_eq_true, Nat.reduceBEq, ↓reduceIte]
      rw [gt_R]
      refine ev_if (fun h3 => ?_) (fun h3 => ?_)
      · try simp only [go_sem, Nat.reduceEqDiff, Nat.reduceAdd, Bool.false_eq_true, Nat.reduceBEq, ↓reduceIte]
        refine ev_ia rfl (by omega) (by omega) ?_
        try simp only [go_sem, Nat.reduceEqDiff, Nat.reduceAdd, Bool.false_eq_true, Nat.reduceBEq, ↓reduceIte]
        refine ev_ldH rfl (hle _ _ hH) hvx' ?_
        try simp only [go_sem, Nat.reduceEqDiff, Nat.reduceAdd, Bool.false_eq_true, Nat.reduceBEq, ↓reduceIte]
        have k2 := hRx
        rw [show x = maxR (lstHi q (rest.take i)) x by unfold maxR; rw [if_pos h3]] at k2
        try simp only [go_sem, Nat.reduceEqDiff, Nat.reduceAdd, Bool.false_eq_true, Nat.reduceBEq, ↓reduceIte]
        rw [w64 (((i + 1 : Nat) : Int) + 1) (by omega) (by omega), show ((i + 1 : Nat) : Int) + 1 = ((i + 1 + 1 : Nat) : Int) by omega]
        refine k_next (rest.length - (i + 1)) _ (by omega) ⟨i + 1, _, _, _, _, _, _, _, _, _, _, _, _, _, _, _, by omega, rfl, hle, ?_, ?_, rfl⟩ ⟨rfl, by simp only [go_sem, Nat.reduceEqDiff, Nat.reduceAdd, Bool.false_eq_true, Nat.reduceBEq, ↓reduceIte, and_self, Option.some.injEq, SV.v.injEq, SV.ptr.injEq, Value.int.injEq, Value.bool.injEq, Value.slice.injEq, true_and, and_true] <;> (repeat' apply And.intro) <;> first | rfl | omega | (simp (disch := omega) only [w64, wu64, wu32, wu8] <;> omega), by simp only [go_sem, Nat.reduceEqDiff, Nat.reduceAdd, Bool.false_eq_true, Nat.reduceBEq, ↓reduceIte, and_self, Option.some.injEq, SV.v.injEq, SV.ptr.injEq, Value.int.injEq, Value.bool.injEq, Value.slice.injEq, true_and, and_true] <;> (repeat' apply And.intro) <;> rfl, rfl, PH.le.refl _⟩
        · rw [htk, lstLo_snoc]; exact k1
        · rw [htk, lstHi_snoc]; exact k2
      · have k2 := hhi
        rw [show lstHi q (rest.take i) = maxR (lstHi q (rest.take i)) x by unfold maxR; rw [if_neg h3]] at k2
        try simp only [go_sem, Nat.reduceEqDiff, Nat.reduceAdd, Bool.false_eq_true, Nat.reduceBEq, ↓reduceIte]
        rw [w64 (((i + 1 : Nat) : Int) + 1) (by omega) (by omega), show ((i + 1 : Nat) : Int) + 1 = ((i + 1 + 1 : Nat) : Int) by omega]
        refine k_next (rest.length - (i + 1)) _ (by omega) ⟨i + 1, _, _, _, _, _, _, _, _, _, _, _, _, _, _, _, by omega, rfl, hle, ?_, ?_, rfl⟩ ⟨rfl, by simp only [go_sem, Nat.reduceEqDiff, Nat.reduceAdd, Bool.false_eq_true, Nat.reduceBEq, ↓reduceIte, and_self, Option.some.injEq, SV.v.injEq, SV.ptr.injEq, Value.int.injEq, Value.bool.injEq, Value.slice.injEq, true_and, and_true] <;> (repeat' apply And.intro) <;> first | rfl | omega | (simp (disch := omega) only [w64, wu64, wu32, wu8] <;> omega), by simp only [go_sem, Nat.reduceEqDiff, Nat.reduceAdd, Bool.false_eq_true, Nat.reduceBEq, ↓reduceIte, and_self, Option.some.injEq, SV.v.injEq, SV.ptr.injEq, Value.int.injEq, Value.bool.injEq, Value.slice.injEq, true_and, and_true] <;> (repeat' apply And.intro) <;> rfl, rfl, PH.le.refl _⟩
        · rw [htk, lstLo_snoc]; exact k1
        · rw [htk, lstHi_snoc]; exact k2
  · have : rest.take i = rest := List.take_of_length_le (by omega)
    rw [this] at hlo hhi
    try simp only [go_sem, Nat.reduceEqDiff, Nat.reduceAdd, Bool.false_eq_true, Nat.reduceBEq, ↓reduceIte]
    exact ⟨by trivial, RSpan.mk hlo hhi⟩

theorem smulR_ok (H : PH) (va vb : Value) (p q r s : Rat) (ha : RSpan H va p q) (hb : RSpan H vb r s) (hbp : br p + br q + br r + br s ≤ 500000) : FnP Tryz.prog 17 [va, vb] H fun v H' => RSpan H' v (mulLo p q r s) (mulHi p q r s) := by
  obtain ⟨b, A, l, c, B, m, e, b', A', l', c', B', m', e', rfl⟩ := ha.form
  obtain ⟨h1, h2⟩ := ha.parts
  obtain ⟨b1, A1, l1, c1, B1, m1, e1, b1', A1', l1', c1', B1', m1', e1', rfl⟩ := hb.form
  obtain ⟨h3, h4⟩ := hb.parts
  have s1 := br_mul p r
  have s2 := br_mul p s
  have s3 := br_mul q r
  have s4 := br_mul q s
  refine of_cinctureref1_SpanMul (by simp) ?_
  try simp only [go_sem, Nat.reduceEqDiff, Nat.reduceAdd, Bool.false_eq_true, Nat.reduceBEq, ↓reduceIte, p_cinctureref1_SpanMul]
  first | refine ev_call (rmulR_ok _ _ _ p r h1 h3 (by omega)) ?_ | refine ev_callP (rmulR_ok _ _ _ p r h1 h3 (by omega)) ?_
  rintro v_28 H_28 le_28 g1 _
  replace h1 := h1.le le_28
  replace h2 := h2.le le_28
  replace h3 := h3.le le_28
  replace h4 := h4.le le_28
  try simp only [go_sem, Nat.reduceEqDiff, Nat.reduceAdd, Bool.false_eq_true, Nat.reduceBEq, ↓reduceIte]
  first | refine ev_call (rmulR_ok _ _ _ p s h1 h4 (by omega)) ?_ | refine ev_callP (rmulR_ok _ _ _ p s h1 h4 (by omega)) ?_
  rintro v_29 H_29 le_29 g2 _
  replace h2 := h2.le le_29
  replace h3 := h3.le le_29
  replace h4 := h4.le le_29
  replace g1 := g1.le le_29
  try simp only [go_sem, Nat.reduceEqDiff, Nat.reduceAdd, Bool.false_eq_true, Nat.reduceBEq, ↓reduceIte]
  first | refine ev_call (rmulR_ok _ _ _ q r h2 h3 (by omega)) ?_ | refine ev_callP (rmulR_ok _ _ _ q r h2 h3 (by omega)) ?_
  rintro v_30 H_30 le_30 g3 _
  replace h2 := h2.le le_30
  replace h4 := h4.le le_30
  replace g1 := g1.le le_30
  replace g2 := g2.le le_30
  try simp only [go_sem, Nat.reduceEqDiff, Nat.reduceAdd, Bool.false_eq_true, Nat.reduceBEq, ↓reduceIte]
  first | refine ev_call (rmulR_ok _ _ _ q s h2 h4 (by omega)) ?_ | refine ev_callP (rmulR_ok _ _ _ q s h2 h4 (by omega)) ?_
  rintro v_31 H_31 le_31 g4 _
  replace g1 := g1.le le_31
  replace g2 := g2.le le_31
  replace g3 := g3.le le_31
  try simp only [go_sem, Nat.reduceEqDiff, Nat.reduceAdd, Bool.false_eq_true, Nat.reduceBEq, ↓reduceIte]
  obtain ⟨x1, X1, y1, z1, Y1, u1, w1, rfl⟩ := g1.form
  obtain ⟨x2, X2, y2, z2, Y2, u2, w2, rfl⟩ := g2.form
  obtain ⟨x3, X3, y3, z3, Y3, u3, w3, rfl⟩ := g3.form
  obtain ⟨x4, X4, y4, z4, Y4, u4, w4, rfl⟩ := g4.form
  try simp only [go_sem, Nat.reduceEqDiff, Nat.reduceAdd, Bool.false_eq_true, Nat.reduceBEq, ↓reduceIte]
  refine ev_bslV fun g hg1 hg2 => ?_
  try simp only [go_sem, Nat.reduceEqDiff, Nat.reduceAdd, Bool.false_eq_true, Nat.reduceBEq, ↓reduceIte]
  refine ev_callA (least4_ok _ _ (p * r) [p * s, q * r, q * s] 4 4 rfl (.inr ⟨g, 0, _, _, _, rfl, PH.join_r hg1 (PH.set_self _ _ _), ?_⟩) (by simp) (by omega) ?_) ?_
  · intro i x hx
    match i, hx with
    | 0, hx => injection hx with hx; subst hx; exact ⟨_, rfl, g1.le (PH.le_join _ _)⟩
    | 1, hx => injection hx with hx; subst hx; exact ⟨_, rfl, g2.le (PH.le_join _ _)⟩
    | 2, hx => injection hx with hx; subst hx; exact ⟨_, rfl, g3.le (PH.le_join _ _)⟩
    | 3, hx => injection hx with hx; subst hx; exact ⟨_, rfl, g4.le (PH.le_join _ _)⟩
    | i + 4, hx => simp at hx
  · intro x hx
    simp only [List.mem_cons, List.not_mem_nil, or_false] at hx
    rcases hx with rfl | rfl | rfl <;> omega
  rintro v H' hle9 g9
  rw [(mul_ref p q r s).1, (mul_ref p q r s).2] at g9
  obtain ⟨x5, X5, y5, z5, Y5, u5, w5, x6, X6, y6, z6, Y6, u6, w6, rfl⟩ := g9.form
  try simp only [go_sem, Nat.reduceEqDiff, Nat.reduceAdd, Bool.false_eq_true, Nat.reduceBEq, ↓reduceIte]
  exact ⟨by trivial, g9⟩

theorem sscaleR_ok (H : PH) (va vb : Value) (p q r : Rat) (ha : RSpan H va p q) (hb : RRat H vb r) (hbp : br p + br q + br r ≤ 100000) : FnP Tryz.prog 19 [va, vb] H fun v H' => RSpan H' v (minR (p * r) (q * r)) (maxR (p * r) (q * r)) := by
  obtain ⟨b, A, l, c, B, m, e, b', A', l', c', B', m', e', rfl⟩ := ha.form
  obtain ⟨b1, A1, l1, c1, B1, m1, e1, rfl⟩ := hb.form
  refine of_cinctureref1_SpanScale (by simp) ?_
  try simp only [go_sem, Nat.reduceEqDiff, Nat.reduceAdd, Bool.false_eq_true, Nat.reduceBEq, ↓reduceIte, p_cinctureref1_SpanScale]
  first | refine ev_call (pointR_ok _ _ r hb) ?_ | refine ev_callP (pointR_ok _ _ r hb) ?_
  rintro v_32 H_32 le_32 g1 _
  replace ha := ha.le le_32
  try simp only [go_sem, Nat.reduceEqDiff, Nat.reduceAdd, Bool.false_eq_true, Nat.reduceBEq, ↓reduceIte]
  first | refine ev_call (smulR_ok _ _ _ p q r r ha g1 (by omega)) ?_ | refine ev_callP (smulR_ok _ _ _ p q r r ha g1 (by omega)) ?_
  rintro v_33 H_33 le_33 g2 _
  try simp only [go_sem, Nat.reduceEqDiff, Nat.reduceAdd, Bool.false_eq_true, Nat.reduceBEq, ↓reduceIte]
  rw [(scale_ref p q r).1, (scale_ref p q r).2] at g2
  obtain ⟨x5, X5, y5, z5, Y5, u5, w5, x6, X6, y6, z6, Y6, u6, w6, rfl⟩ := g2.form
  try simp only [go_sem, Nat.reduceEqDiff, Nat.reduceAdd, Bool.false_eq_true, Nat.reduceBEq, ↓reduceIte]
  exact ⟨by trivial, g2⟩

end Go.Proofs.YtpifafenmgceoaaGreat.X
set_option linter.unusedVariables false
set_option linter.unusedSimpArgs false
namespace Go.Proofs.YtpifafenmgceoaaGreat.X
open Go Go.RowKit Go.Proofs

/-- a text is a number, not too long -/
def qok (a : ByteArray) : Bool := ratOk (bs a) && decide (a.size ≤ 100)
theorem qok_br {a : ByteArray} (h : qok a = true) : br (rv (bs a)) ≤ 401 ∧ ofB (rtx (rv (bs a))) = a ∧ ratOk (bs a) = true := by
  unfold qok at h
  rw [Bool.and_eq_true, decide_eq_true_eq] at h
  have := rv_br h.1
  rw [bs_length] at this
  exact ⟨by omega, by rw [rtx_rv h.1, ofB_bs], h.1⟩

theorem numQ_ok (H : PH) (a : ByteArray) (hy : a.size ≤ 9223372036854775807) : FnP Tryz.prog 9 [.string a] H fun v H' => ∃ va ra, v = .tuple #[va, ra, .bool (qok a)] ∧ RatV H' va (if qok a then rv (bs a) else 0) ∧ RRat H' ra (if qok a then rv (bs a) else 0) := by
  refine of_cincturelaw3_Num (by simp) ?_
  try simp only [go_sem, Nat.reduceEqDiff, Nat.reduceAdd, Bool.false_eq_true, Nat.reduceBEq, ↓reduceIte, p_cincturelaw3_Num]
  first | refine ev_call (rparseR_ok _ a hy) ?_ | refine ev_callP (rparseR_ok _ a hy) ?_
  rintro v_1 H_1 le_1 ⟨ra, rfl, h1⟩ _
  try simp only [go_sem, Nat.reduceEqDiff, Nat.reduceAdd, Bool.false_eq_true, Nat.reduceBEq, ↓reduceIte]
  obtain ⟨b1, A1, l1, c1, B1, m1, e1, rfl⟩ := h1.form
  have bad : qok a = false → ∀ H' : PH, ∃ va ra, (Value.tuple #[.agg #[.slice none 0 0, .bool false, .slice none 0 0], .agg #[.bool false, .slice none 0 0, .slice none 0 0], .bool false]) = .tuple #[va, ra, .bool (qok a)] ∧ RatV H' va (if qok a then rv (bs a) else 0) ∧ RRat H' ra (if qok a then rv (bs a) else 0) := by
    intro h H'
    rw [h]
    exact ⟨_, _, rfl, RatV.zero _, RRat.zero _⟩
  cases hk : ratOk (bs a) with
  | false =>
    try simp only [go_sem, Nat.reduceEqDiff, Nat.reduceAdd, Bool.false_eq_true, Nat.reduceBEq, ↓reduceIte, hk]
    exact ⟨by trivial, bad (by unfold qok; rw [hk]; rfl) _⟩
  | true =>
    try simp only [go_sem, Nat.reduceEqDiff, Nat.reduceAdd, Bool.false_eq_true, Nat.reduceBEq, ↓reduceIte, hk]
    refine ev_if (fun h => ?_) (fun h => ?_)
    · try simp only [go_sem, Nat.reduceEqDiff, Nat.reduceAdd, Bool.false_eq_true, Nat.reduceBEq, ↓reduceIte]
      exact ⟨by trivial, bad (by unfold qok; rw [hk, decide_eq_false (show ¬ a.size ≤ 100 by omega)]; rfl) _⟩
    · have hn : qok a = true := by unfold qok; rw [hk, decide_eq_true (show a.size ≤ 100 by omega)]; rfl
      try simp only [go_sem, Nat.reduceEqDiff, Nat.reduceAdd, Bool.false_eq_true, Nat.reduceBEq, ↓reduceIte]
      first | refine ev_call (rparse'_ok _ a hy) ?_ | refine ev_callP (rparse'_ok _ a hy) ?_
      rintro v_2 H_2 le_2 ⟨va, rfl, h2⟩ _
      replace h1 := h1.le le_2
      try simp only [go_sem, Nat.reduceEqDiff, Nat.reduceAdd, Bool.false_eq_true, Nat.reduceBEq, ↓reduceIte]
      obtain ⟨A2, l2, c2, b2, B2, m2, e2, rfl⟩ := h2.form
      rw [hk, if_pos rfl] at h1 h2
      try simp only [go_sem, Nat.reduceEqDiff, Nat.reduceAdd, Bool.false_eq_true, Nat.reduceBEq, ↓reduceIte]
      rw [hn]
      repeat' (with_reducible refine And.intro ?_ ?_)
      all_goals first | trivial | exact ⟨_, _, rfl, h2, h1⟩

theorem isQ_ok (H : PH) (va vb : Value) (q : Rat) (ha : RatV H va q) (hb : RRat H vb q) (hbp : br q ≤ 4294967000) : FnP Tryz.prog 39 [va, vb] H fun v _ => v = .bool true := by
  obtain ⟨A, l, c, b, B, m, e, rfl⟩ := ha.form
  obtain ⟨b1, A1, l1, c1, B1, m1, e1, rfl⟩ := hb.form
  refine of_cincturelaw3_Is (by simp) ?_
  try simp only [go_sem, Nat.reduceEqDiff, Nat.reduceAdd, Bool.false_eq_true, Nat.reduceBEq, ↓reduceIte, p_cincturelaw3_Is]
  first | refine ev_call (rtext_ok' _ _ _ ha hbp) ?_ | refine ev_callP (rtext_ok' _ _ _ ha hbp) ?_
  rintro v_3 H_3 le_3 rfl _
  replace hb := hb.le le_3
  try simp only [go_sem, Nat.reduceEqDiff, Nat.reduceAdd, Bool.false_eq_true, Nat.reduceBEq, ↓reduceIte]
  first | refine ev_call (rtextR_ok _ _ _ hb hbp) ?_ | refine ev_callP (rtextR_ok _ _ _ hb hbp) ?_
  rintro v_4 H_4 le_4 rfl _
  try simp only [go_sem, Nat.reduceEqDiff, Nat.reduceAdd, Bool.false_eq_true, Nat.reduceBEq, ↓reduceIte]
  refine ev_pos (by trivial) ?_
  try simp only [go_sem, Nat.reduceEqDiff, Nat.reduceAdd, Bool.false_eq_true, Nat.reduceBEq, ↓reduceIte]
  exact ⟨by trivial, by trivial⟩

/-- a number from lo to hi, made of any number -/
def wth (n lo hi : Int) : Int := lo + (if n.tmod (hi - lo + 1) < 0 then n.tmod (hi - lo + 1) + (hi - lo + 1) else n.tmod (hi - lo + 1))
theorem wth_bd {n lo hi : Int} (h : lo ≤ hi) : lo ≤ wth n lo hi ∧ wth n lo hi ≤ hi := by
  unfold wth
  have h1 := Int.lt_tmod_of_pos n (show 0 < hi - lo + 1 by omega)
  have h2 := Int.tmod_lt_of_pos n (show 0 < hi - lo + 1 by omega)
  split <;> omega

theorem within_ok (H : PH) (n lo hi : Int) (h1 : -9223372036854775808 ≤ n) (h2 : n ≤ 9223372036854775807) (h3 : -1000 ≤ lo) (h4 : lo ≤ hi) (h5 : hi ≤ 1000) : FnP Tryz.prog 27 [.int .i64 n, .int .i64 lo, .int .i64 hi] H fun v _ => v = .int .i64 (wth n lo hi) := by
  have b1 := Int.lt_tmod_of_pos n (show 0 < hi - lo + 1 by omega)
  have b2 := Int.tmod_lt_of_pos n (show 0 < hi - lo + 1 by omega)
  refine of_cincturebook_Within (by simp) ?_
  try simp only [go_sem, Nat.reduceEqDiff, Nat.reduceAdd, Bool.false_eq_true, Nat.reduceBEq, ↓reduceIte, p_cincturebook_Within]
  rw [w64 (hi - lo) (by omega) (by omega), w64 (hi - lo + 1) (by omega) (by omega)]
  refine ev_rem (by omega) ?_
  try simp only [go_sem, Nat.reduceEqDiff, Nat.reduceAdd, Bool.false_eq_true, Nat.reduceBEq, ↓reduceIte]
  refine ev_if (fun h => ?_) (fun h => ?_)
  · try simp only [go_sem, Nat.reduceEqDiff, Nat.reduceAdd, Bool.false_eq_true, Nat.reduceBEq, ↓reduceIte]
    rw [w64 (hi - lo) (by omega) (by omega), w64 (hi - lo + 1) (by omega) (by omega), w64 (n.tmod (hi - lo + 1) + (hi - lo + 1)) (by omega) (by omega), w64 (lo + (n.tmod (hi - lo + 1) + (hi - lo + 1))) (by omega) (by omega)]
    refine ⟨by trivial, ?_⟩
    unfold wth
    rw [if_pos h]
  · try simp only [go_sem, Nat.reduceEqDiff, Nat.reduceAdd, Bool.false_eq_true, Nat.reduceBEq, ↓reduceIte]
    rw [w64 (lo + n.tmod (hi - lo + 1)) (by omega) (by omega)]
    refine ⟨by trivial, ?_⟩
    unfold wth
    rw [if_neg h]

end Go.Proofs.YtpifafenmgceoaaGreat.X
