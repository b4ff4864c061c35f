/- The reference's power of an interval; the laws SpanPows, SpanTells, SpanEnds. -/
import Derived.Test.YtpifafenmgceoaaZZ
set_option linter.unusedVariables false
set_option linter.unusedSimpArgs false
namespace Go.Proofs.Ytpifafenmgceoaa.X
open Go Go.RowKit Go.Proofs

theorem disj_none {H M : PH} {g : Nat} {o : Obj} (h : PH.disj H M) (k : M g = some o) : H g = none := by
  cases hb : H g with
  | none => rfl
  | some o' => have := h g o' hb; rw [k] at this; cases this
theorem expN_self (n : Int) : expN ((expN n : Nat) : Int) = expN n := by unfold expN; omega
theorem PH.mvd_at (M : PH) (A : Option Addr) (g : Nat) (o : Obj) : M.mvd A g o g = some o := by unfold PH.mvd; rw [if_pos rfl]

set_option maxHeartbeats 8000000 in
theorem spowR_ok (H : PH) (va : Value) (p q : Rat) (n : Int) (ha : RSpan H va p q) (hpq : p ≤ q) (hbp : br p + br q ≤ 1000) : FnP Try.prog 11 [va, .int .i64 n] H fun v H' => RSpan H' v (powLo p q (expN n)) (powHi p q (expN n)) := by
  obtain ⟨b, A, l, c, B, m, e, b', A', l', c', B', m', e', rfl⟩ := ha.form
  obtain ⟨h1, h2⟩ := ha.parts
  obtain ⟨k1, _⟩ := h1.parts
  obtain ⟨k2, _⟩ := h2.parts
  have hx : expN n ≤ 255 := by unfold expN; omega
  have s1 := br_pow p (expN n)
  have s2 := br_pow q (expN n)
  have t1 : expN n * br p ≤ 255 * br p := Nat.mul_le_mul_right _ hx
  have t2 : expN n * br q ≤ 255 * br q := Nat.mul_le_mul_right _ hx
  have htm : ((expN n : Nat) : Int).tmod 2 = ((expN n % 2 : Nat) : Int) := by rw [Int.tmod_eq_emod_of_nonneg (by omega)]; omega
  have hclamp : (if 255 < (if n < 0 then 0 else n) then 255 else (if n < 0 then 0 else n)) = ((expN n : Nat) : Int) := by unfold expN; split <;> (try split) <;> omega
  refine of_cinctureref1_SpanPow (by simp) ?_
  try simp only [go_sem, Nat.reduceEqDiff, Nat.reduceAdd, Bool.false_eq_true, Nat.reduceBEq, ↓reduceIte, p_cinctureref1_SpanPow]
  rw [hclamp]
  first | refine ev_call (rpowR_ok _ _ p (expN n : Nat) h1 (by omega)) ?_ | refine ev_callP (rpowR_ok _ _ p (expN n : Nat) h1 (by omega)) ?_
  rintro v_1 H_1 le_1 g1 _
  replace h2 := h2.le le_1
  replace k1 := k1.le le_1
  replace k2 := k2.le le_1
  try simp only [go_sem, Nat.reduceEqDiff, Nat.reduceAdd, Bool.false_eq_true, Nat.reduceBEq, ↓reduceIte]
  first | refine ev_call (rpowR_ok _ _ q (expN n : Nat) h2 (by omega)) ?_ | refine ev_callP (rpowR_ok _ _ q (expN n : Nat) h2 (by omega)) ?_
  rintro v_2 H_2 le_2 g2 _
  replace g1 := g1.le le_2
  replace k1 := k1.le le_2
  replace k2 := k2.le le_2
  try simp only [go_sem, Nat.reduceEqDiff, Nat.reduceAdd, Bool.false_eq_true, Nat.reduceBEq, ↓reduceIte]
  rw [expN_self] at g1 g2
  obtain ⟨x1, X1, y1, z1, Y1, u1, w1, rfl⟩ := g1.form
  obtain ⟨x2, X2, y2, z2, Y2, u2, w2, rfl⟩ := g2.form
  try simp only [go_sem, Nat.reduceEqDiff, Nat.reduceAdd, Bool.false_eq_true, Nat.reduceBEq, ↓reduceIte]
  refine ev_bslV fun g hg1 hg2 => ?_
  try simp only [go_sem, Nat.reduceEqDiff, Nat.reduceAdd, Bool.false_eq_true, Nat.reduceBEq, ↓reduceIte]
  refine ev_if (fun c1 => ?_) (fun c1 => ?_)
  · try simp only [go_sem, Nat.reduceEqDiff, Nat.reduceAdd, Bool.false_eq_true, Nat.reduceBEq, ↓reduceIte]
    refine ev_rem (by decide) ?_
    rw [htm]
    try simp only [go_sem, Nat.reduceEqDiff, Nat.reduceAdd, Bool.false_eq_true, Nat.reduceBEq, ↓reduceIte]
    refine ev_if (fun c2 => ?_) (fun c2 => ?_)
    · try simp only [go_sem, Nat.reduceEqDiff, Nat.reduceAdd, Bool.false_eq_true, Nat.reduceBEq, ↓reduceIte]
      first | refine ev_call (rsign_ok _ _ _ k1) ?_ | refine ev_callP (rsign_ok _ _ _ k1) ?_
      rintro v_3 H_3 le_3 rfl _
      replace g1 := g1.le le_3
      replace g2 := g2.le le_3
      replace k2 := k2.le le_3
      try simp only [go_sem, Nat.reduceEqDiff, Nat.reduceAdd, Bool.false_eq_true, Nat.reduceBEq, ↓reduceIte]
      replace hg1 := disj_none (by assumption) (PH.set_self PH.no g _)
      rw [sgnI_R, cmpR_lt_iff]
      refine ev_if (fun c3 => ?_) (fun c3 => ?_)
      · try simp only [go_sem, Nat.reduceEqDiff, Nat.reduceAdd, Bool.false_eq_true, Nat.reduceBEq, ↓reduceIte]
        first | refine ev_call (rsign_ok _ _ _ k2) ?_ | refine ev_callP (rsign_ok _ _ _ k2) ?_
        rintro v_4 H_4 le_4 rfl _
        replace g1 := g1.le le_4
        replace g2 := g2.le le_4
        try simp only [go_sem, Nat.reduceEqDiff, Nat.reduceAdd, Bool.false_eq_true, Nat.reduceBEq, ↓reduceIte]
        replace hg1 := disj_none (by assumption) (PH.set_self PH.no g _)
        rw [sgnI_R, gt_R]
        refine ev_if (fun c4 => ?_) (fun c4 => ?_)
        · try simp only [go_sem, Nat.reduceEqDiff, Nat.reduceAdd, Bool.false_eq_true, Nat.reduceBEq, ↓reduceIte]
          first | refine ev_call (rratOf_ok _ 0 (by decide) (by decide)) ?_ | refine ev_callP (rratOf_ok _ 0 (by decide) (by decide)) ?_
          rintro v_5 H_5 le_5 g3 _
          replace g1 := g1.le le_5
          replace g2 := g2.le le_5
          try simp only [go_sem, Nat.reduceEqDiff, Nat.reduceAdd, Bool.false_eq_true, Nat.reduceBEq, ↓reduceIte]
          replace hg1 := disj_none (by assumption) (PH.set_self PH.no g _)
          obtain ⟨x3, X3, y3, z3, Y3, u3, w3, rfl⟩ := g3.form
          try simp only [go_sem, Nat.reduceEqDiff, Nat.reduceAdd, Bool.false_eq_true, Nat.reduceBEq, ↓reduceIte]
          refine ev_bslV fun g' hg3 hg4 => ?_
          try simp only [go_sem, Nat.reduceEqDiff, Nat.reduceAdd, Bool.false_eq_true, Nat.reduceBEq, ↓reduceIte]
          have hne : g' ≠ g := fun e0 => by
            rw [e0] at hg4
            exact absurd ((PH.set_self PH.no g _).symm.trans hg4) (by simp)
          refine .inr ⟨[.bool x1, .slice X1 y1 z1, .slice Y1 u1 w1, .bool x2, .slice X2 y2 z2, .slice Y2 u2 w2], [.bool x3, .slice X3 y3 z3, .slice Y3 u3 w3], rfl, rfl, by decide, by decide, by decide, by simp [Value.oneCell'], by simp [Value.oneCell'], .inr ⟨g, [], rfl, ?_, rfl, by decide, by decide⟩, ⟨g', 0, _, _, _, rfl, .inr (PH.set_self _ _ _), rfl⟩, ?_⟩
          · exact (PH.set_ne _ _ (fun e0 => hne e0.symm)).trans (PH.set_self _ _ _)
          · intro g2' c' rest' hgg _ _ _
            have hg5 := hgg.elim (fun h => h.1) (fun h => by injection h with h; injection h with h; rw [← h]; exact hg1)
            try simp only [go_sem, Nat.reduceEqDiff, Nat.reduceAdd, Bool.false_eq_true, Nat.reduceBEq, ↓reduceIte]
            refine ev_callA (R := fun v H' => RSpan H' v (lstLo (p ^ expN n) [q ^ expN n, 0]) (lstHi (p ^ expN n) [q ^ expN n, 0])) (least4_ok _ _ (p ^ expN n) [q ^ expN n, 0] 3 c' rfl (.inr ⟨g2', 0, _, _, _, rfl, PH.join_r hg5 (PH.mvd_at _ _ _ _), ?_⟩) (by simp) (by omega) ?_) ?_
            · intro i x hx
              match i, hx with
              | 0, hx => injection hx with hx; subst hx; exact ⟨_, rfl, g1.le (PH.le_join _ _)⟩
              | 1, hx => injection hx with hx; subst hx; exact ⟨_, rfl, g2.le (PH.le_join _ _)⟩
              | 2, hx => injection hx with hx; subst hx; exact ⟨_, rfl, g3.le (PH.le_join _ _)⟩
              | i + 3, hx => simp at hx
            · intro x hx
              simp only [List.mem_cons, List.not_mem_nil, or_false] at hx
              rcases hx with rfl | rfl
              · omega
              · rw [br_z0]; decide
            rintro v H' hle9 g9
            have hp := pow_ref p q (expN n) hpq (by omega) (by omega) ⟨c3, c4⟩
            rw [hp.1, hp.2] at g9
            obtain ⟨x5, X5, y5, z5, Y5, u5, w5, x6, X6, y6, z6, Y6, u6, w6, rfl⟩ := g9.form
            try simp only [go_sem, Nat.reduceEqDiff, Nat.reduceAdd, Bool.false_eq_true, Nat.reduceBEq, ↓reduceIte]
            exact ⟨by trivial, g9⟩
        · have hno : ¬ (0 < expN n ∧ expN n % 2 = 0 ∧ p < 0 ∧ 0 < q) := fun h => c4 h.2.2.2
          try simp only [go_sem, Nat.reduceEqDiff, Nat.reduceAdd, Bool.false_eq_true, Nat.reduceBEq, ↓reduceIte]
          refine ev_callA (R := fun v H' => RSpan H' v (lstLo (p ^ expN n) [q ^ expN n]) (lstHi (p ^ expN n) [q ^ expN n])) (least4_ok _ _ (p ^ expN n) [q ^ expN n] 2 2 rfl (.inr ⟨g, 0, _, _, _, rfl, PH.join_r hg1 (PH.set_self _ _ _), ?_⟩) (by simp) (by omega) ?_) ?_
          · intro i x hx
            match i, hx with
            | 0, hx => injection hx with hx; subst hx; exact ⟨_, rfl, g1.le (PH.le_join _ _)⟩
            | 1, hx => injection hx with hx; subst hx; exact ⟨_, rfl, g2.le (PH.le_join _ _)⟩
            | i + 2, hx => simp at hx
          · intro x hx
            simp only [List.mem_cons, List.not_mem_nil, or_false] at hx
            rcases hx with rfl
            omega
          rintro v H' hle9 g9
          rw [(pow_ref2 p q _ hpq hno).1, (pow_ref2 p q _ hpq hno).2] at g9
          obtain ⟨x5, X5, y5, z5, Y5, u5, w5, x6, X6, y6, z6, Y6, u6, w6, rfl⟩ := g9.form
          try simp only [go_sem, Nat.reduceEqDiff, Nat.reduceAdd, Bool.false_eq_true, Nat.reduceBEq, ↓reduceIte]
          exact ⟨by trivial, g9⟩
      · have hno : ¬ (0 < expN n ∧ expN n % 2 = 0 ∧ p < 0 ∧ 0 < q) := fun h => c3 h.2.2.1
        try simp only [go_sem, Nat.reduceEqDiff, Nat.reduceAdd, Bool.false_eq_true, Nat.reduceBEq, ↓reduceIte]
        refine ev_callA (R := fun v H' => RSpan H' v (lstLo (p ^ expN n) [q ^ expN n]) (lstHi (p ^ expN n) [q ^ expN n])) (least4_ok _ _ (p ^ expN n) [q ^ expN n] 2 2 rfl (.inr ⟨g, 0, _, _, _, rfl, PH.join_r hg1 (PH.set_self _ _ _), ?_⟩) (by simp) (by omega) ?_) ?_
        · intro i x hx
          match i, hx with
          | 0, hx => injection hx with hx; subst hx; exact ⟨_, rfl, g1.le (PH.le_join _ _)⟩
          | 1, hx => injection hx with hx; subst hx; exact ⟨_, rfl, g2.le (PH.le_join _ _)⟩
          | i + 2, hx => simp at hx
        · intro x hx
          simp only [List.mem_cons, List.not_mem_nil, or_false] at hx
          rcases hx with rfl
          omega
        rintro v H' hle9 g9
        rw [(pow_ref2 p q _ hpq hno).1, (pow_ref2 p q _ hpq hno).2] at g9
        obtain ⟨x5, X5, y5, z5, Y5, u5, w5, x6, X6, y6, z6, Y6, u6, w6, rfl⟩ := g9.form
        try simp only [go_sem, Nat.reduceEqDiff, Nat.reduceAdd, Bool.false_eq_true, Nat.reduceBEq, ↓reduceIte]
        exact ⟨by trivial, g9⟩
    · have hno : ¬ (0 < expN n ∧ expN n % 2 = 0 ∧ p < 0 ∧ 0 < q) := fun h => c2 (by omega)
      try simp only [go_sem, Nat.reduceEqDiff, Nat.reduceAdd, Bool.false_eq_true, Nat.reduceBEq, ↓reduceIte]
      refine ev_callA (R := fun v H' => RSpan H' v (lstLo (p ^ expN n) [q ^ expN n]) (lstHi (p ^ expN n) [q ^ expN n])) (least4_ok _ _ (p ^ expN n) [q ^ expN n] 2 2 rfl (.inr ⟨g, 0, _, _, _, rfl, PH.join_r hg1 (PH.set_self _ _ _), ?_⟩) (by simp) (by omega) ?_) ?_
      · intro i x hx
        match i, hx with
        | 0, hx => injection hx with hx; subst hx; exact ⟨_, rfl, g1.le (PH.le_join _ _)⟩
        | 1, hx => injection hx with hx; subst hx; exact ⟨_, rfl, g2.le (PH.le_join _ _)⟩
        | i + 2, hx => simp at hx
      · intro x hx
        simp only [List.mem_cons, List.not_mem_nil, or_false] at hx
        rcases hx with rfl
        omega
      rintro v H' hle9 g9
      rw [(pow_ref2 p q _ hpq hno).1, (pow_ref2 p q _ hpq hno).2] at g9
      obtain ⟨x5, X5, y5, z5, Y5, u5, w5, x6, X6, y6, z6, Y6, u6, w6, rfl⟩ := g9.form
      try simp only [go_sem, Nat.reduceEqDiff, Nat.reduceAdd, Bool.false_eq_true, Nat.reduceBEq, ↓reduceIte]
      exact ⟨by trivial, g9⟩
  · have hno : ¬ (0 < expN n ∧ expN n % 2 = 0 ∧ p < 0 ∧ 0 < q) := fun h => c1 (by omega)
    try simp only [go_sem, Nat.reduceEqDiff, Nat.reduceAdd, Bool.false_eq_true, Nat.reduceBEq, ↓reduceIte]
    refine ev_callA (R := fun v H' => RSpan H' v (lstLo (p ^ expN n) [q ^ expN n]) (lstHi (p ^ expN n) [q ^ expN n])) (least4_ok _ _ (p ^ expN n) [q ^ expN n] 2 2 rfl (.inr ⟨g, 0, _, _, _, rfl, PH.join_r hg1 (PH.set_self _ _ _), ?_⟩) (by simp) (by omega) ?_) ?_
    · intro i x hx
      match i, hx with
      | 0, hx => injection hx with hx; subst hx; exact ⟨_, rfl, g1.le (PH.le_join _ _)⟩
      | 1, hx => injection hx with hx; subst hx; exact ⟨_, rfl, g2.le (PH.le_join _ _)⟩
      | i + 2, hx => simp at hx
    · intro x hx
      simp only [List.mem_cons, List.not_mem_nil, or_false] at hx
      rcases hx with rfl
      omega
    rintro v H' hle9 g9
    rw [(pow_ref2 p q _ hpq hno).1, (pow_ref2 p q _ hpq hno).2] at g9
    obtain ⟨x5, X5, y5, z5, Y5, u5, w5, x6, X6, y6, z6, Y6, u6, w6, rfl⟩ := g9.form
    try simp only [go_sem, Nat.reduceEqDiff, Nat.reduceAdd, Bool.false_eq_true, Nat.reduceBEq, ↓reduceIte]
    exact ⟨by trivial, g9⟩

end Go.Proofs.Ytpifafenmgceoaa.X
set_option linter.unusedVariables false
set_option linter.unusedSimpArgs false
namespace Go.Proofs.Ytpifafenmgceoaa.X
open Go Go.RowKit Go.Proofs

theorem SpanPows_ok (H : PH) (a1 : ByteArray) (ha1 : a1.size ≤ 9223372036854775807) (a2 : ByteArray) (ha2 : a2.size ≤ 9223372036854775807) (n : Int) (wn : (Lit.int .i64 n).wf = true) : FnP Try.prog 3 [.agg #[.string a1, .string a2], .int .i64 n] H fun v _ => v = .bool true := by
  have hn := i64_of_wf wn
  refine of_cincturelaw5_SpanPows (by simp) ?_
  try simp only [go_sem, Nat.reduceEqDiff, Nat.reduceAdd, Bool.false_eq_true, Nat.reduceBEq, ↓reduceIte, p_cincturelaw5_SpanPows]
  first | refine ev_call (ofS_ok _ a1 a2 ha1 ha2) ?_ | refine ev_callP (ofS_ok _ a1 a2 ha1 ha2) ?_
  rintro v_1 H_1 le_1 ⟨va, ra, rfl, h1, h2⟩ _
  try simp only [go_sem, Nat.reduceEqDiff, Nat.reduceAdd, Bool.false_eq_true, Nat.reduceBEq, ↓reduceIte]
  obtain ⟨A1, l1, c1, t1, B1, m1, e1, A1', l1', c1', t1', B1', m1', e1', rfl⟩ := h1.form
  obtain ⟨t2, A2, l2, c2, B2, m2, e2, t2', A2', l2', c2', B2', m2', e2', rfl⟩ := h2.form
  cases hk : soOk a1 a2 with
  | false =>
    try simp only [go_sem, Nat.reduceEqDiff, Nat.reduceAdd, Bool.false_eq_true, Nat.reduceBEq, ↓reduceIte, hk]
    first | refine ev_call (aliveS_ok _) ?_ | refine ev_callP (aliveS_ok _) ?_
    rintro v_2 H_2 le_2 rfl _
    try simp only [go_sem, Nat.reduceEqDiff, Nat.reduceAdd, Bool.false_eq_true, Nat.reduceBEq, ↓reduceIte]
    exact ⟨by trivial, by trivial⟩
  | true =>
    rw [hk, if_pos rfl, if_pos rfl] at h1 h2
    obtain ⟨kp, kq, hpq, htp, htq, ksp, _, _⟩ := soOk_br hk
    try simp only [go_sem, Nat.reduceEqDiff, Nat.reduceAdd, Bool.false_eq_true, Nat.reduceBEq, ↓reduceIte, hk]
    refine ev_if (fun h => ?_) (fun h => ?_)
    · try simp only [go_sem, Nat.reduceEqDiff, Nat.reduceAdd, Bool.false_eq_true, Nat.reduceBEq, ↓reduceIte]
      first | refine ev_call (aliveS_ok _) ?_ | refine ev_callP (aliveS_ok _) ?_
      rintro v_2 H_2 le_2 rfl _
      try simp only [go_sem, Nat.reduceEqDiff, Nat.reduceAdd, Bool.false_eq_true, Nat.reduceBEq, ↓reduceIte]
      exact ⟨by trivial, by trivial⟩
    · try simp only [go_sem, Nat.reduceEqDiff, Nat.reduceAdd, Bool.false_eq_true, Nat.reduceBEq, ↓reduceIte]
      refine ev_if (fun h' => ?_) (fun h' => ?_)
      · try simp only [go_sem, Nat.reduceEqDiff, Nat.reduceAdd, Bool.false_eq_true, Nat.reduceBEq, ↓reduceIte]
        first | refine ev_call (aliveS_ok _) ?_ | refine ev_callP (aliveS_ok _) ?_
        rintro v_2 H_2 le_2 rfl _
        try simp only [go_sem, Nat.reduceEqDiff, Nat.reduceAdd, Bool.false_eq_true, Nat.reduceBEq, ↓reduceIte]
        exact ⟨by trivial, by trivial⟩
      · have k1 : br (rv (bs a1)) ≤ 49 ∧ br (rv (bs a2)) ≤ 49 := by
          unfold spOk at ksp
          rw [Bool.and_eq_true, Bool.and_eq_true] at ksp
          have x1 := rv_br ksp.1
          have x2 := rv_br ksp.2.1
          rw [bs_length] at x1 x2
          omega
        generalize rv (bs a1) = p at *
        generalize rv (bs a2) = q at *
        try simp only [go_sem, Nat.reduceEqDiff, Nat.reduceAdd, Bool.false_eq_true, Nat.reduceBEq, ↓reduceIte]
        first | refine ev_call (aliveS_ok _) ?_ | refine ev_callP (aliveS_ok _) ?_
        rintro v_3 H_3 le_3 rfl _
        replace h1 := h1.le le_3
        replace h2 := h2.le le_3
        try simp only [go_sem, Nat.reduceEqDiff, Nat.reduceAdd, Bool.false_eq_true, Nat.reduceBEq, ↓reduceIte]
        refine ev_if (fun h3 => ?_) (fun h3 => ?_)
        · try simp only [go_sem, Nat.reduceEqDiff, Nat.reduceAdd, Bool.false_eq_true, Nat.reduceBEq, ↓reduceIte]
          first | refine ev_call (within_ok _ n 0 20 (by omega) (by omega) (by decide) (by decide) (by decide)) ?_ | refine ev_callP (within_ok _ n 0 20 (by omega) (by omega) (by decide) (by decide) (by decide)) ?_
          rintro v_7 H_7 le_7 rfl _
          replace h1 := h1.le le_7
          replace h2 := h2.le le_7
          try simp only [go_sem, Nat.reduceEqDiff, Nat.reduceAdd, Bool.false_eq_true, Nat.reduceBEq, ↓reduceIte]
          generalize wth n 0 20 = N
          try simp only [go_sem, Nat.reduceEqDiff, Nat.reduceAdd, Bool.false_eq_true, Nat.reduceBEq, ↓reduceIte]
          have hx : expN N ≤ 255 := by unfold expN; omega
          have o1 : expN N * br p ≤ 255 * br p := Nat.mul_le_mul_right _ hx
          have o2 : expN N * br q ≤ 255 * br q := Nat.mul_le_mul_right _ hx
          have s1 := br_powLo p q (expN N)
          have s2 := br_powHi p q (expN N)
          first | refine ev_call (spow_ok _ _ p q N h1 (by omega)) ?_ | refine ev_callP (spow_ok _ _ p q N h1 (by omega)) ?_
          rintro v_4 H_4 le_4 g1 _
          replace h2 := h2.le le_4
          try simp only [go_sem, Nat.reduceEqDiff, Nat.reduceAdd, Bool.false_eq_true, Nat.reduceBEq, ↓reduceIte]
          first | refine ev_call (spowR_ok _ _ p q N h2 hpq (by omega)) ?_ | refine ev_callP (spowR_ok _ _ p q N h2 hpq (by omega)) ?_
          rintro v_5 H_5 le_5 g2 _
          replace g1 := g1.le le_5
          try simp only [go_sem, Nat.reduceEqDiff, Nat.reduceAdd, Bool.false_eq_true, Nat.reduceBEq, ↓reduceIte]
          first | refine ev_call (isS_ok _ _ _ _ _ g1 g2 (by omega) (by omega)) ?_ | refine ev_callP (isS_ok _ _ _ _ _ g1 g2 (by omega) (by omega)) ?_
          rintro v_6 H_6 le_6 rfl _
          try simp only [go_sem, Nat.reduceEqDiff, Nat.reduceAdd, Bool.false_eq_true, Nat.reduceBEq, ↓reduceIte]
          exact ⟨by trivial, by trivial⟩
        · obtain ⟨N, hN⟩ : ∃ N : Int, N = n := ⟨_, rfl⟩
          rw [← hN]
          try simp only [go_sem, Nat.reduceEqDiff, Nat.reduceAdd, Bool.false_eq_true, Nat.reduceBEq, ↓reduceIte]
          have hx : expN N ≤ 255 := by unfold expN; omega
          have o1 : expN N * br p ≤ 255 * br p := Nat.mul_le_mul_right _ hx
          have o2 : expN N * br q ≤ 255 * br q := Nat.mul_le_mul_right _ hx
          have s1 := br_powLo p q (expN N)
          have s2 := br_powHi p q (expN N)
          first | refine ev_call (spow_ok _ _ p q N h1 (by omega)) ?_ | refine ev_callP (spow_ok _ _ p q N h1 (by omega)) ?_
          rintro v_4 H_4 le_4 g1 _
          replace h2 := h2.le le_4
          try simp only [go_sem, Nat.reduceEqDiff, Nat.reduceAdd, Bool.false_eq_true, Nat.reduceBEq, ↓reduceIte]
          first | refine ev_call (spowR_ok _ _ p q N h2 hpq (by omega)) ?_ | refine ev_callP (spowR_ok _ _ p q N h2 hpq (by omega)) ?_
          rintro v_5 H_5 le_5 g2 _
          replace g1 := g1.le le_5
          try simp only [go_sem, Nat.reduceEqDiff, Nat.reduceAdd, Bool.false_eq_true, Nat.reduceBEq, ↓reduceIte]
          first | refine ev_call (isS_ok _ _ _ _ _ g1 g2 (by omega) (by omega)) ?_ | refine ev_callP (isS_ok _ _ _ _ _ g1 g2 (by omega) (by omega)) ?_
          rintro v_6 H_6 le_6 rfl _
          try simp only [go_sem, Nat.reduceEqDiff, Nat.reduceAdd, Bool.false_eq_true, Nat.reduceBEq, ↓reduceIte]
          exact ⟨by trivial, by trivial⟩

set_option maxHeartbeats 4000000 in
theorem SpanTells_ok (H : PH) (a1 : ByteArray) (ha1 : a1.size ≤ 9223372036854775807) (a2 : ByteArray) (ha2 : a2.size ≤ 9223372036854775807) : FnP Try.prog 4 [.agg #[.string a1, .string a2]] H fun v _ => v = .bool true := by
  refine of_cincturelaw5_SpanTells (by simp) ?_
  try simp only [go_sem, Nat.reduceEqDiff, Nat.reduceAdd, Bool.false_eq_true, Nat.reduceBEq, ↓reduceIte, p_cincturelaw5_SpanTells]
  first | refine ev_call (aliveS_ok _) ?_ | refine ev_callP (aliveS_ok _) ?_
  rintro v_8 H_8 le_8 rfl _
  try simp only [go_sem, Nat.reduceEqDiff, Nat.reduceAdd, Bool.false_eq_true, Nat.reduceBEq, ↓reduceIte]
  refine ev_if (fun h => ?_) (fun h => ?_)
  · try simp only [go_sem, Nat.reduceEqDiff, Nat.reduceAdd, Bool.false_eq_true, Nat.reduceBEq, ↓reduceIte]
    exact ⟨by trivial, by trivial⟩
  · try simp only [go_sem, Nat.reduceEqDiff, Nat.reduceAdd, Bool.false_eq_true, Nat.reduceBEq, ↓reduceIte]
    refine ev_if (fun h' => ?_) (fun h' => ?_)
    · try simp only [go_sem, Nat.reduceEqDiff, Nat.reduceAdd, Bool.false_eq_true, Nat.reduceBEq, ↓reduceIte]
      exact ⟨by trivial, by trivial⟩
    · try simp only [go_sem, Nat.reduceEqDiff, Nat.reduceAdd, Bool.false_eq_true, Nat.reduceBEq, ↓reduceIte]
      first | refine ev_call (sparse_ok _ a1 a2 ha1 ha2) ?_ | refine ev_callP (sparse_ok _ a1 a2 ha1 ha2) ?_
      rintro v_9 H_9 le_9 ⟨va, rfl, h1⟩ _
      try simp only [go_sem, Nat.reduceEqDiff, Nat.reduceAdd, Bool.false_eq_true, Nat.reduceBEq, ↓reduceIte]
      obtain ⟨A1, l1, c1, t1, B1, m1, e1, A1', l1', c1', t1', B1', m1', e1', rfl⟩ := h1.form
      try simp only [go_sem, Nat.reduceEqDiff, Nat.reduceAdd, Bool.false_eq_true, Nat.reduceBEq, ↓reduceIte]
      first | refine ev_call (sparseR_ok _ a1 a2 ha1 ha2) ?_ | refine ev_callP (sparseR_ok _ a1 a2 ha1 ha2) ?_
      rintro v_10 H_10 le_10 ⟨ra, rfl, h2⟩ _
      replace h1 := h1.le le_10
      try simp only [go_sem, Nat.reduceEqDiff, Nat.reduceAdd, Bool.false_eq_true, Nat.reduceBEq, ↓reduceIte]
      obtain ⟨t2, A2, l2, c2, B2, m2, e2, t2', A2', l2', c2', B2', m2', e2', rfl⟩ := h2.form
      try simp only [go_sem, Nat.reduceEqDiff, Nat.reduceAdd, Bool.false_eq_true, Nat.reduceBEq, ↓reduceIte]
      refine ev_neg (by simp) ?_
      try simp only [go_sem, Nat.reduceEqDiff, Nat.reduceAdd, Bool.false_eq_true, Nat.reduceBEq, ↓reduceIte]
      have hcode := @spCode_ok a1 a2
      refine ev_if (fun h3 => ?_) (fun h3 => ?_)
      · have hs : spOk a1 a2 = false := by
          cases hk : spOk a1 a2 with
          | false => rfl
          | true => exact absurd (hcode.2 hk) h3
        rw [hs] at h1
        try simp only [go_sem, Nat.reduceEqDiff, Nat.reduceAdd, Bool.false_eq_true, Nat.reduceBEq, ↓reduceIte, hs]
        first | refine ev_call (isS_ok _ _ _ 0 0 h1 (RSpan.zero _) (by rw [br_z0]; decide) (by rw [br_z0]; decide)) ?_ | refine ev_callP (isS_ok _ _ _ 0 0 h1 (RSpan.zero _) (by rw [br_z0]; decide) (by rw [br_z0]; decide)) ?_
        rintro v_11 H_11 le_11 rfl _
        try simp only [go_sem, Nat.reduceEqDiff, Nat.reduceAdd, Bool.false_eq_true, Nat.reduceBEq, ↓reduceIte]
        exact ⟨by trivial, by trivial⟩
      · have hs : spOk a1 a2 = true := hcode.1 (Classical.not_not.1 h3)
        rw [hs, if_pos rfl, if_pos rfl] at h1 h2
        have hs' := hs
        unfold spOk at hs'
        rw [Bool.and_eq_true, Bool.and_eq_true, decide_eq_true_eq] at hs'
        have kp := rv_max hs'.1
        have kq := rv_max hs'.2.1
        have htp : ofB (rtx (rv (bs a1))) = a1 := by rw [rtx_rv hs'.1, ofB_bs]
        have htq : ofB (rtx (rv (bs a2))) = a2 := by rw [rtx_rv hs'.2.1, ofB_bs]
        have hpq := hs'.2.2
        generalize rv (bs a1) = p at *
        generalize rv (bs a2) = q at *
        obtain ⟨x1, x2⟩ := h1.parts
        obtain ⟨x3, x4⟩ := h2.parts
        try simp only [go_sem, Nat.reduceEqDiff, Nat.reduceAdd, Bool.false_eq_true, Nat.reduceBEq, ↓reduceIte]
        first | refine ev_call (snew_ok _ _ _ p q x1 x2 (by omega)) ?_ | refine ev_callP (snew_ok _ _ _ p q x1 x2 (by omega)) ?_
        rintro v_12 H_12 le_12 ⟨v5, rfl, h5⟩ _
        replace h1 := h1.le le_12
        replace h2 := h2.le le_12
        replace x1 := x1.le le_12
        replace x2 := x2.le le_12
        replace x3 := x3.le le_12
        replace x4 := x4.le le_12
        try simp only [go_sem, Nat.reduceEqDiff, Nat.reduceAdd, Bool.false_eq_true, Nat.reduceBEq, ↓reduceIte]
        rw [if_pos hpq, if_pos hpq] at h5
        obtain ⟨A5, l5, c5, t5, B5, m5, e5, A5', l5', c5', t5', B5', m5', e5', rfl⟩ := h5.form
        rw [decide_eq_true hpq]
        try simp only [go_sem, Nat.reduceEqDiff, Nat.reduceAdd, Bool.false_eq_true, Nat.reduceBEq, ↓reduceIte]
        first | refine ev_call (snew_ok _ _ _ q p x2 x1 (by omega)) ?_ | refine ev_callP (snew_ok _ _ _ q p x2 x1 (by omega)) ?_
        rintro v_13 H_13 le_13 ⟨v6, rfl, h6⟩ _
        replace h1 := h1.le le_13
        replace h2 := h2.le le_13
        replace h5 := h5.le le_13
        replace x1 := x1.le le_13
        replace x3 := x3.le le_13
        replace x4 := x4.le le_13
        try simp only [go_sem, Nat.reduceEqDiff, Nat.reduceAdd, Bool.false_eq_true, Nat.reduceBEq, ↓reduceIte]
        obtain ⟨A6, l6, c6, t6, B6, m6, e6, A6', l6', c6', t6', B6', m6', e6', rfl⟩ := h6.form
        try simp only [go_sem, Nat.reduceEqDiff, Nat.reduceAdd, Bool.false_eq_true, Nat.reduceBEq, ↓reduceIte]
        first | refine ev_call (rcmpRR_ok _ _ _ p q x3 x4 (by omega)) ?_ | refine ev_callP (rcmpRR_ok _ _ _ p q x3 x4 (by omega)) ?_
        rintro v_14 H_14 le_14 rfl _
        replace h1 := h1.le le_14
        replace h2 := h2.le le_14
        replace h5 := h5.le le_14
        replace h6 := h6.le le_14
        replace x1 := x1.le le_14
        replace x3 := x3.le le_14
        try simp only [go_sem, Nat.reduceEqDiff, Nat.reduceAdd, Bool.false_eq_true, Nat.reduceBEq, ↓reduceIte]
        rw [cmpR_eq_iff]
        refine ev_if (fun heq => ?_) (fun heq => ?_)
        · rw [decide_eq_true (show q ≤ p by rw [heq]; exact Rat.le_refl)]
          try simp only [go_sem, Nat.reduceEqDiff, Nat.reduceAdd, Bool.false_eq_true, Nat.reduceBEq, ↓reduceIte]
          first | refine ev_call (isS_ok _ _ _ p q h1 h2 (by omega) (by omega)) ?_ | refine ev_callP (isS_ok _ _ _ p q h1 h2 (by omega) (by omega)) ?_
          rintro v_15 H_15 le_15 rfl _
          replace h1 := h1.le le_15
          replace h5 := h5.le le_15
          replace h6 := h6.le le_15
          replace x1 := x1.le le_15
          replace x3 := x3.le le_15
          try simp only [go_sem, Nat.reduceEqDiff, Nat.reduceAdd, Bool.false_eq_true, Nat.reduceBEq, ↓reduceIte]
          first | refine ev_call (splain_ok _ _ p q h1 (by omega) (by omega)) ?_ | refine ev_callP (splain_ok _ _ p q h1 (by omega) (by omega)) ?_
          rintro v_16 H_16 le_16 rfl _
          replace h1 := h1.le le_16
          replace h5 := h5.le le_16
          replace h6 := h6.le le_16
          replace x1 := x1.le le_16
          replace x3 := x3.le le_16
          try simp only [go_sem, Nat.reduceEqDiff, Nat.reduceAdd, Bool.false_eq_true, Nat.reduceBEq, ↓reduceIte]
          refine ev_peq (fun _ => ?_) (fun hne => absurd ⟨htp, htq⟩ hne)
          try simp only [go_sem, Nat.reduceEqDiff, Nat.reduceAdd, Bool.false_eq_true, Nat.reduceBEq, ↓reduceIte]
          first | refine ev_call (ssame_ok _ _ _ p q p q h1 h5 (by omega)) ?_ | refine ev_callP (ssame_ok _ _ _ p q p q h1 h5 (by omega)) ?_
          rintro v_17 H_17 le_17 rfl _
          replace h6 := h6.le le_17
          replace x1 := x1.le le_17
          replace x3 := x3.le le_17
          try simp only [go_sem, Nat.reduceEqDiff, Nat.reduceAdd, Bool.false_eq_true, Nat.reduceBEq, ↓reduceIte]
          rw [decide_eq_true (show True ∧ True from ⟨trivial, trivial⟩)]
          try simp only [go_sem, Nat.reduceEqDiff, Nat.reduceAdd, Bool.false_eq_true, Nat.reduceBEq, ↓reduceIte]
          first | refine ev_call (sof_ok _ _ p x1) ?_ | refine ev_callP (sof_ok _ _ p x1) ?_
          rintro v_18 H_18 le_18 g1 _
          replace x3 := x3.le le_18
          try simp only [go_sem, Nat.reduceEqDiff, Nat.reduceAdd, Bool.false_eq_true, Nat.reduceBEq, ↓reduceIte]
          first | refine ev_call (pointR_ok _ _ p x3) ?_ | refine ev_callP (pointR_ok _ _ p x3) ?_
          rintro v_19 H_19 le_19 g2 _
          replace g1 := g1.le le_19
          try simp only [go_sem, Nat.reduceEqDiff, Nat.reduceAdd, Bool.false_eq_true, Nat.reduceBEq, ↓reduceIte]
          first | refine ev_call (isS_ok _ _ _ p p g1 g2 (by omega) (by omega)) ?_ | refine ev_callP (isS_ok _ _ _ p p g1 g2 (by omega) (by omega)) ?_
          rintro v_20 H_20 le_20 rfl _
          try simp only [go_sem, Nat.reduceEqDiff, Nat.reduceAdd, Bool.false_eq_true, Nat.reduceBEq, ↓reduceIte]
          exact ⟨by trivial, by trivial⟩
        · have hn : ¬ q ≤ p := fun hqp => heq (Rat.le_antisymm hpq hqp)
          rw [if_neg hn, if_neg hn] at h6
          rw [decide_eq_false hn]
          try simp only [go_sem, Nat.reduceEqDiff, Nat.reduceAdd, Bool.false_eq_true, Nat.reduceBEq, ↓reduceIte]
          first | refine ev_call (isS_ok _ _ _ p q h1 h2 (by omega) (by omega)) ?_ | refine ev_callP (isS_ok _ _ _ p q h1 h2 (by omega) (by omega)) ?_
          rintro v_15 H_15 le_15 rfl _
          replace h1 := h1.le le_15
          replace h5 := h5.le le_15
          replace h6 := h6.le le_15
          replace x1 := x1.le le_15
          replace x3 := x3.le le_15
          try simp only [go_sem, Nat.reduceEqDiff, Nat.reduceAdd, Bool.false_eq_true, Nat.reduceBEq, ↓reduceIte]
          first | refine ev_call (splain_ok _ _ p q h1 (by omega) (by omega)) ?_ | refine ev_callP (splain_ok _ _ p q h1 (by omega) (by omega)) ?_
          rintro v_16 H_16 le_16 rfl _
          replace h1 := h1.le le_16
          replace h5 := h5.le le_16
          replace h6 := h6.le le_16
          replace x1 := x1.le le_16
          replace x3 := x3.le le_16
          try simp only [go_sem, Nat.reduceEqDiff, Nat.reduceAdd, Bool.false_eq_true, Nat.reduceBEq, ↓reduceIte]
          refine ev_peq (fun _ => ?_) (fun hne => absurd ⟨htp, htq⟩ hne)
          try simp only [go_sem, Nat.reduceEqDiff, Nat.reduceAdd, Bool.false_eq_true, Nat.reduceBEq, ↓reduceIte]
          first | refine ev_call (ssame_ok _ _ _ p q p q h1 h5 (by omega)) ?_ | refine ev_callP (ssame_ok _ _ _ p q p q h1 h5 (by omega)) ?_
          rintro v_17 H_17 le_17 rfl _
          replace h6 := h6.le le_17
          replace x1 := x1.le le_17
          replace x3 := x3.le le_17
          try simp only [go_sem, Nat.reduceEqDiff, Nat.reduceAdd, Bool.false_eq_true, Nat.reduceBEq, ↓reduceIte]
          rw [decide_eq_true (show True ∧ True from ⟨trivial, trivial⟩)]
          try simp only [go_sem, Nat.reduceEqDiff, Nat.reduceAdd, Bool.false_eq_true, Nat.reduceBEq, ↓reduceIte]
          first | refine ev_call (isS_ok _ _ _ 0 0 h6 (RSpan.zero _) (by rw [br_z0]; decide) (by rw [br_z0]; decide)) ?_ | refine ev_callP (isS_ok _ _ _ 0 0 h6 (RSpan.zero _) (by rw [br_z0]; decide) (by rw [br_z0]; decide)) ?_
          rintro v_21 H_21 le_21 rfl _
          replace x1 := x1.le le_21
          replace x3 := x3.le le_21
          try simp only [go_sem, Nat.reduceEqDiff, Nat.reduceAdd, Bool.false_eq_true, Nat.reduceBEq, ↓reduceIte]
          first | refine ev_call (sof_ok _ _ p x1) ?_ | refine ev_callP (sof_ok _ _ p x1) ?_
          rintro v_18 H_18 le_18 g1 _
          replace x3 := x3.le le_18
          try simp only [go_sem, Nat.reduceEqDiff, Nat.reduceAdd, Bool.false_eq_true, Nat.reduceBEq, ↓reduceIte]
          first | refine ev_call (pointR_ok _ _ p x3) ?_ | refine ev_callP (pointR_ok _ _ p x3) ?_
          rintro v_19 H_19 le_19 g2 _
          replace g1 := g1.le le_19
          try simp only [go_sem, Nat.reduceEqDiff, Nat.reduceAdd, Bool.false_eq_true, Nat.reduceBEq, ↓reduceIte]
          first | refine ev_call (isS_ok _ _ _ p p g1 g2 (by omega) (by omega)) ?_ | refine ev_callP (isS_ok _ _ _ p p g1 g2 (by omega) (by omega)) ?_
          rintro v_20 H_20 le_20 rfl _
          try simp only [go_sem, Nat.reduceEqDiff, Nat.reduceAdd, Bool.false_eq_true, Nat.reduceBEq, ↓reduceIte]
          exact ⟨by trivial, by trivial⟩

end Go.Proofs.Ytpifafenmgceoaa.X
