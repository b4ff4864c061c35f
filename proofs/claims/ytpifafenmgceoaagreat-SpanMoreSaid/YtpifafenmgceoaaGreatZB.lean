/- The great laws of chapter 5. -/
import Derived.Test.YtpifafenmgceoaaGreatZZ
set_option linter.unusedVariables false
set_option linter.unusedSimpArgs false
namespace Go.Proofs.YtpifafenmgceoaaGreat.X
open Go Go.RowKit Go.Proofs

theorem wth_id {k : Int} (h0 : 0 ≤ k) (h8 : k ≤ 8) : wth k 0 8 = k := by
  unfold wth
  rw [Int.tmod_eq_emod_of_nonneg h0, Int.emod_eq_of_lt h0 (by omega), if_neg (by omega)]
  omega

theorem SpanAdds_ok (H : PH) (a1 : ByteArray) (ha1 : a1.size ≤ 9223372036854775807) (a2 : ByteArray) (ha2 : a2.size ≤ 9223372036854775807) (b1 : ByteArray) (hb1 : b1.size ≤ 9223372036854775807) (b2 : ByteArray) (hb2 : b2.size ≤ 9223372036854775807) (r : ByteArray) (hr : r.size ≤ 9223372036854775807) : FnP Tryz.prog 3 [.agg #[.string a1, .string a2], .agg #[.string b1, .string b2], .string r] H fun v _ => v = .bool true := by
  refine of_cincturelaw5_SpanAdds (by simp) ?_
  try simp only [go_sem, Nat.reduceEqDiff, Nat.reduceAdd, Bool.false_eq_true, Nat.reduceBEq, ↓reduceIte, p_cincturelaw5_SpanAdds]
  first | refine ev_call (ofS_ok _ a1 a2 ha1 ha2) ?_ | refine ev_callP (ofS_ok _ a1 a2 ha1 ha2) ?_
  rintro v_1 H_1 le_1 ⟨va, ra, rfl, h1, h2⟩ _
  try simp only [go_sem, Nat.reduceEqDiff, Nat.reduceAdd, Bool.false_eq_true, Nat.reduceBEq, ↓reduceIte]
  obtain ⟨A1, l1, c1, t1, B1, m1, e1, A1', l1', c1', t1', B1', m1', e1', rfl⟩ := h1.form
  obtain ⟨t2, A2, l2, c2, B2, m2, e2, t2', A2', l2', c2', B2', m2', e2', rfl⟩ := h2.form
  try simp only [go_sem, Nat.reduceEqDiff, Nat.reduceAdd, Bool.false_eq_true, Nat.reduceBEq, ↓reduceIte]
  first | refine ev_call (ofS_ok _ b1 b2 hb1 hb2) ?_ | refine ev_callP (ofS_ok _ b1 b2 hb1 hb2) ?_
  rintro v_2 H_2 le_2 ⟨vb, rb, rfl, h3, h4⟩ _
  replace h1 := h1.le le_2
  replace h2 := h2.le le_2
  try simp only [go_sem, Nat.reduceEqDiff, Nat.reduceAdd, Bool.false_eq_true, Nat.reduceBEq, ↓reduceIte]
  obtain ⟨A3, l3, c3, t3, B3, m3, e3, A3', l3', c3', t3', B3', m3', e3', rfl⟩ := h3.form
  obtain ⟨t4, A4, l4, c4, B4, m4, e4, t4', A4', l4', c4', B4', m4', e4', rfl⟩ := h4.form
  try simp only [go_sem, Nat.reduceEqDiff, Nat.reduceAdd, Bool.false_eq_true, Nat.reduceBEq, ↓reduceIte]
  first | refine ev_call (numQ_ok _ r hr) ?_ | refine ev_callP (numQ_ok _ r hr) ?_
  rintro v_3 H_3 le_3 ⟨vr, rr, rfl, h5, h6⟩ _
  replace h1 := h1.le le_3
  replace h2 := h2.le le_3
  replace h3 := h3.le le_3
  replace h4 := h4.le le_3
  try simp only [go_sem, Nat.reduceEqDiff, Nat.reduceAdd, Bool.false_eq_true, Nat.reduceBEq, ↓reduceIte]
  obtain ⟨A5, l5, c5, t5, B5, m5, e5, rfl⟩ := h5.form
  obtain ⟨t6, A6, l6, c6, B6, m6, e6, rfl⟩ := h6.form
  cases hk : soOk a1 a2 with
  | false =>
    try simp only [go_sem, Nat.reduceEqDiff, Nat.reduceAdd, Bool.false_eq_true, Nat.reduceBEq, ↓reduceIte, hk]
    first | refine ev_call (aliveS_ok _) ?_ | refine ev_callP (aliveS_ok _) ?_
    rintro v_4 H_4 le_4 rfl _
    try simp only [go_sem, Nat.reduceEqDiff, Nat.reduceAdd, Bool.false_eq_true, Nat.reduceBEq, ↓reduceIte]
    exact ⟨by trivial, by trivial⟩
  | true =>
    cases hk2 : soOk b1 b2 with
    | false =>
      try simp only [go_sem, Nat.reduceEqDiff, Nat.reduceAdd, Bool.false_eq_true, Nat.reduceBEq, ↓reduceIte, hk, hk2]
      first | refine ev_call (aliveS_ok _) ?_ | refine ev_callP (aliveS_ok _) ?_
      rintro v_4 H_4 le_4 rfl _
      try simp only [go_sem, Nat.reduceEqDiff, Nat.reduceAdd, Bool.false_eq_true, Nat.reduceBEq, ↓reduceIte]
      exact ⟨by trivial, by trivial⟩
    | true =>
      cases hk3 : qok r with
      | false =>
        try simp only [go_sem, Nat.reduceEqDiff, Nat.reduceAdd, Bool.false_eq_true, Nat.reduceBEq, ↓reduceIte, hk, hk2, hk3]
        first | refine ev_call (aliveS_ok _) ?_ | refine ev_callP (aliveS_ok _) ?_
        rintro v_4 H_4 le_4 rfl _
        try simp only [go_sem, Nat.reduceEqDiff, Nat.reduceAdd, Bool.false_eq_true, Nat.reduceBEq, ↓reduceIte]
        exact ⟨by trivial, by trivial⟩
      | true =>
        rw [hk, if_pos rfl, if_pos rfl] at h1 h2
        rw [hk2, if_pos rfl, if_pos rfl] at h3 h4
        obtain ⟨kp, kq, hpq, htp, htq, _, _, _⟩ := soOk_br hk
        obtain ⟨kr, ks, hrs, htr, hts, _, _, _⟩ := soOk_br hk2
        generalize rv (bs a1) = p at *
        generalize rv (bs a2) = q at *
        generalize rv (bs b1) = u at *
        generalize rv (bs b2) = w at *
        rw [hk3, if_pos rfl] at h5 h6
        obtain ⟨kx, _, _⟩ := qok_br hk3
        generalize rv (bs r) = x at *
        have s1 := br_add p u
        have s2 := br_add q w
        have s3 := br_sub p w
        have s4 := br_sub q u
        have s5 := br_mulLo p q u w
        have s6 := br_mulHi p q u w
        have s7 := br_mul p x
        have s8 := br_mul q x
        have s9 := br_min (p * x) (q * x)
        have s10 := br_max (p * x) (q * x)
        try simp only [go_sem, Nat.reduceEqDiff, Nat.reduceAdd, Bool.false_eq_true, Nat.reduceBEq, ↓reduceIte, hk, hk2, hk3]
        first | refine ev_call (aliveS_ok _) ?_ | refine ev_callP (aliveS_ok _) ?_
        rintro v_5 H_5 le_5 rfl _
        replace h1 := h1.le le_5
        replace h2 := h2.le le_5
        replace h3 := h3.le le_5
        replace h4 := h4.le le_5
        replace h5 := h5.le le_5
        replace h6 := h6.le le_5
        try simp only [go_sem, Nat.reduceEqDiff, Nat.reduceAdd, Bool.false_eq_true, Nat.reduceBEq, ↓reduceIte]
        first | refine ev_call (sadd_ok _ _ _ p q u w h1 h3 (by omega)) ?_ | refine ev_callP (sadd_ok _ _ _ p q u w h1 h3 (by omega)) ?_
        rintro v_6 H_6 le_6 g1 _
        replace h1 := h1.le le_6
        replace h2 := h2.le le_6
        replace h3 := h3.le le_6
        replace h4 := h4.le le_6
        replace h5 := h5.le le_6
        replace h6 := h6.le le_6
        try simp only [go_sem, Nat.reduceEqDiff, Nat.reduceAdd, Bool.false_eq_true, Nat.reduceBEq, ↓reduceIte]
        first | refine ev_call (saddR_ok _ _ _ p q u w h2 h4 (by omega)) ?_ | refine ev_callP (saddR_ok _ _ _ p q u w h2 h4 (by omega)) ?_
        rintro v_7 H_7 le_7 g2 _
        replace h1 := h1.le le_7
        replace h2 := h2.le le_7
        replace h3 := h3.le le_7
        replace h4 := h4.le le_7
        replace h5 := h5.le le_7
        replace h6 := h6.le le_7
        replace g1 := g1.le le_7
        try simp only [go_sem, Nat.reduceEqDiff, Nat.reduceAdd, Bool.false_eq_true, Nat.reduceBEq, ↓reduceIte]
        first | refine ev_call (isS_ok _ _ _ _ _ g1 g2 (by omega) (by omega)) ?_ | refine ev_callP (isS_ok _ _ _ _ _ g1 g2 (by omega) (by omega)) ?_
        rintro v_8 H_8 le_8 rfl _
        replace h1 := h1.le le_8
        replace h2 := h2.le le_8
        replace h3 := h3.le le_8
        replace h4 := h4.le le_8
        replace h5 := h5.le le_8
        replace h6 := h6.le le_8
        try simp only [go_sem, Nat.reduceEqDiff, Nat.reduceAdd, Bool.false_eq_true, Nat.reduceBEq, ↓reduceIte]
        first | refine ev_call (ssub_ok _ _ _ p q u w h1 h3 (by omega)) ?_ | refine ev_callP (ssub_ok _ _ _ p q u w h1 h3 (by omega)) ?_
        rintro v_9 H_9 le_9 g1 _
        replace h1 := h1.le le_9
        replace h2 := h2.le le_9
        replace h3 := h3.le le_9
        replace h4 := h4.le le_9
        replace h5 := h5.le le_9
        replace h6 := h6.le le_9
        try simp only [go_sem, Nat.reduceEqDiff, Nat.reduceAdd, Bool.false_eq_true, Nat.reduceBEq, ↓reduceIte]
        first | refine ev_call (ssubR_ok _ _ _ p q u w h2 h4 (by omega)) ?_ | refine ev_callP (ssubR_ok _ _ _ p q u w h2 h4 (by omega)) ?_
        rintro v_10 H_10 le_10 g2 _
        replace h1 := h1.le le_10
        replace h2 := h2.le le_10
        replace h3 := h3.le le_10
        replace h4 := h4.le le_10
        replace h5 := h5.le le_10
        replace h6 := h6.le le_10
        replace g1 := g1.le le_10
        try simp only [go_sem, Nat.reduceEqDiff, Nat.reduceAdd, Bool.false_eq_true, Nat.reduceBEq, ↓reduceIte]
        first | refine ev_call (isS_ok _ _ _ _ _ g1 g2 (by omega) (by omega)) ?_ | refine ev_callP (isS_ok _ _ _ _ _ g1 g2 (by omega) (by omega)) ?_
        rintro v_11 H_11 le_11 rfl _
        replace h1 := h1.le le_11
        replace h2 := h2.le le_11
        replace h3 := h3.le le_11
        replace h4 := h4.le le_11
        replace h5 := h5.le le_11
        replace h6 := h6.le le_11
        try simp only [go_sem, Nat.reduceEqDiff, Nat.reduceAdd, Bool.false_eq_true, Nat.reduceBEq, ↓reduceIte]
        first | refine ev_call (smul_ok _ _ _ p q u w h1 h3 (by omega)) ?_ | refine ev_callP (smul_ok _ _ _ p q u w h1 h3 (by omega)) ?_
        rintro v_12 H_12 le_12 g1 _
        replace h1 := h1.le le_12
        replace h2 := h2.le le_12
        replace h3 := h3.le le_12
        replace h4 := h4.le le_12
        replace h5 := h5.le le_12
        replace h6 := h6.le le_12
        try simp only [go_sem, Nat.reduceEqDiff, Nat.reduceAdd, Bool.false_eq_true, Nat.reduceBEq, ↓reduceIte]
        first | refine ev_call (smulR_ok _ _ _ p q u w h2 h4 (by omega)) ?_ | refine ev_callP (smulR_ok _ _ _ p q u w h2 h4 (by omega)) ?_
        rintro v_13 H_13 le_13 g2 _
        replace h1 := h1.le le_13
        replace h2 := h2.le le_13
        replace h3 := h3.le le_13
        replace h4 := h4.le le_13
        replace h5 := h5.le le_13
        replace h6 := h6.le le_13
        replace g1 := g1.le le_13
        try simp only [go_sem, Nat.reduceEqDiff, Nat.reduceAdd, Bool.false_eq_true, Nat.reduceBEq, ↓reduceIte]
        first | refine ev_call (isS_ok _ _ _ _ _ g1 g2 (by omega) (by omega)) ?_ | refine ev_callP (isS_ok _ _ _ _ _ g1 g2 (by omega) (by omega)) ?_
        rintro v_14 H_14 le_14 rfl _
        replace h1 := h1.le le_14
        replace h2 := h2.le le_14
        replace h3 := h3.le le_14
        replace h4 := h4.le le_14
        replace h5 := h5.le le_14
        replace h6 := h6.le le_14
        try simp only [go_sem, Nat.reduceEqDiff, Nat.reduceAdd, Bool.false_eq_true, Nat.reduceBEq, ↓reduceIte]
        first | refine ev_call (sscale_ok _ _ _ p q x h1 h5 (by omega)) ?_ | refine ev_callP (sscale_ok _ _ _ p q x h1 h5 (by omega)) ?_
        rintro v_15 H_15 le_15 g1 _
        replace h2 := h2.le le_15
        replace h6 := h6.le le_15
        try simp only [go_sem, Nat.reduceEqDiff, Nat.reduceAdd, Bool.false_eq_true, Nat.reduceBEq, ↓reduceIte]
        first | refine ev_call (sscaleR_ok _ _ _ p q x h2 h6 (by omega)) ?_ | refine ev_callP (sscaleR_ok _ _ _ p q x h2 h6 (by omega)) ?_
        rintro v_16 H_16 le_16 g2 _
        replace g1 := g1.le le_16
        try simp only [go_sem, Nat.reduceEqDiff, Nat.reduceAdd, Bool.false_eq_true, Nat.reduceBEq, ↓reduceIte]
        first | refine ev_call (isS_ok _ _ _ _ _ g1 g2 (by omega) (by omega)) ?_ | refine ev_callP (isS_ok _ _ _ _ _ g1 g2 (by omega) (by omega)) ?_
        rintro v_17 H_17 le_17 rfl _
        try simp only [go_sem, Nat.reduceEqDiff, Nat.reduceAdd, Bool.false_eq_true, Nat.reduceBEq, ↓reduceIte]
        exact ⟨by trivial, by trivial⟩

set_option maxHeartbeats 4000000 in
theorem SpanHas_ok (H : PH) (a1 : ByteArray) (ha1 : a1.size ≤ 9223372036854775807) (a2 : ByteArray) (ha2 : a2.size ≤ 9223372036854775807) (b1 : ByteArray) (hb1 : b1.size ≤ 9223372036854775807) (b2 : ByteArray) (hb2 : b2.size ≤ 9223372036854775807) (i : Int) (wi : (Lit.int .i64 i).wf = true) (k : Int) (wk : (Lit.int .i64 k).wf = true) (n : Int) (wn : (Lit.int .i64 n).wf = true) : FnP Tryz.prog 6 [.agg #[.string a1, .string a2], .agg #[.string b1, .string b2], .int .i64 i, .int .i64 k, .int .i64 n] H fun v _ => v = .bool true := by
  have hi := i64_of_wf wi
  have hk' := i64_of_wf wk
  have hn := i64_of_wf wn
  refine of_cincturelaw5_SpanHas (by simp) ?_
  try simp only [go_sem, Nat.reduceEqDiff, Nat.reduceAdd, Bool.false_eq_true, Nat.reduceBEq, ↓reduceIte, p_cincturelaw5_SpanHas]
  first | refine ev_call (ofS_ok _ a1 a2 ha1 ha2) ?_ | refine ev_callP (ofS_ok _ a1 a2 ha1 ha2) ?_
  rintro v_1 H_1 le_1 ⟨va, ra, rfl, h1, h2⟩ _
  try simp only [go_sem, Nat.reduceEqDiff, Nat.reduceAdd, Bool.false_eq_true, Nat.reduceBEq, ↓reduceIte]
  obtain ⟨A1, l1, c1, t1, B1, m1, e1, A1', l1', c1', t1', B1', m1', e1', rfl⟩ := h1.form
  obtain ⟨t2, A2, l2, c2, B2, m2, e2, t2', A2', l2', c2', B2', m2', e2', rfl⟩ := h2.form
  try simp only [go_sem, Nat.reduceEqDiff, Nat.reduceAdd, Bool.false_eq_true, Nat.reduceBEq, ↓reduceIte]
  first | refine ev_call (ofS_ok _ b1 b2 hb1 hb2) ?_ | refine ev_callP (ofS_ok _ b1 b2 hb1 hb2) ?_
  rintro v_2 H_2 le_2 ⟨vb, rb, rfl, h3, h4⟩ _
  replace h1 := h1.le le_2
  replace h2 := h2.le le_2
  try simp only [go_sem, Nat.reduceEqDiff, Nat.reduceAdd, Bool.false_eq_true, Nat.reduceBEq, ↓reduceIte]
  obtain ⟨A3, l3, c3, t3, B3, m3, e3, A3', l3', c3', t3', B3', m3', e3', rfl⟩ := h3.form
  obtain ⟨t4, A4, l4, c4, B4, m4, e4, t4', A4', l4', c4', B4', m4', e4', rfl⟩ := h4.form
  try simp only [go_sem, Nat.reduceEqDiff, Nat.reduceAdd, Bool.false_eq_true, Nat.reduceBEq, ↓reduceIte]
  cases hk : soOk a1 a2 with
  | false =>
    try simp only [go_sem, Nat.reduceEqDiff, Nat.reduceAdd, Bool.false_eq_true, Nat.reduceBEq, ↓reduceIte, hk]
    first | refine ev_call (aliveS_ok _) ?_ | refine ev_callP (aliveS_ok _) ?_
    rintro v_4 H_4 le_4 rfl _
    try simp only [go_sem, Nat.reduceEqDiff, Nat.reduceAdd, Bool.false_eq_true, Nat.reduceBEq, ↓reduceIte]
    exact ⟨by trivial, by trivial⟩
  | true =>
    cases hk2 : soOk b1 b2 with
    | false =>
      try simp only [go_sem, Nat.reduceEqDiff, Nat.reduceAdd, Bool.false_eq_true, Nat.reduceBEq, ↓reduceIte, hk, hk2]
      first | refine ev_call (aliveS_ok _) ?_ | refine ev_callP (aliveS_ok _) ?_
      rintro v_4 H_4 le_4 rfl _
      try simp only [go_sem, Nat.reduceEqDiff, Nat.reduceAdd, Bool.false_eq_true, Nat.reduceBEq, ↓reduceIte]
      exact ⟨by trivial, by trivial⟩
    | true =>
      rw [hk, if_pos rfl, if_pos rfl] at h1 h2
      rw [hk2, if_pos rfl, if_pos rfl] at h3 h4
      obtain ⟨kp, kq, hpq, htp, htq, _, _, _⟩ := soOk_br hk
      obtain ⟨kr, ks, hrs, htr, hts, _, _, _⟩ := soOk_br hk2
      generalize rv (bs a1) = p at *
      generalize rv (bs a2) = q at *
      generalize rv (bs b1) = u at *
      generalize rv (bs b2) = w at *
      try simp only [go_sem, Nat.reduceEqDiff, Nat.reduceAdd, Bool.false_eq_true, Nat.reduceBEq, ↓reduceIte, hk, hk2]
      first | refine ev_call (aliveS_ok _) ?_ | refine ev_callP (aliveS_ok _) ?_
      rintro v_18 H_18 le_18 rfl _
      replace h1 := h1.le le_18
      replace h3 := h3.le le_18
      try simp only [go_sem, Nat.reduceEqDiff, Nat.reduceAdd, Bool.false_eq_true, Nat.reduceBEq, ↓reduceIte]
      first | refine ev_call (within_ok _ n 0 6 (by omega) (by omega) (by decide) (by decide) (by decide)) ?_ | refine ev_callP (within_ok _ n 0 6 (by omega) (by omega) (by decide) (by decide) (by decide)) ?_
      rintro v_19 H_19 le_19 rfl _
      replace h1 := h1.le le_19
      replace h3 := h3.le le_19
      try simp only [go_sem, Nat.reduceEqDiff, Nat.reduceAdd, Bool.false_eq_true, Nat.reduceBEq, ↓reduceIte]
      have hw := @wth_bd n 0 6 (by decide)
      generalize wth n 0 6 = N at *
      have hN : expN N ≤ 6 := by unfold expN; omega
      have wI := @wth_bd i 0 8 (by decide)
      have wK := @wth_bd k 0 8 (by decide)
      have hx := has_ins hpq wI.1 wI.2
      have hy := has_ins hrs wK.1 wK.2
      have bx := @br_ins p q _ wI.1 wI.2
      have by' := @br_ins u w _ wK.1 wK.2
      refine ev_cut (fun s => ∃ H' A5 l5 c5 t5 B5 m5 e5 A6 l6 c6 t6 B6 m6 e6, SpanV H' (.agg #[.slice A1 l1 c1, .bool t1, .slice B1 m1 e1, .slice A1' l1' c1', .bool t1', .slice B1' m1' e1']) p q ∧ SpanV H' (.agg #[.slice A3 l3 c3, .bool t3, .slice B3 m3 e3, .slice A3' l3' c3', .bool t3', .slice B3' m3' e3']) u w ∧
        RatV H' (.agg #[.slice A5 l5 c5, .bool t5, .slice B5 m5 e5]) (ins p q (wth i 0 8)) ∧ RatV H' (.agg #[.slice A6 l6 c6, .bool t6, .slice B6 m6 e6]) (ins u w (wth k 0 8)) ∧
        s = ⟨[(18, .ptr 18 0), (17, .ptr 17 0), (14, .ptr 14 0), (11, .ptr 11 0), (4, .v (.int .i64 N))], [(18, [.slice A6 l6 c6, .bool t6, .slice B6 m6 e6]), (17, [.slice A5 l5 c5, .bool t5, .slice B5 m5 e5]), (14, [.slice A3 l3 c3, .bool t3, .slice B3 m3 e3, .slice A3' l3' c3', .bool t3', .slice B3' m3' e3']), (11, [.slice A1 l1 c1, .bool t1, .slice B1 m1 e1, .slice A1' l1' c1', .bool t1', .slice B1' m1' e1'])], H', PH.no⟩) ?_ ?_
      · try simp only [go_sem, Nat.reduceEqDiff, Nat.reduceAdd, Bool.false_eq_true, Nat.reduceBEq, ↓reduceIte]
        repeat' (with_reducible refine And.intro ?_ ?_)
        all_goals
          first | refine ev_call (inside_ok _ _ p q i (by omega) (by omega) h1 (by omega)) ?_ | refine ev_callP (inside_ok _ _ p q i (by omega) (by omega) h1 (by omega)) ?_
          rintro v_20 H_20 le_20 g1 _
          replace h1 := h1.le le_20
          replace h3 := h3.le le_20
          try simp only [go_sem, Nat.reduceEqDiff, Nat.reduceAdd, Bool.false_eq_true, Nat.reduceBEq, ↓reduceIte]
          repeat' (with_reducible refine And.intro ?_ ?_)
          all_goals
            first | refine ev_call (inside_ok _ _ u w k (by omega) (by omega) h3 (by omega)) ?_ | refine ev_callP (inside_ok _ _ u w k (by omega) (by omega) h3 (by omega)) ?_
            rintro v_21 H_21 le_21 g2 _
            replace h1 := h1.le le_21
            replace h3 := h3.le le_21
            replace g1 := g1.le le_21
            try simp only [go_sem, Nat.reduceEqDiff, Nat.reduceAdd, Bool.false_eq_true, Nat.reduceBEq, ↓reduceIte]
            obtain ⟨A5, l5, c5, t5, B5, m5, e5, rfl⟩ := g1.form
            obtain ⟨A6, l6, c6, t6, B6, m6, e6, rfl⟩ := g2.form
            try simp only [go_sem, Nat.reduceEqDiff, Nat.reduceAdd, Bool.false_eq_true, Nat.reduceBEq, ↓reduceIte]
            repeat' (with_reducible refine And.intro ?_ ?_)
            all_goals exact k_cut _ ⟨_, _, _, _, _, _, _, _, _, _, _, _, _, _, _, h1, h3, g1, g2, rfl⟩ ⟨rfl, by simp only [go_sem, Nat.reduceEqDiff, Nat.reduceAdd, Bool.false_eq_true, Nat.reduceBEq, ↓reduceIte, and_self, Option.some.injEq, SV.v.injEq, SV.ptr.injEq, Value.int.injEq, Value.bool.injEq, Value.slice.injEq, true_and, and_true] <;> (repeat' apply And.intro) <;> first | rfl | omega | (simp (disch := omega) only [w64, wu64, wu32, wu8] <;> omega), by simp only [go_sem, Nat.reduceEqDiff, Nat.reduceAdd, Bool.false_eq_true, Nat.reduceBEq, ↓reduceIte, and_self, Option.some.injEq, SV.v.injEq, SV.ptr.injEq, Value.int.injEq, Value.bool.injEq, Value.slice.injEq, true_and, and_true] <;> (repeat' apply And.intro) <;> rfl, rfl, PH.le.refl _⟩
      · rintro s ⟨H2, A5, l5, c5, t5, B5, m5, e5, A6, l6, c6, t6, B6, m6, e6, h1, h3, h5, h6, rfl⟩
        generalize ins p q (wth i 0 8) = x at *
        generalize ins u w (wth k 0 8) = y at *
        have s1 := br_add p u
        have s2 := br_add q w
        have s3 := br_sub p w
        have s4 := br_sub q u
        have s5 := br_mulLo p q u w
        have s6 := br_mulHi p q u w
        have s7 := br_mul p y
        have s8 := br_mul q y
        have s9 := br_min (p * y) (q * y)
        have s10 := br_max (p * y) (q * y)
        have s11 := br_add x y
        have s12 := br_sub x y
        have s13 := br_mul x y
        have s14 := br_powLo p q (expN N)
        have s15 := br_powHi p q (expN N)
        have s16 := br_pow x (expN N)
        have o1 : expN N * br p ≤ 6 * br p := Nat.mul_le_mul_right _ hN
        have o2 : expN N * br q ≤ 6 * br q := Nat.mul_le_mul_right _ hN
        have o3 : expN N * br x ≤ 6 * br x := Nat.mul_le_mul_right _ hN
        try simp only [go_sem, Nat.reduceEqDiff, Nat.reduceAdd, Bool.false_eq_true, Nat.reduceBEq, ↓reduceIte]
        first | refine ev_call (shas_ok _ _ _ p q x h1 h5 (by omega)) ?_ | refine ev_callP (shas_ok _ _ _ p q x h1 h5 (by omega)) ?_
        rintro v_22 H_22 le_22 rfl _
        replace h1 := h1.le le_22
        replace h3 := h3.le le_22
        replace h5 := h5.le le_22
        replace h6 := h6.le le_22
        try simp only [go_sem, Nat.reduceEqDiff, Nat.reduceAdd, Bool.false_eq_true, Nat.reduceBEq, ↓reduceIte]
        rw [decide_eq_true hx]
        try simp only [go_sem, Nat.reduceEqDiff, Nat.reduceAdd, Bool.false_eq_true, Nat.reduceBEq, ↓reduceIte]
        first | refine ev_call (shas_ok _ _ _ u w y h3 h6 (by omega)) ?_ | refine ev_callP (shas_ok _ _ _ u w y h3 h6 (by omega)) ?_
        rintro v_23 H_23 le_23 rfl _
        replace h1 := h1.le le_23
        replace h3 := h3.le le_23
        replace h5 := h5.le le_23
        replace h6 := h6.le le_23
        try simp only [go_sem, Nat.reduceEqDiff, Nat.reduceAdd, Bool.false_eq_true, Nat.reduceBEq, ↓reduceIte]
        rw [decide_eq_true hy]
        try simp only [go_sem, Nat.reduceEqDiff, Nat.reduceAdd, Bool.false_eq_true, Nat.reduceBEq, ↓reduceIte]
        first | refine ev_call (sadd_ok _ _ _ p q u w h1 h3 (by omega)) ?_ | refine ev_callP (sadd_ok _ _ _ p q u w h1 h3 (by omega)) ?_
        rintro v_24 H_24 le_24 g1 _
        replace h1 := h1.le le_24
        replace h3 := h3.le le_24
        replace h5 := h5.le le_24
        replace h6 := h6.le le_24
        try simp only [go_sem, Nat.reduceEqDiff, Nat.reduceAdd, Bool.false_eq_true, Nat.reduceBEq, ↓reduceIte]
        first | refine ev_call (radd'_ok _ _ _ x y h5 h6 (by omega)) ?_ | refine ev_callP (radd'_ok _ _ _ x y h5 h6 (by omega)) ?_
        rintro v_25 H_25 le_25 g2 _
        replace h1 := h1.le le_25
        replace h3 := h3.le le_25
        replace h5 := h5.le le_25
        replace h6 := h6.le le_25
        replace g1 := g1.le le_25
        try simp only [go_sem, Nat.reduceEqDiff, Nat.reduceAdd, Bool.false_eq_true, Nat.reduceBEq, ↓reduceIte]
        first | refine ev_call (shas_ok _ _ _ _ _ _ g1 g2 (by omega)) ?_ | refine ev_callP (shas_ok _ _ _ _ _ _ g1 g2 (by omega)) ?_
        rintro v_26 H_26 le_26 rfl _
        replace h1 := h1.le le_26
        replace h3 := h3.le le_26
        replace h5 := h5.le le_26
        replace h6 := h6.le le_26
        try simp only [go_sem, Nat.reduceEqDiff, Nat.reduceAdd, Bool.false_eq_true, Nat.reduceBEq, ↓reduceIte]
        rw [decide_eq_true (show p + u ≤ x + y ∧ x + y ≤ q + w by have := hx.1; have := hx.2; have := hy.1; have := hy.2; constructor <;> grind)]
        try simp only [go_sem, Nat.reduceEqDiff, Nat.reduceAdd, Bool.false_eq_true, Nat.reduceBEq, ↓reduceIte]
        first | refine ev_call (ssub_ok _ _ _ p q u w h1 h3 (by omega)) ?_ | refine ev_callP (ssub_ok _ _ _ p q u w h1 h3 (by omega)) ?_
        rintro v_27 H_27 le_27 g1 _
        replace h1 := h1.le le_27
        replace h3 := h3.le le_27
        replace h5 := h5.le le_27
        replace h6 := h6.le le_27
        try simp only [go_sem, Nat.reduceEqDiff, Nat.reduceAdd, Bool.false_eq_true, Nat.reduceBEq, ↓reduceIte]
        first | refine ev_call (rsub'_ok _ _ _ x y h5 h6 (by omega)) ?_ | refine ev_callP (rsub'_ok _ _ _ x y h5 h6 (by omega)) ?_
        rintro v_28 H_28 le_28 g2 _
        replace h1 := h1.le le_28
        replace h3 := h3.le le_28
        replace h5 := h5.le le_28
        replace h6 := h6.le le_28
        replace g1 := g1.le le_28
        try simp only [go_sem, Nat.reduceEqDiff, Nat.reduceAdd, Bool.false_eq_true, Nat.reduceBEq, ↓reduceIte]
        first | refine ev_call (shas_ok _ _ _ _ _ _ g1 g2 (by omega)) ?_ | refine ev_callP (shas_ok _ _ _ _ _ _ g1 g2 (by omega)) ?_
        rintro v_29 H_29 le_29 rfl _
        replace h1 := h1.le le_29
        replace h3 := h3.le le_29
        replace h5 := h5.le le_29
        replace h6 := h6.le le_29
        try simp only [go_sem, Nat.reduceEqDiff, Nat.reduceAdd, Bool.false_eq_true, Nat.reduceBEq, ↓reduceIte]
        rw [decide_eq_true (show p - w ≤ x - y ∧ x - y ≤ q - u by have := hx.1; have := hx.2; have := hy.1; have := hy.2; constructor <;> grind)]
        try simp only [go_sem, Nat.reduceEqDiff, Nat.reduceAdd, Bool.false_eq_true, Nat.reduceBEq, ↓reduceIte]
        first | refine ev_call (smul_ok _ _ _ p q u w h1 h3 (by omega)) ?_ | refine ev_callP (smul_ok _ _ _ p q u w h1 h3 (by omega)) ?_
        rintro v_30 H_30 le_30 g1 _
        replace h1 := h1.le le_30
        replace h3 := h3.le le_30
        replace h5 := h5.le le_30
        replace h6 := h6.le le_30
        try simp only [go_sem, Nat.reduceEqDiff, Nat.reduceAdd, Bool.false_eq_true, Nat.reduceBEq, ↓reduceIte]
        first | refine ev_call (rmul'_ok _ _ _ x y h5 h6 (by omega)) ?_ | refine ev_callP (rmul'_ok _ _ _ x y h5 h6 (by omega)) ?_
        rintro v_31 H_31 le_31 g2 _
        replace h1 := h1.le le_31
        replace h3 := h3.le le_31
        replace h5 := h5.le le_31
        replace h6 := h6.le le_31
        replace g1 := g1.le le_31
        try simp only [go_sem, Nat.reduceEqDiff, Nat.reduceAdd, Bool.false_eq_true, Nat.reduceBEq, ↓reduceIte]
        first | refine ev_call (shas_ok _ _ _ _ _ _ g1 g2 (by omega)) ?_ | refine ev_callP (shas_ok _ _ _ _ _ _ g1 g2 (by omega)) ?_
        rintro v_32 H_32 le_32 rfl _
        replace h1 := h1.le le_32
        replace h3 := h3.le le_32
        replace h5 := h5.le le_32
        replace h6 := h6.le le_32
        try simp only [go_sem, Nat.reduceEqDiff, Nat.reduceAdd, Bool.false_eq_true, Nat.reduceBEq, ↓reduceIte]
        rw [decide_eq_true (has_mul hx.1 hx.2 hy.1 hy.2)]
        try simp only [go_sem, Nat.reduceEqDiff, Nat.reduceAdd, Bool.false_eq_true, Nat.reduceBEq, ↓reduceIte]
        first | refine ev_call (sscale_ok _ _ _ p q y h1 h6 (by omega)) ?_ | refine ev_callP (sscale_ok _ _ _ p q y h1 h6 (by omega)) ?_
        rintro v_33 H_33 le_33 g1 _
        replace h1 := h1.le le_33
        replace h5 := h5.le le_33
        replace h6 := h6.le le_33
        try simp only [go_sem, Nat.reduceEqDiff, Nat.reduceAdd, Bool.false_eq_true, Nat.reduceBEq, ↓reduceIte]
        first | refine ev_call (rmul'_ok _ _ _ x y h5 h6 (by omega)) ?_ | refine ev_callP (rmul'_ok _ _ _ x y h5 h6 (by omega)) ?_
        rintro v_34 H_34 le_34 g2 _
        replace h1 := h1.le le_34
        replace h5 := h5.le le_34
        replace g1 := g1.le le_34
        try simp only [go_sem, Nat.reduceEqDiff, Nat.reduceAdd, Bool.false_eq_true, Nat.reduceBEq, ↓reduceIte]
        first | refine ev_call (shas_ok _ _ _ _ _ _ g1 g2 (by omega)) ?_ | refine ev_callP (shas_ok _ _ _ _ _ _ g1 g2 (by omega)) ?_
        rintro v_35 H_35 le_35 rfl _
        replace h1 := h1.le le_35
        replace h5 := h5.le le_35
        try simp only [go_sem, Nat.reduceEqDiff, Nat.reduceAdd, Bool.false_eq_true, Nat.reduceBEq, ↓reduceIte]
        rw [decide_eq_true (lin y hx.1 hx.2)]
        try simp only [go_sem, Nat.reduceEqDiff, Nat.reduceAdd, Bool.false_eq_true, Nat.reduceBEq, ↓reduceIte]
        first | refine ev_call (spow_ok _ _ p q N h1 (by omega)) ?_ | refine ev_callP (spow_ok _ _ p q N h1 (by omega)) ?_
        rintro v_36 H_36 le_36 g1 _
        replace h5 := h5.le le_36
        try simp only [go_sem, Nat.reduceEqDiff, Nat.reduceAdd, Bool.false_eq_true, Nat.reduceBEq, ↓reduceIte]
        first | refine ev_call (rpow'_ok _ _ x N h5 (by omega)) ?_ | refine ev_callP (rpow'_ok _ _ x N h5 (by omega)) ?_
        rintro v_37 H_37 le_37 g2 _
        replace g1 := g1.le le_37
        try simp only [go_sem, Nat.reduceEqDiff, Nat.reduceAdd, Bool.false_eq_true, Nat.reduceBEq, ↓reduceIte]
        first | refine ev_call (shas_ok _ _ _ _ _ _ g1 g2 (by omega)) ?_ | refine ev_callP (shas_ok _ _ _ _ _ _ g1 g2 (by omega)) ?_
        rintro v_38 H_38 le_38 rfl _
        try simp only [go_sem, Nat.reduceEqDiff, Nat.reduceAdd, Bool.false_eq_true, Nat.reduceBEq, ↓reduceIte]
        rw [decide_eq_true (has_pow hx.1 hx.2 (expN N))]
        try simp only [go_sem, Nat.reduceEqDiff, Nat.reduceAdd, Bool.false_eq_true, Nat.reduceBEq, ↓reduceIte]
        exact ⟨by trivial, by trivial⟩

set_option maxHeartbeats 4000000 in
theorem SpanMore_ok (H : PH) (a1 : ByteArray) (ha1 : a1.size ≤ 9223372036854775807) (a2 : ByteArray) (ha2 : a2.size ≤ 9223372036854775807) (b1 : ByteArray) (hb1 : b1.size ≤ 9223372036854775807) (b2 : ByteArray) (hb2 : b2.size ≤ 9223372036854775807) (i : Int) (wi : (Lit.int .i64 i).wf = true) (k : Int) (wk : (Lit.int .i64 k).wf = true) : FnP Tryz.prog 5 [.agg #[.string a1, .string a2], .agg #[.string b1, .string b2], .int .i64 i, .int .i64 k] H fun v _ => v = .bool true := by
  have hi := i64_of_wf wi
  have hk' := i64_of_wf wk
  refine of_cincturelaw5_SpanMore (by simp) ?_
  try simp only [go_sem, Nat.reduceEqDiff, Nat.reduceAdd, Bool.false_eq_true, Nat.reduceBEq, ↓reduceIte, p_cincturelaw5_SpanMore]
  first | refine ev_call (ofS_ok _ a1 a2 ha1 ha2) ?_ | refine ev_callP (ofS_ok _ a1 a2 ha1 ha2) ?_
  rintro v_1 H_1 le_1 ⟨va, ra, rfl, h1, h2⟩ _
  try simp only [go_sem, Nat.reduceEqDiff, Nat.reduceAdd, Bool.false_eq_true, Nat.reduceBEq, ↓reduceIte]
  obtain ⟨A1, l1, c1, t1, B1, m1, e1, A1', l1', c1', t1', B1', m1', e1', rfl⟩ := h1.form
  obtain ⟨t2, A2, l2, c2, B2, m2, e2, t2', A2', l2', c2', B2', m2', e2', rfl⟩ := h2.form
  try simp only [go_sem, Nat.reduceEqDiff, Nat.reduceAdd, Bool.false_eq_true, Nat.reduceBEq, ↓reduceIte]
  first | refine ev_call (ofS_ok _ b1 b2 hb1 hb2) ?_ | refine ev_callP (ofS_ok _ b1 b2 hb1 hb2) ?_
  rintro v_2 H_2 le_2 ⟨vb, rb, rfl, h3, h4⟩ _
  replace h1 := h1.le le_2
  replace h2 := h2.le le_2
  try simp only [go_sem, Nat.reduceEqDiff, Nat.reduceAdd, Bool.false_eq_true, Nat.reduceBEq, ↓reduceIte]
  obtain ⟨A3, l3, c3, t3, B3, m3, e3, A3', l3', c3', t3', B3', m3', e3', rfl⟩ := h3.form
  obtain ⟨t4, A4, l4, c4, B4, m4, e4, t4', A4', l4', c4', B4', m4', e4', rfl⟩ := h4.form
  try simp only [go_sem, Nat.reduceEqDiff, Nat.reduceAdd, Bool.false_eq_true, Nat.reduceBEq, ↓reduceIte]
  cases hk : soOk a1 a2 with
  | false =>
    try simp only [go_sem, Nat.reduceEqDiff, Nat.reduceAdd, Bool.false_eq_true, Nat.reduceBEq, ↓reduceIte, hk]
    first | refine ev_call (aliveS_ok _) ?_ | refine ev_callP (aliveS_ok _) ?_
    rintro v_4 H_4 le_4 rfl _
    try simp only [go_sem, Nat.reduceEqDiff, Nat.reduceAdd, Bool.false_eq_true, Nat.reduceBEq, ↓reduceIte]
    exact ⟨by trivial, by trivial⟩
  | true =>
    cases hk2 : soOk b1 b2 with
    | false =>
      try simp only [go_sem, Nat.reduceEqDiff, Nat.reduceAdd, Bool.false_eq_true, Nat.reduceBEq, ↓reduceIte, hk, hk2]
      first | refine ev_call (aliveS_ok _) ?_ | refine ev_callP (aliveS_ok _) ?_
      rintro v_4 H_4 le_4 rfl _
      try simp only [go_sem, Nat.reduceEqDiff, Nat.reduceAdd, Bool.false_eq_true, Nat.reduceBEq, ↓reduceIte]
      exact ⟨by trivial, by trivial⟩
    | true =>
      rw [hk, if_pos rfl, if_pos rfl] at h1 h2
      rw [hk2, if_pos rfl, if_pos rfl] at h3 h4
      obtain ⟨kp, kq, hpq, htp, htq, _, _, _⟩ := soOk_br hk
      obtain ⟨kr, ks, hrs, htr, hts, _, _, _⟩ := soOk_br hk2
      generalize rv (bs a1) = p at *
      generalize rv (bs a2) = q at *
      generalize rv (bs b1) = u at *
      generalize rv (bs b2) = w at *
      try simp only [go_sem, Nat.reduceEqDiff, Nat.reduceAdd, Bool.false_eq_true, Nat.reduceBEq, ↓reduceIte, hk, hk2]
      first | refine ev_call (aliveS_ok _) ?_ | refine ev_callP (aliveS_ok _) ?_
      rintro v_39 H_39 le_39 rfl _
      replace h1 := h1.le le_39
      replace h3 := h3.le le_39
      try simp only [go_sem, Nat.reduceEqDiff, Nat.reduceAdd, Bool.false_eq_true, Nat.reduceBEq, ↓reduceIte]
      have wI := @wth_bd i 0 8 (by decide)
      have wK := @wth_bd k 0 8 (by decide)
      have hlo : (if wth k 0 8 < wth i 0 8 then wth k 0 8 else wth i 0 8) = min (wth i 0 8) (wth k 0 8) := by split <;> omega
      have hhi : (if wth i 0 8 < wth k 0 8 then wth k 0 8 else wth i 0 8) = max (wth i 0 8) (wth k 0 8) := by split <;> omega
      have we1 := wth_id (k := min (wth i 0 8) (wth k 0 8)) (by omega) (by omega)
      have we2 := wth_id (k := max (wth i 0 8) (wth k 0 8)) (by omega) (by omega)
      have hx := has_ins hpq (k := min (wth i 0 8) (wth k 0 8)) (by omega) (by omega)
      have hy := has_ins hpq (k := max (wth i 0 8) (wth k 0 8)) (by omega) (by omega)
      have hxy := ins_mono hpq (k := min (wth i 0 8) (wth k 0 8)) (l := max (wth i 0 8) (wth k 0 8)) (by omega)
      have bx := @br_ins p q (min (wth i 0 8) (wth k 0 8)) (by omega) (by omega)
      have by' := @br_ins p q (max (wth i 0 8) (wth k 0 8)) (by omega) (by omega)
      refine ev_cut (fun s => ∃ H' A5 l5 c5 t5 B5 m5 e5 A6 l6 c6 t6 B6 m6 e6, SpanV H' (.agg #[.slice A1 l1 c1, .bool t1, .slice B1 m1 e1, .slice A1' l1' c1', .bool t1', .slice B1' m1' e1']) p q ∧ SpanV H' (.agg #[.slice A3 l3 c3, .bool t3, .slice B3 m3 e3, .slice A3' l3' c3', .bool t3', .slice B3' m3' e3']) u w ∧
        SpanV H' (.agg #[.slice A5 l5 c5, .bool t5, .slice B5 m5 e5, .slice A6 l6 c6, .bool t6, .slice B6 m6 e6]) (ins p q (min (wth i 0 8) (wth k 0 8))) (ins p q (max (wth i 0 8) (wth k 0 8))) ∧
        s = ⟨[(16, .v (.bool true)), (15, .ptr 15 0), (12, .ptr 12 0), (9, .ptr 9 0)], [(15, [.slice A5 l5 c5, .bool t5, .slice B5 m5 e5, .slice A6 l6 c6, .bool t6, .slice B6 m6 e6]), (12, [.slice A3 l3 c3, .bool t3, .slice B3 m3 e3, .slice A3' l3' c3', .bool t3', .slice B3' m3' e3']), (9, [.slice A1 l1 c1, .bool t1, .slice B1 m1 e1, .slice A1' l1' c1', .bool t1', .slice B1' m1' e1'])], H', PH.no⟩) ?_ ?_
      · try simp only [go_sem, Nat.reduceEqDiff, Nat.reduceAdd, Bool.false_eq_true, Nat.reduceBEq, ↓reduceIte]
        repeat' (with_reducible refine And.intro ?_ ?_)
        all_goals
          first | refine ev_call (within_ok _ i 0 8 (by omega) (by omega) (by decide) (by decide) (by decide)) ?_ | refine ev_callP (within_ok _ i 0 8 (by omega) (by omega) (by decide) (by decide) (by decide)) ?_
          rintro v_40 H_40 le_40 rfl _
          replace h1 := h1.le le_40
          replace h3 := h3.le le_40
          try simp only [go_sem, Nat.reduceEqDiff, Nat.reduceAdd, Bool.false_eq_true, Nat.reduceBEq, ↓reduceIte]
          repeat' (with_reducible refine And.intro ?_ ?_)
          all_goals
            first | refine ev_call (within_ok _ k 0 8 (by omega) (by omega) (by decide) (by decide) (by decide)) ?_ | refine ev_callP (within_ok _ k 0 8 (by omega) (by omega) (by decide) (by decide) (by decide)) ?_
            rintro v_41 H_41 le_41 rfl _
            replace h1 := h1.le le_41
            replace h3 := h3.le le_41
            try simp only [go_sem, Nat.reduceEqDiff, Nat.reduceAdd, Bool.false_eq_true, Nat.reduceBEq, ↓reduceIte]
            rw [hlo]
            repeat' (with_reducible refine And.intro ?_ ?_)
            all_goals
              first | refine ev_call (inside_ok _ _ p q (min (wth i 0 8) (wth k 0 8)) (by omega) (by omega) h1 (by omega)) ?_ | refine ev_callP (inside_ok _ _ p q (min (wth i 0 8) (wth k 0 8)) (by omega) (by omega) h1 (by omega)) ?_
              rintro v_42 H_42 le_42 g1 _
              replace h1 := h1.le le_42
              replace h3 := h3.le le_42
              try simp only [go_sem, Nat.reduceEqDiff, Nat.reduceAdd, Bool.false_eq_true, Nat.reduceBEq, ↓reduceIte]
              rw [we1] at g1
              repeat' (with_reducible refine And.intro ?_ ?_)
              all_goals
                first | refine ev_call (within_ok _ i 0 8 (by omega) (by omega) (by decide) (by decide) (by decide)) ?_ | refine ev_callP (within_ok _ i 0 8 (by omega) (by omega) (by decide) (by decide) (by decide)) ?_
                rintro v_43 H_43 le_43 rfl _
                replace h1 := h1.le le_43
                replace h3 := h3.le le_43
                replace g1 := g1.le le_43
                try simp only [go_sem, Nat.reduceEqDiff, Nat.reduceAdd, Bool.false_eq_true, Nat.reduceBEq, ↓reduceIte]
                repeat' (with_reducible refine And.intro ?_ ?_)
                all_goals
                  first | refine ev_call (within_ok _ k 0 8 (by omega) (by omega) (by decide) (by decide) (by decide)) ?_ | refine ev_callP (within_ok _ k 0 8 (by omega) (by omega) (by decide) (by decide) (by decide)) ?_
                  rintro v_44 H_44 le_44 rfl _
                  replace h1 := h1.le le_44
                  replace h3 := h3.le le_44
                  replace g1 := g1.le le_44
                  try simp only [go_sem, Nat.reduceEqDiff, Nat.reduceAdd, Bool.false_eq_true, Nat.reduceBEq, ↓reduceIte]
                  rw [hhi]
                  repeat' (with_reducible refine And.intro ?_ ?_)
                  all_goals
                    first | refine ev_call (inside_ok _ _ p q (max (wth i 0 8) (wth k 0 8)) (by omega) (by omega) h1 (by omega)) ?_ | refine ev_callP (inside_ok _ _ p q (max (wth i 0 8) (wth k 0 8)) (by omega) (by omega) h1 (by omega)) ?_
                    rintro v_45 H_45 le_45 g2 _
                    replace h1 := h1.le le_45
                    replace h3 := h3.le le_45
                    replace g1 := g1.le le_45
                    try simp only [go_sem, Nat.reduceEqDiff, Nat.reduceAdd, Bool.false_eq_true, Nat.reduceBEq, ↓reduceIte]
                    rw [we2] at g2
                    repeat' (with_reducible refine And.intro ?_ ?_)
                    all_goals
                      first | refine ev_call (snew_ok _ _ _ _ _ g1 g2 (by omega)) ?_ | refine ev_callP (snew_ok _ _ _ _ _ g1 g2 (by omega)) ?_
                      rintro v_46 H_46 le_46 ⟨v9, rfl, g3⟩ _
                      replace h1 := h1.le le_46
                      replace h3 := h3.le le_46
                      try simp only [go_sem, Nat.reduceEqDiff, Nat.reduceAdd, Bool.false_eq_true, Nat.reduceBEq, ↓reduceIte]
                      rw [if_pos hxy, if_pos hxy] at g3
                      obtain ⟨A5, l5, c5, t5, B5, m5, e5, A6, l6, c6, t6, B6, m6, e6, rfl⟩ := g3.form
                      rw [decide_eq_true hxy]
                      try simp only [go_sem, Nat.reduceEqDiff, Nat.reduceAdd, Bool.false_eq_true, Nat.reduceBEq, ↓reduceIte]
                      exact k_cut _ ⟨_, _, _, _, _, _, _, _, _, _, _, _, _, _, _, h1, h3, g3, rfl⟩ ⟨rfl, by simp only [go_sem, Nat.reduceEqDiff, Nat.reduceAdd, Bool.false_eq_true, Nat.reduceBEq, ↓reduceIte, and_self, Option.some.injEq, SV.v.injEq, SV.ptr.injEq, Value.int.injEq, Value.bool.injEq, Value.slice.injEq, true_and, and_true] <;> (repeat' apply And.intro) <;> first | rfl | omega | (simp (disch := omega) only [w64, wu64, wu32, wu8] <;> omega), by simp only [go_sem, Nat.reduceEqDiff, Nat.reduceAdd, Bool.false_eq_true, Nat.reduceBEq, ↓reduceIte, and_self, Option.some.injEq, SV.v.injEq, SV.ptr.injEq, Value.int.injEq, Value.bool.injEq, Value.slice.injEq, true_and, and_true] <;> (repeat' apply And.intro) <;> rfl, rfl, PH.le.refl _⟩
      · rintro s ⟨H2, A5, l5, c5, t5, B5, m5, e5, A6, l6, c6, t6, B6, m6, e6, h1, h3, h5, rfl⟩
        generalize ins p q (min (wth i 0 8) (wth k 0 8)) = x at *
        generalize ins p q (max (wth i 0 8) (wth k 0 8)) = y at *
        have s1 := br_add p u
        have s2 := br_add q w
        have s3 := br_add x u
        have s4 := br_add y w
        have s5 := br_mulLo p q u w
        have s6 := br_mulHi p q u w
        have s7 := br_mulLo x y u w
        have s8 := br_mulHi x y u w
        have s14 := br_powLo p q (expN 2)
        have s15 := br_powHi p q (expN 2)
        have s16 := br_powLo x y (expN 2)
        have s17 := br_powHi x y (expN 2)
        have s18 := br_min p u
        have s19 := br_max q w
        have e2 : expN 2 = 2 := by decide
        rw [e2] at s14 s15 s16 s17
        try simp only [go_sem, Nat.reduceEqDiff, Nat.reduceAdd, Bool.false_eq_true, Nat.reduceBEq, ↓reduceIte]
        first | refine ev_call (swithin_ok _ _ _ x y p q h5 h1 (by omega)) ?_ | refine ev_callP (swithin_ok _ _ _ x y p q h5 h1 (by omega)) ?_
        rintro v_47 H_47 le_47 rfl _
        replace h1 := h1.le le_47
        replace h3 := h3.le le_47
        replace h5 := h5.le le_47
        try simp only [go_sem, Nat.reduceEqDiff, Nat.reduceAdd, Bool.false_eq_true, Nat.reduceBEq, ↓reduceIte]
        rw [decide_eq_true (show p ≤ x ∧ y ≤ q from ⟨hx.1, hy.2⟩)]
        try simp only [go_sem, Nat.reduceEqDiff, Nat.reduceAdd, Bool.false_eq_true, Nat.reduceBEq, ↓reduceIte]
        first | refine ev_call (sadd_ok _ _ _ x y u w h5 h3 (by omega)) ?_ | refine ev_callP (sadd_ok _ _ _ x y u w h5 h3 (by omega)) ?_
        rintro v_48 H_48 le_48 g1 _
        replace h1 := h1.le le_48
        replace h3 := h3.le le_48
        replace h5 := h5.le le_48
        try simp only [go_sem, Nat.reduceEqDiff, Nat.reduceAdd, Bool.false_eq_true, Nat.reduceBEq, ↓reduceIte]
        first | refine ev_call (sadd_ok _ _ _ p q u w h1 h3 (by omega)) ?_ | refine ev_callP (sadd_ok _ _ _ p q u w h1 h3 (by omega)) ?_
        rintro v_49 H_49 le_49 g2 _
        replace h1 := h1.le le_49
        replace h3 := h3.le le_49
        replace h5 := h5.le le_49
        replace g1 := g1.le le_49
        try simp only [go_sem, Nat.reduceEqDiff, Nat.reduceAdd, Bool.false_eq_true, Nat.reduceBEq, ↓reduceIte]
        first | refine ev_call (swithin_ok _ _ _ _ _ _ _ g1 g2 (by omega)) ?_ | refine ev_callP (swithin_ok _ _ _ _ _ _ _ g1 g2 (by omega)) ?_
        rintro v_50 H_50 le_50 rfl _
        replace h1 := h1.le le_50
        replace h3 := h3.le le_50
        replace h5 := h5.le le_50
        try simp only [go_sem, Nat.reduceEqDiff, Nat.reduceAdd, Bool.false_eq_true, Nat.reduceBEq, ↓reduceIte]
        rw [decide_eq_true (show p + u ≤ x + u ∧ y + w ≤ q + w by have := hx.1; have := hy.2; constructor <;> grind)]
        try simp only [go_sem, Nat.reduceEqDiff, Nat.reduceAdd, Bool.false_eq_true, Nat.reduceBEq, ↓reduceIte]
        first | refine ev_call (smul_ok _ _ _ x y u w h5 h3 (by omega)) ?_ | refine ev_callP (smul_ok _ _ _ x y u w h5 h3 (by omega)) ?_
        rintro v_51 H_51 le_51 g1 _
        replace h1 := h1.le le_51
        replace h3 := h3.le le_51
        replace h5 := h5.le le_51
        try simp only [go_sem, Nat.reduceEqDiff, Nat.reduceAdd, Bool.false_eq_true, Nat.reduceBEq, ↓reduceIte]
        first | refine ev_call (smul_ok _ _ _ p q u w h1 h3 (by omega)) ?_ | refine ev_callP (smul_ok _ _ _ p q u w h1 h3 (by omega)) ?_
        rintro v_52 H_52 le_52 g2 _
        replace h1 := h1.le le_52
        replace h3 := h3.le le_52
        replace h5 := h5.le le_52
        replace g1 := g1.le le_52
        try simp only [go_sem, Nat.reduceEqDiff, Nat.reduceAdd, Bool.false_eq_true, Nat.reduceBEq, ↓reduceIte]
        first | refine ev_call (swithin_ok _ _ _ _ _ _ _ g1 g2 (by omega)) ?_ | refine ev_callP (swithin_ok _ _ _ _ _ _ _ g1 g2 (by omega)) ?_
        rintro v_53 H_53 le_53 rfl _
        replace h1 := h1.le le_53
        replace h3 := h3.le le_53
        replace h5 := h5.le le_53
        try simp only [go_sem, Nat.reduceEqDiff, Nat.reduceAdd, Bool.false_eq_true, Nat.reduceBEq, ↓reduceIte]
        rw [decide_eq_true (mul_within hx.1 hxy hy.2 hrs)]
        try simp only [go_sem, Nat.reduceEqDiff, Nat.reduceAdd, Bool.false_eq_true, Nat.reduceBEq, ↓reduceIte]
        first | refine ev_call (spow_ok _ _ x y 2 h5 (by omega)) ?_ | refine ev_callP (spow_ok _ _ x y 2 h5 (by omega)) ?_
        rintro v_54 H_54 le_54 g1 _
        replace h1 := h1.le le_54
        replace h3 := h3.le le_54
        try simp only [go_sem, Nat.reduceEqDiff, Nat.reduceAdd, Bool.false_eq_true, Nat.reduceBEq, ↓reduceIte]
        first | refine ev_call (spow_ok _ _ p q 2 h1 (by omega)) ?_ | refine ev_callP (spow_ok _ _ p q 2 h1 (by omega)) ?_
        rintro v_55 H_55 le_55 g2 _
        replace h1 := h1.le le_55
        replace h3 := h3.le le_55
        replace g1 := g1.le le_55
        try simp only [go_sem, Nat.reduceEqDiff, Nat.reduceAdd, Bool.false_eq_true, Nat.reduceBEq, ↓reduceIte]
        first | refine ev_call (swithin_ok _ _ _ _ _ _ _ g1 g2 (by rw [e2]; omega)) ?_ | refine ev_callP (swithin_ok _ _ _ _ _ _ _ g1 g2 (by rw [e2]; omega)) ?_
        rintro v_56 H_56 le_56 rfl _
        replace h1 := h1.le le_56
        replace h3 := h3.le le_56
        try simp only [go_sem, Nat.reduceEqDiff, Nat.reduceAdd, Bool.false_eq_true, Nat.reduceBEq, ↓reduceIte]
        rw [decide_eq_true (pow_within hx.1 hxy hy.2 (expN 2))]
        try simp only [go_sem, Nat.reduceEqDiff, Nat.reduceAdd, Bool.false_eq_true, Nat.reduceBEq, ↓reduceIte]
        first | refine ev_call (shull_ok _ _ _ p q u w h1 h3 (by omega)) ?_ | refine ev_callP (shull_ok _ _ _ p q u w h1 h3 (by omega)) ?_
        rintro v_57 H_57 le_57 g1 _
        replace h1 := h1.le le_57
        try simp only [go_sem, Nat.reduceEqDiff, Nat.reduceAdd, Bool.false_eq_true, Nat.reduceBEq, ↓reduceIte]
        first | refine ev_call (swithin_ok _ _ _ _ _ _ _ h1 g1 (by omega)) ?_ | refine ev_callP (swithin_ok _ _ _ _ _ _ _ h1 g1 (by omega)) ?_
        rintro v_58 H_58 le_58 rfl _
        try simp only [go_sem, Nat.reduceEqDiff, Nat.reduceAdd, Bool.false_eq_true, Nat.reduceBEq, ↓reduceIte]
        rw [decide_eq_true (show minR p u ≤ p ∧ q ≤ maxR q w from ⟨minR_l _ _, maxR_l _ _⟩)]
        try simp only [go_sem, Nat.reduceEqDiff, Nat.reduceAdd, Bool.false_eq_true, Nat.reduceBEq, ↓reduceIte]
        exact ⟨by trivial, by trivial⟩

end Go.Proofs.YtpifafenmgceoaaGreat.X
