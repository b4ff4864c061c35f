/- The laws of chapter 5: what both have, what is in what. -/
import Derived.Test.YtpifafenmgceoaaGreatZZ
set_option linter.unusedVariables false
set_option linter.unusedSimpArgs false
namespace Go.Proofs.YtpifafenmgceoaaGreat.X
open Go Go.RowKit Go.Proofs

theorem both_iff {p q u w x : Rat} : (maxR p u ≤ x ∧ x ≤ minR q w) ↔ ((p ≤ x ∧ x ≤ q) ∧ (u ≤ x ∧ x ≤ w)) := by
  constructor
  · rintro ⟨h1, h2⟩
    exact ⟨⟨Rat.le_trans (maxR_l _ _) h1, Rat.le_trans h2 (minR_l _ _)⟩, ⟨Rat.le_trans (maxR_r _ _) h1, Rat.le_trans h2 (minR_r _ _)⟩⟩
  · rintro ⟨⟨h1, h2⟩, ⟨h3, h4⟩⟩
    exact ⟨maxR_le h1 h3, le_minR h2 h4⟩
theorem mid_in {p q : Rat} (h : p ≤ q) : p ≤ (p + q) / 2 ∧ (p + q) / 2 ≤ q := by
  have e : (p + q) / 2 * 2 = p + q := Rat.div_mul_cancel (by decide)
  constructor <;> grind

set_option maxHeartbeats 8000000 in
theorem SpanMeets_ok (H : PH) (a1 : ByteArray) (ha1 : a1.size ≤ 9223372036854775807) (a2 : ByteArray) (ha2 : a2.size ≤ 9223372036854775807) (b1 : ByteArray) (hb1 : b1.size ≤ 9223372036854775807) (b2 : ByteArray) (hb2 : b2.size ≤ 9223372036854775807) (r : ByteArray) (hr : r.size ≤ 9223372036854775807) : FnP Tryz.prog 4 [.agg #[.string a1, .string a2], .agg #[.string b1, .string b2], .string r] H fun v _ => v = .bool true := by
  refine of_cincturelaw5_SpanMeets (by simp) ?_
  try simp only [go_sem, Nat.reduceEqDiff, Nat.reduceAdd, Bool.false_eq_true, Nat.reduceBEq, ↓reduceIte, p_cincturelaw5_SpanMeets]
  first | refine ev_call (ofS_ok _ a1 a2 ha1 ha2) ?_ | refine ev_callP (ofS_ok _ a1 a2 ha1 ha2) ?_
  rintro v_1 H_1 le_1 ⟨va, ra, rfl, h1, h2⟩ _
  try simp only [go_sem, Nat.reduceEqDiff, Nat.reduceAdd, Bool.false_eq_true, Nat.reduceBEq, ↓reduceIte]
  obtain ⟨A1, l1, c1, t1, B1, m1, e1, A1', l1', c1', t1', B1', m1', e1', rfl⟩ := h1.form
  obtain ⟨t2, A2, l2, c2, B2, m2, e2, t2', A2', l2', c2', B2', m2', e2', rfl⟩ := h2.form
  try simp only [go_sem, Nat.reduceEqDiff, Nat.reduceAdd, Bool.false_eq_true, Nat.reduceBEq, ↓reduceIte]
  first | refine ev_call (ofS_ok _ b1 b2 hb1 hb2) ?_ | refine ev_callP (ofS_ok _ b1 b2 hb1 hb2) ?_
  rintro v_2 H_2 le_2 ⟨vb, rb, rfl, h3, h4⟩ _
  replace h1 := h1.le le_2
  replace h2 := h2.le le_2
  try simp only [go_sem, Nat.reduceEqDiff, Nat.reduceAdd, Bool.false_eq_true, Nat.reduceBEq, ↓reduceIte]
  obtain ⟨A3, l3, c3, t3, B3, m3, e3, A3', l3', c3', t3', B3', m3', e3', rfl⟩ := h3.form
  obtain ⟨t4, A4, l4, c4, B4, m4, e4, t4', A4', l4', c4', B4', m4', e4', rfl⟩ := h4.form
  try simp only [go_sem, Nat.reduceEqDiff, Nat.reduceAdd, Bool.false_eq_true, Nat.reduceBEq, ↓reduceIte]
  first | refine ev_call (numQ_ok _ r hr) ?_ | refine ev_callP (numQ_ok _ r hr) ?_
  rintro v_3 H_3 le_3 ⟨vr, rr, rfl, h5, h6⟩ _
  replace h1 := h1.le le_3
  replace h2 := h2.le le_3
  replace h3 := h3.le le_3
  replace h4 := h4.le le_3
  try simp only [go_sem, Nat.reduceEqDiff, Nat.reduceAdd, Bool.false_eq_true, Nat.reduceBEq, ↓reduceIte]
  obtain ⟨A5, l5, c5, t5, B5, m5, e5, rfl⟩ := h5.form
  obtain ⟨t6, A6, l6, c6, B6, m6, e6, rfl⟩ := h6.form
  cases hk : soOk a1 a2 with
  | false =>
    try simp only [go_sem, Nat.reduceEqDiff, Nat.reduceAdd, Bool.false_eq_true, Nat.reduceBEq, ↓reduceIte, hk]
    first | refine ev_call (aliveS_ok _) ?_ | refine ev_callP (aliveS_ok _) ?_
    rintro v_4 H_4 le_4 rfl _
    try simp only [go_sem, Nat.reduceEqDiff, Nat.reduceAdd, Bool.false_eq_true, Nat.reduceBEq, ↓reduceIte]
    exact ⟨by trivial, by trivial⟩
  | true =>
    cases hk2 : soOk b1 b2 with
    | false =>
      try simp only [go_sem, Nat.reduceEqDiff, Nat.reduceAdd, Bool.false_eq_true, Nat.reduceBEq, ↓reduceIte, hk, hk2]
      first | refine ev_call (aliveS_ok _) ?_ | refine ev_callP (aliveS_ok _) ?_
      rintro v_4 H_4 le_4 rfl _
      try simp only [go_sem, Nat.reduceEqDiff, Nat.reduceAdd, Bool.false_eq_true, Nat.reduceBEq, ↓reduceIte]
      exact ⟨by trivial, by trivial⟩
    | true =>
      cases hk3 : qok r with
      | false =>
        try simp only [go_sem, Nat.reduceEqDiff, Nat.reduceAdd, Bool.false_eq_true, Nat.reduceBEq, ↓reduceIte, hk, hk2, hk3]
        first | refine ev_call (aliveS_ok _) ?_ | refine ev_callP (aliveS_ok _) ?_
        rintro v_4 H_4 le_4 rfl _
        try simp only [go_sem, Nat.reduceEqDiff, Nat.reduceAdd, Bool.false_eq_true, Nat.reduceBEq, ↓reduceIte]
        exact ⟨by trivial, by trivial⟩
      | true =>
        rw [hk, if_pos rfl, if_pos rfl] at h1 h2
        rw [hk2, if_pos rfl, if_pos rfl] at h3 h4
        obtain ⟨kp, kq, hpq, htp, htq, _, _, _⟩ := soOk_br hk
        obtain ⟨kr, ks, hrs, htr, hts, _, _, _⟩ := soOk_br hk2
        rw [hk3, if_pos rfl] at h5 h6
        obtain ⟨kx, _, _⟩ := qok_br hk3
        generalize rv (bs a1) = p at *
        generalize rv (bs a2) = q at *
        generalize rv (bs b1) = u at *
        generalize rv (bs b2) = w at *
        generalize rv (bs r) = x at *
        have s1 := br_max p u
        have s2 := br_min q w
        have s3 := br_add p q
        have s4 := br_div (p + q) 2
        have s5 : br 2 = 2 := by decide +kernel
        try simp only [go_sem, Nat.reduceEqDiff, Nat.reduceAdd, Bool.false_eq_true, Nat.reduceBEq, ↓reduceIte, hk, hk2, hk3]
        first | refine ev_call (aliveS_ok _) ?_ | refine ev_callP (aliveS_ok _) ?_
        rintro v_5 H_5 le_5 rfl _
        replace h1 := h1.le le_5
        replace h3 := h3.le le_5
        replace h5 := h5.le le_5
        try simp only [go_sem, Nat.reduceEqDiff, Nat.reduceAdd, Bool.false_eq_true, Nat.reduceBEq, ↓reduceIte]
        first | refine ev_call (smeet_ok _ _ _ p q u w h1 h3 (by omega)) ?_ | refine ev_callP (smeet_ok _ _ _ p q u w h1 h3 (by omega)) ?_
        rintro v_6 H_6 le_6 ⟨v7, rfl, h7⟩ _
        replace h1 := h1.le le_6
        replace h3 := h3.le le_6
        replace h5 := h5.le le_6
        try simp only [go_sem, Nat.reduceEqDiff, Nat.reduceAdd, Bool.false_eq_true, Nat.reduceBEq, ↓reduceIte]
        obtain ⟨A7, l7, c7, t7, B7, m7, e7, A7', l7', c7', t7', B7', m7', e7', rfl⟩ := h7.form
        try simp only [go_sem, Nat.reduceEqDiff, Nat.reduceAdd, Bool.false_eq_true, Nat.reduceBEq, ↓reduceIte]
        first | refine ev_call (shas_ok _ _ _ p q x h1 h5 (by omega)) ?_ | refine ev_callP (shas_ok _ _ _ p q x h1 h5 (by omega)) ?_
        rintro v_7 H_7 le_7 rfl _
        replace h1 := h1.le le_7
        replace h3 := h3.le le_7
        replace h5 := h5.le le_7
        replace h7 := h7.le le_7
        try simp only [go_sem, Nat.reduceEqDiff, Nat.reduceAdd, Bool.false_eq_true, Nat.reduceBEq, ↓reduceIte]
        by_cases hin : maxR p u ≤ minR q w
        · rw [if_pos hin, if_pos hin] at h7
          rw [decide_eq_true hin]
          by_cases hx1 : p ≤ x ∧ x ≤ q
          · rw [decide_eq_true hx1]
            try simp only [go_sem, Nat.reduceEqDiff, Nat.reduceAdd, Bool.false_eq_true, Nat.reduceBEq, ↓reduceIte]
            first | refine ev_call (shas_ok _ _ _ u w x h3 h5 (by omega)) ?_ | refine ev_callP (shas_ok _ _ _ u w x h3 h5 (by omega)) ?_
            rintro v_14 H_14 le_14 rfl _
            replace h1 := h1.le le_14
            replace h3 := h3.le le_14
            replace h5 := h5.le le_14
            replace h7 := h7.le le_14
            try simp only [go_sem, Nat.reduceEqDiff, Nat.reduceAdd, Bool.false_eq_true, Nat.reduceBEq, ↓reduceIte]
            by_cases hx2 : u ≤ x ∧ x ≤ w
            · rw [decide_eq_true hx2]
              try simp only [go_sem, Nat.reduceEqDiff, Nat.reduceAdd, Bool.false_eq_true, Nat.reduceBEq, ↓reduceIte]
              first | refine ev_call (shas_ok _ _ _ _ _ x h7 h5 (by omega)) ?_ | refine ev_callP (shas_ok _ _ _ _ _ x h7 h5 (by omega)) ?_
              rintro v_15 H_15 le_15 rfl _
              replace h1 := h1.le le_15
              replace h3 := h3.le le_15
              replace h7 := h7.le le_15
              try simp only [go_sem, Nat.reduceEqDiff, Nat.reduceAdd, Bool.false_eq_true, Nat.reduceBEq, ↓reduceIte]
              rw [decide_eq_true (both_iff.2 ⟨hx1, hx2⟩)]
              try simp only [go_sem, Nat.reduceEqDiff, Nat.reduceAdd, Bool.false_eq_true, Nat.reduceBEq, ↓reduceIte]
              first | refine ev_call (swithin_ok _ _ _ _ _ p q h7 h1 (by omega)) ?_ | refine ev_callP (swithin_ok _ _ _ _ _ p q h7 h1 (by omega)) ?_
              rintro v_12 H_12 le_12 rfl _
              replace h1 := h1.le le_12
              replace h3 := h3.le le_12
              replace h7 := h7.le le_12
              try simp only [go_sem, Nat.reduceEqDiff, Nat.reduceAdd, Bool.false_eq_true, Nat.reduceBEq, ↓reduceIte]
              rw [decide_eq_true (show p ≤ maxR p u ∧ minR q w ≤ q from ⟨maxR_l _ _, minR_l _ _⟩)]
              try simp only [go_sem, Nat.reduceEqDiff, Nat.reduceAdd, Bool.false_eq_true, Nat.reduceBEq, ↓reduceIte]
              first | refine ev_call (swithin_ok _ _ _ _ _ u w h7 h3 (by omega)) ?_ | refine ev_callP (swithin_ok _ _ _ _ _ u w h7 h3 (by omega)) ?_
              rintro v_13 H_13 le_13 rfl _
              replace h1 := h1.le le_13
              replace h3 := h3.le le_13
              try simp only [go_sem, Nat.reduceEqDiff, Nat.reduceAdd, Bool.false_eq_true, Nat.reduceBEq, ↓reduceIte]
              rw [decide_eq_true (show u ≤ maxR p u ∧ minR q w ≤ w from ⟨maxR_r _ _, minR_r _ _⟩)]
              try simp only [go_sem, Nat.reduceEqDiff, Nat.reduceAdd, Bool.false_eq_true, Nat.reduceBEq, ↓reduceIte]
              first | refine ev_call (smid_ok _ _ p q h1 (by omega)) ?_ | refine ev_callP (smid_ok _ _ p q h1 (by omega)) ?_
              rintro v_8 H_8 le_8 g1 _
              replace h1 := h1.le le_8
              replace h3 := h3.le le_8
              try simp only [go_sem, Nat.reduceEqDiff, Nat.reduceAdd, Bool.false_eq_true, Nat.reduceBEq, ↓reduceIte]
              first | refine ev_call (shas_ok _ _ _ p q _ h1 g1 (by omega)) ?_ | refine ev_callP (shas_ok _ _ _ p q _ h1 g1 (by omega)) ?_
              rintro v_9 H_9 le_9 rfl _
              replace h1 := h1.le le_9
              replace h3 := h3.le le_9
              try simp only [go_sem, Nat.reduceEqDiff, Nat.reduceAdd, Bool.false_eq_true, Nat.reduceBEq, ↓reduceIte]
              rw [decide_eq_true (mid_in hpq)]
              try simp only [go_sem, Nat.reduceEqDiff, Nat.reduceAdd, Bool.false_eq_true, Nat.reduceBEq, ↓reduceIte]
              first | refine ev_call (sinside_ok _ _ _ p q u w h1 h3 (by omega)) ?_ | refine ev_callP (sinside_ok _ _ _ p q u w h1 h3 (by omega)) ?_
              rintro v_10 H_10 le_10 rfl _
              replace h1 := h1.le le_10
              replace h3 := h3.le le_10
              try simp only [go_sem, Nat.reduceEqDiff, Nat.reduceAdd, Bool.false_eq_true, Nat.reduceBEq, ↓reduceIte]
              by_cases hi9 : u < p ∧ q < w
              · rw [decide_eq_true hi9]
                try simp only [go_sem, Nat.reduceEqDiff, Nat.reduceAdd, Bool.false_eq_true, Nat.reduceBEq, ↓reduceIte]
                first | refine ev_call (swithin_ok _ _ _ p q u w h1 h3 (by omega)) ?_ | refine ev_callP (swithin_ok _ _ _ p q u w h1 h3 (by omega)) ?_
                rintro v_11 H_11 le_11 rfl _
                try simp only [go_sem, Nat.reduceEqDiff, Nat.reduceAdd, Bool.false_eq_true, Nat.reduceBEq, ↓reduceIte]
                rw [decide_eq_true (show u ≤ p ∧ q ≤ w from ⟨Rat.le_of_lt hi9.1, Rat.le_of_lt hi9.2⟩)]
                try simp only [go_sem, Nat.reduceEqDiff, Nat.reduceAdd, Bool.false_eq_true, Nat.reduceBEq, ↓reduceIte]
                exact ⟨by trivial, by trivial⟩
              · rw [decide_eq_false hi9]
                try simp only [go_sem, Nat.reduceEqDiff, Nat.reduceAdd, Bool.false_eq_true, Nat.reduceBEq, ↓reduceIte]
                exact ⟨by trivial, by trivial⟩
            · rw [decide_eq_false hx2]
              try simp only [go_sem, Nat.reduceEqDiff, Nat.reduceAdd, Bool.false_eq_true, Nat.reduceBEq, ↓reduceIte]
              first | refine ev_call (shas_ok _ _ _ _ _ x h7 h5 (by omega)) ?_ | refine ev_callP (shas_ok _ _ _ _ _ x h7 h5 (by omega)) ?_
              rintro v_16 H_16 le_16 rfl _
              replace h1 := h1.le le_16
              replace h3 := h3.le le_16
              replace h7 := h7.le le_16
              try simp only [go_sem, Nat.reduceEqDiff, Nat.reduceAdd, Bool.false_eq_true, Nat.reduceBEq, ↓reduceIte]
              rw [decide_eq_false (fun h => hx2 (both_iff.1 h).2)]
              try simp only [go_sem, Nat.reduceEqDiff, Nat.reduceAdd, Bool.false_eq_true, Nat.reduceBEq, ↓reduceIte]
              first | refine ev_call (swithin_ok _ _ _ _ _ p q h7 h1 (by omega)) ?_ | refine ev_callP (swithin_ok _ _ _ _ _ p q h7 h1 (by omega)) ?_
              rintro v_12 H_12 le_12 rfl _
              replace h1 := h1.le le_12
              replace h3 := h3.le le_12
              replace h7 := h7.le le_12
              try simp only [go_sem, Nat.reduceEqDiff, Nat.reduceAdd, Bool.false_eq_true, Nat.reduceBEq, ↓reduceIte]
              rw [decide_eq_true (show p ≤ maxR p u ∧ minR q w ≤ q from ⟨maxR_l _ _, minR_l _ _⟩)]
              try simp only [go_sem, Nat.reduceEqDiff, Nat.reduceAdd, Bool.false_eq_true, Nat.reduceBEq, ↓reduceIte]
              first | refine ev_call (swithin_ok _ _ _ _ _ u w h7 h3 (by omega)) ?_ | refine ev_callP (swithin_ok _ _ _ _ _ u w h7 h3 (by omega)) ?_
              rintro v_13 H_13 le_13 rfl _
              replace h1 := h1.le le_13
              replace h3 := h3.le le_13
              try simp only [go_sem, Nat.reduceEqDiff, Nat.reduceAdd, Bool.false_eq_true, Nat.reduceBEq, ↓reduceIte]
              rw [decide_eq_true (show u ≤ maxR p u ∧ minR q w ≤ w from ⟨maxR_r _ _, minR_r _ _⟩)]
              try simp only [go_sem, Nat.reduceEqDiff, Nat.reduceAdd, Bool.false_eq_true, Nat.reduceBEq, ↓reduceIte]
              first | refine ev_call (smid_ok _ _ p q h1 (by omega)) ?_ | refine ev_callP (smid_ok _ _ p q h1 (by omega)) ?_
              rintro v_8 H_8 le_8 g1 _
              replace h1 := h1.le le_8
              replace h3 := h3.le le_8
              try simp only [go_sem, Nat.reduceEqDiff, Nat.reduceAdd, Bool.false_eq_true, Nat.reduceBEq, ↓reduceIte]
              first | refine ev_call (shas_ok _ _ _ p q _ h1 g1 (by omega)) ?_ | refine ev_callP (shas_ok _ _ _ p q _ h1 g1 (by omega)) ?_
              rintro v_9 H_9 le_9 rfl _
              replace h1 := h1.le le_9
              replace h3 := h3.le le_9
              try simp only [go_sem, Nat.reduceEqDiff, Nat.reduceAdd, Bool.false_eq_true, Nat.reduceBEq, ↓reduceIte]
              rw [decide_eq_true (mid_in hpq)]
              try simp only [go_sem, Nat.reduceEqDiff, Nat.reduceAdd, Bool.false_eq_true, Nat.reduceBEq, ↓reduceIte]
              first | refine ev_call (sinside_ok _ _ _ p q u w h1 h3 (by omega)) ?_ | refine ev_callP (sinside_ok _ _ _ p q u w h1 h3 (by omega)) ?_
              rintro v_10 H_10 le_10 rfl _
              replace h1 := h1.le le_10
              replace h3 := h3.le le_10
              try simp only [go_sem, Nat.reduceEqDiff, Nat.reduceAdd, Bool.false_eq_true, Nat.reduceBEq, ↓reduceIte]
              by_cases hi9 : u < p ∧ q < w
              · rw [decide_eq_true hi9]
                try simp only [go_sem, Nat.reduceEqDiff, Nat.reduceAdd, Bool.false_eq_true, Nat.reduceBEq, ↓reduceIte]
                first | refine ev_call (swithin_ok _ _ _ p q u w h1 h3 (by omega)) ?_ | refine ev_callP (swithin_ok _ _ _ p q u w h1 h3 (by omega)) ?_
                rintro v_11 H_11 le_11 rfl _
                try simp only [go_sem, Nat.reduceEqDiff, Nat.reduceAdd, Bool.false_eq_true, Nat.reduceBEq, ↓reduceIte]
                rw [decide_eq_true (show u ≤ p ∧ q ≤ w from ⟨Rat.le_of_lt hi9.1, Rat.le_of_lt hi9.2⟩)]
                try simp only [go_sem, Nat.reduceEqDiff, Nat.reduceAdd, Bool.false_eq_true, Nat.reduceBEq, ↓reduceIte]
                exact ⟨by trivial, by trivial⟩
              · rw [decide_eq_false hi9]
                try simp only [go_sem, Nat.reduceEqDiff, Nat.reduceAdd, Bool.false_eq_true, Nat.reduceBEq, ↓reduceIte]
                exact ⟨by trivial, by trivial⟩
          · rw [decide_eq_false hx1]
            try simp only [go_sem, Nat.reduceEqDiff, Nat.reduceAdd, Bool.false_eq_true, Nat.reduceBEq, ↓reduceIte]
            first | refine ev_call (shas_ok _ _ _ _ _ x h7 h5 (by omega)) ?_ | refine ev_callP (shas_ok _ _ _ _ _ x h7 h5 (by omega)) ?_
            rintro v_17 H_17 le_17 rfl _
            replace h1 := h1.le le_17
            replace h3 := h3.le le_17
            replace h7 := h7.le le_17
            try simp only [go_sem, Nat.reduceEqDiff, Nat.reduceAdd, Bool.false_eq_true, Nat.reduceBEq, ↓reduceIte]
            rw [decide_eq_false (fun h => hx1 (both_iff.1 h).1)]
            try simp only [go_sem, Nat.reduceEqDiff, Nat.reduceAdd, Bool.false_eq_true, Nat.reduceBEq, ↓reduceIte]
            first | refine ev_call (swithin_ok _ _ _ _ _ p q h7 h1 (by omega)) ?_ | refine ev_callP (swithin_ok _ _ _ _ _ p q h7 h1 (by omega)) ?_
            rintro v_12 H_12 le_12 rfl _
            replace h1 := h1.le le_12
            replace h3 := h3.le le_12
            replace h7 := h7.le le_12
            try simp only [go_sem, Nat.reduceEqDiff, Nat.reduceAdd, Bool.false_eq_true, Nat.reduceBEq, ↓reduceIte]
            rw [decide_eq_true (show p ≤ maxR p u ∧ minR q w ≤ q from ⟨maxR_l _ _, minR_l _ _⟩)]
            try simp only [go_sem, Nat.reduceEqDiff, Nat.reduceAdd, Bool.false_eq_true, Nat.reduceBEq, ↓reduceIte]
            first | refine ev_call (swithin_ok _ _ _ _ _ u w h7 h3 (by omega)) ?_ | refine ev_callP (swithin_ok _ _ _ _ _ u w h7 h3 (by omega)) ?_
            rintro v_13 H_13 le_13 rfl _
            replace h1 := h1.le le_13
            replace h3 := h3.le le_13
            try simp only [go_sem, Nat.reduceEqDiff, Nat.reduceAdd, Bool.false_eq_true, Nat.reduceBEq, ↓reduceIte]
            rw [decide_eq_true (show u ≤ maxR p u ∧ minR q w ≤ w from ⟨maxR_r _ _, minR_r _ _⟩)]
            try simp only [go_sem, Nat.reduceEqDiff, Nat.reduceAdd, Bool.false_eq_true, Nat.reduceBEq, ↓reduceIte]
            first | refine ev_call (smid_ok _ _ p q h1 (by omega)) ?_ | refine ev_callP (smid_ok _ _ p q h1 (by omega)) ?_
            rintro v_8 H_8 le_8 g1 _
            replace h1 := h1.le le_8
            replace h3 := h3.le le_8
            try simp only [go_sem, Nat.reduceEqDiff, Nat.reduceAdd, Bool.false_eq_true, Nat.reduceBEq, ↓reduceIte]
            first | refine ev_call (shas_ok _ _ _ p q _ h1 g1 (by omega)) ?_ | refine ev_callP (shas_ok _ _ _ p q _ h1 g1 (by omega)) ?_
            rintro v_9 H_9 le_9 rfl _
            replace h1 := h1.le le_9
            replace h3 := h3.le le_9
            try simp only [go_sem, Nat.reduceEqDiff, Nat.reduceAdd, Bool.false_eq_true, Nat.reduceBEq, ↓reduceIte]
            rw [decide_eq_true (mid_in hpq)]
            try simp only [go_sem, Nat.reduceEqDiff, Nat.reduceAdd, Bool.false_eq_true, Nat.reduceBEq, ↓reduceIte]
            first | refine ev_call (sinside_ok _ _ _ p q u w h1 h3 (by omega)) ?_ | refine ev_callP (sinside_ok _ _ _ p q u w h1 h3 (by omega)) ?_
            rintro v_10 H_10 le_10 rfl _
            replace h1 := h1.le le_10
            replace h3 := h3.le le_10
            try simp only [go_sem, Nat.reduceEqDiff, Nat.reduceAdd, Bool.false_eq_true, Nat.reduceBEq, ↓reduceIte]
            by_cases hi9 : u < p ∧ q < w
            · rw [decide_eq_true hi9]
              try simp only [go_sem, Nat.reduceEqDiff, Nat.reduceAdd, Bool.false_eq_true, Nat.reduceBEq, ↓reduceIte]
              first | refine ev_call (swithin_ok _ _ _ p q u w h1 h3 (by omega)) ?_ | refine ev_callP (swithin_ok _ _ _ p q u w h1 h3 (by omega)) ?_
              rintro v_11 H_11 le_11 rfl _
              try simp only [go_sem, Nat.reduceEqDiff, Nat.reduceAdd, Bool.false_eq_true, Nat.reduceBEq, ↓reduceIte]
              rw [decide_eq_true (show u ≤ p ∧ q ≤ w from ⟨Rat.le_of_lt hi9.1, Rat.le_of_lt hi9.2⟩)]
              try simp only [go_sem, Nat.reduceEqDiff, Nat.reduceAdd, Bool.false_eq_true, Nat.reduceBEq, ↓reduceIte]
              exact ⟨by trivial, by trivial⟩
            · rw [decide_eq_false hi9]
              try simp only [go_sem, Nat.reduceEqDiff, Nat.reduceAdd, Bool.false_eq_true, Nat.reduceBEq, ↓reduceIte]
              exact ⟨by trivial, by trivial⟩
        · rw [decide_eq_false hin]
          by_cases hx1 : p ≤ x ∧ x ≤ q
          · rw [decide_eq_true hx1]
            try simp only [go_sem, Nat.reduceEqDiff, Nat.reduceAdd, Bool.false_eq_true, Nat.reduceBEq, ↓reduceIte]
            first | refine ev_call (shas_ok _ _ _ u w x h3 h5 (by omega)) ?_ | refine ev_callP (shas_ok _ _ _ u w x h3 h5 (by omega)) ?_
            rintro v_18 H_18 le_18 rfl _
            replace h1 := h1.le le_18
            replace h3 := h3.le le_18
            replace h5 := h5.le le_18
            replace h7 := h7.le le_18
            try simp only [go_sem, Nat.reduceEqDiff, Nat.reduceAdd, Bool.false_eq_true, Nat.reduceBEq, ↓reduceIte]
            have hx2 : ¬ (u ≤ x ∧ x ≤ w) := fun hx2 => by
              have hb := both_iff.2 ⟨hx1, hx2⟩
              exact hin (Rat.le_trans hb.1 hb.2)
            rw [decide_eq_false hx2]
            try simp only [go_sem, Nat.reduceEqDiff, Nat.reduceAdd, Bool.false_eq_true, Nat.reduceBEq, ↓reduceIte]
            first | refine ev_call (smid_ok _ _ p q h1 (by omega)) ?_ | refine ev_callP (smid_ok _ _ p q h1 (by omega)) ?_
            rintro v_8 H_8 le_8 g1 _
            replace h1 := h1.le le_8
            replace h3 := h3.le le_8
            try simp only [go_sem, Nat.reduceEqDiff, Nat.reduceAdd, Bool.false_eq_true, Nat.reduceBEq, ↓reduceIte]
            first | refine ev_call (shas_ok _ _ _ p q _ h1 g1 (by omega)) ?_ | refine ev_callP (shas_ok _ _ _ p q _ h1 g1 (by omega)) ?_
            rintro v_9 H_9 le_9 rfl _
            replace h1 := h1.le le_9
            replace h3 := h3.le le_9
            try simp only [go_sem, Nat.reduceEqDiff, Nat.reduceAdd, Bool.false_eq_true, Nat.reduceBEq, ↓reduceIte]
            rw [decide_eq_true (mid_in hpq)]
            try simp only [go_sem, Nat.reduceEqDiff, Nat.reduceAdd, Bool.false_eq_true, Nat.reduceBEq, ↓reduceIte]
            first | refine ev_call (sinside_ok _ _ _ p q u w h1 h3 (by omega)) ?_ | refine ev_callP (sinside_ok _ _ _ p q u w h1 h3 (by omega)) ?_
            rintro v_10 H_10 le_10 rfl _
            replace h1 := h1.le le_10
            replace h3 := h3.le le_10
            try simp only [go_sem, Nat.reduceEqDiff, Nat.reduceAdd, Bool.false_eq_true, Nat.reduceBEq, ↓reduceIte]
            by_cases hi9 : u < p ∧ q < w
            · rw [decide_eq_true hi9]
              try simp only [go_sem, Nat.reduceEqDiff, Nat.reduceAdd, Bool.false_eq_true, Nat.reduceBEq, ↓reduceIte]
              first | refine ev_call (swithin_ok _ _ _ p q u w h1 h3 (by omega)) ?_ | refine ev_callP (swithin_ok _ _ _ p q u w h1 h3 (by omega)) ?_
              rintro v_11 H_11 le_11 rfl _
              try simp only [go_sem, Nat.reduceEqDiff, Nat.reduceAdd, Bool.false_eq_true, Nat.reduceBEq, ↓reduceIte]
              rw [decide_eq_true (show u ≤ p ∧ q ≤ w from ⟨Rat.le_of_lt hi9.1, Rat.le_of_lt hi9.2⟩)]
              try simp only [go_sem, Nat.reduceEqDiff, Nat.reduceAdd, Bool.false_eq_true, Nat.reduceBEq, ↓reduceIte]
              exact ⟨by trivial, by trivial⟩
            · rw [decide_eq_false hi9]
              try simp only [go_sem, Nat.reduceEqDiff, Nat.reduceAdd, Bool.false_eq_true, Nat.reduceBEq, ↓reduceIte]
              exact ⟨by trivial, by trivial⟩
          · rw [decide_eq_false hx1]
            try simp only [go_sem, Nat.reduceEqDiff, Nat.reduceAdd, Bool.false_eq_true, Nat.reduceBEq, ↓reduceIte]
            first | refine ev_call (smid_ok _ _ p q h1 (by omega)) ?_ | refine ev_callP (smid_ok _ _ p q h1 (by omega)) ?_
            rintro v_8 H_8 le_8 g1 _
            replace h1 := h1.le le_8
            replace h3 := h3.le le_8
            try simp only [go_sem, Nat.reduceEqDiff, Nat.reduceAdd, Bool.false_eq_true, Nat.reduceBEq, ↓reduceIte]
            first | refine ev_call (shas_ok _ _ _ p q _ h1 g1 (by omega)) ?_ | refine ev_callP (shas_ok _ _ _ p q _ h1 g1 (by omega)) ?_
            rintro v_9 H_9 le_9 rfl _
            replace h1 := h1.le le_9
            replace h3 := h3.le le_9
            try simp only [go_sem, Nat.reduceEqDiff, Nat.reduceAdd, Bool.false_eq_true, Nat.reduceBEq, ↓reduceIte]
            rw [decide_eq_true (mid_in hpq)]
            try simp only [go_sem, Nat.reduceEqDiff, Nat.reduceAdd, Bool.false_eq_true, Nat.reduceBEq, ↓reduceIte]
            first | refine ev_call (sinside_ok _ _ _ p q u w h1 h3 (by omega)) ?_ | refine ev_callP (sinside_ok _ _ _ p q u w h1 h3 (by omega)) ?_
            rintro v_10 H_10 le_10 rfl _
            replace h1 := h1.le le_10
            replace h3 := h3.le le_10
            try simp only [go_sem, Nat.reduceEqDiff, Nat.reduceAdd, Bool.false_eq_true, Nat.reduceBEq, ↓reduceIte]
            by_cases hi9 : u < p ∧ q < w
            · rw [decide_eq_true hi9]
              try simp only [go_sem, Nat.reduceEqDiff, Nat.reduceAdd, Bool.false_eq_true, Nat.reduceBEq, ↓reduceIte]
              first | refine ev_call (swithin_ok _ _ _ p q u w h1 h3 (by omega)) ?_ | refine ev_callP (swithin_ok _ _ _ p q u w h1 h3 (by omega)) ?_
              rintro v_11 H_11 le_11 rfl _
              try simp only [go_sem, Nat.reduceEqDiff, Nat.reduceAdd, Bool.false_eq_true, Nat.reduceBEq, ↓reduceIte]
              rw [decide_eq_true (show u ≤ p ∧ q ≤ w from ⟨Rat.le_of_lt hi9.1, Rat.le_of_lt hi9.2⟩)]
              try simp only [go_sem, Nat.reduceEqDiff, Nat.reduceAdd, Bool.false_eq_true, Nat.reduceBEq, ↓reduceIte]
              exact ⟨by trivial, by trivial⟩
            · rw [decide_eq_false hi9]
              try simp only [go_sem, Nat.reduceEqDiff, Nat.reduceAdd, Bool.false_eq_true, Nat.reduceBEq, ↓reduceIte]
              exact ⟨by trivial, by trivial⟩

theorem hull_ref {p q u w : Rat} (h : p ≤ q) (k : u ≤ w) : lstLo p [q, u, w] = minR p u ∧ lstHi p [q, u, w] = maxR q w := by
  unfold lstLo lstHi
  simp only [List.foldl_cons, List.foldl_nil]
  unfold minR maxR
  constructor <;> grind
theorem rat_zero_pt : (0 : Rat) ≤ 0 := Rat.le_refl

set_option maxHeartbeats 8000000 in
theorem SpanSets_ok (H : PH) (a1 : ByteArray) (ha1 : a1.size ≤ 9223372036854775807) (a2 : ByteArray) (ha2 : a2.size ≤ 9223372036854775807) (b1 : ByteArray) (hb1 : b1.size ≤ 9223372036854775807) (b2 : ByteArray) (hb2 : b2.size ≤ 9223372036854775807) (r : ByteArray) (hr : r.size ≤ 9223372036854775807) : FnP Tryz.prog 7 [.agg #[.string a1, .string a2], .agg #[.string b1, .string b2], .string r] H fun v _ => v = .bool true := by
  refine of_cincturelaw5_SpanSets (by simp) ?_
  try simp only [go_sem, Nat.reduceEqDiff, Nat.reduceAdd, Bool.false_eq_true, Nat.reduceBEq, ↓reduceIte, p_cincturelaw5_SpanSets]
  first | refine ev_call (ofS_ok _ a1 a2 ha1 ha2) ?_ | refine ev_callP (ofS_ok _ a1 a2 ha1 ha2) ?_
  rintro v_1 H_1 le_1 ⟨va, ra, rfl, h1, h2⟩ _
  try simp only [go_sem, Nat.reduceEqDiff, Nat.reduceAdd, Bool.false_eq_true, Nat.reduceBEq, ↓reduceIte]
  obtain ⟨A1, l1, c1, t1, B1, m1, e1, A1', l1', c1', t1', B1', m1', e1', rfl⟩ := h1.form
  obtain ⟨t2, A2, l2, c2, B2, m2, e2, t2', A2', l2', c2', B2', m2', e2', rfl⟩ := h2.form
  try simp only [go_sem, Nat.reduceEqDiff, Nat.reduceAdd, Bool.false_eq_true, Nat.reduceBEq, ↓reduceIte]
  first | refine ev_call (ofS_ok _ b1 b2 hb1 hb2) ?_ | refine ev_callP (ofS_ok _ b1 b2 hb1 hb2) ?_
  rintro v_2 H_2 le_2 ⟨vb, rb, rfl, h3, h4⟩ _
  replace h1 := h1.le le_2
  replace h2 := h2.le le_2
  try simp only [go_sem, Nat.reduceEqDiff, Nat.reduceAdd, Bool.false_eq_true, Nat.reduceBEq, ↓reduceIte]
  obtain ⟨A3, l3, c3, t3, B3, m3, e3, A3', l3', c3', t3', B3', m3', e3', rfl⟩ := h3.form
  obtain ⟨t4, A4, l4, c4, B4, m4, e4, t4', A4', l4', c4', B4', m4', e4', rfl⟩ := h4.form
  try simp only [go_sem, Nat.reduceEqDiff, Nat.reduceAdd, Bool.false_eq_true, Nat.reduceBEq, ↓reduceIte]
  first | refine ev_call (numQ_ok _ r hr) ?_ | refine ev_callP (numQ_ok _ r hr) ?_
  rintro v_3 H_3 le_3 ⟨vr, rr, rfl, h5, h6⟩ _
  replace h1 := h1.le le_3
  replace h2 := h2.le le_3
  replace h3 := h3.le le_3
  replace h4 := h4.le le_3
  try simp only [go_sem, Nat.reduceEqDiff, Nat.reduceAdd, Bool.false_eq_true, Nat.reduceBEq, ↓reduceIte]
  obtain ⟨A5, l5, c5, t5, B5, m5, e5, rfl⟩ := h5.form
  obtain ⟨t6, A6, l6, c6, B6, m6, e6, rfl⟩ := h6.form
  cases hk : soOk a1 a2 with
  | false =>
    try simp only [go_sem, Nat.reduceEqDiff, Nat.reduceAdd, Bool.false_eq_true, Nat.reduceBEq, ↓reduceIte, hk]
    first | refine ev_call (aliveS_ok _) ?_ | refine ev_callP (aliveS_ok _) ?_
    rintro v_4 H_4 le_4 rfl _
    try simp only [go_sem, Nat.reduceEqDiff, Nat.reduceAdd, Bool.false_eq_true, Nat.reduceBEq, ↓reduceIte]
    exact ⟨by trivial, by trivial⟩
  | true =>
    cases hk2 : soOk b1 b2 with
    | false =>
      try simp only [go_sem, Nat.reduceEqDiff, Nat.reduceAdd, Bool.false_eq_true, Nat.reduceBEq, ↓reduceIte, hk, hk2]
      first | refine ev_call (aliveS_ok _) ?_ | refine ev_callP (aliveS_ok _) ?_
      rintro v_4 H_4 le_4 rfl _
      try simp only [go_sem, Nat.reduceEqDiff, Nat.reduceAdd, Bool.false_eq_true, Nat.reduceBEq, ↓reduceIte]
      exact ⟨by trivial, by trivial⟩
    | true =>
      cases hk3 : qok r with
      | false =>
        try simp only [go_sem, Nat.reduceEqDiff, Nat.reduceAdd, Bool.false_eq_true, Nat.reduceBEq, ↓reduceIte, hk, hk2, hk3]
        first | refine ev_call (aliveS_ok _) ?_ | refine ev_callP (aliveS_ok _) ?_
        rintro v_4 H_4 le_4 rfl _
        try simp only [go_sem, Nat.reduceEqDiff, Nat.reduceAdd, Bool.false_eq_true, Nat.reduceBEq, ↓reduceIte]
        exact ⟨by trivial, by trivial⟩
      | true =>
        have hsame : (rv (bs a1) = rv (bs b1) ∧ rv (bs a2) = rv (bs b2)) ↔ (a1 = b1 ∧ a2 = b2) := by
          obtain ⟨_, _, _, x1, x2, _⟩ := soOk_br hk
          obtain ⟨_, _, _, y1, y2, _⟩ := soOk_br hk2
          constructor
          · rintro ⟨z1, z2⟩
            rw [z1, y1] at x1
            rw [z2, y2] at x2
            exact ⟨x1.symm, x2.symm⟩
          · rintro ⟨rfl, rfl⟩
            exact ⟨rfl, rfl⟩
        rw [hk, if_pos rfl, if_pos rfl] at h1 h2
        rw [hk2, if_pos rfl, if_pos rfl] at h3 h4
        obtain ⟨kp, kq, hpq, htp, htq, _, _, _⟩ := soOk_br hk
        obtain ⟨kr, ks, hrs, htr, hts, _, _, _⟩ := soOk_br hk2
        rw [hk3, if_pos rfl] at h5 h6
        obtain ⟨kx, _, _⟩ := qok_br hk3
        generalize rv (bs a1) = p at *
        generalize rv (bs a2) = q at *
        generalize rv (bs b1) = u at *
        generalize rv (bs b2) = w at *
        generalize rv (bs r) = x at *
        have s1 := br_max p u
        have s2 := br_min q w
        have s3 := br_add p q
        have s4 := br_div (p + q) 2
        have s5 : br 2 = 2 := by decide +kernel
        try simp only [go_sem, Nat.reduceEqDiff, Nat.reduceAdd, Bool.false_eq_true, Nat.reduceBEq, ↓reduceIte, hk, hk2, hk3]
        first | refine ev_call (aliveS_ok _) ?_ | refine ev_callP (aliveS_ok _) ?_
        rintro v_19 H_19 le_19 rfl _
        replace h1 := h1.le le_19
        replace h2 := h2.le le_19
        replace h3 := h3.le le_19
        replace h4 := h4.le le_19
        replace h5 := h5.le le_19
        replace h6 := h6.le le_19
        try simp only [go_sem, Nat.reduceEqDiff, Nat.reduceAdd, Bool.false_eq_true, Nat.reduceBEq, ↓reduceIte]
        first | refine ev_call (smeet_ok _ _ _ p q u w h1 h3 (by omega)) ?_ | refine ev_callP (smeet_ok _ _ _ p q u w h1 h3 (by omega)) ?_
        rintro v_20 H_20 le_20 ⟨v7, rfl, h7⟩ _
        replace h1 := h1.le le_20
        replace h2 := h2.le le_20
        replace h3 := h3.le le_20
        replace h4 := h4.le le_20
        replace h5 := h5.le le_20
        replace h6 := h6.le le_20
        try simp only [go_sem, Nat.reduceEqDiff, Nat.reduceAdd, Bool.false_eq_true, Nat.reduceBEq, ↓reduceIte]
        obtain ⟨A7, l7, c7, t7, B7, m7, e7, A7', l7', c7', t7', B7', m7', e7', rfl⟩ := h7.form
        try simp only [go_sem, Nat.reduceEqDiff, Nat.reduceAdd, Bool.false_eq_true, Nat.reduceBEq, ↓reduceIte]
        first | refine ev_call (smeetR_ok _ _ _ p q u w h2 h4 (by omega)) ?_ | refine ev_callP (smeetR_ok _ _ _ p q u w h2 h4 (by omega)) ?_
        rintro v_21 H_21 le_21 ⟨v8, rfl, h8⟩ _
        replace h1 := h1.le le_21
        replace h2 := h2.le le_21
        replace h3 := h3.le le_21
        replace h4 := h4.le le_21
        replace h5 := h5.le le_21
        replace h6 := h6.le le_21
        replace h7 := h7.le le_21
        try simp only [go_sem, Nat.reduceEqDiff, Nat.reduceAdd, Bool.false_eq_true, Nat.reduceBEq, ↓reduceIte]
        obtain ⟨t8, A8, l8, c8, B8, m8, e8, t8', A8', l8', c8', B8', m8', e8', rfl⟩ := h8.form
        have s6 := br_sub q p
        have hh := hull_ref hpq hrs
        have s7 := br_min p u
        have s8 := br_max q w
        by_cases hin : maxR p u ≤ minR q w
        · rw [if_pos hin, if_pos hin] at h7
          rw [decide_eq_true hin]
          try simp only [go_sem, Nat.reduceEqDiff, Nat.reduceAdd, Bool.false_eq_true, Nat.reduceBEq, ↓reduceIte]
          first | refine ev_call (isS_ok _ _ _ _ _ h7 h8 (by omega) (by omega)) ?_ | refine ev_callP (isS_ok _ _ _ _ _ h7 h8 (by omega) (by omega)) ?_
          rintro v_40 H_40 le_40 rfl _
          replace h1 := h1.le le_40
          replace h2 := h2.le le_40
          replace h3 := h3.le le_40
          replace h4 := h4.le le_40
          replace h5 := h5.le le_40
          replace h6 := h6.le le_40
          try simp only [go_sem, Nat.reduceEqDiff, Nat.reduceAdd, Bool.false_eq_true, Nat.reduceBEq, ↓reduceIte]
          try simp only [go_sem, Nat.reduceEqDiff, Nat.reduceAdd, Bool.false_eq_true, Nat.reduceBEq, ↓reduceIte]
          obtain ⟨x1, x2⟩ := h2.parts
          obtain ⟨x3, x4⟩ := h4.parts
          refine ev_bslV fun g hg1 hg2 => ?_
          try simp only [go_sem, Nat.reduceEqDiff, Nat.reduceAdd, Bool.false_eq_true, Nat.reduceBEq, ↓reduceIte]
          refine ev_callA (R := fun v H' => RSpan H' v (lstLo p [q, u, w]) (lstHi p [q, u, w])) (least4_ok _ _ p [q, u, w] 4 4 rfl (.inr ⟨g, 0, _, _, _, rfl, PH.join_r hg1 (PH.set_self _ _ _), ?_⟩) (by simp) (by omega) ?_) ?_
          · intro i x hx
            match i, hx with
            | 0, hx => injection hx with hx; subst hx; exact ⟨_, rfl, x1.le (PH.le_join _ _)⟩
            | 1, hx => injection hx with hx; subst hx; exact ⟨_, rfl, x2.le (PH.le_join _ _)⟩
            | 2, hx => injection hx with hx; subst hx; exact ⟨_, rfl, x3.le (PH.le_join _ _)⟩
            | 3, hx => injection hx with hx; subst hx; exact ⟨_, rfl, x4.le (PH.le_join _ _)⟩
            | i + 4, hx => simp at hx
          · intro x hx
            simp only [List.mem_cons, List.not_mem_nil, or_false] at hx
            rcases hx with rfl | rfl | rfl <;> omega
          rintro v H' hle9 g9
          replace hle9 := (PH.le_join _ _).trans hle9
          replace h1 := h1.le hle9
          replace h2 := h2.le hle9
          replace h3 := h3.le hle9
          replace h4 := h4.le hle9
          replace h5 := h5.le hle9
          replace h6 := h6.le hle9
          rw [hh.1, hh.2] at g9
          obtain ⟨t9, A9, l9, c9, B9, m9, e9, t9', A9', l9', c9', B9', m9', e9', rfl⟩ := g9.form
          try simp only [go_sem, Nat.reduceEqDiff, Nat.reduceAdd, Bool.false_eq_true, Nat.reduceBEq, ↓reduceIte]
          first | refine ev_call (shas_ok _ _ _ p q x h1 h5 (by omega)) ?_ | refine ev_callP (shas_ok _ _ _ p q x h1 h5 (by omega)) ?_
          rintro v_22 H_22 le_22 rfl _
          replace h1 := h1.le le_22
          replace h2 := h2.le le_22
          replace h3 := h3.le le_22
          replace h4 := h4.le le_22
          replace h6 := h6.le le_22
          replace g9 := g9.le le_22
          try simp only [go_sem, Nat.reduceEqDiff, Nat.reduceAdd, Bool.false_eq_true, Nat.reduceBEq, ↓reduceIte]
          first | refine ev_call (shasR_ok _ _ _ p q x h2 h6 (by omega)) ?_ | refine ev_callP (shasR_ok _ _ _ p q x h2 h6 (by omega)) ?_
          rintro v_23 H_23 le_23 rfl _
          replace h1 := h1.le le_23
          replace h2 := h2.le le_23
          replace h3 := h3.le le_23
          replace h4 := h4.le le_23
          replace g9 := g9.le le_23
          try simp only [go_sem, Nat.reduceEqDiff, Nat.reduceAdd, Bool.false_eq_true, Nat.reduceBEq, ↓reduceIte]
          try simp only [go_sem, Nat.reduceEqDiff, Nat.reduceAdd, Bool.false_eq_true, Nat.reduceBEq, ↓reduceIte, beq_self_eq_true]
          first | refine ev_call (swithin_ok _ _ _ p q u w h1 h3 (by omega)) ?_ | refine ev_callP (swithin_ok _ _ _ p q u w h1 h3 (by omega)) ?_
          rintro v_24 H_24 le_24 rfl _
          replace h1 := h1.le le_24
          replace h2 := h2.le le_24
          replace h3 := h3.le le_24
          replace h4 := h4.le le_24
          replace g9 := g9.le le_24
          try simp only [go_sem, Nat.reduceEqDiff, Nat.reduceAdd, Bool.false_eq_true, Nat.reduceBEq, ↓reduceIte]
          first | refine ev_call (swithinR_ok _ _ _ p q u w h2 h4 (by omega)) ?_ | refine ev_callP (swithinR_ok _ _ _ p q u w h2 h4 (by omega)) ?_
          rintro v_25 H_25 le_25 rfl _
          replace h1 := h1.le le_25
          replace h2 := h2.le le_25
          replace h3 := h3.le le_25
          replace h4 := h4.le le_25
          replace g9 := g9.le le_25
          try simp only [go_sem, Nat.reduceEqDiff, Nat.reduceAdd, Bool.false_eq_true, Nat.reduceBEq, ↓reduceIte]
          try simp only [go_sem, Nat.reduceEqDiff, Nat.reduceAdd, Bool.false_eq_true, Nat.reduceBEq, ↓reduceIte, beq_self_eq_true]
          first | refine ev_call (sinside_ok _ _ _ p q u w h1 h3 (by omega)) ?_ | refine ev_callP (sinside_ok _ _ _ p q u w h1 h3 (by omega)) ?_
          rintro v_26 H_26 le_26 rfl _
          replace h1 := h1.le le_26
          replace h2 := h2.le le_26
          replace h3 := h3.le le_26
          replace h4 := h4.le le_26
          replace g9 := g9.le le_26
          try simp only [go_sem, Nat.reduceEqDiff, Nat.reduceAdd, Bool.false_eq_true, Nat.reduceBEq, ↓reduceIte]
          first | refine ev_call (sinsideR_ok _ _ _ p q u w h2 h4 (by omega)) ?_ | refine ev_callP (sinsideR_ok _ _ _ p q u w h2 h4 (by omega)) ?_
          rintro v_27 H_27 le_27 rfl _
          replace h1 := h1.le le_27
          replace h2 := h2.le le_27
          replace h3 := h3.le le_27
          replace h4 := h4.le le_27
          replace g9 := g9.le le_27
          try simp only [go_sem, Nat.reduceEqDiff, Nat.reduceAdd, Bool.false_eq_true, Nat.reduceBEq, ↓reduceIte]
          try simp only [go_sem, Nat.reduceEqDiff, Nat.reduceAdd, Bool.false_eq_true, Nat.reduceBEq, ↓reduceIte, beq_self_eq_true]
          first | refine ev_call (shull_ok _ _ _ p q u w h1 h3 (by omega)) ?_ | refine ev_callP (shull_ok _ _ _ p q u w h1 h3 (by omega)) ?_
          rintro v_28 H_28 le_28 g1 _
          replace h1 := h1.le le_28
          replace h2 := h2.le le_28
          replace h3 := h3.le le_28
          replace h4 := h4.le le_28
          replace g9 := g9.le le_28
          try simp only [go_sem, Nat.reduceEqDiff, Nat.reduceAdd, Bool.false_eq_true, Nat.reduceBEq, ↓reduceIte]
          first | refine ev_call (isS_ok _ _ _ _ _ g1 g9 (by omega) (by omega)) ?_ | refine ev_callP (isS_ok _ _ _ _ _ g1 g9 (by omega) (by omega)) ?_
          rintro v_29 H_29 le_29 rfl _
          replace h1 := h1.le le_29
          replace h2 := h2.le le_29
          replace h3 := h3.le le_29
          replace h4 := h4.le le_29
          try simp only [go_sem, Nat.reduceEqDiff, Nat.reduceAdd, Bool.false_eq_true, Nat.reduceBEq, ↓reduceIte]
          first | refine ev_call (smid_ok _ _ p q h1 (by omega)) ?_ | refine ev_callP (smid_ok _ _ p q h1 (by omega)) ?_
          rintro v_30 H_30 le_30 g1 _
          replace h1 := h1.le le_30
          replace h2 := h2.le le_30
          replace h3 := h3.le le_30
          replace h4 := h4.le le_30
          try simp only [go_sem, Nat.reduceEqDiff, Nat.reduceAdd, Bool.false_eq_true, Nat.reduceBEq, ↓reduceIte]
          first | refine ev_call (smidR_ok _ _ p q h2 (by omega)) ?_ | refine ev_callP (smidR_ok _ _ p q h2 (by omega)) ?_
          rintro v_31 H_31 le_31 g2 _
          replace h1 := h1.le le_31
          replace h2 := h2.le le_31
          replace h3 := h3.le le_31
          replace h4 := h4.le le_31
          replace g1 := g1.le le_31
          try simp only [go_sem, Nat.reduceEqDiff, Nat.reduceAdd, Bool.false_eq_true, Nat.reduceBEq, ↓reduceIte]
          first | refine ev_call (isQ_ok _ _ _ _ g1 g2 (by omega)) ?_ | refine ev_callP (isQ_ok _ _ _ _ g1 g2 (by omega)) ?_
          rintro v_32 H_32 le_32 rfl _
          replace h1 := h1.le le_32
          replace h2 := h2.le le_32
          replace h3 := h3.le le_32
          replace h4 := h4.le le_32
          try simp only [go_sem, Nat.reduceEqDiff, Nat.reduceAdd, Bool.false_eq_true, Nat.reduceBEq, ↓reduceIte]
          first | refine ev_call (swidth_ok _ _ p q h1 (by omega)) ?_ | refine ev_callP (swidth_ok _ _ p q h1 (by omega)) ?_
          rintro v_33 H_33 le_33 g1 _
          replace h1 := h1.le le_33
          replace h2 := h2.le le_33
          replace h3 := h3.le le_33
          replace h4 := h4.le le_33
          try simp only [go_sem, Nat.reduceEqDiff, Nat.reduceAdd, Bool.false_eq_true, Nat.reduceBEq, ↓reduceIte]
          first | refine ev_call (swidthR_ok _ _ p q h2 (by omega)) ?_ | refine ev_callP (swidthR_ok _ _ p q h2 (by omega)) ?_
          rintro v_34 H_34 le_34 g2 _
          replace h1 := h1.le le_34
          replace h2 := h2.le le_34
          replace h3 := h3.le le_34
          replace h4 := h4.le le_34
          replace g1 := g1.le le_34
          try simp only [go_sem, Nat.reduceEqDiff, Nat.reduceAdd, Bool.false_eq_true, Nat.reduceBEq, ↓reduceIte]
          first | refine ev_call (isQ_ok _ _ _ _ g1 g2 (by omega)) ?_ | refine ev_callP (isQ_ok _ _ _ _ g1 g2 (by omega)) ?_
          rintro v_35 H_35 le_35 rfl _
          replace h1 := h1.le le_35
          replace h2 := h2.le le_35
          replace h3 := h3.le le_35
          replace h4 := h4.le le_35
          try simp only [go_sem, Nat.reduceEqDiff, Nat.reduceAdd, Bool.false_eq_true, Nat.reduceBEq, ↓reduceIte]
          first | refine ev_call (ssign_ok _ _ p q h1 (by omega)) ?_ | refine ev_callP (ssign_ok _ _ p q h1 (by omega)) ?_
          rintro v_36 H_36 le_36 rfl _
          replace h1 := h1.le le_36
          replace h2 := h2.le le_36
          replace h3 := h3.le le_36
          replace h4 := h4.le le_36
          try simp only [go_sem, Nat.reduceEqDiff, Nat.reduceAdd, Bool.false_eq_true, Nat.reduceBEq, ↓reduceIte]
          first | refine ev_call (ssignR_ok _ _ p q h2) ?_ | refine ev_callP (ssignR_ok _ _ p q h2) ?_
          rintro v_37 H_37 le_37 rfl _
          replace h1 := h1.le le_37
          replace h2 := h2.le le_37
          replace h3 := h3.le le_37
          replace h4 := h4.le le_37
          try simp only [go_sem, Nat.reduceEqDiff, Nat.reduceAdd, Bool.false_eq_true, Nat.reduceBEq, ↓reduceIte]
          refine ev_pos (by trivial) ?_
          try simp only [go_sem, Nat.reduceEqDiff, Nat.reduceAdd, Bool.false_eq_true, Nat.reduceBEq, ↓reduceIte]
          refine ev_peq (fun hab => ?_) (fun hab => ?_)
          · try simp only [go_sem, Nat.reduceEqDiff, Nat.reduceAdd, Bool.false_eq_true, Nat.reduceBEq, ↓reduceIte]
            first | refine ev_call (ssame_ok _ _ _ p q u w h1 h3 (by omega)) ?_ | refine ev_callP (ssame_ok _ _ _ p q u w h1 h3 (by omega)) ?_
            rintro v_38 H_38 le_38 rfl _
            try simp only [go_sem, Nat.reduceEqDiff, Nat.reduceAdd, Bool.false_eq_true, Nat.reduceBEq, ↓reduceIte]
            rw [decide_eq_true (hsame.2 hab)]
            try simp only [go_sem, Nat.reduceEqDiff, Nat.reduceAdd, Bool.false_eq_true, Nat.reduceBEq, ↓reduceIte]
            exact ⟨by trivial, by trivial⟩
          · try simp only [go_sem, Nat.reduceEqDiff, Nat.reduceAdd, Bool.false_eq_true, Nat.reduceBEq, ↓reduceIte]
            first | refine ev_call (ssame_ok _ _ _ p q u w h1 h3 (by omega)) ?_ | refine ev_callP (ssame_ok _ _ _ p q u w h1 h3 (by omega)) ?_
            rintro v_39 H_39 le_39 rfl _
            try simp only [go_sem, Nat.reduceEqDiff, Nat.reduceAdd, Bool.false_eq_true, Nat.reduceBEq, ↓reduceIte]
            rw [decide_eq_false (fun h => hab (hsame.1 h))]
            try simp only [go_sem, Nat.reduceEqDiff, Nat.reduceAdd, Bool.false_eq_true, Nat.reduceBEq, ↓reduceIte]
            exact ⟨by trivial, by trivial⟩
        · rw [if_neg hin, if_neg hin] at h7
          rw [decide_eq_false hin]
          try simp only [go_sem, Nat.reduceEqDiff, Nat.reduceAdd, Bool.false_eq_true, Nat.reduceBEq, ↓reduceIte]
          first | refine ev_call (isS_ok _ _ _ _ _ h7 (RSpan.zero _) (by rw [br_z0]; decide) (by rw [br_z0]; decide)) ?_ | refine ev_callP (isS_ok _ _ _ _ _ h7 (RSpan.zero _) (by rw [br_z0]; decide) (by rw [br_z0]; decide)) ?_
          rintro v_41 H_41 le_41 rfl _
          replace h1 := h1.le le_41
          replace h2 := h2.le le_41
          replace h3 := h3.le le_41
          replace h4 := h4.le le_41
          replace h5 := h5.le le_41
          replace h6 := h6.le le_41
          try simp only [go_sem, Nat.reduceEqDiff, Nat.reduceAdd, Bool.false_eq_true, Nat.reduceBEq, ↓reduceIte]
          try simp only [go_sem, Nat.reduceEqDiff, Nat.reduceAdd, Bool.false_eq_true, Nat.reduceBEq, ↓reduceIte]
          obtain ⟨x1, x2⟩ := h2.parts
          obtain ⟨x3, x4⟩ := h4.parts
          refine ev_bslV fun g hg1 hg2 => ?_
          try simp only [go_sem, Nat.reduceEqDiff, Nat.reduceAdd, Bool.false_eq_true, Nat.reduceBEq, ↓reduceIte]
          refine ev_callA (R := fun v H' => RSpan H' v (lstLo p [q, u, w]) (lstHi p [q, u, w])) (least4_ok _ _ p [q, u, w] 4 4 rfl (.inr ⟨g, 0, _, _, _, rfl, PH.join_r hg1 (PH.set_self _ _ _), ?_⟩) (by simp) (by omega) ?_) ?_
          · intro i x hx
            match i, hx with
            | 0, hx => injection hx with hx; subst hx; exact ⟨_, rfl, x1.le (PH.le_join _ _)⟩
            | 1, hx => injection hx with hx; subst hx; exact ⟨_, rfl, x2.le (PH.le_join _ _)⟩
            | 2, hx => injection hx with hx; subst hx; exact ⟨_, rfl, x3.le (PH.le_join _ _)⟩
            | 3, hx => injection hx with hx; subst hx; exact ⟨_, rfl, x4.le (PH.le_join _ _)⟩
            | i + 4, hx => simp at hx
          · intro x hx
            simp only [List.mem_cons, List.not_mem_nil, or_false] at hx
            rcases hx with rfl | rfl | rfl <;> omega
          rintro v H' hle9 g9
          replace hle9 := (PH.le_join _ _).trans hle9
          replace h1 := h1.le hle9
          replace h2 := h2.le hle9
          replace h3 := h3.le hle9
          replace h4 := h4.le hle9
          replace h5 := h5.le hle9
          replace h6 := h6.le hle9
          rw [hh.1, hh.2] at g9
          obtain ⟨t9, A9, l9, c9, B9, m9, e9, t9', A9', l9', c9', B9', m9', e9', rfl⟩ := g9.form
          try simp only [go_sem, Nat.reduceEqDiff, Nat.reduceAdd, Bool.false_eq_true, Nat.reduceBEq, ↓reduceIte]
          first | refine ev_call (shas_ok _ _ _ p q x h1 h5 (by omega)) ?_ | refine ev_callP (shas_ok _ _ _ p q x h1 h5 (by omega)) ?_
          rintro v_22 H_22 le_22 rfl _
          replace h1 := h1.le le_22
          replace h2 := h2.le le_22
          replace h3 := h3.le le_22
          replace h4 := h4.le le_22
          replace h6 := h6.le le_22
          replace g9 := g9.le le_22
          try simp only [go_sem, Nat.reduceEqDiff, Nat.reduceAdd, Bool.false_eq_true, Nat.reduceBEq, ↓reduceIte]
          first | refine ev_call (shasR_ok _ _ _ p q x h2 h6 (by omega)) ?_ | refine ev_callP (shasR_ok _ _ _ p q x h2 h6 (by omega)) ?_
          rintro v_23 H_23 le_23 rfl _
          replace h1 := h1.le le_23
          replace h2 := h2.le le_23
          replace h3 := h3.le le_23
          replace h4 := h4.le le_23
          replace g9 := g9.le le_23
          try simp only [go_sem, Nat.reduceEqDiff, Nat.reduceAdd, Bool.false_eq_true, Nat.reduceBEq, ↓reduceIte]
          try simp only [go_sem, Nat.reduceEqDiff, Nat.reduceAdd, Bool.false_eq_true, Nat.reduceBEq, ↓reduceIte, beq_self_eq_true]
          first | refine ev_call (swithin_ok _ _ _ p q u w h1 h3 (by omega)) ?_ | refine ev_callP (swithin_ok _ _ _ p q u w h1 h3 (by omega)) ?_
          rintro v_24 H_24 le_24 rfl _
          replace h1 := h1.le le_24
          replace h2 := h2.le le_24
          replace h3 := h3.le le_24
          replace h4 := h4.le le_24
          replace g9 := g9.le le_24
          try simp only [go_sem, Nat.reduceEqDiff, Nat.reduceAdd, Bool.false_eq_true, Nat.reduceBEq, ↓reduceIte]
          first | refine ev_call (swithinR_ok _ _ _ p q u w h2 h4 (by omega)) ?_ | refine ev_callP (swithinR_ok _ _ _ p q u w h2 h4 (by omega)) ?_
          rintro v_25 H_25 le_25 rfl _
          replace h1 := h1.le le_25
          replace h2 := h2.le le_25
          replace h3 := h3.le le_25
          replace h4 := h4.le le_25
          replace g9 := g9.le le_25
          try simp only [go_sem, Nat.reduceEqDiff, Nat.reduceAdd, Bool.false_eq_true, Nat.reduceBEq, ↓reduceIte]
          try simp only [go_sem, Nat.reduceEqDiff, Nat.reduceAdd, Bool.false_eq_true, Nat.reduceBEq, ↓reduceIte, beq_self_eq_true]
          first | refine ev_call (sinside_ok _ _ _ p q u w h1 h3 (by omega)) ?_ | refine ev_callP (sinside_ok _ _ _ p q u w h1 h3 (by omega)) ?_
          rintro v_26 H_26 le_26 rfl _
          replace h1 := h1.le le_26
          replace h2 := h2.le le_26
          replace h3 := h3.le le_26
          replace h4 := h4.le le_26
          replace g9 := g9.le le_26
          try simp only [go_sem, Nat.reduceEqDiff, Nat.reduceAdd, Bool.false_eq_true, Nat.reduceBEq, ↓reduceIte]
          first | refine ev_call (sinsideR_ok _ _ _ p q u w h2 h4 (by omega)) ?_ | refine ev_callP (sinsideR_ok _ _ _ p q u w h2 h4 (by omega)) ?_
          rintro v_27 H_27 le_27 rfl _
          replace h1 := h1.le le_27
          replace h2 := h2.le le_27
          replace h3 := h3.le le_27
          replace h4 := h4.le le_27
          replace g9 := g9.le le_27
          try simp only [go_sem, Nat.reduceEqDiff, Nat.reduceAdd, Bool.false_eq_true, Nat.reduceBEq, ↓reduceIte]
          try simp only [go_sem, Nat.reduceEqDiff, Nat.reduceAdd, Bool.false_eq_true, Nat.reduceBEq, ↓reduceIte, beq_self_eq_true]
          first | refine ev_call (shull_ok _ _ _ p q u w h1 h3 (by omega)) ?_ | refine ev_callP (shull_ok _ _ _ p q u w h1 h3 (by omega)) ?_
          rintro v_28 H_28 le_28 g1 _
          replace h1 := h1.le le_28
          replace h2 := h2.le le_28
          replace h3 := h3.le le_28
          replace h4 := h4.le le_28
          replace g9 := g9.le le_28
          try simp only [go_sem, Nat.reduceEqDiff, Nat.reduceAdd, Bool.false_eq_true, Nat.reduceBEq, ↓reduceIte]
          first | refine ev_call (isS_ok _ _ _ _ _ g1 g9 (by omega) (by omega)) ?_ | refine ev_callP (isS_ok _ _ _ _ _ g1 g9 (by omega) (by omega)) ?_
          rintro v_29 H_29 le_29 rfl _
          replace h1 := h1.le le_29
          replace h2 := h2.le le_29
          replace h3 := h3.le le_29
          replace h4 := h4.le le_29
          try simp only [go_sem, Nat.reduceEqDiff, Nat.reduceAdd, Bool.false_eq_true, Nat.reduceBEq, ↓reduceIte]
          first | refine ev_call (smid_ok _ _ p q h1 (by omega)) ?_ | refine ev_callP (smid_ok _ _ p q h1 (by omega)) ?_
          rintro v_30 H_30 le_30 g1 _
          replace h1 := h1.le le_30
          replace h2 := h2.le le_30
          replace h3 := h3.le le_30
          replace h4 := h4.le le_30
          try simp only [go_sem, Nat.reduceEqDiff, Nat.reduceAdd, Bool.false_eq_true, Nat.reduceBEq, ↓reduceIte]
          first | refine ev_call (smidR_ok _ _ p q h2 (by omega)) ?_ | refine ev_callP (smidR_ok _ _ p q h2 (by omega)) ?_
          rintro v_31 H_31 le_31 g2 _
          replace h1 := h1.le le_31
          replace h2 := h2.le le_31
          replace h3 := h3.le le_31
          replace h4 := h4.le le_31
          replace g1 := g1.le le_31
          try simp only [go_sem, Nat.reduceEqDiff, Nat.reduceAdd, Bool.false_eq_true, Nat.reduceBEq, ↓reduceIte]
          first | refine ev_call (isQ_ok _ _ _ _ g1 g2 (by omega)) ?_ | refine ev_callP (isQ_ok _ _ _ _ g1 g2 (by omega)) ?_
          rintro v_32 H_32 le_32 rfl _
          replace h1 := h1.le le_32
          replace h2 := h2.le le_32
          replace h3 := h3.le le_32
          replace h4 := h4.le le_32
          try simp only [go_sem, Nat.reduceEqDiff, Nat.reduceAdd, Bool.false_eq_true, Nat.reduceBEq, ↓reduceIte]
          first | refine ev_call (swidth_ok _ _ p q h1 (by omega)) ?_ | refine ev_callP (swidth_ok _ _ p q h1 (by omega)) ?_
          rintro v_33 H_33 le_33 g1 _
          replace h1 := h1.le le_33
          replace h2 := h2.le le_33
          replace h3 := h3.le le_33
          replace h4 := h4.le le_33
          try simp only [go_sem, Nat.reduceEqDiff, Nat.reduceAdd, Bool.false_eq_true, Nat.reduceBEq, ↓reduceIte]
          first | refine ev_call (swidthR_ok _ _ p q h2 (by omega)) ?_ | refine ev_callP (swidthR_ok _ _ p q h2 (by omega)) ?_
          rintro v_34 H_34 le_34 g2 _
          replace h1 := h1.le le_34
          replace h2 := h2.le le_34
          replace h3 := h3.le le_34
          replace h4 := h4.le le_34
          replace g1 := g1.le le_34
          try simp only [go_sem, Nat.reduceEqDiff, Nat.reduceAdd, Bool.false_eq_true, Nat.reduceBEq, ↓reduceIte]
          first | refine ev_call (isQ_ok _ _ _ _ g1 g2 (by omega)) ?_ | refine ev_callP (isQ_ok _ _ _ _ g1 g2 (by omega)) ?_
          rintro v_35 H_35 le_35 rfl _
          replace h1 := h1.le le_35
          replace h2 := h2.le le_35
          replace h3 := h3.le le_35
          replace h4 := h4.le le_35
          try simp only [go_sem, Nat.reduceEqDiff, Nat.reduceAdd, Bool.false_eq_true, Nat.reduceBEq, ↓reduceIte]
          first | refine ev_call (ssign_ok _ _ p q h1 (by omega)) ?_ | refine ev_callP (ssign_ok _ _ p q h1 (by omega)) ?_
          rintro v_36 H_36 le_36 rfl _
          replace h1 := h1.le le_36
          replace h2 := h2.le le_36
          replace h3 := h3.le le_36
          replace h4 := h4.le le_36
          try simp only [go_sem, Nat.reduceEqDiff, Nat.reduceAdd, Bool.false_eq_true, Nat.reduceBEq, ↓reduceIte]
          first | refine ev_call (ssignR_ok _ _ p q h2) ?_ | refine ev_callP (ssignR_ok _ _ p q h2) ?_
          rintro v_37 H_37 le_37 rfl _
          replace h1 := h1.le le_37
          replace h2 := h2.le le_37
          replace h3 := h3.le le_37
          replace h4 := h4.le le_37
          try simp only [go_sem, Nat.reduceEqDiff, Nat.reduceAdd, Bool.false_eq_true, Nat.reduceBEq, ↓reduceIte]
          refine ev_pos (by trivial) ?_
          try simp only [go_sem, Nat.reduceEqDiff, Nat.reduceAdd, Bool.false_eq_true, Nat.reduceBEq, ↓reduceIte]
          refine ev_peq (fun hab => ?_) (fun hab => ?_)
          · try simp only [go_sem, Nat.reduceEqDiff, Nat.reduceAdd, Bool.false_eq_true, Nat.reduceBEq, ↓reduceIte]
            first | refine ev_call (ssame_ok _ _ _ p q u w h1 h3 (by omega)) ?_ | refine ev_callP (ssame_ok _ _ _ p q u w h1 h3 (by omega)) ?_
            rintro v_38 H_38 le_38 rfl _
            try simp only [go_sem, Nat.reduceEqDiff, Nat.reduceAdd, Bool.false_eq_true, Nat.reduceBEq, ↓reduceIte]
            rw [decide_eq_true (hsame.2 hab)]
            try simp only [go_sem, Nat.reduceEqDiff, Nat.reduceAdd, Bool.false_eq_true, Nat.reduceBEq, ↓reduceIte]
            exact ⟨by trivial, by trivial⟩
          · try simp only [go_sem, Nat.reduceEqDiff, Nat.reduceAdd, Bool.false_eq_true, Nat.reduceBEq, ↓reduceIte]
            first | refine ev_call (ssame_ok _ _ _ p q u w h1 h3 (by omega)) ?_ | refine ev_callP (ssame_ok _ _ _ p q u w h1 h3 (by omega)) ?_
            rintro v_39 H_39 le_39 rfl _
            try simp only [go_sem, Nat.reduceEqDiff, Nat.reduceAdd, Bool.false_eq_true, Nat.reduceBEq, ↓reduceIte]
            rw [decide_eq_false (fun h => hab (hsame.1 h))]
            try simp only [go_sem, Nat.reduceEqDiff, Nat.reduceAdd, Bool.false_eq_true, Nat.reduceBEq, ↓reduceIte]
            exact ⟨by trivial, by trivial⟩

end Go.Proofs.YtpifafenmgceoaaGreat.X
