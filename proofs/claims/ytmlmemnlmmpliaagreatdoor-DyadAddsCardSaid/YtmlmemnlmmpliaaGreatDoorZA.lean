/- Package dyad. -/
import Derived.Test.YtmlmemnlmmpliaaGreatDoorZK
import Derived.Test.YtmlmemnlmmpliaaGreatDoorZH
import Derived.Test.YtmlmemnlmmpliaaGreatDoorZD
import Derived.Test.YtmlmemnlmmpliaaGreatDoorZE
set_option linter.unusedVariables false
set_option linter.unusedSimpArgs false
namespace Go.Proofs.YtmlmemnlmmpliaaGreatDoor.X
open Go Go.RowKit Go.Proofs

/-- a number of package dyad -/
def DyadV (H : PH) (v : Value) (q : Rat) : Prop := ∃ A l c b, v = .agg #[.slice A l c, .bool b, .int .i64 (ex q)] ∧ IntV H (.agg #[.slice A l c, .bool b]) (mo q) ∧ isDy q = true
theorem DyadV.le {H H' : PH} {v : Value} {q : Rat} (h : DyadV H v q) (hl : H.le H') : DyadV H' v q := by
  obtain ⟨A, l, c, b, h1, h2, h3⟩ := h
  exact ⟨A, l, c, b, h1, h2.le hl, h3⟩
theorem DyadV.zero (H : PH) : DyadV H (.agg #[.slice none 0 0, .bool false, .int .i64 0]) 0 := ⟨none, 0, 0, false, by rw [ex_zero], by rw [mo_zero]; exact IntV.zero H, dy_zero⟩
theorem DyadV.form {H : PH} {v : Value} {q : Rat} (h : DyadV H v q) : ∃ A l c b, v = .agg #[.slice A l c, .bool b, .int .i64 (ex q)] := by
  obtain ⟨A, l, c, b, h1, _⟩ := h
  exact ⟨A, l, c, b, h1⟩
theorem aggD_inj {A A' : Option Addr} {l l' c c' : Nat} {b b' : Bool} {e e' : Int} (h : (Value.agg #[.slice A l c, .bool b, .int .i64 e]) = .agg #[.slice A' l' c', .bool b', .int .i64 e']) : A = A' ∧ l = l' ∧ c = c' ∧ b = b' ∧ e = e' := by
  simpa [and_assoc] using h
theorem DyadV.parts {H : PH} {A : Option Addr} {l c : Nat} {b : Bool} {e : Int} {q : Rat} (h : DyadV H (.agg #[.slice A l c, .bool b, .int .i64 e]) q) : IntV H (.agg #[.slice A l c, .bool b]) (mo q) ∧ e = ex q ∧ isDy q = true := by
  obtain ⟨A', l', c', b', h1, h2, h3⟩ := h
  obtain ⟨rfl, rfl, rfl, rfl, rfl⟩ := aggD_inj h1
  exact ⟨h2, rfl, h3⟩
theorem DyadV.dy {H : PH} {v : Value} {q : Rat} (h : DyadV H v q) : isDy q = true := by
  obtain ⟨A, l, c, b, h1, h2, h3⟩ := h
  exact h3
theorem clip_of {n : Int} {k : Nat} (h : n = k) (hk : k ≤ 1048576) : clip n = k := by unfold clip; omega
theorem clip_to {n : Int} (h : n ≤ 1048576) : clip n = n.toNat := by unfold clip; omega

set_option maxHeartbeats 4000000 in
theorem odd_ok (H : PH) (hT : Tab H) (v : Value) (z e : Int) (hV : IntV H v z) (hb : bi z ≤ 1000000) (h1 : -1000000000000 ≤ e) (h2 : e ≤ 1000000000000) : FnP Tryz.prog 45 [v, .int .i64 e] H fun v H' => DyadV H' v ((z : Rat) * tw e) := by
  obtain ⟨A, l, c, b, rfl⟩ := hV.form
  refine of_dyad_odd (by simp) ?_
  try simp only [go_sem, Nat.reduceEqDiff, Nat.reduceAdd, Bool.false_eq_true, Nat.reduceBEq, ↓reduceIte, p_dyad_odd]
  first | refine ev_call (wsign_ok _ _ z hV (by omega)) ?_ | refine ev_callP (wsign_ok _ _ z hV (by omega)) ?_
  rintro v_1 H_1 le_1 rfl _
  replace hV := hV.le le_1
  replace hT := hT.le le_1
  try simp only [go_sem, Nat.reduceEqDiff, Nat.reduceAdd, Bool.false_eq_true, Nat.reduceBEq, ↓reduceIte]
  refine ev_if (fun h => ?_) (fun h => ?_)
  · have hz : z = 0 := by
      unfold sgnI at h
      split at h
      · omega
      · split at h <;> omega
    subst hz
    try simp only [go_sem, Nat.reduceEqDiff, Nat.reduceAdd, Bool.false_eq_true, Nat.reduceBEq, ↓reduceIte]
    refine ⟨by trivial, ?_⟩
    rw [Rat.intCast_zero, Rat.zero_mul]
    exact DyadV.zero _
  · have hz : z ≠ 0 := fun e0 => h (by rw [e0]; rfl)
    obtain ⟨p1, p2⟩ := z_parts z e hz
    have ht : tz z.natAbs < bi z := tz_lt_bl (by omega)
    have hdy := dy_z z e
    try simp only [go_sem, Nat.reduceEqDiff, Nat.reduceAdd, Bool.false_eq_true, Nat.reduceBEq, ↓reduceIte]
    repeat' (with_reducible refine And.intro ?_ ?_)
    all_goals
      first | refine ev_call (wabs_ok _ _ z hV) ?_ | refine ev_callP (wabs_ok _ _ z hV) ?_
      rintro v_2 H_2 le_2 g1 _
      replace hV := hV.le le_2
      replace hT := hT.le le_2
      try simp only [go_sem, Nat.reduceEqDiff, Nat.reduceAdd, Bool.false_eq_true, Nat.reduceBEq, ↓reduceIte]
      obtain ⟨A1, l1, c1, rfl⟩ := g1.form
      try simp only [go_sem, Nat.reduceEqDiff, Nat.reduceAdd, Bool.false_eq_true, Nat.reduceBEq, ↓reduceIte]
      first | refine ev_call (zeros_ok _ hT _ _ g1 (show bl z.natAbs ≤ _ by unfold bi at hb; omega)) ?_ | refine ev_callP (zeros_ok _ hT _ _ g1 (show bl z.natAbs ≤ _ by unfold bi at hb; omega)) ?_
      rintro v_3 H_3 le_3 rfl _
      replace hV := hV.le le_3
      replace g1 := g1.le le_3
      try simp only [go_sem, Nat.reduceEqDiff, Nat.reduceAdd, Bool.false_eq_true, Nat.reduceBEq, ↓reduceIte]
      first | refine ev_call (wsign_ok _ _ z hV (by omega)) ?_ | refine ev_callP (wsign_ok _ _ z hV (by omega)) ?_
      rintro v_4 H_4 le_4 rfl _
      replace hV := hV.le le_4
      replace g1 := g1.le le_4
      try simp only [go_sem, Nat.reduceEqDiff, Nat.reduceAdd, Bool.false_eq_true, Nat.reduceBEq, ↓reduceIte]
      have hsz := sgnI_cases z
      repeat' (with_reducible refine And.intro ?_ ?_)
      all_goals
        by_cases hzn : z < 0
        · refine ev_pos (by unfold sgnI; rw [if_pos hzn]; decide) ?_
          try simp only [go_sem, Nat.reduceEqDiff, Nat.reduceAdd, Bool.false_eq_true, Nat.reduceBEq, ↓reduceIte]
          repeat' (with_reducible refine And.intro ?_ ?_)
          all_goals
            first | refine ev_call (wabs_ok _ _ z hV) ?_ | refine ev_callP (wabs_ok _ _ z hV) ?_
            rintro v_5 H_5 le_5 g2 _
            replace hV := hV.le le_5
            try simp only [go_sem, Nat.reduceEqDiff, Nat.reduceAdd, Bool.false_eq_true, Nat.reduceBEq, ↓reduceIte]
            obtain ⟨A2, l2, c2, rfl⟩ := g2.form
            try simp only [go_sem, Nat.reduceEqDiff, Nat.reduceAdd, Bool.false_eq_true, Nat.reduceBEq, ↓reduceIte]
            first | refine ev_call (shr_ok _ _ _ (tz z.natAbs : Nat) g2 (show bl z.natAbs ≤ _ by unfold bi at hb; omega)) ?_ | refine ev_callP (shr_ok _ _ _ (tz z.natAbs : Nat) g2 (show bl z.natAbs ≤ _ by unfold bi at hb; omega)) ?_
            rintro v_6 H_6 le_6 g3 _
            replace hV := hV.le le_6
            try simp only [go_sem, Nat.reduceEqDiff, Nat.reduceAdd, Bool.false_eq_true, Nat.reduceBEq, ↓reduceIte]
            obtain ⟨A3, l3, c3, rfl⟩ := g3.form
            try simp only [go_sem, Nat.reduceEqDiff, Nat.reduceAdd, Bool.false_eq_true, Nat.reduceBEq, ↓reduceIte]
            first | refine ev_call (from_ok _ true _ _ g3 (by have := @bl_div z.natAbs 1000000 (2 ^ clip (tz z.natAbs)) hb; omega)) ?_ | refine ev_callP (from_ok _ true _ _ g3 (by have := @bl_div z.natAbs 1000000 (2 ^ clip (tz z.natAbs)) hb; omega)) ?_
            rintro v_7 H_7 le_7 g4 _
            replace hV := hV.le le_7
            try simp only [go_sem, Nat.reduceEqDiff, Nat.reduceAdd, Bool.false_eq_true, Nat.reduceBEq, ↓reduceIte]
            obtain ⟨A4, l4, c4, b4, rfl⟩ := g4.form
            try simp only [go_sem, Nat.reduceEqDiff, Nat.reduceAdd, Bool.false_eq_true, Nat.reduceBEq, ↓reduceIte]
            rw [clip_of rfl (by omega)] at g4
            rw [w64 (e + (tz z.natAbs : Int)) (by omega) (by omega)]
            refine ⟨by trivial, _, _, _, _, by rw [p2], ?_, hdy⟩
            rw [p1, ediv_sg (Nat.two_pow_pos _) ⟨_, (tz_spec (show z.natAbs ≠ 0 by omega)).choose_spec⟩, decide_eq_true hzn]
            exact g4
        · refine ev_neg (by unfold sgnI; rw [if_neg hzn]; split <;> decide) ?_
          try simp only [go_sem, Nat.reduceEqDiff, Nat.reduceAdd, Bool.false_eq_true, Nat.reduceBEq, ↓reduceIte]
          repeat' (with_reducible refine And.intro ?_ ?_)
          all_goals
            first | refine ev_call (wabs_ok _ _ z hV) ?_ | refine ev_callP (wabs_ok _ _ z hV) ?_
            rintro v_8 H_8 le_8 g2 _
            replace hV := hV.le le_8
            try simp only [go_sem, Nat.reduceEqDiff, Nat.reduceAdd, Bool.false_eq_true, Nat.reduceBEq, ↓reduceIte]
            obtain ⟨A2, l2, c2, rfl⟩ := g2.form
            try simp only [go_sem, Nat.reduceEqDiff, Nat.reduceAdd, Bool.false_eq_true, Nat.reduceBEq, ↓reduceIte]
            first | refine ev_call (shr_ok _ _ _ (tz z.natAbs : Nat) g2 (show bl z.natAbs ≤ _ by unfold bi at hb; omega)) ?_ | refine ev_callP (shr_ok _ _ _ (tz z.natAbs : Nat) g2 (show bl z.natAbs ≤ _ by unfold bi at hb; omega)) ?_
            rintro v_9 H_9 le_9 g3 _
            replace hV := hV.le le_9
            try simp only [go_sem, Nat.reduceEqDiff, Nat.reduceAdd, Bool.false_eq_true, Nat.reduceBEq, ↓reduceIte]
            obtain ⟨A3, l3, c3, rfl⟩ := g3.form
            try simp only [go_sem, Nat.reduceEqDiff, Nat.reduceAdd, Bool.false_eq_true, Nat.reduceBEq, ↓reduceIte]
            first | refine ev_call (from_ok _ false _ _ g3 (by have := @bl_div z.natAbs 1000000 (2 ^ clip (tz z.natAbs)) hb; omega)) ?_ | refine ev_callP (from_ok _ false _ _ g3 (by have := @bl_div z.natAbs 1000000 (2 ^ clip (tz z.natAbs)) hb; omega)) ?_
            rintro v_10 H_10 le_10 g4 _
            replace hV := hV.le le_10
            try simp only [go_sem, Nat.reduceEqDiff, Nat.reduceAdd, Bool.false_eq_true, Nat.reduceBEq, ↓reduceIte]
            obtain ⟨A4, l4, c4, b4, rfl⟩ := g4.form
            try simp only [go_sem, Nat.reduceEqDiff, Nat.reduceAdd, Bool.false_eq_true, Nat.reduceBEq, ↓reduceIte]
            rw [clip_of rfl (by omega)] at g4
            rw [w64 (e + (tz z.natAbs : Int)) (by omega) (by omega)]
            refine ⟨by trivial, _, _, _, _, by rw [p2], ?_, hdy⟩
            rw [p1, ediv_sg (Nat.two_pow_pos _) ⟨_, (tz_spec (show z.natAbs ≠ 0 by omega)).choose_spec⟩, decide_eq_false hzn]
            exact g4

theorem sg_shl (z : Int) (k : Nat) : sg (decide (z < 0)) (z.natAbs * k) = z * (k : Int) := by
  conv => rhs; rw [← sg_self z]
  cases decide (z < 0)
  · rw [sg_false, sg_false, Int.natCast_mul]
  · rw [sg_true, sg_true, Int.natCast_mul, Int.neg_mul]
theorem bi_shl {z : Int} {k n : Nat} (h : bi z ≤ n) : bi (z * ((2 ^ k : Nat) : Int)) ≤ n + k := by
  unfold bi at *
  rw [Int.natAbs_mul, Int.natAbs_natCast]
  exact bl_shl h
theorem shifted_ok (H : PH) (v : Value) (z n : Int) (hV : IntV H v z) (hb : bi z ≤ 1000000000) : FnP Tryz.prog 47 [v, .int .i64 n] H fun v H' => IntV H' v (z * ((2 ^ clip n : Nat) : Int)) := by
  obtain ⟨A, l, c, b, rfl⟩ := hV.form
  have hc := clip_le n
  have h1 : bl (z.natAbs * 2 ^ clip n) ≤ 1000000000 + clip n := bl_shl hb
  refine of_dyad_shifted (by simp) ?_
  try simp only [go_sem, Nat.reduceEqDiff, Nat.reduceAdd, Bool.false_eq_true, Nat.reduceBEq, ↓reduceIte, p_dyad_shifted]
  first | refine ev_call (wsign_ok _ _ z hV (by omega)) ?_ | refine ev_callP (wsign_ok _ _ z hV (by omega)) ?_
  rintro v_11 H_11 le_11 rfl _
  replace hV := hV.le le_11
  try simp only [go_sem, Nat.reduceEqDiff, Nat.reduceAdd, Bool.false_eq_true, Nat.reduceBEq, ↓reduceIte]
  by_cases hzn : z < 0
  · refine ev_pos (by unfold sgnI; rw [if_pos hzn]; decide) ?_
    try simp only [go_sem, Nat.reduceEqDiff, Nat.reduceAdd, Bool.false_eq_true, Nat.reduceBEq, ↓reduceIte]
    first | refine ev_call (wabs_ok _ _ z hV) ?_ | refine ev_callP (wabs_ok _ _ z hV) ?_
    rintro v_12 H_12 le_12 g2 _
    replace hV := hV.le le_12
    try simp only [go_sem, Nat.reduceEqDiff, Nat.reduceAdd, Bool.false_eq_true, Nat.reduceBEq, ↓reduceIte]
    obtain ⟨A2, l2, c2, rfl⟩ := g2.form
    try simp only [go_sem, Nat.reduceEqDiff, Nat.reduceAdd, Bool.false_eq_true, Nat.reduceBEq, ↓reduceIte]
    first | refine ev_call (shl_ok _ _ _ n g2 (show bl z.natAbs ≤ _ by unfold bi at hb; omega)) ?_ | refine ev_callP (shl_ok _ _ _ n g2 (show bl z.natAbs ≤ _ by unfold bi at hb; omega)) ?_
    rintro v_13 H_13 le_13 g3 _
    replace hV := hV.le le_13
    try simp only [go_sem, Nat.reduceEqDiff, Nat.reduceAdd, Bool.false_eq_true, Nat.reduceBEq, ↓reduceIte]
    obtain ⟨A3, l3, c3, rfl⟩ := g3.form
    try simp only [go_sem, Nat.reduceEqDiff, Nat.reduceAdd, Bool.false_eq_true, Nat.reduceBEq, ↓reduceIte]
    first | refine ev_call (from_ok _ _ _ _ g3 (by omega)) ?_ | refine ev_callP (from_ok _ _ _ _ g3 (by omega)) ?_
    rintro v_14 H_14 le_14 g4 _
    replace hV := hV.le le_14
    try simp only [go_sem, Nat.reduceEqDiff, Nat.reduceAdd, Bool.false_eq_true, Nat.reduceBEq, ↓reduceIte]
    obtain ⟨A4, l4, c4, b4, rfl⟩ := g4.form
    try simp only [go_sem, Nat.reduceEqDiff, Nat.reduceAdd, Bool.false_eq_true, Nat.reduceBEq, ↓reduceIte]
    refine ⟨by trivial, ?_⟩
    rw [← sg_shl, decide_eq_true hzn]
    exact g4
  · refine ev_neg (by unfold sgnI; rw [if_neg hzn]; split <;> decide) ?_
    try simp only [go_sem, Nat.reduceEqDiff, Nat.reduceAdd, Bool.false_eq_true, Nat.reduceBEq, ↓reduceIte]
    first | refine ev_call (wabs_ok _ _ z hV) ?_ | refine ev_callP (wabs_ok _ _ z hV) ?_
    rintro v_12 H_12 le_12 g2 _
    replace hV := hV.le le_12
    try simp only [go_sem, Nat.reduceEqDiff, Nat.reduceAdd, Bool.false_eq_true, Nat.reduceBEq, ↓reduceIte]
    obtain ⟨A2, l2, c2, rfl⟩ := g2.form
    try simp only [go_sem, Nat.reduceEqDiff, Nat.reduceAdd, Bool.false_eq_true, Nat.reduceBEq, ↓reduceIte]
    first | refine ev_call (shl_ok _ _ _ n g2 (show bl z.natAbs ≤ _ by unfold bi at hb; omega)) ?_ | refine ev_callP (shl_ok _ _ _ n g2 (show bl z.natAbs ≤ _ by unfold bi at hb; omega)) ?_
    rintro v_13 H_13 le_13 g3 _
    replace hV := hV.le le_13
    try simp only [go_sem, Nat.reduceEqDiff, Nat.reduceAdd, Bool.false_eq_true, Nat.reduceBEq, ↓reduceIte]
    obtain ⟨A3, l3, c3, rfl⟩ := g3.form
    try simp only [go_sem, Nat.reduceEqDiff, Nat.reduceAdd, Bool.false_eq_true, Nat.reduceBEq, ↓reduceIte]
    first | refine ev_call (from_ok _ _ _ _ g3 (by omega)) ?_ | refine ev_callP (from_ok _ _ _ _ g3 (by omega)) ?_
    rintro v_14 H_14 le_14 g4 _
    replace hV := hV.le le_14
    try simp only [go_sem, Nat.reduceEqDiff, Nat.reduceAdd, Bool.false_eq_true, Nat.reduceBEq, ↓reduceIte]
    obtain ⟨A4, l4, c4, b4, rfl⟩ := g4.form
    try simp only [go_sem, Nat.reduceEqDiff, Nat.reduceAdd, Bool.false_eq_true, Nat.reduceBEq, ↓reduceIte]
    refine ⟨by trivial, ?_⟩
    rw [← sg_shl, decide_eq_false hzn]
    exact g4

theorem rat_val {q : Rat} (h : isDy q = true) (h1 : (ex q).natAbs ≤ 1048576) : Rat.divInt (mo q * ((2 ^ clip (ex q) : Nat) : Int)) (1 * ((2 ^ clip (-(ex q)) : Nat) : Int)) = q := by
  rw [clip_to (by omega), clip_to (by omega), Int.one_mul, Rat.divInt_ofNat, Rat.mkRat_eq_div, Rat.intCast_mul, Rat.intCast_natCast]
  conv => rhs; rw [← dy_val h]
  unfold tw
  rw [Rat.div_def, Rat.div_def, Rat.mul_assoc]
theorem ratD_ok (H : PH) (v : Value) (q : Rat) (hV : DyadV H v q) (hb : br q ≤ 1000000) : FnP Tryz.prog 27 [v] H fun v H' => RatV H' v q := by
  obtain ⟨A, l, c, b, rfl⟩ := hV.form
  obtain ⟨h1, _, h3⟩ := hV.parts
  have b1 := bi_mo q
  have b2 := ex_bd q
  have hv := rat_val h3 (by omega)
  have hc := clip_le (ex q)
  have hc2 := clip_le (-(ex q))
  refine of_dyad_Dyad_Rat (by simp) ?_
  try simp only [go_sem, Nat.reduceEqDiff, Nat.reduceAdd, Bool.false_eq_true, Nat.reduceBEq, ↓reduceIte, p_dyad_Dyad_Rat]
  rw [show IntKind.i64.wrap (0 - ex q) = -(ex q) by rw [w64 _ (by omega) (by omega)]; omega]
  repeat' (with_reducible refine And.intro ?_ ?_)
  all_goals
    first | refine ev_call (shifted_ok _ _ _ (ex q) h1 (by omega)) ?_ | refine ev_callP (shifted_ok _ _ _ (ex q) h1 (by omega)) ?_
    rintro v_15 H_15 le_15 g1 _
    try simp only [go_sem, Nat.reduceEqDiff, Nat.reduceAdd, Bool.false_eq_true, Nat.reduceBEq, ↓reduceIte]
    repeat' (with_reducible refine And.intro ?_ ?_)
    all_goals
      first | refine ev_call (wof_ok _ 1 (by decide) (by decide)) ?_ | refine ev_callP (wof_ok _ 1 (by decide) (by decide)) ?_
      rintro v_16 H_16 le_16 g2 _
      replace g1 := g1.le le_16
      try simp only [go_sem, Nat.reduceEqDiff, Nat.reduceAdd, Bool.false_eq_true, Nat.reduceBEq, ↓reduceIte]
      repeat' (with_reducible refine And.intro ?_ ?_)
      all_goals
        first | refine ev_call (shifted_ok _ _ _ (-(ex q)) g2 (by decide)) ?_ | refine ev_callP (shifted_ok _ _ _ (-(ex q)) g2 (by decide)) ?_
        rintro v_17 H_17 le_17 g3 _
        replace g1 := g1.le le_17
        try simp only [go_sem, Nat.reduceEqDiff, Nat.reduceAdd, Bool.false_eq_true, Nat.reduceBEq, ↓reduceIte]
        repeat' (with_reducible refine And.intro ?_ ?_)
        all_goals
          first | refine ev_call (rnew_ok1 _ _ _ _ _ g1 g3 (by have := @bi_shl (mo q) (clip (ex q)) _ b1; omega) (by have := @bi_shl 1 (clip (-(ex q))) 1 (by decide); omega) (by have := Nat.two_pow_pos (clip (-(ex q))); omega)) ?_ | refine ev_callP (rnew_ok1 _ _ _ _ _ g1 g3 (by have := @bi_shl (mo q) (clip (ex q)) _ b1; omega) (by have := @bi_shl 1 (clip (-(ex q))) 1 (by decide); omega) (by have := Nat.two_pow_pos (clip (-(ex q))); omega)) ?_
          rintro v_18 H_18 le_18 ⟨v9, rfl, g4⟩ _
          try simp only [go_sem, Nat.reduceEqDiff, Nat.reduceAdd, Bool.false_eq_true, Nat.reduceBEq, ↓reduceIte]
          rw [hv] at g4
          obtain ⟨A4, l4, c4, b4, B4, m4, e4, rfl⟩ := g4.form
          try simp only [go_sem, Nat.reduceEqDiff, Nat.reduceAdd, Bool.false_eq_true, Nat.reduceBEq, ↓reduceIte]
          exact ⟨by trivial, g4⟩

theorem dtext_ok (H : PH) (v : Value) (q : Rat) (hV : DyadV H v q) (hb : br q ≤ 1000000) : FnP Tryz.prog 8 [v] H fun v _ => v = .string (ofB (rtx q)) := by
  obtain ⟨A, l, c, b, rfl⟩ := hV.form
  refine of_dyad_Dyad_Text (by simp) ?_
  try simp only [go_sem, Nat.reduceEqDiff, Nat.reduceAdd, Bool.false_eq_true, Nat.reduceBEq, ↓reduceIte, p_dyad_Dyad_Text]
  first | refine ev_call (ratD_ok _ _ q hV hb) ?_ | refine ev_callP (ratD_ok _ _ q hV hb) ?_
  rintro v_19 H_19 le_19 g1 _
  try simp only [go_sem, Nat.reduceEqDiff, Nat.reduceAdd, Bool.false_eq_true, Nat.reduceBEq, ↓reduceIte]
  first | refine ev_call (rtext_ok' _ _ q g1 (by omega)) ?_ | refine ev_callP (rtext_ok' _ _ q g1 (by omega)) ?_
  rintro v_20 H_20 le_20 rfl _
  try simp only [go_sem, Nat.reduceEqDiff, Nat.reduceAdd, Bool.false_eq_true, Nat.reduceBEq, ↓reduceIte]
  exact ⟨by trivial, by trivial⟩

theorem add_val {p q : Rat} (hp : isDy p = true) (hq : isDy q = true) : (((mo p * ((2 ^ (ex p - min (ex p) (ex q)).toNat : Nat) : Int) + mo q * ((2 ^ (ex q - min (ex p) (ex q)).toNat : Nat) : Int)) : Int) : Rat) * tw (min (ex p) (ex q)) = p + q := by
  have h1 := dy_val hp
  have h2 := dy_val hq
  have e1 : tw (ex p) = tw (ex p - min (ex p) (ex q)) * tw (min (ex p) (ex q)) := by rw [← tw_add]; congr 1; omega
  have e2 : tw (ex q) = tw (ex q - min (ex p) (ex q)) * tw (min (ex p) (ex q)) := by rw [← tw_add]; congr 1; omega
  obtain ⟨n1, hn1⟩ : ∃ n : Nat, ex p - min (ex p) (ex q) = n := ⟨(ex p - min (ex p) (ex q)).toNat, by omega⟩
  obtain ⟨n2, hn2⟩ : ∃ n : Nat, ex q - min (ex p) (ex q) = n := ⟨(ex q - min (ex p) (ex q)).toNat, by omega⟩
  rw [show (ex p - min (ex p) (ex q)).toNat = n1 by omega, show (ex q - min (ex p) (ex q)).toNat = n2 by omega]
  rw [Rat.intCast_add, Rat.intCast_mul, Rat.intCast_mul, Rat.intCast_natCast, Rat.intCast_natCast, ← tw_nat, ← tw_nat, ← hn1, ← hn2]
  conv => rhs; rw [← h1, ← h2, e1, e2]
  grind

theorem dadd_ok (H : PH) (hT : Tab H) (va vb : Value) (p q : Rat) (ha : DyadV H va p) (hb : DyadV H vb q) (hbd : br p + br q ≤ 300000) : FnP Tryz.prog 14 [va, vb] H fun v H' => DyadV H' v (p + q) := by
  obtain ⟨A, l, c, b, rfl⟩ := ha.form
  obtain ⟨A1, l1, c1, b1, rfl⟩ := hb.form
  obtain ⟨h1, _, h2⟩ := ha.parts
  obtain ⟨h3, _, h4⟩ := hb.parts
  have k1 := bi_mo p
  have k2 := bi_mo q
  have k3 := ex_bd p
  have k4 := ex_bd q
  refine of_dyad_Add (by simp) ?_
  try simp only [go_sem, Nat.reduceEqDiff, Nat.reduceAdd, Bool.false_eq_true, Nat.reduceBEq, ↓reduceIte, p_dyad_Add]
  first | refine ev_call (wsign_ok _ _ _ h1 (by omega)) ?_ | refine ev_callP (wsign_ok _ _ _ h1 (by omega)) ?_
  rintro v_21 H_21 le_21 rfl _
  replace ha := ha.le le_21
  replace hb := hb.le le_21
  replace h1 := h1.le le_21
  replace h3 := h3.le le_21
  replace hT := hT.le le_21
  try simp only [go_sem, Nat.reduceEqDiff, Nat.reduceAdd, Bool.false_eq_true, Nat.reduceBEq, ↓reduceIte]
  refine ev_if (fun h => ?_) (fun h => ?_)
  · have hz : p = 0 := (mo_zero_iff h2).1 (by unfold sgnI at h; split at h <;> (try split at h) <;> omega)
    subst hz
    try simp only [go_sem, Nat.reduceEqDiff, Nat.reduceAdd, Bool.false_eq_true, Nat.reduceBEq, ↓reduceIte]
    rw [Rat.zero_add]
    exact ⟨by trivial, hb⟩
  · try simp only [go_sem, Nat.reduceEqDiff, Nat.reduceAdd, Bool.false_eq_true, Nat.reduceBEq, ↓reduceIte]
    first | refine ev_call (wsign_ok _ _ _ h3 (by omega)) ?_ | refine ev_callP (wsign_ok _ _ _ h3 (by omega)) ?_
    rintro v_22 H_22 le_22 rfl _
    replace ha := ha.le le_22
    replace hb := hb.le le_22
    replace h1 := h1.le le_22
    replace h3 := h3.le le_22
    replace hT := hT.le le_22
    try simp only [go_sem, Nat.reduceEqDiff, Nat.reduceAdd, Bool.false_eq_true, Nat.reduceBEq, ↓reduceIte]
    refine ev_if (fun h => ?_) (fun h => ?_)
    · have hz : q = 0 := (mo_zero_iff h4).1 (by unfold sgnI at h; split at h <;> (try split at h) <;> omega)
      subst hz
      try simp only [go_sem, Nat.reduceEqDiff, Nat.reduceAdd, Bool.false_eq_true, Nat.reduceBEq, ↓reduceIte]
      rw [Rat.add_zero]
      exact ⟨by trivial, ha⟩
    · try simp only [go_sem, Nat.reduceEqDiff, Nat.reduceAdd, Bool.false_eq_true, Nat.reduceBEq, ↓reduceIte]
      rw [show (if ex q < ex p then ex q else ex p) = min (ex p) (ex q) by split <;> omega]
      have hv := add_val h2 h4
      generalize hm : min (ex p) (ex q) = m at *
      rw [w64 (ex p - m) (by omega) (by omega), w64 (ex q - m) (by omega) (by omega)]
      have c1 := clip_to (show ex p - m ≤ 1048576 by omega)
      have c2 := clip_to (show ex q - m ≤ 1048576 by omega)
      first | refine ev_call (shifted_ok _ _ _ (ex p - m) h1 (by omega)) ?_ | refine ev_callP (shifted_ok _ _ _ (ex p - m) h1 (by omega)) ?_
      rintro v_23 H_23 le_23 g1 _
      replace h3 := h3.le le_23
      replace hT := hT.le le_23
      try simp only [go_sem, Nat.reduceEqDiff, Nat.reduceAdd, Bool.false_eq_true, Nat.reduceBEq, ↓reduceIte]
      first | refine ev_call (shifted_ok _ _ _ (ex q - m) h3 (by omega)) ?_ | refine ev_callP (shifted_ok _ _ _ (ex q - m) h3 (by omega)) ?_
      rintro v_24 H_24 le_24 g2 _
      replace g1 := g1.le le_24
      replace hT := hT.le le_24
      try simp only [go_sem, Nat.reduceEqDiff, Nat.reduceAdd, Bool.false_eq_true, Nat.reduceBEq, ↓reduceIte]
      rw [c1] at g1
      rw [c2] at g2
      have s1 := @bi_shl (mo p) (ex p - m).toNat _ k1
      have s2 := @bi_shl (mo q) (ex q - m).toNat _ k2
      have s3 := bi_add (mo p * ((2 ^ (ex p - m).toNat : Nat) : Int)) (mo q * ((2 ^ (ex q - m).toNat : Nat) : Int))
      first | refine ev_call (wadd_ok _ _ _ _ _ g1 g2 (by omega) (by omega)) ?_ | refine ev_callP (wadd_ok _ _ _ _ _ g1 g2 (by omega) (by omega)) ?_
      rintro v_25 H_25 le_25 g3 _
      replace hT := hT.le le_25
      try simp only [go_sem, Nat.reduceEqDiff, Nat.reduceAdd, Bool.false_eq_true, Nat.reduceBEq, ↓reduceIte]
      first | refine ev_call (odd_ok _ hT _ _ m g3 (by omega) (by omega) (by omega)) ?_ | refine ev_callP (odd_ok _ hT _ _ m g3 (by omega) (by omega) (by omega)) ?_
      rintro v_26 H_26 le_26 g4 _
      try simp only [go_sem, Nat.reduceEqDiff, Nat.reduceAdd, Bool.false_eq_true, Nat.reduceBEq, ↓reduceIte]
      rw [hv] at g4
      obtain ⟨A4, l4, c4, b4, rfl⟩ := g4.form
      try simp only [go_sem, Nat.reduceEqDiff, Nat.reduceAdd, Bool.false_eq_true, Nat.reduceBEq, ↓reduceIte]
      exact ⟨by trivial, g4⟩

theorem dneg_mk {H : PH} {A : Option Addr} {l c : Nat} {b : Bool} {q : Rat} (h : IntV H (.agg #[.slice A l c, .bool b]) (-(mo q))) (hd : isDy q = true) : DyadV H (.agg #[.slice A l c, .bool b, .int .i64 (ex q)]) (-q) :=
  ⟨A, l, c, b, by rw [ex_neg], by rw [mo_neg]; exact h, dy_neg hd⟩
theorem dsub_ok (H : PH) (hT : Tab H) (va vb : Value) (p q : Rat) (ha : DyadV H va p) (hb : DyadV H vb q) (hbd : br p + br q ≤ 300000) : FnP Tryz.prog 16 [va, vb] H fun v H' => DyadV H' v (p - q) := by
  obtain ⟨A, l, c, b, rfl⟩ := ha.form
  obtain ⟨A1, l1, c1, b1, rfl⟩ := hb.form
  obtain ⟨h3, _, h4⟩ := hb.parts
  have k2 := bi_mo q
  refine of_dyad_Sub (by simp) ?_
  try simp only [go_sem, Nat.reduceEqDiff, Nat.reduceAdd, Bool.false_eq_true, Nat.reduceBEq, ↓reduceIte, p_dyad_Sub]
  first | refine ev_call (wneg_ok _ _ _ h3 (by omega)) ?_ | refine ev_callP (wneg_ok _ _ _ h3 (by omega)) ?_
  rintro v_27 H_27 le_27 g1 _
  replace ha := ha.le le_27
  replace hT := hT.le le_27
  try simp only [go_sem, Nat.reduceEqDiff, Nat.reduceAdd, Bool.false_eq_true, Nat.reduceBEq, ↓reduceIte]
  obtain ⟨A2, l2, c2, b2, rfl⟩ := g1.form
  have g2 := dneg_mk g1 h4
  try simp only [go_sem, Nat.reduceEqDiff, Nat.reduceAdd, Bool.false_eq_true, Nat.reduceBEq, ↓reduceIte]
  first | refine ev_call (dadd_ok _ hT _ _ p (-q) ha g2 (by rw [br_neg]; omega)) ?_ | refine ev_callP (dadd_ok _ hT _ _ p (-q) ha g2 (by rw [br_neg]; omega)) ?_
  rintro v_28 H_28 le_28 g3 _
  try simp only [go_sem, Nat.reduceEqDiff, Nat.reduceAdd, Bool.false_eq_true, Nat.reduceBEq, ↓reduceIte]
  rw [← Rat.sub_eq_add_neg] at g3
  obtain ⟨A4, l4, c4, b4, rfl⟩ := g3.form
  try simp only [go_sem, Nat.reduceEqDiff, Nat.reduceAdd, Bool.false_eq_true, Nat.reduceBEq, ↓reduceIte]
  exact ⟨by trivial, g3⟩

theorem dmul_ok (H : PH) (hT : Tab H) (va vb : Value) (p q : Rat) (ha : DyadV H va p) (hb : DyadV H vb q) (hbd : br p + br q ≤ 300000) : FnP Tryz.prog 18 [va, vb] H fun v H' => DyadV H' v (p * q) := by
  obtain ⟨A, l, c, b, rfl⟩ := ha.form
  obtain ⟨A1, l1, c1, b1, rfl⟩ := hb.form
  obtain ⟨h1, _, h2⟩ := ha.parts
  obtain ⟨h3, _, h4⟩ := hb.parts
  have k1 := bi_mo p
  have k2 := bi_mo q
  have k3 := ex_bd p
  have k4 := ex_bd q
  have s1 := bi_mul (mo p) (mo q)
  refine of_dyad_Mul (by simp) ?_
  try simp only [go_sem, Nat.reduceEqDiff, Nat.reduceAdd, Bool.false_eq_true, Nat.reduceBEq, ↓reduceIte, p_dyad_Mul]
  rw [w64 (ex p + ex q) (by omega) (by omega)]
  first | refine ev_call (wmul_ok _ _ _ _ _ h1 h3 (by omega)) ?_ | refine ev_callP (wmul_ok _ _ _ _ _ h1 h3 (by omega)) ?_
  rintro v_29 H_29 le_29 g1 _
  replace hT := hT.le le_29
  try simp only [go_sem, Nat.reduceEqDiff, Nat.reduceAdd, Bool.false_eq_true, Nat.reduceBEq, ↓reduceIte]
  first | refine ev_call (odd_ok _ hT _ _ (ex p + ex q) g1 (by omega) (by omega) (by omega)) ?_ | refine ev_callP (odd_ok _ hT _ _ (ex p + ex q) g1 (by omega) (by omega) (by omega)) ?_
  rintro v_30 H_30 le_30 g4 _
  try simp only [go_sem, Nat.reduceEqDiff, Nat.reduceAdd, Bool.false_eq_true, Nat.reduceBEq, ↓reduceIte]
  have e : ((mo p * mo q : Int) : Rat) * tw (ex p + ex q) = p * q := by
    conv => rhs; rw [← dy_val h2, ← dy_val h4]
    rw [Rat.intCast_mul, tw_add]
    grind
  rw [e] at g4
  obtain ⟨A4, l4, c4, b4, rfl⟩ := g4.form
  try simp only [go_sem, Nat.reduceEqDiff, Nat.reduceAdd, Bool.false_eq_true, Nat.reduceBEq, ↓reduceIte]
  exact ⟨by trivial, g4⟩

theorem dmid_ok (H : PH) (hT : Tab H) (va vb : Value) (p q : Rat) (ha : DyadV H va p) (hb : DyadV H vb q) (hbd : br p + br q ≤ 200000) : FnP Tryz.prog 20 [va, vb] H fun v H' => DyadV H' v ((p + q) / 2) := by
  obtain ⟨A, l, c, b, rfl⟩ := ha.form
  obtain ⟨A1, l1, c1, b1, rfl⟩ := hb.form
  refine of_dyad_Mid (by simp) ?_
  try simp only [go_sem, Nat.reduceEqDiff, Nat.reduceAdd, Bool.false_eq_true, Nat.reduceBEq, ↓reduceIte, p_dyad_Mid]
  first | refine ev_call (dadd_ok _ hT _ _ p q ha hb (by omega)) ?_ | refine ev_callP (dadd_ok _ hT _ _ p q ha hb (by omega)) ?_
  rintro v_31 H_31 le_31 g1 _
  replace hT := hT.le le_31
  try simp only [go_sem, Nat.reduceEqDiff, Nat.reduceAdd, Bool.false_eq_true, Nat.reduceBEq, ↓reduceIte]
  obtain ⟨A2, l2, c2, b2, rfl⟩ := g1.form
  obtain ⟨h1, _, h2⟩ := g1.parts
  have s1 := br_add p q
  have k1 := bi_mo (p + q)
  have k3 := ex_bd (p + q)
  try simp only [go_sem, Nat.reduceEqDiff, Nat.reduceAdd, Bool.false_eq_true, Nat.reduceBEq, ↓reduceIte]
  rw [w64 (ex (p + q) - 1) (by omega) (by omega)]
  first | refine ev_call (odd_ok _ hT _ _ (ex (p + q) - 1) h1 (by omega) (by omega) (by omega)) ?_ | refine ev_callP (odd_ok _ hT _ _ (ex (p + q) - 1) h1 (by omega) (by omega) (by omega)) ?_
  rintro v_32 H_32 le_32 g4 _
  try simp only [go_sem, Nat.reduceEqDiff, Nat.reduceAdd, Bool.false_eq_true, Nat.reduceBEq, ↓reduceIte]
  have e : (mo (p + q) : Rat) * tw (ex (p + q) - 1) = (p + q) / 2 := by
    conv => rhs; rw [← dy_val h2]
    rw [tw_pred]
    grind
  rw [e] at g4
  obtain ⟨A4, l4, c4, b4, rfl⟩ := g4.form
  try simp only [go_sem, Nat.reduceEqDiff, Nat.reduceAdd, Bool.false_eq_true, Nat.reduceBEq, ↓reduceIte]
  exact ⟨by trivial, g4⟩

theorem dcmp_ok (H : PH) (hT : Tab H) (va vb : Value) (p q : Rat) (ha : DyadV H va p) (hb : DyadV H vb q) (hbd : br p + br q ≤ 300000) : FnP Tryz.prog 22 [va, vb] H fun v _ => v = .int .i64 (cmpR p q) := by
  obtain ⟨A, l, c, b, rfl⟩ := ha.form
  obtain ⟨A1, l1, c1, b1, rfl⟩ := hb.form
  have s1 := br_sub p q
  have s2 := bi_mo (p - q)
  refine of_dyad_Cmp (by simp) ?_
  try simp only [go_sem, Nat.reduceEqDiff, Nat.reduceAdd, Bool.false_eq_true, Nat.reduceBEq, ↓reduceIte, p_dyad_Cmp]
  first | refine ev_call (dsub_ok _ hT _ _ p q ha hb hbd) ?_ | refine ev_callP (dsub_ok _ hT _ _ p q ha hb hbd) ?_
  rintro v_33 H_33 le_33 g1 _
  try simp only [go_sem, Nat.reduceEqDiff, Nat.reduceAdd, Bool.false_eq_true, Nat.reduceBEq, ↓reduceIte]
  obtain ⟨A2, l2, c2, b2, rfl⟩ := g1.form
  obtain ⟨h1, _, h2⟩ := g1.parts
  try simp only [go_sem, Nat.reduceEqDiff, Nat.reduceAdd, Bool.false_eq_true, Nat.reduceBEq, ↓reduceIte]
  first | refine ev_call (wsign_ok _ _ _ h1 (by omega)) ?_ | refine ev_callP (wsign_ok _ _ _ h1 (by omega)) ?_
  rintro v_34 H_34 le_34 rfl _
  try simp only [go_sem, Nat.reduceEqDiff, Nat.reduceAdd, Bool.false_eq_true, Nat.reduceBEq, ↓reduceIte]
  rw [sgn_mo h2, cmpR_sub]
  exact ⟨by trivial, by trivial⟩

/-- the exponent as New takes it -/
def nx (e : Int) : Int := min (max e (-4096)) 4096
theorem dy_num {q : Rat} (h : isDy q = true) : (q.num : Rat) * tw (-(tz q.den : Int)) = q := by
  obtain ⟨k, hk⟩ := isDy_den.1 h
  have ht : tz q.den = k := by rw [hk]; exact tz_uniq (m := 0) (by omega)
  conv => rhs; rw [num_den q, hk]
  rw [ht]
  unfold tw
  rw [show (-(k : Int)).toNat = 0 by omega, show (-(-(k : Int))).toNat = k by omega]
  rw [Nat.pow_zero, Rat.div_def, Rat.div_def]
  simp
theorem dof_ok (H : PH) (hT : Tab H) (v : Value) (q : Rat) (hV : RatV H v q) (hb : br q ≤ 1000000) : FnP Tryz.prog 80 [v] H fun v H' => ∃ v', v = .tuple #[v', .bool (isDy q)] ∧ DyadV H' v' (if isDy q then q else 0) := by
  obtain ⟨A, l, c, b, B, m, e, rfl⟩ := hV.form
  have k1 := bi_br q
  have k2 := bl_br q
  have k3 := tz_lt_bl q.den_nz
  refine of_dyad_Of (by simp) ?_
  try simp only [go_sem, Nat.reduceEqDiff, Nat.reduceAdd, Bool.false_eq_true, Nat.reduceBEq, ↓reduceIte, p_dyad_Of]
  first | refine ev_call (rden_ok _ _ q hV (by omega)) ?_ | refine ev_callP (rden_ok _ _ q hV (by omega)) ?_
  rintro v_36 H_36 le_36 g1 _
  replace hV := hV.le le_36
  replace hT := hT.le le_36
  try simp only [go_sem, Nat.reduceEqDiff, Nat.reduceAdd, Bool.false_eq_true, Nat.reduceBEq, ↓reduceIte]
  first | refine ev_call (wabs_ok _ _ _ g1) ?_ | refine ev_callP (wabs_ok _ _ _ g1) ?_
  rintro v_37 H_37 le_37 g2 _
  replace hV := hV.le le_37
  replace hT := hT.le le_37
  try simp only [go_sem, Nat.reduceEqDiff, Nat.reduceAdd, Bool.false_eq_true, Nat.reduceBEq, ↓reduceIte]
  obtain ⟨A2, l2, c2, rfl⟩ := g2.form
  rw [Int.natAbs_natCast] at g2
  try simp only [go_sem, Nat.reduceEqDiff, Nat.reduceAdd, Bool.false_eq_true, Nat.reduceBEq, ↓reduceIte]
  repeat' (with_reducible refine And.intro ?_ ?_)
  all_goals
    first | refine ev_call (zeros_ok _ hT _ _ g2 (by omega)) ?_ | refine ev_callP (zeros_ok _ hT _ _ g2 (by omega)) ?_
    rintro v_38 H_38 le_38 rfl _
    replace hV := hV.le le_38
    replace hT := hT.le le_38
    replace g2 := g2.le le_38
    try simp only [go_sem, Nat.reduceEqDiff, Nat.reduceAdd, Bool.false_eq_true, Nat.reduceBEq, ↓reduceIte]
    first | refine ev_call (nbits_ok _ _ _ g2 (by omega)) ?_ | refine ev_callP (nbits_ok _ _ _ g2 (by omega)) ?_
    rintro v_39 H_39 le_39 rfl _
    replace hV := hV.le le_39
    replace hT := hT.le le_39
    replace g2 := g2.le le_39
    try simp only [go_sem, Nat.reduceEqDiff, Nat.reduceAdd, Bool.false_eq_true, Nat.reduceBEq, ↓reduceIte]
    rw [w64 ((bl q.den : Int) - 1) (by omega) (by omega)]
    refine ev_if (fun h => ?_) (fun h => ?_)
    · have hd : isDy q = false := by
        cases hi : isDy q with
        | false => rfl
        | true => unfold isDy at hi; rw [beq_iff_eq] at hi; omega
      try simp only [go_sem, Nat.reduceEqDiff, Nat.reduceAdd, Bool.false_eq_true, Nat.reduceBEq, ↓reduceIte]
      rw [hd]
      exact ⟨by trivial, _, rfl, DyadV.zero _⟩
    · have hd : isDy q = true := by unfold isDy; rw [beq_iff_eq]; omega
      try simp only [go_sem, Nat.reduceEqDiff, Nat.reduceAdd, Bool.false_eq_true, Nat.reduceBEq, ↓reduceIte]
      repeat' (with_reducible refine And.intro ?_ ?_)
      all_goals
        first | refine ev_call (rnum_ok _ _ q hV) ?_ | refine ev_callP (rnum_ok _ _ q hV) ?_
        rintro v_40 H_40 le_40 g3 _
        replace hT := hT.le le_40
        replace g2 := g2.le le_40
        try simp only [go_sem, Nat.reduceEqDiff, Nat.reduceAdd, Bool.false_eq_true, Nat.reduceBEq, ↓reduceIte]
        repeat' (with_reducible refine And.intro ?_ ?_)
        all_goals
          first | refine ev_call (zeros_ok _ hT _ _ g2 (by omega)) ?_ | refine ev_callP (zeros_ok _ hT _ _ g2 (by omega)) ?_
          rintro v_41 H_41 le_41 rfl _
          replace hT := hT.le le_41
          replace g3 := g3.le le_41
          try simp only [go_sem, Nat.reduceEqDiff, Nat.reduceAdd, Bool.false_eq_true, Nat.reduceBEq, ↓reduceIte]
          rw [show IntKind.i64.wrap (0 - (tz q.den : Int)) = -(tz q.den : Int) by rw [w64 _ (by omega) (by omega)]; omega]
          first | refine ev_call (odd_ok _ hT _ _ (-(tz q.den : Int)) g3 (by omega) (by omega) (by omega)) ?_ | refine ev_callP (odd_ok _ hT _ _ (-(tz q.den : Int)) g3 (by omega) (by omega) (by omega)) ?_
          rintro v_42 H_42 le_42 g4 _
          try simp only [go_sem, Nat.reduceEqDiff, Nat.reduceAdd, Bool.false_eq_true, Nat.reduceBEq, ↓reduceIte]
          rw [dy_num hd] at g4
          obtain ⟨A4, l4, c4, b4, rfl⟩ := g4.form
          try simp only [go_sem, Nat.reduceEqDiff, Nat.reduceAdd, Bool.false_eq_true, Nat.reduceBEq, ↓reduceIte]
          rw [hd]
          exact ⟨by trivial, _, rfl, g4⟩

end Go.Proofs.YtmlmemnlmmpliaaGreatDoor.X
set_option linter.unusedVariables false
set_option linter.unusedSimpArgs false
namespace Go.Proofs.YtmlmemnlmmpliaaGreatDoor.X
open Go Go.RowKit Go.Proofs

set_option maxHeartbeats 8000000 in
theorem near_ok (H : PH) (hT : Tab H) (v : Value) (q : Rat) (n : Nat) (up : Bool) (hV : RatV H v q) (h0 : 0 < q) (hn : 1 ≤ n) (hn2 : n ≤ 4096) (hb : br q ≤ 100000) : FnP Tryz.prog 66 [v, .int .i64 (n : Int), .bool up] H fun v H' => DyadV H' v (nearR q n up) := by
  obtain ⟨A, l, c, b, B, m, e, rfl⟩ := hV.form
  have k1 := bi_br q
  have k2 := bl_br q
  have k3 := e0_abs q n
  have k4 := e1_abs q n
  have k5 := nq_pos h0 (e0 q n)
  refine of_dyad_near (by simp) ?_
  try simp only [go_sem, Nat.reduceEqDiff, Nat.reduceAdd, Bool.false_eq_true, Nat.reduceBEq, ↓reduceIte, p_dyad_near]
  refine ev_cut (fun s => ∃ H' A1 l1 c1 b1 A2 l2 c2 b2, Tab H' ∧ RatV H' (.agg #[.slice A l c, .bool b, .slice B m e]) q ∧ IntV H' (.agg #[.slice A1 l1 c1, .bool b1]) q.num ∧ IntV H' (.agg #[.slice A2 l2 c2, .bool b2]) q.den ∧
    s = ⟨[(8, .ptr 8 0), (7, .ptr 7 0), (6, .ptr 6 0), (3, .ptr 3 0), (2, .v (.bool up)), (1, .v (.int .i64 (n : Int)))], [(8, [.slice A2 l2 c2, .bool b2]), (7, [.slice A1 l1 c1, .bool b1]), (6, [.slice none 0 0, .bool false, .int .i64 0]), (3, [.slice A l c, .bool b, .slice B m e])], H', PH.no⟩) ?_ ?_
  · try simp only [go_sem, Nat.reduceEqDiff, Nat.reduceAdd, Bool.false_eq_true, Nat.reduceBEq, ↓reduceIte]
    repeat' (with_reducible refine And.intro ?_ ?_)
    all_goals
      first | refine ev_call (rnum_ok _ _ q hV) ?_ | refine ev_callP (rnum_ok _ _ q hV) ?_
      rintro v_1 H_1 le_1 g1 _
      replace hV := hV.le le_1
      replace hT := hT.le le_1
      try simp only [go_sem, Nat.reduceEqDiff, Nat.reduceAdd, Bool.false_eq_true, Nat.reduceBEq, ↓reduceIte]
      repeat' (with_reducible refine And.intro ?_ ?_)
      all_goals
        first | refine ev_call (rden_ok _ _ q hV (by omega)) ?_ | refine ev_callP (rden_ok _ _ q hV (by omega)) ?_
        rintro v_2 H_2 le_2 g2 _
        replace hV := hV.le le_2
        replace hT := hT.le le_2
        replace g1 := g1.le le_2
        try simp only [go_sem, Nat.reduceEqDiff, Nat.reduceAdd, Bool.false_eq_true, Nat.reduceBEq, ↓reduceIte]
        obtain ⟨A1, l1, c1, b1, rfl⟩ := g1.form
        obtain ⟨A2, l2, c2, b2, rfl⟩ := g2.form
        try simp only [go_sem, Nat.reduceEqDiff, Nat.reduceAdd, Bool.false_eq_true, Nat.reduceBEq, ↓reduceIte]
        repeat' (with_reducible refine And.intro ?_ ?_)
        all_goals exact k_cut _ ⟨_, _, _, _, _, _, _, _, _, hT, hV, g1, g2, rfl⟩ ⟨rfl, by simp only [go_sem, Nat.reduceEqDiff, Nat.reduceAdd, Bool.false_eq_true, Nat.reduceBEq, ↓reduceIte, and_self, Option.some.injEq, SV.v.injEq, SV.ptr.injEq, Value.int.injEq, Value.bool.injEq, Value.slice.injEq, true_and, and_true] <;> (repeat' apply And.intro) <;> first | rfl | omega | (simp (disch := omega) only [w64, wu64, wu32, wu8] <;> omega), by simp only [go_sem, Nat.reduceEqDiff, Nat.reduceAdd, Bool.false_eq_true, Nat.reduceBEq, ↓reduceIte, and_self, Option.some.injEq, SV.v.injEq, SV.ptr.injEq, Value.int.injEq, Value.bool.injEq, Value.slice.injEq, true_and, and_true] <;> (repeat' apply And.intro) <;> rfl, rfl, PH.le.refl _⟩
  · rintro s ⟨H2, A1, l1, c1, b1, A2, l2, c2, b2, hT, hV, h1, h2, rfl⟩
    try simp only [go_sem, Nat.reduceEqDiff, Nat.reduceAdd, Bool.false_eq_true, Nat.reduceBEq, ↓reduceIte]
    first | refine ev_call (wabs_ok _ _ _ h1) ?_ | refine ev_callP (wabs_ok _ _ _ h1) ?_
    rintro v_3 H_3 le_3 g1 _
    replace hV := hV.le le_3
    replace hT := hT.le le_3
    replace h1 := h1.le le_3
    replace h2 := h2.le le_3
    try simp only [go_sem, Nat.reduceEqDiff, Nat.reduceAdd, Bool.false_eq_true, Nat.reduceBEq, ↓reduceIte]
    obtain ⟨A3, l3, c3, rfl⟩ := g1.form
    try simp only [go_sem, Nat.reduceEqDiff, Nat.reduceAdd, Bool.false_eq_true, Nat.reduceBEq, ↓reduceIte]
    first | refine ev_call (nbits_ok _ _ _ g1 (show bl q.num.natAbs ≤ _ by unfold bi at k1; omega)) ?_ | refine ev_callP (nbits_ok _ _ _ g1 (show bl q.num.natAbs ≤ _ by unfold bi at k1; omega)) ?_
    rintro v_4 H_4 le_4 rfl _
    replace hV := hV.le le_4
    replace hT := hT.le le_4
    replace h1 := h1.le le_4
    replace h2 := h2.le le_4
    try simp only [go_sem, Nat.reduceEqDiff, Nat.reduceAdd, Bool.false_eq_true, Nat.reduceBEq, ↓reduceIte]
    first | refine ev_call (wabs_ok _ _ _ h2) ?_ | refine ev_callP (wabs_ok _ _ _ h2) ?_
    rintro v_5 H_5 le_5 g2 _
    replace hV := hV.le le_5
    replace hT := hT.le le_5
    replace h1 := h1.le le_5
    replace h2 := h2.le le_5
    try simp only [go_sem, Nat.reduceEqDiff, Nat.reduceAdd, Bool.false_eq_true, Nat.reduceBEq, ↓reduceIte]
    obtain ⟨A4, l4, c4, rfl⟩ := g2.form
    rw [Int.natAbs_natCast] at g2
    try simp only [go_sem, Nat.reduceEqDiff, Nat.reduceAdd, Bool.false_eq_true, Nat.reduceBEq, ↓reduceIte]
    first | refine ev_call (nbits_ok _ _ _ g2 (by omega)) ?_ | refine ev_callP (nbits_ok _ _ _ g2 (by omega)) ?_
    rintro v_6 H_6 le_6 rfl _
    replace hV := hV.le le_6
    replace hT := hT.le le_6
    replace h1 := h1.le le_6
    replace h2 := h2.le le_6
    try simp only [go_sem, Nat.reduceEqDiff, Nat.reduceAdd, Bool.false_eq_true, Nat.reduceBEq, ↓reduceIte]
    have he : IntKind.i64.wrap (IntKind.i64.wrap ((bl q.num.natAbs : Int) - (bl q.den : Int)) - (n : Int)) = e0 q n := by
      unfold bi at k1
      rw [w64 ((bl q.num.natAbs : Int) - (bl q.den : Int)) (by omega) (by omega), w64 _ (by omega) (by omega)]
      rfl
    rw [he]
    refine ev_cut (fun s => ∃ H' A5 l5 c5 b5, Tab H' ∧ RatV H' (.agg #[.slice A l c, .bool b, .slice B m e]) q ∧ IntV H' (.agg #[.slice A5 l5 c5, .bool b5]) (nq q (e0 q n)) ∧
      s = ⟨[(10, .ptr 10 0), (9, .v (.int .i64 (e0 q n))), (6, .ptr 6 0), (3, .ptr 3 0), (2, .v (.bool up)), (1, .v (.int .i64 (n : Int)))], [(10, [.slice A5 l5 c5, .bool b5]), (6, [.slice none 0 0, .bool false, .int .i64 0]), (3, [.slice A l c, .bool b, .slice B m e])], H', PH.no⟩) ?_ ?_
    · try simp only [go_sem, Nat.reduceEqDiff, Nat.reduceAdd, Bool.false_eq_true, Nat.reduceBEq, ↓reduceIte]
      have hneg : IntKind.i64.wrap (0 - e0 q n) = -(e0 q n) := by rw [w64 _ (by omega) (by omega)]; omega
      rw [hneg]
      have c1 := clip_to (show -(e0 q n) ≤ 1048576 by omega)
      have c2 := clip_to (show e0 q n ≤ 1048576 by omega)
      have hc1 := clip_le (-(e0 q n))
      have hc2 := clip_le (e0 q n)
      have s1 := @bi_shl q.num (clip (-(e0 q n))) _ k1
      have s2 := @bi_shl (q.den : Int) (clip (e0 q n)) _ (show bi (q.den : Int) ≤ br q by rw [bi_cast]; exact k2)
      have hdp := q.den_pos
      have hpp := Nat.two_pow_pos (clip (e0 q n))
      have hw0 : (q.den : Int) * ((2 ^ clip (e0 q n) : Nat) : Int) ≠ 0 := Int.mul_ne_zero (by omega) (by omega)
      have hq := nq_fdiv q (e0 q n)
      rw [← c1, ← c2] at hq
      repeat' (with_reducible refine And.intro ?_ ?_)
      all_goals
        first | refine ev_call (shifted_ok _ _ _ (-(e0 q n)) h1 (by omega)) ?_ | refine ev_callP (shifted_ok _ _ _ (-(e0 q n)) h1 (by omega)) ?_
        rintro v_7 H_7 le_7 g3 _
        replace hV := hV.le le_7
        replace hT := hT.le le_7
        replace h1 := h1.le le_7
        replace h2 := h2.le le_7
        try simp only [go_sem, Nat.reduceEqDiff, Nat.reduceAdd, Bool.false_eq_true, Nat.reduceBEq, ↓reduceIte]
        repeat' (with_reducible refine And.intro ?_ ?_)
        all_goals
          first | refine ev_call (shifted_ok _ _ _ (e0 q n) h2 (by rw [bi_cast]; omega)) ?_ | refine ev_callP (shifted_ok _ _ _ (e0 q n) h2 (by rw [bi_cast]; omega)) ?_
          rintro v_8 H_8 le_8 g4 _
          replace hV := hV.le le_8
          replace hT := hT.le le_8
          replace g3 := g3.le le_8
          try simp only [go_sem, Nat.reduceEqDiff, Nat.reduceAdd, Bool.false_eq_true, Nat.reduceBEq, ↓reduceIte]
          repeat' (with_reducible refine And.intro ?_ ?_)
          all_goals
            first | refine ev_call (wdiv_ok1 _ _ _ _ _ g3 g4 (by omega) (by omega) hw0) ?_ | refine ev_callP (wdiv_ok1 _ _ _ _ _ g3 g4 (by omega) (by omega) hw0) ?_
            rintro v_9 H_9 le_9 ⟨vq, vr, rfl, g5, g6⟩ _
            replace hV := hV.le le_9
            replace hT := hT.le le_9
            try simp only [go_sem, Nat.reduceEqDiff, Nat.reduceAdd, Bool.false_eq_true, Nat.reduceBEq, ↓reduceIte]
            rw [hq] at g5
            obtain ⟨A5, l5, c5, b5, rfl⟩ := g5.form
            obtain ⟨A6, l6, c6, b6, rfl⟩ := g6.form
            try simp only [go_sem, Nat.reduceEqDiff, Nat.reduceAdd, Bool.false_eq_true, Nat.reduceBEq, ↓reduceIte]
            repeat' (with_reducible refine And.intro ?_ ?_)
            all_goals exact k_cut _ ⟨_, _, _, _, _, hT, hV, g5, rfl⟩ ⟨rfl, by simp only [go_sem, Nat.reduceEqDiff, Nat.reduceAdd, Bool.false_eq_true, Nat.reduceBEq, ↓reduceIte, and_self, Option.some.injEq, SV.v.injEq, SV.ptr.injEq, Value.int.injEq, Value.bool.injEq, Value.slice.injEq, true_and, and_true] <;> (repeat' apply And.intro) <;> first | rfl | omega | (simp (disch := omega) only [w64, wu64, wu32, wu8] <;> omega), by simp only [go_sem, Nat.reduceEqDiff, Nat.reduceAdd, Bool.false_eq_true, Nat.reduceBEq, ↓reduceIte, and_self, Option.some.injEq, SV.v.injEq, SV.ptr.injEq, Value.int.injEq, Value.bool.injEq, Value.slice.injEq, true_and, and_true] <;> (repeat' apply And.intro) <;> rfl, rfl, PH.le.refl _⟩
    · rintro s ⟨H3, A5, l5, c5, b5, hT, hV, h3, rfl⟩
      have q2 : nq q (e1 q n) < ((2 ^ n : Nat) : Int) := nq_lt.2 (by rw [p2_tw]; exact (e1_at h0 n).2)
      have q3 := nq_pos h0 (e1 q n)
      have hbq : bi (nq q (e1 q n)) ≤ n := by unfold bi; rw [bl_le_iff]; omega
      have hstep := near_step q (e1 q n)
      have hbn : br ((nq q (e1 q n) : Rat) * tw (e1 q n)) ≤ br q + 2 * n + 6 := br_near h0 hn false
      try simp only [go_sem, Nat.reduceEqDiff, Nat.reduceAdd, Bool.false_eq_true, Nat.reduceBEq, ↓reduceIte]
      first | refine ev_call (wabs_ok _ _ _ h3) ?_ | refine ev_callP (wabs_ok _ _ _ h3) ?_
      rintro v_16 H_16 le_16 g3 _
      replace hV := hV.le le_16
      replace hT := hT.le le_16
      replace h3 := h3.le le_16
      try simp only [go_sem, Nat.reduceEqDiff, Nat.reduceAdd, Bool.false_eq_true, Nat.reduceBEq, ↓reduceIte]
      obtain ⟨A6, l6, c6, rfl⟩ := g3.form
      have s4 : bl (nq q (e0 q n)).natAbs ≤ n + 1 := (nq_bl h0 _ _).2 (by rw [show e0 q n + ((n + 1 : Nat) : Int) = e0 q n + n + 1 by omega]; exact (e0_bd h0 n).2)
      try simp only [go_sem, Nat.reduceEqDiff, Nat.reduceAdd, Bool.false_eq_true, Nat.reduceBEq, ↓reduceIte]
      first | refine ev_call (nbits_ok _ _ _ g3 (by omega)) ?_ | refine ev_callP (nbits_ok _ _ _ g3 (by omega)) ?_
      rintro v_17 H_17 le_17 rfl _
      replace hV := hV.le le_17
      replace hT := hT.le le_17
      replace h3 := h3.le le_17
      try simp only [go_sem, Nat.reduceEqDiff, Nat.reduceAdd, Bool.false_eq_true, Nat.reduceBEq, ↓reduceIte]
      refine ev_if (fun h => ?_) (fun h => ?_)
      · have hee : e1 q n = e0 q n + 1 := by unfold e1; rw [if_neg (by omega)]
        try simp only [go_sem, Nat.reduceEqDiff, Nat.reduceAdd, Bool.false_eq_true, Nat.reduceBEq, ↓reduceIte]
        first | refine ev_call (wabs_ok _ _ _ h3) ?_ | refine ev_callP (wabs_ok _ _ _ h3) ?_
        rintro v_18 H_18 le_18 g4 _
        replace hV := hV.le le_18
        replace hT := hT.le le_18
        try simp only [go_sem, Nat.reduceEqDiff, Nat.reduceAdd, Bool.false_eq_true, Nat.reduceBEq, ↓reduceIte]
        obtain ⟨A6, l6, c6, rfl⟩ := g4.form
        try simp only [go_sem, Nat.reduceEqDiff, Nat.reduceAdd, Bool.false_eq_true, Nat.reduceBEq, ↓reduceIte]
        first | refine ev_call (shr_ok _ _ _ 1 g4 (by omega)) ?_ | refine ev_callP (shr_ok _ _ _ 1 g4 (by omega)) ?_
        rintro v_19 H_19 le_19 g5 _
        replace hV := hV.le le_19
        replace hT := hT.le le_19
        try simp only [go_sem, Nat.reduceEqDiff, Nat.reduceAdd, Bool.false_eq_true, Nat.reduceBEq, ↓reduceIte]
        obtain ⟨A6, l6, c6, rfl⟩ := g5.form
        have s7 := @bl_div (nq q (e0 q n)).natAbs (n + 1) (2 ^ clip 1) s4
        try simp only [go_sem, Nat.reduceEqDiff, Nat.reduceAdd, Bool.false_eq_true, Nat.reduceBEq, ↓reduceIte]
        first | refine ev_call (from_ok _ false _ _ g5 (by omega)) ?_ | refine ev_callP (from_ok _ false _ _ g5 (by omega)) ?_
        rintro v_20 H_20 le_20 g9 _
        replace hV := hV.le le_20
        replace hT := hT.le le_20
        try simp only [go_sem, Nat.reduceEqDiff, Nat.reduceAdd, Bool.false_eq_true, Nat.reduceBEq, ↓reduceIte]
        obtain ⟨A6, l6, c6, b6, rfl⟩ := g9.form
        have hv : sg false ((nq q (e0 q n)).natAbs / 2 ^ clip 1) = nq q (e1 q n) := by
          rw [hee, nq_half, sg_false, show clip 1 = 1 by decide]
          omega
        rw [hv] at g9
        try simp only [go_sem, Nat.reduceEqDiff, Nat.reduceAdd, Bool.false_eq_true, Nat.reduceBEq, ↓reduceIte]
        rw [w64 (e0 q n + 1) (by omega) (by omega), ← hee]
        try simp only [go_sem, Nat.reduceEqDiff, Nat.reduceAdd, Bool.false_eq_true, Nat.reduceBEq, ↓reduceIte]
        first | refine ev_call (odd_ok _ hT _ _ (e1 q n) g9 (by omega) (by omega) (by omega)) ?_ | refine ev_callP (odd_ok _ hT _ _ (e1 q n) g9 (by omega) (by omega) (by omega)) ?_
        rintro v_10 H_10 le_10 g10 _
        replace hV := hV.le le_10
        replace hT := hT.le le_10
        replace g9 := g9.le le_10
        try simp only [go_sem, Nat.reduceEqDiff, Nat.reduceAdd, Bool.false_eq_true, Nat.reduceBEq, ↓reduceIte]
        obtain ⟨A7, l7, c7, b7, rfl⟩ := g10.form
        try simp only [go_sem, Nat.reduceEqDiff, Nat.reduceAdd, Bool.false_eq_true, Nat.reduceBEq, ↓reduceIte]
        cases up with
        | false =>
          try simp only [go_sem, Nat.reduceEqDiff, Nat.reduceAdd, Bool.false_eq_true, Nat.reduceBEq, ↓reduceIte]
          exact ⟨by trivial, g10⟩
        | true =>
          try simp only [go_sem, Nat.reduceEqDiff, Nat.reduceAdd, Bool.false_eq_true, Nat.reduceBEq, ↓reduceIte]
          first | refine ev_call (ratD_ok _ _ _ g10 (by omega)) ?_ | refine ev_callP (ratD_ok _ _ _ g10 (by omega)) ?_
          rintro v_11 H_11 le_11 g11 _
          replace hV := hV.le le_11
          replace hT := hT.le le_11
          replace g9 := g9.le le_11
          replace g10 := g10.le le_11
          try simp only [go_sem, Nat.reduceEqDiff, Nat.reduceAdd, Bool.false_eq_true, Nat.reduceBEq, ↓reduceIte]
          first | refine ev_call (rcmpR_ok _ _ _ _ q g11 hV (by omega)) ?_ | refine ev_callP (rcmpR_ok _ _ _ _ q g11 hV (by omega)) ?_
          rintro v_12 H_12 le_12 rfl _
          replace hT := hT.le le_12
          replace g9 := g9.le le_12
          replace g10 := g10.le le_12
          try simp only [go_sem, Nat.reduceEqDiff, Nat.reduceAdd, Bool.false_eq_true, Nat.reduceBEq, ↓reduceIte]
          rw [near_up, hstep]
          refine ev_if (fun h => ?_) (fun h => ?_)
          · have hlt : (nq q (e1 q n) : Rat) * tw (e1 q n) < q := by
              unfold cmpR at h
              split at h
              · assumption
              · split at h <;> omega
            rw [if_pos hlt]
            try simp only [go_sem, Nat.reduceEqDiff, Nat.reduceAdd, Bool.false_eq_true, Nat.reduceBEq, ↓reduceIte]
            first | refine ev_call (wof_ok _ 1 (by decide) (by decide)) ?_ | refine ev_callP (wof_ok _ 1 (by decide) (by decide)) ?_
            rintro v_13 H_13 le_13 g12 _
            replace hT := hT.le le_13
            replace g9 := g9.le le_13
            try simp only [go_sem, Nat.reduceEqDiff, Nat.reduceAdd, Bool.false_eq_true, Nat.reduceBEq, ↓reduceIte]
            have s5 := bi_add (nq q (e1 q n)) 1
            have s6 : bi 1 = 1 := rfl
            first | refine ev_call (wadd_ok _ _ _ _ _ g9 g12 (by omega) (by decide)) ?_ | refine ev_callP (wadd_ok _ _ _ _ _ g9 g12 (by omega) (by decide)) ?_
            rintro v_14 H_14 le_14 g13 _
            replace hT := hT.le le_14
            try simp only [go_sem, Nat.reduceEqDiff, Nat.reduceAdd, Bool.false_eq_true, Nat.reduceBEq, ↓reduceIte]
            first | refine ev_call (odd_ok _ hT _ _ (e1 q n) g13 (by omega) (by omega) (by omega)) ?_ | refine ev_callP (odd_ok _ hT _ _ (e1 q n) g13 (by omega) (by omega) (by omega)) ?_
            rintro v_15 H_15 le_15 g14 _
            try simp only [go_sem, Nat.reduceEqDiff, Nat.reduceAdd, Bool.false_eq_true, Nat.reduceBEq, ↓reduceIte]
            obtain ⟨A8, l8, c8, b8, rfl⟩ := g14.form
            try simp only [go_sem, Nat.reduceEqDiff, Nat.reduceAdd, Bool.false_eq_true, Nat.reduceBEq, ↓reduceIte]
            exact ⟨by trivial, g14⟩
          · have hlt : ¬ (nq q (e1 q n) : Rat) * tw (e1 q n) < q := fun hl => h (by rw [cmpR_lt hl]; decide)
            rw [if_neg hlt]
            try simp only [go_sem, Nat.reduceEqDiff, Nat.reduceAdd, Bool.false_eq_true, Nat.reduceBEq, ↓reduceIte]
            exact ⟨by trivial, g10⟩
      · have hee : e0 q n = e1 q n := by unfold e1; rw [if_pos (by omega)]
        rw [hee] at h3
        have g9 := h3
        try simp only [go_sem, Nat.reduceEqDiff, Nat.reduceAdd, Bool.false_eq_true, Nat.reduceBEq, ↓reduceIte]
        rw [hee]
        try simp only [go_sem, Nat.reduceEqDiff, Nat.reduceAdd, Bool.false_eq_true, Nat.reduceBEq, ↓reduceIte]
        first | refine ev_call (odd_ok _ hT _ _ (e1 q n) g9 (by omega) (by omega) (by omega)) ?_ | refine ev_callP (odd_ok _ hT _ _ (e1 q n) g9 (by omega) (by omega) (by omega)) ?_
        rintro v_10 H_10 le_10 g10 _
        replace hV := hV.le le_10
        replace hT := hT.le le_10
        replace g9 := g9.le le_10
        try simp only [go_sem, Nat.reduceEqDiff, Nat.reduceAdd, Bool.false_eq_true, Nat.reduceBEq, ↓reduceIte]
        obtain ⟨A7, l7, c7, b7, rfl⟩ := g10.form
        try simp only [go_sem, Nat.reduceEqDiff, Nat.reduceAdd, Bool.false_eq_true, Nat.reduceBEq, ↓reduceIte]
        cases up with
        | false =>
          try simp only [go_sem, Nat.reduceEqDiff, Nat.reduceAdd, Bool.false_eq_true, Nat.reduceBEq, ↓reduceIte]
          exact ⟨by trivial, g10⟩
        | true =>
          try simp only [go_sem, Nat.reduceEqDiff, Nat.reduceAdd, Bool.false_eq_true, Nat.reduceBEq, ↓reduceIte]
          first | refine ev_call (ratD_ok _ _ _ g10 (by omega)) ?_ | refine ev_callP (ratD_ok _ _ _ g10 (by omega)) ?_
          rintro v_11 H_11 le_11 g11 _
          replace hV := hV.le le_11
          replace hT := hT.le le_11
          replace g9 := g9.le le_11
          replace g10 := g10.le le_11
          try simp only [go_sem, Nat.reduceEqDiff, Nat.reduceAdd, Bool.false_eq_true, Nat.reduceBEq, ↓reduceIte]
          first | refine ev_call (rcmpR_ok _ _ _ _ q g11 hV (by omega)) ?_ | refine ev_callP (rcmpR_ok _ _ _ _ q g11 hV (by omega)) ?_
          rintro v_12 H_12 le_12 rfl _
          replace hT := hT.le le_12
          replace g9 := g9.le le_12
          replace g10 := g10.le le_12
          try simp only [go_sem, Nat.reduceEqDiff, Nat.reduceAdd, Bool.false_eq_true, Nat.reduceBEq, ↓reduceIte]
          rw [near_up, hstep]
          refine ev_if (fun h => ?_) (fun h => ?_)
          · have hlt : (nq q (e1 q n) : Rat) * tw (e1 q n) < q := by
              unfold cmpR at h
              split at h
              · assumption
              · split at h <;> omega
            rw [if_pos hlt]
            try simp only [go_sem, Nat.reduceEqDiff, Nat.reduceAdd, Bool.false_eq_true, Nat.reduceBEq, ↓reduceIte]
            first | refine ev_call (wof_ok _ 1 (by decide) (by decide)) ?_ | refine ev_callP (wof_ok _ 1 (by decide) (by decide)) ?_
            rintro v_13 H_13 le_13 g12 _
            replace hT := hT.le le_13
            replace g9 := g9.le le_13
            try simp only [go_sem, Nat.reduceEqDiff, Nat.reduceAdd, Bool.false_eq_true, Nat.reduceBEq, ↓reduceIte]
            have s5 := bi_add (nq q (e1 q n)) 1
            have s6 : bi 1 = 1 := rfl
            first | refine ev_call (wadd_ok _ _ _ _ _ g9 g12 (by omega) (by decide)) ?_ | refine ev_callP (wadd_ok _ _ _ _ _ g9 g12 (by omega) (by decide)) ?_
            rintro v_14 H_14 le_14 g13 _
            replace hT := hT.le le_14
            try simp only [go_sem, Nat.reduceEqDiff, Nat.reduceAdd, Bool.false_eq_true, Nat.reduceBEq, ↓reduceIte]
            first | refine ev_call (odd_ok _ hT _ _ (e1 q n) g13 (by omega) (by omega) (by omega)) ?_ | refine ev_callP (odd_ok _ hT _ _ (e1 q n) g13 (by omega) (by omega) (by omega)) ?_
            rintro v_15 H_15 le_15 g14 _
            try simp only [go_sem, Nat.reduceEqDiff, Nat.reduceAdd, Bool.false_eq_true, Nat.reduceBEq, ↓reduceIte]
            obtain ⟨A8, l8, c8, b8, rfl⟩ := g14.form
            try simp only [go_sem, Nat.reduceEqDiff, Nat.reduceAdd, Bool.false_eq_true, Nat.reduceBEq, ↓reduceIte]
            exact ⟨by trivial, g14⟩
          · have hlt : ¬ (nq q (e1 q n) : Rat) * tw (e1 q n) < q := fun hl => h (by rw [cmpR_lt hl]; decide)
            rw [if_neg hlt]
            try simp only [go_sem, Nat.reduceEqDiff, Nat.reduceAdd, Bool.false_eq_true, Nat.reduceBEq, ↓reduceIte]
            exact ⟨by trivial, g10⟩

/-- the number of digits as it is taken -/
def cb (n : Int) : Nat := (min (max n 1) 4096).toNat
theorem cb_bd (n : Int) : 1 ≤ cb n ∧ cb n ≤ 4096 := by unfold cb; omega
theorem round_ok (H : PH) (hT : Tab H) (v : Value) (q : Rat) (n : Int) (up : Bool) (hV : RatV H v q) (hb : br q ≤ 100000) : FnP Tryz.prog 26 [v, .int .i64 n, .bool up] H fun v H' => DyadV H' v (rndR q (cb n) up) := by
  obtain ⟨A, l, c, b, B, m, e, rfl⟩ := hV.form
  obtain ⟨hc1, hc2⟩ := cb_bd n
  refine of_dyad_round (by simp) ?_
  try simp only [go_sem, Nat.reduceEqDiff, Nat.reduceAdd, Bool.false_eq_true, Nat.reduceBEq, ↓reduceIte, p_dyad_round]
  rw [show (if 4096 < (if n < 1 then 1 else n) then 4096 else (if n < 1 then 1 else n)) = ((cb n : Nat) : Int) by unfold cb; split <;> (try split) <;> omega]
  first | refine ev_call (rsgn_ok _ _ q hV (by omega)) ?_ | refine ev_callP (rsgn_ok _ _ q hV (by omega)) ?_
  rintro v_21 H_21 le_21 rfl _
  replace hV := hV.le le_21
  replace hT := hT.le le_21
  try simp only [go_sem, Nat.reduceEqDiff, Nat.reduceAdd, Bool.false_eq_true, Nat.reduceBEq, ↓reduceIte]
  rw [sgnI_R]
  rcases cmpR_cases q 0 with h | h | h
  · rw [h.2]
    refine ev_neg (by decide) ?_
    try simp only [go_sem, Nat.reduceEqDiff, Nat.reduceAdd, Bool.false_eq_true, Nat.reduceBEq, ↓reduceIte]
    refine ev_pos (by decide) ?_
    try simp only [go_sem, Nat.reduceEqDiff, Nat.reduceAdd, Bool.false_eq_true, Nat.reduceBEq, ↓reduceIte]
    first | refine ev_call (rneg'_ok _ _ q hV (by omega)) ?_ | refine ev_callP (rneg'_ok _ _ q hV (by omega)) ?_
    rintro v_22 H_22 le_22 g1 _
    replace hT := hT.le le_22
    try simp only [go_sem, Nat.reduceEqDiff, Nat.reduceAdd, Bool.false_eq_true, Nat.reduceBEq, ↓reduceIte]
    first | refine ev_call (near_ok _ hT _ (-q) (cb n) (!up) g1 (by have := h.1; grind) hc1 hc2 (by rw [br_neg]; exact hb)) ?_ | refine ev_callP (near_ok _ hT _ (-q) (cb n) (!up) g1 (by have := h.1; grind) hc1 hc2 (by rw [br_neg]; exact hb)) ?_
    rintro v_23 H_23 le_23 g2 _
    replace hT := hT.le le_23
    try simp only [go_sem, Nat.reduceEqDiff, Nat.reduceAdd, Bool.false_eq_true, Nat.reduceBEq, ↓reduceIte]
    obtain ⟨A2, l2, c2, b2, rfl⟩ := g2.form
    obtain ⟨h1, _, h2⟩ := g2.parts
    have hbn := br_near (a := -q) (by have := h.1; grind) hc1 (!up)
    rw [br_neg] at hbn
    have k1 := bi_mo (nearR (-q) (cb n) (!up))
    try simp only [go_sem, Nat.reduceEqDiff, Nat.reduceAdd, Bool.false_eq_true, Nat.reduceBEq, ↓reduceIte]
    first | refine ev_call (wneg_ok _ _ _ h1 (by omega)) ?_ | refine ev_callP (wneg_ok _ _ _ h1 (by omega)) ?_
    rintro v_24 H_24 le_24 g3 _
    try simp only [go_sem, Nat.reduceEqDiff, Nat.reduceAdd, Bool.false_eq_true, Nat.reduceBEq, ↓reduceIte]
    obtain ⟨A3, l3, c3, b3, rfl⟩ := g3.form
    try simp only [go_sem, Nat.reduceEqDiff, Nat.reduceAdd, Bool.false_eq_true, Nat.reduceBEq, ↓reduceIte]
    rw [rnd_lt h.1]
    exact ⟨by trivial, dneg_mk g3 h2⟩
  · rw [h.2]
    refine ev_pos (by decide) ?_
    try simp only [go_sem, Nat.reduceEqDiff, Nat.reduceAdd, Bool.false_eq_true, Nat.reduceBEq, ↓reduceIte]
    rw [h.1, rnd_zero]
    exact ⟨by trivial, DyadV.zero _⟩
  · rw [h.2]
    refine ev_neg (by decide) ?_
    try simp only [go_sem, Nat.reduceEqDiff, Nat.reduceAdd, Bool.false_eq_true, Nat.reduceBEq, ↓reduceIte]
    refine ev_neg (by decide) ?_
    try simp only [go_sem, Nat.reduceEqDiff, Nat.reduceAdd, Bool.false_eq_true, Nat.reduceBEq, ↓reduceIte]
    first | refine ev_call (near_ok _ hT _ q (cb n) up hV h.1 hc1 hc2 hb) ?_ | refine ev_callP (near_ok _ hT _ q (cb n) up hV h.1 hc1 hc2 hb) ?_
    rintro v_25 H_25 le_25 g2 _
    try simp only [go_sem, Nat.reduceEqDiff, Nat.reduceAdd, Bool.false_eq_true, Nat.reduceBEq, ↓reduceIte]
    obtain ⟨A2, l2, c2, b2, rfl⟩ := g2.form
    try simp only [go_sem, Nat.reduceEqDiff, Nat.reduceAdd, Bool.false_eq_true, Nat.reduceBEq, ↓reduceIte]
    rw [rnd_pos h.1]
    exact ⟨by trivial, g2⟩

theorem down_ok (H : PH) (hT : Tab H) (v : Value) (q : Rat) (n : Int) (hV : RatV H v q) (hb : br q ≤ 100000) : FnP Tryz.prog 7 [v, .int .i64 n] H fun v H' => DyadV H' v (rndR q (cb n) false) := by
  obtain ⟨A, l, c, b, B, m, e, rfl⟩ := hV.form
  refine of_dyad_Down (by simp) ?_
  try simp only [go_sem, Nat.reduceEqDiff, Nat.reduceAdd, Bool.false_eq_true, Nat.reduceBEq, ↓reduceIte, p_dyad_Down]
  first | refine ev_call (round_ok _ hT _ q n false hV hb) ?_ | refine ev_callP (round_ok _ hT _ q n false hV hb) ?_
  rintro v_26 H_26 le_26 g2 _
  try simp only [go_sem, Nat.reduceEqDiff, Nat.reduceAdd, Bool.false_eq_true, Nat.reduceBEq, ↓reduceIte]
  obtain ⟨A2, l2, c2, b2, rfl⟩ := g2.form
  try simp only [go_sem, Nat.reduceEqDiff, Nat.reduceAdd, Bool.false_eq_true, Nat.reduceBEq, ↓reduceIte]
  exact ⟨by trivial, g2⟩
theorem up_ok (H : PH) (hT : Tab H) (v : Value) (q : Rat) (n : Int) (hV : RatV H v q) (hb : br q ≤ 100000) : FnP Tryz.prog 11 [v, .int .i64 n] H fun v H' => DyadV H' v (rndR q (cb n) true) := by
  obtain ⟨A, l, c, b, B, m, e, rfl⟩ := hV.form
  refine of_dyad_Up (by simp) ?_
  try simp only [go_sem, Nat.reduceEqDiff, Nat.reduceAdd, Bool.false_eq_true, Nat.reduceBEq, ↓reduceIte, p_dyad_Up]
  first | refine ev_call (round_ok _ hT _ q n true hV hb) ?_ | refine ev_callP (round_ok _ hT _ q n true hV hb) ?_
  rintro v_27 H_27 le_27 g2 _
  try simp only [go_sem, Nat.reduceEqDiff, Nat.reduceAdd, Bool.false_eq_true, Nat.reduceBEq, ↓reduceIte]
  obtain ⟨A2, l2, c2, b2, rfl⟩ := g2.form
  try simp only [go_sem, Nat.reduceEqDiff, Nat.reduceAdd, Bool.false_eq_true, Nat.reduceBEq, ↓reduceIte]
  exact ⟨by trivial, g2⟩

end Go.Proofs.YtmlmemnlmmpliaaGreatDoor.X
set_option linter.unusedVariables false
set_option linter.unusedSimpArgs false
namespace Go.Proofs.YtmlmemnlmmpliaaGreatDoor.X
open Go Go.RowKit Go.Proofs

/-- a text is a dyadic number -/
def dyOk (t : ByteArray) : Bool := ratOk (bs t) && isDy (rv (bs t))
theorem dparse_ok (H : PH) (hT : Tab H) (t : ByteArray) (hy : t.size ≤ 9223372036854775807) : FnP Tryz.prog 43 [.string t] H fun v H' => ∃ v', v = .tuple #[v', .int .i64 (if dyOk t then 0 else 2)] ∧ DyadV H' v' (if dyOk t then rv (bs t) else 0) := by
  refine of_dyad_Parse (by simp) ?_
  try simp only [go_sem, Nat.reduceEqDiff, Nat.reduceAdd, Bool.false_eq_true, Nat.reduceBEq, ↓reduceIte, p_dyad_Parse]
  first | refine ev_call (rparse'_ok _ t hy) ?_ | refine ev_callP (rparse'_ok _ t hy) ?_
  rintro v_1 H_1 le_1 ⟨va, rfl, h1⟩ _
  replace hT := hT.le le_1
  try simp only [go_sem, Nat.reduceEqDiff, Nat.reduceAdd, Bool.false_eq_true, Nat.reduceBEq, ↓reduceIte]
  obtain ⟨A1, l1, c1, b1, B1, m1, e1, rfl⟩ := h1.form
  cases hk : ratOk (bs t) with
  | false =>
    have hd : dyOk t = false := by unfold dyOk; rw [hk]; rfl
    rw [hk] at h1
    try simp only [go_sem, Nat.reduceEqDiff, Nat.reduceAdd, Bool.false_eq_true, Nat.reduceBEq, ↓reduceIte, hk]
    first | refine ev_call (dof_ok _ hT _ 0 h1 (by decide)) ?_ | refine ev_callP (dof_ok _ hT _ 0 h1 (by decide)) ?_
    rintro v_2 H_2 le_2 ⟨vb, rfl, h2⟩ _
    try simp only [go_sem, Nat.reduceEqDiff, Nat.reduceAdd, Bool.false_eq_true, Nat.reduceBEq, ↓reduceIte]
    obtain ⟨A2, l2, c2, b2, rfl⟩ := h2.form
    try simp only [go_sem, Nat.reduceEqDiff, Nat.reduceAdd, Bool.false_eq_true, Nat.reduceBEq, ↓reduceIte]
    refine ev_pos (by decide) ?_
    try simp only [go_sem, Nat.reduceEqDiff, Nat.reduceAdd, Bool.false_eq_true, Nat.reduceBEq, ↓reduceIte]
    rw [hd]
    exact ⟨by trivial, _, rfl, DyadV.zero _⟩
  | true =>
    have hm := rv_max hk
    rw [hk, if_pos rfl] at h1
    try simp only [go_sem, Nat.reduceEqDiff, Nat.reduceAdd, Bool.false_eq_true, Nat.reduceBEq, ↓reduceIte, hk]
    first | refine ev_call (dof_ok _ hT _ _ h1 (by omega)) ?_ | refine ev_callP (dof_ok _ hT _ _ h1 (by omega)) ?_
    rintro v_3 H_3 le_3 ⟨vb, rfl, h2⟩ _
    try simp only [go_sem, Nat.reduceEqDiff, Nat.reduceAdd, Bool.false_eq_true, Nat.reduceBEq, ↓reduceIte]
    obtain ⟨A2, l2, c2, b2, rfl⟩ := h2.form
    try simp only [go_sem, Nat.reduceEqDiff, Nat.reduceAdd, Bool.false_eq_true, Nat.reduceBEq, ↓reduceIte]
    refine ev_neg (by decide) ?_
    try simp only [go_sem, Nat.reduceEqDiff, Nat.reduceAdd, Bool.false_eq_true, Nat.reduceBEq, ↓reduceIte]
    cases hi : isDy (rv (bs t)) with
    | false =>
      have hd : dyOk t = false := by unfold dyOk; rw [hk, hi]; rfl
      rw [hd]
      try simp only [go_sem, Nat.reduceEqDiff, Nat.reduceAdd, Bool.false_eq_true, Nat.reduceBEq, ↓reduceIte, hi]
      exact ⟨by trivial, _, rfl, DyadV.zero _⟩
    | true =>
      have hd : dyOk t = true := by unfold dyOk; rw [hk, hi]; rfl
      rw [hi] at h2
      rw [hd]
      try simp only [go_sem, Nat.reduceEqDiff, Nat.reduceAdd, Bool.false_eq_true, Nat.reduceBEq, ↓reduceIte, hi]
      exact ⟨by trivial, _, rfl, h2⟩

theorem dyadicR_ok (H : PH) (v : Value) (q : Rat) (hV : RRat H v q) (hb : br q ≤ 1000000) : FnP Tryz.prog 42 [v] H fun v _ => v = .bool (isDy q) := by
  obtain ⟨b, A, l, c, B, m, e, rfl⟩ := hV.form
  have k2 := bl_br q
  have k3 := tz_lt_bl q.den_nz
  refine of_cinctureref1_Dyadic (by simp) ?_
  try simp only [go_sem, Nat.reduceEqDiff, Nat.reduceAdd, Bool.false_eq_true, Nat.reduceBEq, ↓reduceIte, p_cinctureref1_Dyadic]
  first | refine ev_call (rden_okR _ _ q hV) ?_ | refine ev_callP (rden_okR _ _ q hV) ?_
  rintro v_4 H_4 le_4 g1 _
  replace hV := hV.le le_4
  try simp only [go_sem, Nat.reduceEqDiff, Nat.reduceAdd, Bool.false_eq_true, Nat.reduceBEq, ↓reduceIte]
  first | refine ev_call (rzeros_ok _ _ _ g1 (by omega)) ?_ | refine ev_callP (rzeros_ok _ _ _ g1 (by omega)) ?_
  rintro v_5 H_5 le_5 rfl _
  replace hV := hV.le le_5
  try simp only [go_sem, Nat.reduceEqDiff, Nat.reduceAdd, Bool.false_eq_true, Nat.reduceBEq, ↓reduceIte]
  first | refine ev_call (rden_okR _ _ q hV) ?_ | refine ev_callP (rden_okR _ _ q hV) ?_
  rintro v_6 H_6 le_6 g2 _
  replace hV := hV.le le_6
  try simp only [go_sem, Nat.reduceEqDiff, Nat.reduceAdd, Bool.false_eq_true, Nat.reduceBEq, ↓reduceIte]
  first | refine ev_call (rbits_ok _ _ _ g2 (by omega)) ?_ | refine ev_callP (rbits_ok _ _ _ g2 (by omega)) ?_
  rintro v_7 H_7 le_7 rfl _
  replace hV := hV.le le_7
  try simp only [go_sem, Nat.reduceEqDiff, Nat.reduceAdd, Bool.false_eq_true, Nat.reduceBEq, ↓reduceIte]
  rw [w64 ((bl q.den : Int) - 1) (by omega) (by omega)]
  refine ev_if (fun h => ?_) (fun h => ?_)
  · have hd : isDy q = true := by unfold isDy; rw [beq_iff_eq]; omega
    try simp only [go_sem, Nat.reduceEqDiff, Nat.reduceAdd, Bool.false_eq_true, Nat.reduceBEq, ↓reduceIte]
    rw [hd]
    exact ⟨by trivial, by trivial⟩
  · have hd : isDy q = false := by
      cases hi : isDy q with
      | false => rfl
      | true => unfold isDy at hi; rw [beq_iff_eq] at hi; omega
    try simp only [go_sem, Nat.reduceEqDiff, Nat.reduceAdd, Bool.false_eq_true, Nat.reduceBEq, ↓reduceIte]
    rw [hd]
    exact ⟨by trivial, by trivial⟩

theorem twoR_ok (H : PH) (e : Int) (h1 : -1000000 ≤ e) (h2 : e ≤ 1000000) : FnP Tryz.prog 37 [.int .i64 e] H fun v H' => RRat H' v (tw e) := by
  obtain ⟨p1, p2⟩ := tw_parts e
  refine of_cinctureref1_two (by simp) ?_
  try simp only [go_sem, Nat.reduceEqDiff, Nat.reduceAdd, Bool.false_eq_true, Nat.reduceBEq, ↓reduceIte, p_cinctureref1_two]
  refine ev_if (fun h => ?_) (fun h => ?_)
  · try simp only [go_sem, Nat.reduceEqDiff, Nat.reduceAdd, Bool.false_eq_true, Nat.reduceBEq, ↓reduceIte]
    first | refine ev_call (rintOf_ok _ 1 (by decide) (by decide)) ?_ | refine ev_callP (rintOf_ok _ 1 (by decide) (by decide)) ?_
    rintro v_8 H_8 le_8 g1 _
    try simp only [go_sem, Nat.reduceEqDiff, Nat.reduceAdd, Bool.false_eq_true, Nat.reduceBEq, ↓reduceIte]
    first | refine ev_call (rnatOf_ok _ 1 (by decide)) ?_ | refine ev_callP (rnatOf_ok _ 1 (by decide)) ?_
    rintro v_9 H_9 le_9 g2 _
    replace g1 := g1.le le_9
    try simp only [go_sem, Nat.reduceEqDiff, Nat.reduceAdd, Bool.false_eq_true, Nat.reduceBEq, ↓reduceIte]
    rw [show IntKind.i64.wrap (0 - e) = (((-e).toNat : Nat) : Int) by rw [w64 _ (by omega) (by omega)]; omega]
    first | refine ev_call (rshl_ok _ _ _ (-e).toNat g2 (by decide) (by omega)) ?_ | refine ev_callP (rshl_ok _ _ _ (-e).toNat g2 (by decide) (by omega)) ?_
    rintro v_10 H_10 le_10 g3 _
    replace g1 := g1.le le_10
    try simp only [go_sem, Nat.reduceEqDiff, Nat.reduceAdd, Bool.false_eq_true, Nat.reduceBEq, ↓reduceIte]
    obtain ⟨A1, l1, c1, b1, rfl⟩ := g1.form
    obtain ⟨A2, l2, c2, rfl, _⟩ := g3.form
    try simp only [go_sem, Nat.reduceEqDiff, Nat.reduceAdd, Bool.false_eq_true, Nat.reduceBEq, ↓reduceIte]
    refine ⟨by trivial, RRat.mk ?_ ?_⟩
    · rw [p1, show e.toNat = 0 by omega]; exact g1
    · rw [p2]
      rw [Nat.one_mul] at g3
      exact g3
  · try simp only [go_sem, Nat.reduceEqDiff, Nat.reduceAdd, Bool.false_eq_true, Nat.reduceBEq, ↓reduceIte]
    first | refine ev_call (rnatOf_ok _ 1 (by decide)) ?_ | refine ev_callP (rnatOf_ok _ 1 (by decide)) ?_
    rintro v_11 H_11 le_11 g2 _
    try simp only [go_sem, Nat.reduceEqDiff, Nat.reduceAdd, Bool.false_eq_true, Nat.reduceBEq, ↓reduceIte]
    rw [show (e : Int) = ((e.toNat : Nat) : Int) by omega]
    first | refine ev_call (rshl_ok _ _ _ e.toNat g2 (by decide) (by omega)) ?_ | refine ev_callP (rshl_ok _ _ _ e.toNat g2 (by decide) (by omega)) ?_
    rintro v_12 H_12 le_12 g3 _
    try simp only [go_sem, Nat.reduceEqDiff, Nat.reduceAdd, Bool.false_eq_true, Nat.reduceBEq, ↓reduceIte]
    first | refine ev_call (rpos_ok _ _ _ g3) ?_ | refine ev_callP (rpos_ok _ _ _ g3) ?_
    rintro v_13 H_13 le_13 g1 _
    try simp only [go_sem, Nat.reduceEqDiff, Nat.reduceAdd, Bool.false_eq_true, Nat.reduceBEq, ↓reduceIte]
    first | refine ev_call (rnatOf_ok _ 1 (by decide)) ?_ | refine ev_callP (rnatOf_ok _ 1 (by decide)) ?_
    rintro v_14 H_14 le_14 g4 _
    replace g1 := g1.le le_14
    try simp only [go_sem, Nat.reduceEqDiff, Nat.reduceAdd, Bool.false_eq_true, Nat.reduceBEq, ↓reduceIte]
    obtain ⟨A1, l1, c1, b1, rfl⟩ := g1.form
    obtain ⟨A2, l2, c2, rfl, _⟩ := g4.form
    try simp only [go_sem, Nat.reduceEqDiff, Nat.reduceAdd, Bool.false_eq_true, Nat.reduceBEq, ↓reduceIte]
    rw [show ((e.toNat : Nat) : Int) = e by omega]
    refine ⟨by trivial, RRat.mk ?_ ?_⟩
    · rw [p1]
      rw [Nat.one_mul] at g1
      exact g1
    · rw [p2, show (-e).toNat = 0 by omega]
      exact g4

theorem RRat.int {H : PH} {A B : Option Addr} {l c m e : Nat} {b : Bool} {z : Int} (h1 : RInt H (.agg #[.bool b, .slice A l c]) z) (h2 : RefV H (.slice B m e) 1) : RRat H (.agg #[.bool b, .slice A l c, .slice B m e]) (z : Rat) :=
  RRat.mk (by rw [Rat.num_intCast]; exact h1) (by rw [Rat.den_intCast]; exact h2)

theorem halfR_ok (H : PH) (v : Value) (q : Rat) (hV : RRat H v q) (hb : br q ≤ 1000000) : FnP Tryz.prog 21 [v] H fun v H' => RRat H' v (q / 2) := by
  obtain ⟨b, A, l, c, B, m, e, rfl⟩ := hV.form
  have hbm : br (mkRat 1 2) = 2 := by decide +kernel
  refine of_cinctureref1_Half (by simp) ?_
  try simp only [go_sem, Nat.reduceEqDiff, Nat.reduceAdd, Bool.false_eq_true, Nat.reduceBEq, ↓reduceIte, p_cinctureref1_Half]
  first | refine ev_call (rintOf_ok _ 1 (by decide) (by decide)) ?_ | refine ev_callP (rintOf_ok _ 1 (by decide) (by decide)) ?_
  rintro v_18 H_18 le_18 g1 _
  replace hV := hV.le le_18
  try simp only [go_sem, Nat.reduceEqDiff, Nat.reduceAdd, Bool.false_eq_true, Nat.reduceBEq, ↓reduceIte]
  first | refine ev_call (rnatOf_ok _ 2 (by decide)) ?_ | refine ev_callP (rnatOf_ok _ 2 (by decide)) ?_
  rintro v_19 H_19 le_19 g2 _
  replace hV := hV.le le_19
  replace g1 := g1.le le_19
  try simp only [go_sem, Nat.reduceEqDiff, Nat.reduceAdd, Bool.false_eq_true, Nat.reduceBEq, ↓reduceIte]
  obtain ⟨A1, l1, c1, b1, rfl⟩ := g1.form
  obtain ⟨A2, l2, c2, rfl, _⟩ := g2.form
  have e1 : (mkRat 1 2).num = 1 := by decide +kernel
  have e2 : (mkRat 1 2).den = 2 := by decide +kernel
  rw [← e1] at g1
  rw [← e2] at g2
  have g3 := RRat.mk g1 g2
  try simp only [go_sem, Nat.reduceEqDiff, Nat.reduceAdd, Bool.false_eq_true, Nat.reduceBEq, ↓reduceIte]
  first | refine ev_call (rmulR_ok _ _ _ _ _ hV g3 (by omega)) ?_ | refine ev_callP (rmulR_ok _ _ _ _ _ hV g3 (by omega)) ?_
  rintro v_20 H_20 le_20 g4 _
  try simp only [go_sem, Nat.reduceEqDiff, Nat.reduceAdd, Bool.false_eq_true, Nat.reduceBEq, ↓reduceIte]
  obtain ⟨b4, A4, l4, c4, B4, m4, e4, rfl⟩ := g4.form
  have e9 : q * mkRat 1 2 = q / 2 := by rw [show mkRat 1 2 = (1 : Rat) / 2 by decide +kernel]; grind
  rw [e9] at g4
  try simp only [go_sem, Nat.reduceEqDiff, Nat.reduceAdd, Bool.false_eq_true, Nat.reduceBEq, ↓reduceIte]
  exact ⟨by trivial, g4⟩

end Go.Proofs.YtmlmemnlmmpliaaGreatDoor.X
set_option linter.unusedVariables false
set_option linter.unusedSimpArgs false
namespace Go.Proofs.YtmlmemnlmmpliaaGreatDoor.X
open Go Go.RowKit Go.Proofs

/-- a text is a number, not too long -/
def qok (a : ByteArray) : Bool := ratOk (bs a) && decide (a.size ≤ 100)
theorem qok_br {a : ByteArray} (h : qok a = true) : br (rv (bs a)) ≤ 401 ∧ ofB (rtx (rv (bs a))) = a ∧ ratOk (bs a) = true := by
  unfold qok at h
  rw [Bool.and_eq_true, decide_eq_true_eq] at h
  have := rv_br h.1
  rw [bs_length] at this
  exact ⟨by omega, by rw [rtx_rv h.1, ofB_bs], h.1⟩

theorem numQ_ok (H : PH) (a : ByteArray) (hy : a.size ≤ 9223372036854775807) : FnP Tryz.prog 5 [.string a] H fun v H' => ∃ va ra, v = .tuple #[va, ra, .bool (qok a)] ∧ RatV H' va (if qok a then rv (bs a) else 0) ∧ RRat H' ra (if qok a then rv (bs a) else 0) := by
  refine of_cincturelaw3_Num (by simp) ?_
  try simp only [go_sem, Nat.reduceEqDiff, Nat.reduceAdd, Bool.false_eq_true, Nat.reduceBEq, ↓reduceIte, p_cincturelaw3_Num]
  first | refine ev_call (rparseR_ok _ a hy) ?_ | refine ev_callP (rparseR_ok _ a hy) ?_
  rintro v_1 H_1 le_1 ⟨ra, rfl, h1⟩ _
  try simp only [go_sem, Nat.reduceEqDiff, Nat.reduceAdd, Bool.false_eq_true, Nat.reduceBEq, ↓reduceIte]
  obtain ⟨b1, A1, l1, c1, B1, m1, e1, rfl⟩ := h1.form
  have bad : qok a = false → ∀ H' : PH, ∃ va ra, (Value.tuple #[.agg #[.slice none 0 0, .bool false, .slice none 0 0], .agg #[.bool false, .slice none 0 0, .slice none 0 0], .bool false]) = .tuple #[va, ra, .bool (qok a)] ∧ RatV H' va (if qok a then rv (bs a) else 0) ∧ RRat H' ra (if qok a then rv (bs a) else 0) := by
    intro h H'
    rw [h]
    exact ⟨_, _, rfl, RatV.zero _, RRat.zero _⟩
  cases hk : ratOk (bs a) with
  | false =>
    try simp only [go_sem, Nat.reduceEqDiff, Nat.reduceAdd, Bool.false_eq_true, Nat.reduceBEq, ↓reduceIte, hk]
    exact ⟨by trivial, bad (by unfold qok; rw [hk]; rfl) _⟩
  | true =>
    try simp only [go_sem, Nat.reduceEqDiff, Nat.reduceAdd, Bool.false_eq_true, Nat.reduceBEq, ↓reduceIte, hk]
    refine ev_if (fun h => ?_) (fun h => ?_)
    · try simp only [go_sem, Nat.reduceEqDiff, Nat.reduceAdd, Bool.false_eq_true, Nat.reduceBEq, ↓reduceIte]
      exact ⟨by trivial, bad (by unfold qok; rw [hk, decide_eq_false (show ¬ a.size ≤ 100 by omega)]; rfl) _⟩
    · have hn : qok a = true := by unfold qok; rw [hk, decide_eq_true (show a.size ≤ 100 by omega)]; rfl
      try simp only [go_sem, Nat.reduceEqDiff, Nat.reduceAdd, Bool.false_eq_true, Nat.reduceBEq, ↓reduceIte]
      first | refine ev_call (rparse'_ok _ a hy) ?_ | refine ev_callP (rparse'_ok _ a hy) ?_
      rintro v_2 H_2 le_2 ⟨va, rfl, h2⟩ _
      replace h1 := h1.le le_2
      try simp only [go_sem, Nat.reduceEqDiff, Nat.reduceAdd, Bool.false_eq_true, Nat.reduceBEq, ↓reduceIte]
      obtain ⟨A2, l2, c2, b2, B2, m2, e2, rfl⟩ := h2.form
      rw [hk, if_pos rfl] at h1 h2
      try simp only [go_sem, Nat.reduceEqDiff, Nat.reduceAdd, Bool.false_eq_true, Nat.reduceBEq, ↓reduceIte]
      rw [hn]
      repeat' (with_reducible refine And.intro ?_ ?_)
      all_goals first | trivial | exact ⟨_, _, rfl, h2, h1⟩

/-- a number from lo to hi, made of any number -/
def wth (n lo hi : Int) : Int := lo + (if n.tmod (hi - lo + 1) < 0 then n.tmod (hi - lo + 1) + (hi - lo + 1) else n.tmod (hi - lo + 1))
theorem wth_bd {n lo hi : Int} (h : lo ≤ hi) : lo ≤ wth n lo hi ∧ wth n lo hi ≤ hi := by
  unfold wth
  have h1 := Int.lt_tmod_of_pos n (show 0 < hi - lo + 1 by omega)
  have h2 := Int.tmod_lt_of_pos n (show 0 < hi - lo + 1 by omega)
  split <;> omega

end Go.Proofs.YtmlmemnlmmpliaaGreatDoor.X
