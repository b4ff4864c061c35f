/- Package rat. -/
import Derived.Test.YtccdhgjfcgfgoaaGreatZV
import Derived.Test.YtccdhgjfcgfgoaaGreatZH
import Derived.Test.YtccdhgjfcgfgoaaGreatZL
import Derived.Shelf.Strings.Search2
set_option linter.unusedVariables false
set_option linter.unusedSimpArgs false
namespace Go.Proofs.YtccdhgjfcgfgoaaGreat.X
open Go Go.RowKit Go.Proofs

/-- a number of package rat -/
def RatV (H : PH) (v : Value) (q : Rat) : Prop := ∃ A l c b B m e, v = .agg #[.slice A l c, .bool b, .slice B m e] ∧ IntV H (.agg #[.slice A l c, .bool b]) q.num ∧ NatV H (.agg #[.slice B m e]) (dn q)
theorem RatV.le {H H' : PH} {v : Value} {q : Rat} (h : RatV H v q) (hl : H.le H') : RatV H' v q := by
  obtain ⟨A, l, c, b, B, m, e, h1, h2, h3⟩ := h
  exact ⟨A, l, c, b, B, m, e, h1, h2.le hl, h3.le hl⟩
theorem RatV.zero (H : PH) : RatV H (.agg #[.slice none 0 0, .bool false, .slice none 0 0]) 0 := ⟨none, 0, 0, false, none, 0, 0, rfl, IntV.zero H, NatV.zero H 0⟩
theorem RatV.mkI {H : PH} {A : Option Addr} {l c : Nat} {b : Bool} {z : Int} (h : IntV H (.agg #[.slice A l c, .bool b]) z) : RatV H (.agg #[.slice A l c, .bool b, .slice none 0 0]) (mkRat z 1) := by
  obtain ⟨e1, e2⟩ := least_one z
  refine ⟨A, l, c, b, none, 0, 0, rfl, by rw [e1]; exact h, ?_⟩
  rw [dn_one e2]; exact NatV.zero H 0

theorem den_ok (H : PH) (v : Value) (q : Rat) (hV : RatV H v q) (hb : br q ≤ 4294967000) : FnP Tryz.prog 77 [v] H fun v H' => NatV H' v q.den := by
  obtain ⟨A, l, c, b, B, m, e, rfl, hn, hd⟩ := hV
  have h1 := bl_dn q
  refine of_rat_Rat_den (by simp) ?_
  try simp only [go_sem, Nat.reduceEqDiff, Nat.reduceAdd, Nat.reduceBEq, ↓reduceIte, p_rat_Rat_den]
  first | refine ev_call (nbits_ok _ _ _ hd (by omega)) ?_ | refine ev_callP (nbits_ok _ _ _ hd (by omega)) ?_
  rintro v_1 H_1 le_1 rfl _
  replace hn := hn.le le_1
  replace hd := hd.le le_1
  try simp only [go_sem, Nat.reduceEqDiff, Nat.reduceAdd, Nat.reduceBEq, ↓reduceIte]
  refine ev_if (fun h => ?_) (fun h => ?_)
  · have h0 : q.den = 1 := dn_zero_iff.1 (bl_eq_zero.1 (by omega))
    try simp only [go_sem, Nat.reduceEqDiff, Nat.reduceAdd, Nat.reduceBEq, ↓reduceIte]
    first | refine ev_call (of_ok _ 1 (by decide)) ?_ | refine ev_callP (of_ok _ 1 (by decide)) ?_
    rintro v_2 H_2 le_2 hR _
    try simp only [go_sem, Nat.reduceEqDiff, Nat.reduceAdd, Nat.reduceBEq, ↓reduceIte]
    obtain ⟨A1, l1, c1, rfl⟩ := hR.form
    try simp only [go_sem, Nat.reduceEqDiff, Nat.reduceAdd, Nat.reduceBEq, ↓reduceIte]
    rw [h0]
    exact ⟨by trivial, hR⟩
  · have h0 : q.den ≠ 1 := fun e0 => h (by rw [dn_one e0]; rfl)
    rw [dn_ne h0] at hd
    try simp only [go_sem, Nat.reduceEqDiff, Nat.reduceAdd, Nat.reduceBEq, ↓reduceIte]
    exact ⟨by trivial, hd⟩

set_option maxHeartbeats 8000000 in
theorem least_ok (H : PH) (vn vd : Value) (z : Int) (y : Nat) (hn : IntV H vn z) (hd : NatV H vd y) (hbz : bi z ≤ 4294967000) (hby : bl y ≤ 4294967000) : FnP Tryz.prog 74 [vn, vd] H fun v H' => RatV H' v (mkRat z (if y = 0 then 1 else y)) := by
  obtain ⟨A, l, c, b, rfl⟩ := hn.form
  obtain ⟨B, m, e, rfl⟩ := hd.form
  refine of_rat_least (by simp) ?_
  try simp only [go_sem, Nat.reduceEqDiff, Nat.reduceAdd, Nat.reduceBEq, ↓reduceIte, p_rat_least]
  first | refine ev_call (nbits_ok _ _ _ hd (by omega)) ?_ | refine ev_callP (nbits_ok _ _ _ hd (by omega)) ?_
  rintro v_3 H_3 le_3 rfl _
  replace hn := hn.le le_3
  replace hd := hd.le le_3
  try simp only [go_sem, Nat.reduceEqDiff, Nat.reduceAdd, Nat.reduceBEq, ↓reduceIte]
  refine ev_if (fun h => ?_) (fun h => ?_)
  · have hy : (if y = 0 then 1 else y) = 1 := by
      have h1 : bl y ≤ 1 := by omega
      have := bl_le_iff.1 h1
      split <;> omega
    rw [hy]
    try simp only [go_sem, Nat.reduceEqDiff, Nat.reduceAdd, Nat.reduceBEq, ↓reduceIte]
    exact ⟨by trivial, RatV.mkI hn⟩
  · have hy2 : 2 ≤ y := by
      have h1 : 1 < bl y := by omega
      have := lt_bl_iff.1 h1
      omega
    rw [if_neg (by omega)]
    try simp only [go_sem, Nat.reduceEqDiff, Nat.reduceAdd, Nat.reduceBEq, ↓reduceIte]
    first | refine ev_call (wsign_ok _ _ z hn (by omega)) ?_ | refine ev_callP (wsign_ok _ _ z hn (by omega)) ?_
    rintro v_4 H_4 le_4 rfl _
    replace hn := hn.le le_4
    replace hd := hd.le le_4
    try simp only [go_sem, Nat.reduceEqDiff, Nat.reduceAdd, Nat.reduceBEq, ↓reduceIte]
    refine ev_if (fun h3 => ?_) (fun h3 => ?_)
    · have hz : z = 0 := by
        unfold sgnI at h3
        split at h3
        · omega
        · split at h3 <;> omega
      subst hz
      rw [show mkRat 0 y = mkRat 0 1 by rw [Rat.zero_mkRat, Rat.zero_mkRat]]
      try simp only [go_sem, Nat.reduceEqDiff, Nat.reduceAdd, Nat.reduceBEq, ↓reduceIte]
      exact ⟨by trivial, RatV.mkI hn⟩
    · have hz : z ≠ 0 := fun e0 => h3 (by rw [e0]; rfl)
      have hgp := Nat.gcd_pos_of_pos_left z.natAbs (show 0 < y by omega)
      have e1 := least_num z (show y ≠ 0 by omega)
      have e2 := least_den z (show y ≠ 0 by omega)
      have hg : bl (y.gcd z.natAbs) ≤ 4294967000 := bl_gcd (by omega) hby
      have hgz : bl (z.natAbs / y.gcd z.natAbs) ≤ 4294967000 := bl_div hbz
      have hgy : bl (y / y.gcd z.natAbs) ≤ 4294967000 := bl_div hby
      have hsg : decide (sgnI z < 0) = decide (z < 0) := by
        unfold sgnI
        by_cases h5 : z < 0
        · rw [if_pos h5, decide_eq_true h5]; rfl
        · rw [if_neg h5, decide_eq_false h5]; split <;> rfl
      try simp only [go_sem, Nat.reduceEqDiff, Nat.reduceAdd, Nat.reduceBEq, ↓reduceIte]
      repeat' (with_reducible refine And.intro ?_ ?_)
      all_goals
        first | refine ev_call (wabs_ok _ _ z hn) ?_ | refine ev_callP (wabs_ok _ _ z hn) ?_
        rintro v_6 H_6 le_6 g1 _
        replace hn := hn.le le_6
        replace hd := hd.le le_6
        try simp only [go_sem, Nat.reduceEqDiff, Nat.reduceAdd, Nat.reduceBEq, ↓reduceIte]
        repeat' (with_reducible refine And.intro ?_ ?_)
        all_goals
          first | refine ev_call (gcd_ok _ _ _ y z.natAbs hd g1 (by omega) (show bl z.natAbs ≤ _ by unfold bi at hbz; omega)) ?_ | refine ev_callP (gcd_ok _ _ _ y z.natAbs hd g1 (by omega) (show bl z.natAbs ≤ _ by unfold bi at hbz; omega)) ?_
          rintro v_7 H_7 le_7 g2 _
          replace hn := hn.le le_7
          replace hd := hd.le le_7
          try simp only [go_sem, Nat.reduceEqDiff, Nat.reduceAdd, Nat.reduceBEq, ↓reduceIte]
          obtain ⟨C, k, g, rfl⟩ := g2.form
          try simp only [go_sem, Nat.reduceEqDiff, Nat.reduceAdd, Nat.reduceBEq, ↓reduceIte]
          first | refine ev_call (nbits_ok _ _ _ g2 (by omega)) ?_ | refine ev_callP (nbits_ok _ _ _ g2 (by omega)) ?_
          rintro v_8 H_8 le_8 rfl _
          replace hn := hn.le le_8
          replace hd := hd.le le_8
          replace g2 := g2.le le_8
          try simp only [go_sem, Nat.reduceEqDiff, Nat.reduceAdd, Nat.reduceBEq, ↓reduceIte]
          refine ev_if (fun h6 => ?_) (fun h6 => ?_)
          · try simp only [go_sem, Nat.reduceEqDiff, Nat.reduceAdd, Nat.reduceBEq, ↓reduceIte]
            repeat' (with_reducible refine And.intro ?_ ?_)
            all_goals
              first | refine ev_call (wabs_ok _ _ z hn) ?_ | refine ev_callP (wabs_ok _ _ z hn) ?_
              rintro v_9 H_9 le_9 g1 _
              replace hn := hn.le le_9
              replace hd := hd.le le_9
              replace g2 := g2.le le_9
              try simp only [go_sem, Nat.reduceEqDiff, Nat.reduceAdd, Nat.reduceBEq, ↓reduceIte]
              repeat' (with_reducible refine And.intro ?_ ?_)
              all_goals
                first | refine ev_call (div_ok1 _ _ _ z.natAbs _ g1 g2 (show bl z.natAbs ≤ _ by unfold bi at hbz; omega) (by omega) (by omega)) ?_ | refine ev_callP (div_ok1 _ _ _ z.natAbs _ g1 g2 (show bl z.natAbs ≤ _ by unfold bi at hbz; omega) (by omega) (by omega)) ?_
                rintro v_10 H_10 le_10 ⟨vq, vr, rfl, g3, g4⟩ _
                replace hn := hn.le le_10
                replace hd := hd.le le_10
                replace g2 := g2.le le_10
                try simp only [go_sem, Nat.reduceEqDiff, Nat.reduceAdd, Nat.reduceBEq, ↓reduceIte]
                obtain ⟨D, k2, g2', rfl⟩ := g3.form
                obtain ⟨D3, k3, g3', rfl⟩ := g4.form
                try simp only [go_sem, Nat.reduceEqDiff, Nat.reduceAdd, Nat.reduceBEq, ↓reduceIte]
                repeat' (with_reducible refine And.intro ?_ ?_)
                all_goals
                  first | refine ev_call (div_ok1 _ _ _ y _ hd g2 (by omega) (by omega) (by omega)) ?_ | refine ev_callP (div_ok1 _ _ _ y _ hd g2 (by omega) (by omega) (by omega)) ?_
                  rintro v_11 H_11 le_11 ⟨wq, wr, rfl, g5, g6⟩ _
                  replace hn := hn.le le_11
                  replace g3 := g3.le le_11
                  try simp only [go_sem, Nat.reduceEqDiff, Nat.reduceAdd, Nat.reduceBEq, ↓reduceIte]
                  obtain ⟨D4, k4, g4', rfl⟩ := g5.form
                  obtain ⟨D5, k5, g5', rfl⟩ := g6.form
                  try simp only [go_sem, Nat.reduceEqDiff, Nat.reduceAdd, Nat.reduceBEq, ↓reduceIte]
                  first | refine ev_call (wsign_ok _ _ z hn (by omega)) ?_ | refine ev_callP (wsign_ok _ _ z hn (by omega)) ?_
                  rintro v_12 H_12 le_12 rfl _
                  replace g3 := g3.le le_12
                  replace g5 := g5.le le_12
                  try simp only [go_sem, Nat.reduceEqDiff, Nat.reduceAdd, Nat.reduceBEq, ↓reduceIte]
                  rw [← e2] at g5
                  have hsz := sgnI_cases z
                  by_cases hzn : z < 0
                  · refine ev_pos (by unfold sgnI; rw [if_pos hzn]; decide) ?_
                    try simp only [go_sem, Nat.reduceEqDiff, Nat.reduceAdd, Nat.reduceBEq, ↓reduceIte]
                    first | refine ev_call (from_ok _ true _ _ g3 (by omega)) ?_ | refine ev_callP (from_ok _ true _ _ g3 (by omega)) ?_
                    rintro v_13 H_13 le_13 g7 _
                    replace g5 := g5.le le_13
                    try simp only [go_sem, Nat.reduceEqDiff, Nat.reduceAdd, Nat.reduceBEq, ↓reduceIte]
                    rw [show sg true (z.natAbs / y.gcd z.natAbs) = (mkRat z y).num by rw [e1, decide_eq_true hzn]] at g7
                    obtain ⟨A9, l9, c9, b9, rfl⟩ := g7.form
                    try simp only [go_sem, Nat.reduceEqDiff, Nat.reduceAdd, Nat.reduceBEq, ↓reduceIte]
                    first | refine ev_call (nbits_ok _ _ _ g5 (by rw [e2]; omega)) ?_ | refine ev_callP (nbits_ok _ _ _ g5 (by rw [e2]; omega)) ?_
                    rintro v_5 H_5 le_5 rfl _
                    replace g5 := g5.le le_5
                    replace g7 := g7.le le_5
                    try simp only [go_sem, Nat.reduceEqDiff, Nat.reduceAdd, Nat.reduceBEq, ↓reduceIte]
                    refine ev_if (fun h7 => ?_) (fun h7 => ?_)
                    · have h8 : (mkRat z y).den = 1 := by
                        have h9 := (mkRat z y).den_nz
                        have h10 : bl (mkRat z y).den ≤ 1 := by omega
                        have := bl_le_iff.1 h10
                        omega
                      try simp only [go_sem, Nat.reduceEqDiff, Nat.reduceAdd, Nat.reduceBEq, ↓reduceIte]
                      exact ⟨by trivial, _, _, _, _, _, _, _, rfl, g7, by rw [dn_one h8]; exact NatV.zero _ _⟩
                    · have h8 : (mkRat z y).den ≠ 1 := fun e0 => h7 (by rw [e0]; decide)
                      try simp only [go_sem, Nat.reduceEqDiff, Nat.reduceAdd, Nat.reduceBEq, ↓reduceIte]
                      exact ⟨by trivial, _, _, _, _, _, _, _, rfl, g7, by rw [dn_ne h8]; exact g5⟩
                  · refine ev_neg (by unfold sgnI; rw [if_neg hzn]; split <;> decide) ?_
                    try simp only [go_sem, Nat.reduceEqDiff, Nat.reduceAdd, Nat.reduceBEq, ↓reduceIte]
                    first | refine ev_call (from_ok _ false _ _ g3 (by omega)) ?_ | refine ev_callP (from_ok _ false _ _ g3 (by omega)) ?_
                    rintro v_14 H_14 le_14 g7 _
                    replace g5 := g5.le le_14
                    try simp only [go_sem, Nat.reduceEqDiff, Nat.reduceAdd, Nat.reduceBEq, ↓reduceIte]
                    rw [show sg false (z.natAbs / y.gcd z.natAbs) = (mkRat z y).num by rw [e1, decide_eq_false hzn]] at g7
                    obtain ⟨A9, l9, c9, b9, rfl⟩ := g7.form
                    try simp only [go_sem, Nat.reduceEqDiff, Nat.reduceAdd, Nat.reduceBEq, ↓reduceIte]
                    first | refine ev_call (nbits_ok _ _ _ g5 (by rw [e2]; omega)) ?_ | refine ev_callP (nbits_ok _ _ _ g5 (by rw [e2]; omega)) ?_
                    rintro v_5 H_5 le_5 rfl _
                    replace g5 := g5.le le_5
                    replace g7 := g7.le le_5
                    try simp only [go_sem, Nat.reduceEqDiff, Nat.reduceAdd, Nat.reduceBEq, ↓reduceIte]
                    refine ev_if (fun h7 => ?_) (fun h7 => ?_)
                    · have h8 : (mkRat z y).den = 1 := by
                        have h9 := (mkRat z y).den_nz
                        have h10 : bl (mkRat z y).den ≤ 1 := by omega
                        have := bl_le_iff.1 h10
                        omega
                      try simp only [go_sem, Nat.reduceEqDiff, Nat.reduceAdd, Nat.reduceBEq, ↓reduceIte]
                      exact ⟨by trivial, _, _, _, _, _, _, _, rfl, g7, by rw [dn_one h8]; exact NatV.zero _ _⟩
                    · have h8 : (mkRat z y).den ≠ 1 := fun e0 => h7 (by rw [e0]; decide)
                      try simp only [go_sem, Nat.reduceEqDiff, Nat.reduceAdd, Nat.reduceBEq, ↓reduceIte]
                      exact ⟨by trivial, _, _, _, _, _, _, _, rfl, g7, by rw [dn_ne h8]; exact g5⟩
          · have hg1 : y.gcd z.natAbs = 1 := by
              have h10 : bl (y.gcd z.natAbs) ≤ 1 := by omega
              have := bl_le_iff.1 h10
              omega
            have e3 : (mkRat z y).num = z := by rw [e1, hg1, Nat.div_one, sg_self]
            have e4 : (mkRat z y).den = y := by rw [e2, hg1, Nat.div_one]
            try simp only [go_sem, Nat.reduceEqDiff, Nat.reduceAdd, Nat.reduceBEq, ↓reduceIte]
            first | refine ev_call (nbits_ok _ _ _ hd (by omega)) ?_ | refine ev_callP (nbits_ok _ _ _ hd (by omega)) ?_
            rintro v_15 H_15 le_15 rfl _
            replace hn := hn.le le_15
            replace hd := hd.le le_15
            try simp only [go_sem, Nat.reduceEqDiff, Nat.reduceAdd, Nat.reduceBEq, ↓reduceIte]
            refine ev_neg (by omega) ?_
            try simp only [go_sem, Nat.reduceEqDiff, Nat.reduceAdd, Nat.reduceBEq, ↓reduceIte]
            exact ⟨by trivial, _, _, _, _, _, _, _, rfl, by rw [e3]; exact hn, by rw [dn_ne (by omega), e4]; exact hd⟩

theorem RatV.form {H : PH} {v : Value} {q : Rat} (h : RatV H v q) : ∃ A l c b B m e, v = .agg #[.slice A l c, .bool b, .slice B m e] := by
  obtain ⟨A, l, c, b, B, m, e, h1, _⟩ := h
  exact ⟨A, l, c, b, B, m, e, h1⟩
theorem agg3_inj {A A' B B' : Option Addr} {l l' c c' m m' e e' : Nat} {b b' : Bool} (h : (Value.agg #[.slice A l c, .bool b, .slice B m e]) = .agg #[.slice A' l' c', .bool b', .slice B' m' e']) : A = A' ∧ l = l' ∧ c = c' ∧ b = b' ∧ B = B' ∧ m = m' ∧ e = e' := by
  simpa [and_assoc] using h
theorem RatV.parts {H : PH} {A B : Option Addr} {l c m e : Nat} {b : Bool} {q : Rat} (h : RatV H (.agg #[.slice A l c, .bool b, .slice B m e]) q) : IntV H (.agg #[.slice A l c, .bool b]) q.num ∧ NatV H (.agg #[.slice B m e]) (dn q) := by
  obtain ⟨A', l', c', b', B', m', e', h1, h2, h3⟩ := h
  obtain ⟨rfl, rfl, rfl, rfl, rfl, rfl, rfl⟩ := agg3_inj h1
  exact ⟨h2, h3⟩
theorem bi_cast (n : Nat) : bi (n : Int) = bl n := by unfold bi; rw [Int.natAbs_natCast]
theorem one_of (q : Rat) : (if dn q = 0 then 1 else dn q) = q.den := by
  unfold dn
  by_cases h : q.den = 1
  · rw [if_pos h, if_pos rfl, h]
  · rw [if_neg h, if_neg q.den_nz]

theorem rof_ok (H : PH) (n : Int) (h1 : -9223372036854775808 ≤ n) (h2 : n ≤ 9223372036854775807) : FnP Tryz.prog 31 [.int .i64 n] H fun v H' => RatV H' v (n : Rat) := by
  refine of_rat_Of (by simp) ?_
  try simp only [go_sem, Nat.reduceEqDiff, Nat.reduceAdd, Nat.reduceBEq, ↓reduceIte, p_rat_Of]
  first | refine ev_call (wof_ok _ n h1 h2) ?_ | refine ev_callP (wof_ok _ n h1 h2) ?_
  rintro v_16 H_16 le_16 g1 _
  try simp only [go_sem, Nat.reduceEqDiff, Nat.reduceAdd, Nat.reduceBEq, ↓reduceIte]
  obtain ⟨A, l, c, b, rfl⟩ := g1.form
  try simp only [go_sem, Nat.reduceEqDiff, Nat.reduceAdd, Nat.reduceBEq, ↓reduceIte]
  refine ⟨by trivial, ?_⟩
  rw [show ((n : Int) : Rat) = mkRat n 1 from (Rat.mkRat_one n).symm]
  exact RatV.mkI g1

theorem rden_ok (H : PH) (v : Value) (q : Rat) (hV : RatV H v q) (hb : br q ≤ 4294967000) : FnP Tryz.prog 118 [v] H fun v H' => IntV H' v q.den := by
  obtain ⟨A, l, c, b, B, m, e, rfl⟩ := hV.form
  refine of_rat_Rat_Den (by simp) ?_
  try simp only [go_sem, Nat.reduceEqDiff, Nat.reduceAdd, Nat.reduceBEq, ↓reduceIte, p_rat_Rat_Den]
  first | refine ev_call (den_ok _ _ q hV hb) ?_ | refine ev_callP (den_ok _ _ q hV hb) ?_
  rintro v_17 H_17 le_17 g1 _
  try simp only [go_sem, Nat.reduceEqDiff, Nat.reduceAdd, Nat.reduceBEq, ↓reduceIte]
  obtain ⟨A1, l1, c1, rfl⟩ := g1.form
  try simp only [go_sem, Nat.reduceEqDiff, Nat.reduceAdd, Nat.reduceBEq, ↓reduceIte]
  first | refine ev_call (from_ok _ false _ _ g1 (by have := bl_br q; omega)) ?_ | refine ev_callP (from_ok _ false _ _ g1 (by have := bl_br q; omega)) ?_
  rintro v_18 H_18 le_18 g2 _
  try simp only [go_sem, Nat.reduceEqDiff, Nat.reduceAdd, Nat.reduceBEq, ↓reduceIte]
  obtain ⟨A2, l2, c2, b2, rfl⟩ := g2.form
  try simp only [go_sem, Nat.reduceEqDiff, Nat.reduceAdd, Nat.reduceBEq, ↓reduceIte]
  rw [sg_false] at g2
  exact ⟨by trivial, g2⟩

theorem rsgn_ok (H : PH) (v : Value) (q : Rat) (hV : RatV H v q) (hb : br q ≤ 4294967000) : FnP Tryz.prog 13 [v] H fun v _ => v = .int .i64 (sgnI q.num) := by
  obtain ⟨A, l, c, b, B, m, e, rfl⟩ := hV.form
  obtain ⟨h1, h2⟩ := hV.parts
  refine of_rat_Rat_Sign (by simp) ?_
  try simp only [go_sem, Nat.reduceEqDiff, Nat.reduceAdd, Nat.reduceBEq, ↓reduceIte, p_rat_Rat_Sign]
  first | refine ev_call (wsign_ok _ _ _ h1 (by have := bi_br q; omega)) ?_ | refine ev_callP (wsign_ok _ _ _ h1 (by have := bi_br q; omega)) ?_
  rintro v_19 H_19 le_19 rfl _
  try simp only [go_sem, Nat.reduceEqDiff, Nat.reduceAdd, Nat.reduceBEq, ↓reduceIte]
  exact ⟨by trivial, by trivial⟩

theorem scaled_ok (H : PH) (va vb : Value) (p q : Rat) (ha : RatV H va p) (hb : RatV H vb q) (hbp : br p + br q ≤ 4294967000) : FnP Tryz.prog 92 [va, vb] H fun v H' => IntV H' v (p.num * q.den) := by
  obtain ⟨A, l, c, b, B, m, e, rfl⟩ := ha.form
  obtain ⟨A1, l1, c1, b1, B1, m1, e1, rfl⟩ := hb.form
  obtain ⟨h1, h2⟩ := ha.parts
  obtain ⟨h3, h4⟩ := hb.parts
  have a1 := bi_br p
  have a2 := bl_br q
  have a3 := bl_dn q
  refine of_rat_scaled (by simp) ?_
  try simp only [go_sem, Nat.reduceEqDiff, Nat.reduceAdd, Nat.reduceBEq, ↓reduceIte, p_rat_scaled]
  first | refine ev_call (nbits_ok _ _ _ h4 (by omega)) ?_ | refine ev_callP (nbits_ok _ _ _ h4 (by omega)) ?_
  rintro v_20 H_20 le_20 rfl _
  replace h1 := h1.le le_20
  replace hb := hb.le le_20
  try simp only [go_sem, Nat.reduceEqDiff, Nat.reduceAdd, Nat.reduceBEq, ↓reduceIte]
  refine ev_if (fun h => ?_) (fun h => ?_)
  · have h0 : q.den = 1 := dn_zero_iff.1 (bl_eq_zero.1 (by omega))
    try simp only [go_sem, Nat.reduceEqDiff, Nat.reduceAdd, Nat.reduceBEq, ↓reduceIte]
    rw [h0, Int.natCast_one, Int.mul_one]
    exact ⟨by trivial, h1⟩
  · try simp only [go_sem, Nat.reduceEqDiff, Nat.reduceAdd, Nat.reduceBEq, ↓reduceIte]
    first | refine ev_call (rden_ok _ _ q hb (by omega)) ?_ | refine ev_callP (rden_ok _ _ q hb (by omega)) ?_
    rintro v_21 H_21 le_21 g1 _
    replace h1 := h1.le le_21
    try simp only [go_sem, Nat.reduceEqDiff, Nat.reduceAdd, Nat.reduceBEq, ↓reduceIte]
    first | refine ev_call (wmul_ok _ _ _ _ _ h1 g1 (by rw [bi_cast]; omega)) ?_ | refine ev_callP (wmul_ok _ _ _ _ _ h1 g1 (by rw [bi_cast]; omega)) ?_
    rintro v_22 H_22 le_22 g2 _
    try simp only [go_sem, Nat.reduceEqDiff, Nat.reduceAdd, Nat.reduceBEq, ↓reduceIte]
    obtain ⟨A2, l2, c2, b2, rfl⟩ := g2.form
    try simp only [go_sem, Nat.reduceEqDiff, Nat.reduceAdd, Nat.reduceBEq, ↓reduceIte]
    exact ⟨by trivial, g2⟩

theorem rneg'_ok (H : PH) (v : Value) (q : Rat) (hV : RatV H v q) (hb : br q ≤ 4294967000) : FnP Tryz.prog 33 [v] H fun v H' => RatV H' v (-q) := by
  obtain ⟨A, l, c, b, B, m, e, rfl⟩ := hV.form
  obtain ⟨h1, h2⟩ := hV.parts
  refine of_rat_Neg (by simp) ?_
  try simp only [go_sem, Nat.reduceEqDiff, Nat.reduceAdd, Nat.reduceBEq, ↓reduceIte, p_rat_Neg]
  first | refine ev_call (wneg_ok _ _ _ h1 (by have := bi_br q; omega)) ?_ | refine ev_callP (wneg_ok _ _ _ h1 (by have := bi_br q; omega)) ?_
  rintro v_26 H_26 le_26 g1 _
  replace h2 := h2.le le_26
  try simp only [go_sem, Nat.reduceEqDiff, Nat.reduceAdd, Nat.reduceBEq, ↓reduceIte]
  obtain ⟨A1, l1, c1, b1, rfl⟩ := g1.form
  try simp only [go_sem, Nat.reduceEqDiff, Nat.reduceAdd, Nat.reduceBEq, ↓reduceIte]
  refine ⟨by trivial, _, _, _, _, _, _, _, rfl, by rw [Rat.neg_num]; exact g1, ?_⟩
  rw [show dn (-q) = dn q by unfold dn; rw [Rat.neg_den]]
  exact h2

theorem radd'_ok (H : PH) (va vb : Value) (p q : Rat) (ha : RatV H va p) (hb : RatV H vb q) (hbp : br p + br q ≤ 4294966000) : FnP Tryz.prog 51 [va, vb] H fun v H' => RatV H' v (p + q) := by
  obtain ⟨A, l, c, b, B, m, e, rfl⟩ := ha.form
  obtain ⟨A1, l1, c1, b1, B1, m1, e1, rfl⟩ := hb.form
  obtain ⟨h1, h2⟩ := ha.parts
  obtain ⟨h3, h4⟩ := hb.parts
  have a1 := bi_br p; have a2 := bl_br p; have a3 := bi_br q; have a4 := bl_br q; have a5 := bl_dn p; have a6 := bl_dn q
  have s1 := bi_mul p.num q.den
  have s2 := bi_mul q.num p.den
  rw [bi_cast] at s1 s2
  have s3 := bi_add (p.num * q.den) (q.num * p.den)
  have s4 := bl_mul p.den q.den
  have s5 := bi_add p.num q.num
  refine of_rat_Add (by simp) ?_
  try simp only [go_sem, Nat.reduceEqDiff, Nat.reduceAdd, Nat.reduceBEq, ↓reduceIte, p_rat_Add]
  first | refine ev_call (cmp_ok _ _ _ _ _ h2 h4 (by omega) (by omega)) ?_ | refine ev_callP (cmp_ok _ _ _ _ _ h2 h4 (by omega) (by omega)) ?_
  rintro v_27 H_27 le_27 rfl _
  replace ha := ha.le le_27
  replace hb := hb.le le_27
  replace h1 := h1.le le_27
  replace h2 := h2.le le_27
  replace h3 := h3.le le_27
  replace h4 := h4.le le_27
  try simp only [go_sem, Nat.reduceEqDiff, Nat.reduceAdd, Nat.reduceBEq, ↓reduceIte]
  by_cases hd : dn p = dn q
  · refine ev_pos (by rw [hd]; exact cmpN_self _) ?_
    try simp only [go_sem, Nat.reduceEqDiff, Nat.reduceAdd, Nat.reduceBEq, ↓reduceIte]
    first | refine ev_call (wadd_ok _ _ _ _ _ h1 h3 (by omega) (by omega)) ?_ | refine ev_callP (wadd_ok _ _ _ _ _ h1 h3 (by omega) (by omega)) ?_
    rintro v_28 H_28 le_28 g1 _
    replace h2 := h2.le le_28
    try simp only [go_sem, Nat.reduceEqDiff, Nat.reduceAdd, Nat.reduceBEq, ↓reduceIte]
    first | refine ev_call (least_ok _ _ _ _ _ g1 h2 (by omega) (by omega)) ?_ | refine ev_callP (least_ok _ _ _ _ _ g1 h2 (by omega) (by omega)) ?_
    rintro v_29 H_29 le_29 g2 _
    try simp only [go_sem, Nat.reduceEqDiff, Nat.reduceAdd, Nat.reduceBEq, ↓reduceIte]
    obtain ⟨A2, l2, c2, b2, B2, m2, e2, rfl⟩ := g2.form
    try simp only [go_sem, Nat.reduceEqDiff, Nat.reduceAdd, Nat.reduceBEq, ↓reduceIte]
    have hden : p.den = q.den := by rw [← one_of p, ← one_of q, hd]
    have e9 : mkRat (p.num + q.num) (if dn p = 0 then 1 else dn p) = p + q := by
      rw [one_of, Rat.add_def', ← hden, ← Int.add_mul, Int.mul_comm, Rat.mkRat_mul_left p.den_nz]
    rw [e9] at g2
    exact ⟨by trivial, g2⟩
  · refine ev_neg (by unfold cmpN; split <;> (try split) <;> omega) ?_
    try simp only [go_sem, Nat.reduceEqDiff, Nat.reduceAdd, Nat.reduceBEq, ↓reduceIte]
    first | refine ev_call (scaled_ok _ _ _ p q ha hb (by omega)) ?_ | refine ev_callP (scaled_ok _ _ _ p q ha hb (by omega)) ?_
    rintro v_30 H_30 le_30 g1 _
    replace ha := ha.le le_30
    replace hb := hb.le le_30
    try simp only [go_sem, Nat.reduceEqDiff, Nat.reduceAdd, Nat.reduceBEq, ↓reduceIte]
    first | refine ev_call (scaled_ok _ _ _ q p hb ha (by omega)) ?_ | refine ev_callP (scaled_ok _ _ _ q p hb ha (by omega)) ?_
    rintro v_31 H_31 le_31 g2 _
    replace ha := ha.le le_31
    replace hb := hb.le le_31
    replace g1 := g1.le le_31
    try simp only [go_sem, Nat.reduceEqDiff, Nat.reduceAdd, Nat.reduceBEq, ↓reduceIte]
    first | refine ev_call (wadd_ok _ _ _ _ _ g1 g2 (by omega) (by omega)) ?_ | refine ev_callP (wadd_ok _ _ _ _ _ g1 g2 (by omega) (by omega)) ?_
    rintro v_32 H_32 le_32 g3 _
    replace ha := ha.le le_32
    replace hb := hb.le le_32
    try simp only [go_sem, Nat.reduceEqDiff, Nat.reduceAdd, Nat.reduceBEq, ↓reduceIte]
    first | refine ev_call (den_ok _ _ p ha (by omega)) ?_ | refine ev_callP (den_ok _ _ p ha (by omega)) ?_
    rintro v_33 H_33 le_33 g4 _
    replace hb := hb.le le_33
    replace g3 := g3.le le_33
    try simp only [go_sem, Nat.reduceEqDiff, Nat.reduceAdd, Nat.reduceBEq, ↓reduceIte]
    first | refine ev_call (den_ok _ _ q hb (by omega)) ?_ | refine ev_callP (den_ok _ _ q hb (by omega)) ?_
    rintro v_34 H_34 le_34 g5 _
    replace g3 := g3.le le_34
    replace g4 := g4.le le_34
    try simp only [go_sem, Nat.reduceEqDiff, Nat.reduceAdd, Nat.reduceBEq, ↓reduceIte]
    first | refine ev_call (mul_ok _ _ _ _ _ g4 g5 (by omega) (by omega)) ?_ | refine ev_callP (mul_ok _ _ _ _ _ g4 g5 (by omega) (by omega)) ?_
    rintro v_35 H_35 le_35 g6 _
    replace g3 := g3.le le_35
    try simp only [go_sem, Nat.reduceEqDiff, Nat.reduceAdd, Nat.reduceBEq, ↓reduceIte]
    first | refine ev_call (least_ok _ _ _ _ _ g3 g6 (by omega) (by omega)) ?_ | refine ev_callP (least_ok _ _ _ _ _ g3 g6 (by omega) (by omega)) ?_
    rintro v_36 H_36 le_36 g7 _
    try simp only [go_sem, Nat.reduceEqDiff, Nat.reduceAdd, Nat.reduceBEq, ↓reduceIte]
    obtain ⟨A2, l2, c2, b2, B2, m2, e2, rfl⟩ := g7.form
    try simp only [go_sem, Nat.reduceEqDiff, Nat.reduceAdd, Nat.reduceBEq, ↓reduceIte]
    have hnz : p.den * q.den ≠ 0 := Nat.mul_ne_zero p.den_nz q.den_nz
    rw [if_neg hnz, ← Rat.add_def'] at g7
    exact ⟨by trivial, g7⟩

theorem rsub'_ok (H : PH) (va vb : Value) (p q : Rat) (ha : RatV H va p) (hb : RatV H vb q) (hbp : br p + br q ≤ 4294966000) : FnP Tryz.prog 78 [va, vb] H fun v H' => RatV H' v (p - q) := by
  obtain ⟨A, l, c, b, B, m, e, rfl⟩ := ha.form
  obtain ⟨A1, l1, c1, b1, B1, m1, e1, rfl⟩ := hb.form
  refine of_rat_Sub (by simp) ?_
  try simp only [go_sem, Nat.reduceEqDiff, Nat.reduceAdd, Nat.reduceBEq, ↓reduceIte, p_rat_Sub]
  first | refine ev_call (rneg'_ok _ _ q hb (by omega)) ?_ | refine ev_callP (rneg'_ok _ _ q hb (by omega)) ?_
  rintro v_37 H_37 le_37 g1 _
  replace ha := ha.le le_37
  try simp only [go_sem, Nat.reduceEqDiff, Nat.reduceAdd, Nat.reduceBEq, ↓reduceIte]
  first | refine ev_call (radd'_ok _ _ _ p (-q) ha g1 (by rw [br_neg]; omega)) ?_ | refine ev_callP (radd'_ok _ _ _ p (-q) ha g1 (by rw [br_neg]; omega)) ?_
  rintro v_38 H_38 le_38 g2 _
  try simp only [go_sem, Nat.reduceEqDiff, Nat.reduceAdd, Nat.reduceBEq, ↓reduceIte]
  obtain ⟨A2, l2, c2, b2, B2, m2, e2, rfl⟩ := g2.form
  try simp only [go_sem, Nat.reduceEqDiff, Nat.reduceAdd, Nat.reduceBEq, ↓reduceIte]
  rw [← Rat.sub_eq_add_neg] at g2
  exact ⟨by trivial, g2⟩

theorem rmul'_ok (H : PH) (va vb : Value) (p q : Rat) (ha : RatV H va p) (hb : RatV H vb q) (hbp : br p + br q ≤ 4294966000) : FnP Tryz.prog 34 [va, vb] H fun v H' => RatV H' v (p * q) := by
  obtain ⟨A, l, c, b, B, m, e, rfl⟩ := ha.form
  obtain ⟨A1, l1, c1, b1, B1, m1, e1, rfl⟩ := hb.form
  obtain ⟨h1, h2⟩ := ha.parts
  obtain ⟨h3, h4⟩ := hb.parts
  have a1 := bi_br p; have a2 := bl_br p; have a3 := bi_br q; have a4 := bl_br q
  have s1 := bi_mul p.num q.num
  have s4 := bl_mul p.den q.den
  refine of_rat_Mul (by simp) ?_
  try simp only [go_sem, Nat.reduceEqDiff, Nat.reduceAdd, Nat.reduceBEq, ↓reduceIte, p_rat_Mul]
  first | refine ev_call (wmul_ok _ _ _ _ _ h1 h3 (by omega)) ?_ | refine ev_callP (wmul_ok _ _ _ _ _ h1 h3 (by omega)) ?_
  rintro v_39 H_39 le_39 g1 _
  replace ha := ha.le le_39
  replace hb := hb.le le_39
  try simp only [go_sem, Nat.reduceEqDiff, Nat.reduceAdd, Nat.reduceBEq, ↓reduceIte]
  first | refine ev_call (den_ok _ _ p ha (by omega)) ?_ | refine ev_callP (den_ok _ _ p ha (by omega)) ?_
  rintro v_40 H_40 le_40 g4 _
  replace hb := hb.le le_40
  replace g1 := g1.le le_40
  try simp only [go_sem, Nat.reduceEqDiff, Nat.reduceAdd, Nat.reduceBEq, ↓reduceIte]
  first | refine ev_call (den_ok _ _ q hb (by omega)) ?_ | refine ev_callP (den_ok _ _ q hb (by omega)) ?_
  rintro v_41 H_41 le_41 g5 _
  replace g1 := g1.le le_41
  replace g4 := g4.le le_41
  try simp only [go_sem, Nat.reduceEqDiff, Nat.reduceAdd, Nat.reduceBEq, ↓reduceIte]
  first | refine ev_call (mul_ok _ _ _ _ _ g4 g5 (by omega) (by omega)) ?_ | refine ev_callP (mul_ok _ _ _ _ _ g4 g5 (by omega) (by omega)) ?_
  rintro v_42 H_42 le_42 g6 _
  replace g1 := g1.le le_42
  try simp only [go_sem, Nat.reduceEqDiff, Nat.reduceAdd, Nat.reduceBEq, ↓reduceIte]
  first | refine ev_call (least_ok _ _ _ _ _ g1 g6 (by omega) (by omega)) ?_ | refine ev_callP (least_ok _ _ _ _ _ g1 g6 (by omega) (by omega)) ?_
  rintro v_43 H_43 le_43 g7 _
  try simp only [go_sem, Nat.reduceEqDiff, Nat.reduceAdd, Nat.reduceBEq, ↓reduceIte]
  obtain ⟨A2, l2, c2, b2, B2, m2, e2, rfl⟩ := g7.form
  try simp only [go_sem, Nat.reduceEqDiff, Nat.reduceAdd, Nat.reduceBEq, ↓reduceIte]
  have hnz : p.den * q.den ≠ 0 := Nat.mul_ne_zero p.den_nz q.den_nz
  rw [if_neg hnz, ← Rat.mul_def'] at g7
  exact ⟨by trivial, g7⟩

end Go.Proofs.YtccdhgjfcgfgoaaGreat.X
set_option linter.unusedVariables false
set_option linter.unusedSimpArgs false
namespace Go.Proofs.YtccdhgjfcgfgoaaGreat.X
open Go Go.RowKit Go.Proofs

theorem itxt_size (z : Int) (hb : bi z ≤ 4294967290) : (itxt z).length ≤ 4294967300 := by
  have h1 : (txt z.natAbs).length ≤ 4294967298 := by
    by_cases h : z.natAbs = 0
    · rw [h]; decide
    · have := txt_size z.natAbs h (by unfold bi at hb; omega); omega
  unfold itxt
  split
  · rw [List.length_cons]; omega
  · omega
theorem ofB_app (l m : List Nat) : ofB l ++ ofB m = ofB (l ++ m) :=
  ByteArray.ext (by simp [ofB, ByteArray.data_append])

theorem rtext_ok' (H : PH) (v : Value) (q : Rat) (hV : RatV H v q) (hb : br q ≤ 4294967000) : FnP Tryz.prog 27 [v] H fun v _ => v = .string (ofB (rtx q)) := by
  obtain ⟨A, l, c, b, B, m, e, rfl⟩ := hV.form
  obtain ⟨hn, hd⟩ := hV.parts
  have a1 := bi_br q
  have a2 := bl_br q
  have a3 := bl_dn q
  refine of_rat_Rat_Text (by simp) ?_
  try simp only [go_sem, Nat.reduceEqDiff, Nat.reduceAdd, Nat.reduceBEq, ↓reduceIte, p_rat_Rat_Text]
  first | refine ev_call (nbits_ok _ _ _ hd (by omega)) ?_ | refine ev_callP (nbits_ok _ _ _ hd (by omega)) ?_
  rintro v_1 H_1 le_1 rfl _
  replace hn := hn.le le_1
  replace hd := hd.le le_1
  try simp only [go_sem, Nat.reduceEqDiff, Nat.reduceAdd, Nat.reduceBEq, ↓reduceIte]
  refine ev_if (fun h => ?_) (fun h => ?_)
  · have h0 : q.den = 1 := dn_zero_iff.1 (bl_eq_zero.1 (by omega))
    try simp only [go_sem, Nat.reduceEqDiff, Nat.reduceAdd, Nat.reduceBEq, ↓reduceIte]
    first | refine ev_call (wtext_ok _ _ _ hn (by omega)) ?_ | refine ev_callP (wtext_ok _ _ _ hn (by omega)) ?_
    rintro v_2 H_2 le_2 rfl _
    try simp only [go_sem, Nat.reduceEqDiff, Nat.reduceAdd, Nat.reduceBEq, ↓reduceIte]
    refine ⟨by trivial, ?_⟩
    unfold rtx; rw [if_pos h0]
  · have h0 : q.den ≠ 1 := fun e0 => h (by rw [dn_one e0]; rfl)
    rw [dn_ne h0] at hd
    try simp only [go_sem, Nat.reduceEqDiff, Nat.reduceAdd, Nat.reduceBEq, ↓reduceIte]
    first | refine ev_call (wtext_ok _ _ _ hn (by omega)) ?_ | refine ev_callP (wtext_ok _ _ _ hn (by omega)) ?_
    rintro v_3 H_3 le_3 rfl _
    replace hd := hd.le le_3
    try simp only [go_sem, Nat.reduceEqDiff, Nat.reduceAdd, Nat.reduceBEq, ↓reduceIte]
    have z1 := itxt_size q.num (by omega)
    have z2 := txt_size q.den q.den_nz (by omega)
    refine ev_cat (by rw [ofB_size]; show _ + 1 ≤ _; omega) ?_
    try simp only [go_sem, Nat.reduceEqDiff, Nat.reduceAdd, Nat.reduceBEq, ↓reduceIte]
    first | refine ev_call (text_ok _ _ _ hd (by omega)) ?_ | refine ev_callP (text_ok _ _ _ hd (by omega)) ?_
    rintro v_4 H_4 le_4 rfl _
    try simp only [go_sem, Nat.reduceEqDiff, Nat.reduceAdd, Nat.reduceBEq, ↓reduceIte]
    rw [show (⟨#[47]⟩ : ByteArray) = ofB [47] from rfl, ofB_app]
    refine ev_cat (by rw [ofB_size, ofB_size, List.length_append]; show _ + 1 + _ ≤ _; omega) ?_
    try simp only [go_sem, Nat.reduceEqDiff, Nat.reduceAdd, Nat.reduceBEq, ↓reduceIte]
    refine ⟨by trivial, ?_⟩
    unfold rtx; rw [if_neg h0, ofB_app, List.append_assoc]; rfl

theorem rdiv'_ok1 (H : PH) (va vb : Value) (p q : Rat) (ha : RatV H va p) (hb : RatV H vb q) (hbp : br p + br q ≤ 4294965000) (hq : q ≠ 0) : FnP Tryz.prog 39 [va, vb] H fun v H' => ∃ v', v = .tuple #[v', .bool true] ∧ RatV H' v' (p / q) := by
  obtain ⟨A, l, c, b, B, m, e, rfl⟩ := ha.form
  obtain ⟨A1, l1, c1, b1, B1, m1, e1, rfl⟩ := hb.form
  obtain ⟨h3, h4⟩ := hb.parts
  have hqn : q.num ≠ 0 := fun h => hq ((num_eq_zero q).1 h)
  have a1 := bi_br q
  have a2 := bl_br q
  refine of_rat_Div (by simp) ?_
  try simp only [go_sem, Nat.reduceEqDiff, Nat.reduceAdd, Nat.reduceBEq, ↓reduceIte, p_rat_Div]
  first | refine ev_call (rsgn_ok _ _ q hb (by omega)) ?_ | refine ev_callP (rsgn_ok _ _ q hb (by omega)) ?_
  rintro v_11 H_11 le_11 rfl _
  replace ha := ha.le le_11
  replace hb := hb.le le_11
  replace h3 := h3.le le_11
  try simp only [go_sem, Nat.reduceEqDiff, Nat.reduceAdd, Nat.reduceBEq, ↓reduceIte]
  refine ev_neg (by unfold sgnI; split <;> (try split) <;> omega) ?_
  try simp only [go_sem, Nat.reduceEqDiff, Nat.reduceAdd, Nat.reduceBEq, ↓reduceIte]
  first | refine ev_call (rsgn_ok _ _ q hb (by omega)) ?_ | refine ev_callP (rsgn_ok _ _ q hb (by omega)) ?_
  rintro v_12 H_12 le_12 rfl _
  replace ha := ha.le le_12
  replace hb := hb.le le_12
  replace h3 := h3.le le_12
  try simp only [go_sem, Nat.reduceEqDiff, Nat.reduceAdd, Nat.reduceBEq, ↓reduceIte]
  have hsg : decide (sgnI q.num < 0) = decide (q.num < 0) := by
    unfold sgnI
    by_cases h5 : q.num < 0
    · rw [if_pos h5, decide_eq_true h5]; rfl
    · rw [if_neg h5, decide_eq_false h5]; split <;> rfl
  by_cases h : q.num < 0
  · have hsn : decide (q.num < 0) = true := decide_eq_true h
    refine ev_pos (by unfold sgnI; rw [if_pos h]; decide) ?_
    try simp only [go_sem, Nat.reduceEqDiff, Nat.reduceAdd, Nat.reduceBEq, ↓reduceIte]
    first | refine ev_call (den_ok _ _ q hb (by omega)) ?_ | refine ev_callP (den_ok _ _ q hb (by omega)) ?_
    rintro v_16 H_16 le_16 g1 _
    replace ha := ha.le le_16
    replace h3 := h3.le le_16
    try simp only [go_sem, Nat.reduceEqDiff, Nat.reduceAdd, Nat.reduceBEq, ↓reduceIte]
    first | refine ev_call (from_ok _ true _ _ g1 (by omega)) ?_ | refine ev_callP (from_ok _ true _ _ g1 (by omega)) ?_
    rintro v_17 H_17 le_17 g2 _
    replace ha := ha.le le_17
    replace h3 := h3.le le_17
    try simp only [go_sem, Nat.reduceEqDiff, Nat.reduceAdd, Nat.reduceBEq, ↓reduceIte]
    obtain ⟨A4, l4, c4, b4, rfl⟩ := g2.form
    try simp only [go_sem, Nat.reduceEqDiff, Nat.reduceAdd, Nat.reduceBEq, ↓reduceIte]
    first | refine ev_call (wabs_ok _ _ _ h3) ?_ | refine ev_callP (wabs_ok _ _ _ h3) ?_
    rintro v_13 H_13 le_13 g3 _
    replace ha := ha.le le_13
    replace g2 := g2.le le_13
    try simp only [go_sem, Nat.reduceEqDiff, Nat.reduceAdd, Nat.reduceBEq, ↓reduceIte]
    first | refine ev_call (least_ok _ _ _ _ _ g2 g3 (by unfold bi; rw [sg_natAbs]; omega) (show bl q.num.natAbs ≤ _ by unfold bi at a1; omega)) ?_ | refine ev_callP (least_ok _ _ _ _ _ g2 g3 (by unfold bi; rw [sg_natAbs]; omega) (show bl q.num.natAbs ≤ _ by unfold bi at a1; omega)) ?_
    rintro v_14 H_14 le_14 g4 _
    replace ha := ha.le le_14
    try simp only [go_sem, Nat.reduceEqDiff, Nat.reduceAdd, Nat.reduceBEq, ↓reduceIte]
    rw [if_neg (show q.num.natAbs ≠ 0 by omega)] at g4
    have hinv := inv_mk q
    have hbi : br q⁻¹ ≤ br q + 1 := by
      rw [hinv]
      have := br_mk (sg (decide (q.num < 0)) q.den) q.num.natAbs
      have e9 : bi (sg (decide (q.num < 0)) q.den) = bl q.den := by unfold bi; rw [sg_natAbs]
      unfold bi at a1
      omega
    first | refine ev_call (rmul'_ok _ _ _ p q⁻¹ ha (by rw [hinv, hsn]; exact g4) (by omega)) ?_ | refine ev_callP (rmul'_ok _ _ _ p q⁻¹ ha (by rw [hinv, hsn]; exact g4) (by omega)) ?_
    rintro v_15 H_15 le_15 g5 _
    try simp only [go_sem, Nat.reduceEqDiff, Nat.reduceAdd, Nat.reduceBEq, ↓reduceIte]
    obtain ⟨A5, l5, c5, b5, B5, m5, e5, rfl⟩ := g5.form
    try simp only [go_sem, Nat.reduceEqDiff, Nat.reduceAdd, Nat.reduceBEq, ↓reduceIte]
    rw [← Rat.div_def] at g5
    exact ⟨by trivial, _, rfl, g5⟩
  · have hsn : decide (q.num < 0) = false := decide_eq_false h
    refine ev_neg (by unfold sgnI; rw [if_neg h]; split <;> decide) ?_
    try simp only [go_sem, Nat.reduceEqDiff, Nat.reduceAdd, Nat.reduceBEq, ↓reduceIte]
    first | refine ev_call (den_ok _ _ q hb (by omega)) ?_ | refine ev_callP (den_ok _ _ q hb (by omega)) ?_
    rintro v_18 H_18 le_18 g1 _
    replace ha := ha.le le_18
    replace h3 := h3.le le_18
    try simp only [go_sem, Nat.reduceEqDiff, Nat.reduceAdd, Nat.reduceBEq, ↓reduceIte]
    first | refine ev_call (from_ok _ false _ _ g1 (by omega)) ?_ | refine ev_callP (from_ok _ false _ _ g1 (by omega)) ?_
    rintro v_19 H_19 le_19 g2 _
    replace ha := ha.le le_19
    replace h3 := h3.le le_19
    try simp only [go_sem, Nat.reduceEqDiff, Nat.reduceAdd, Nat.reduceBEq, ↓reduceIte]
    obtain ⟨A4, l4, c4, b4, rfl⟩ := g2.form
    try simp only [go_sem, Nat.reduceEqDiff, Nat.reduceAdd, Nat.reduceBEq, ↓reduceIte]
    first | refine ev_call (wabs_ok _ _ _ h3) ?_ | refine ev_callP (wabs_ok _ _ _ h3) ?_
    rintro v_13 H_13 le_13 g3 _
    replace ha := ha.le le_13
    replace g2 := g2.le le_13
    try simp only [go_sem, Nat.reduceEqDiff, Nat.reduceAdd, Nat.reduceBEq, ↓reduceIte]
    first | refine ev_call (least_ok _ _ _ _ _ g2 g3 (by unfold bi; rw [sg_natAbs]; omega) (show bl q.num.natAbs ≤ _ by unfold bi at a1; omega)) ?_ | refine ev_callP (least_ok _ _ _ _ _ g2 g3 (by unfold bi; rw [sg_natAbs]; omega) (show bl q.num.natAbs ≤ _ by unfold bi at a1; omega)) ?_
    rintro v_14 H_14 le_14 g4 _
    replace ha := ha.le le_14
    try simp only [go_sem, Nat.reduceEqDiff, Nat.reduceAdd, Nat.reduceBEq, ↓reduceIte]
    rw [if_neg (show q.num.natAbs ≠ 0 by omega)] at g4
    have hinv := inv_mk q
    have hbi : br q⁻¹ ≤ br q + 1 := by
      rw [hinv]
      have := br_mk (sg (decide (q.num < 0)) q.den) q.num.natAbs
      have e9 : bi (sg (decide (q.num < 0)) q.den) = bl q.den := by unfold bi; rw [sg_natAbs]
      unfold bi at a1
      omega
    first | refine ev_call (rmul'_ok _ _ _ p q⁻¹ ha (by rw [hinv, hsn]; exact g4) (by omega)) ?_ | refine ev_callP (rmul'_ok _ _ _ p q⁻¹ ha (by rw [hinv, hsn]; exact g4) (by omega)) ?_
    rintro v_15 H_15 le_15 g5 _
    try simp only [go_sem, Nat.reduceEqDiff, Nat.reduceAdd, Nat.reduceBEq, ↓reduceIte]
    obtain ⟨A5, l5, c5, b5, B5, m5, e5, rfl⟩ := g5.form
    try simp only [go_sem, Nat.reduceEqDiff, Nat.reduceAdd, Nat.reduceBEq, ↓reduceIte]
    rw [← Rat.div_def] at g5
    exact ⟨by trivial, _, rfl, g5⟩
end Go.Proofs.YtccdhgjfcgfgoaaGreat.X
set_option linter.unusedVariables false
set_option linter.unusedSimpArgs false
namespace Go.Proofs.YtccdhgjfcgfgoaaGreat.X
open Go Go.RowKit Go.Proofs

/-- a number of the reference's Rat -/
def RRat (H : PH) (v : Value) (q : Rat) : Prop := ∃ b A l c B m e d, v = .agg #[.bool b, .slice A l c, .slice B m e] ∧ RInt H (.agg #[.bool b, .slice A l c]) q.num ∧ RefV H (.slice B m e) d ∧ q.den = (if d = 0 then 1 else d)
theorem RRat.le {H H' : PH} {v : Value} {q : Rat} (h : RRat H v q) (hl : H.le H') : RRat H' v q := by
  obtain ⟨b, A, l, c, B, m, e, d, h1, h2, h3, h4⟩ := h
  exact ⟨b, A, l, c, B, m, e, d, h1, h2.le hl, h3.le hl, h4⟩
theorem RRat.zero (H : PH) : RRat H (.agg #[.bool false, .slice none 0 0, .slice none 0 0]) 0 := ⟨false, none, 0, 0, none, 0, 0, 0, rfl, RInt.zero H, RefV.zero H, rfl⟩
theorem RRat.form {H : PH} {v : Value} {q : Rat} (h : RRat H v q) : ∃ b A l c B m e, v = .agg #[.bool b, .slice A l c, .slice B m e] := by
  obtain ⟨b, A, l, c, B, m, e, d, h1, _⟩ := h
  exact ⟨b, A, l, c, B, m, e, h1⟩
theorem agg3r_inj {A A' B B' : Option Addr} {l l' c c' m m' e e' : Nat} {b b' : Bool} (h : (Value.agg #[.bool b, .slice A l c, .slice B m e]) = .agg #[.bool b', .slice A' l' c', .slice B' m' e']) : A = A' ∧ l = l' ∧ c = c' ∧ b = b' ∧ B = B' ∧ m = m' ∧ e = e' := by
  simp at h
  obtain ⟨h1, ⟨h2, h3, h4⟩, h5, h6, h7⟩ := h
  exact ⟨h2, h3, h4, h1, h5, h6, h7⟩
theorem RRat.parts {H : PH} {A B : Option Addr} {l c m e : Nat} {b : Bool} {q : Rat} (h : RRat H (.agg #[.bool b, .slice A l c, .slice B m e]) q) : RInt H (.agg #[.bool b, .slice A l c]) q.num ∧ ∃ d, RefV H (.slice B m e) d ∧ q.den = (if d = 0 then 1 else d) := by
  obtain ⟨b', A', l', c', B', m', e', d, h1, h2, h3, h4⟩ := h
  obtain ⟨rfl, rfl, rfl, rfl, rfl, rfl, rfl⟩ := agg3r_inj h1
  exact ⟨h2, d, h3, h4⟩
theorem RRat.mk {H : PH} {A B : Option Addr} {l c m e : Nat} {b : Bool} {q : Rat} (h1 : RInt H (.agg #[.bool b, .slice A l c]) q.num) (h2 : RefV H (.slice B m e) q.den) : RRat H (.agg #[.bool b, .slice A l c, .slice B m e]) q :=
  ⟨_, _, _, _, _, _, _, q.den, rfl, h1, h2, by rw [if_neg q.den_nz]⟩
theorem RInt.nat {H : PH} {A : Option Addr} {l c x : Nat} (h : RefV H (.slice A l c) x) : RInt H (.agg #[.bool false, .slice A l c]) (x : Int) := by
  have := RInt.mk (b := false) h fun h => by cases h
  rwa [sg_false] at this

theorem rden_okR (H : PH) (v : Value) (q : Rat) (hV : RRat H v q) : FnP Tryz.prog 63 [v] H fun v H' => RefV H' v q.den := by
  obtain ⟨b, A, l, c, B, m, e, d, rfl, h1, h2, h3⟩ := hV
  have hl := RefV.len h2
  refine of_cinctureref1_Den (by simp) ?_
  try simp only [go_sem, Nat.reduceEqDiff, Nat.reduceAdd, Nat.reduceBEq, ↓reduceIte, p_cinctureref1_Den]
  refine ev_if (fun h => ?_) (fun h => ?_)
  · have hd0 : d = 0 := hl.1 (by omega)
    try simp only [go_sem, Nat.reduceEqDiff, Nat.reduceAdd, Nat.reduceBEq, ↓reduceIte]
    first | refine ev_call (rnatOf_ok _ 1 (by decide)) ?_ | refine ev_callP (rnatOf_ok _ 1 (by decide)) ?_
    rintro v_1 H_1 le_1 hN _
    try simp only [go_sem, Nat.reduceEqDiff, Nat.reduceAdd, Nat.reduceBEq, ↓reduceIte]
    obtain ⟨A1, l1, c1, rfl⟩ := hN.form'
    try simp only [go_sem, Nat.reduceEqDiff, Nat.reduceAdd, Nat.reduceBEq, ↓reduceIte]
    rw [h3, if_pos hd0]
    exact ⟨by trivial, hN⟩
  · have hd0 : d ≠ 0 := fun e0 => h (by rw [hl.2 e0]; rfl)
    try simp only [go_sem, Nat.reduceEqDiff, Nat.reduceAdd, Nat.reduceBEq, ↓reduceIte]
    rw [h3, if_neg hd0]
    exact ⟨by trivial, h2⟩

theorem rpos_ok (H : PH) (v : Value) (x : Nat) (hV : RefV H v x) : FnP Tryz.prog 62 [v] H fun v H' => RInt H' v (x : Int) := by
  obtain ⟨A, l, c, rfl⟩ := hV.form'
  refine of_cinctureref1_pos (by simp) ?_
  try simp only [go_sem, Nat.reduceEqDiff, Nat.reduceAdd, Nat.reduceBEq, ↓reduceIte, p_cinctureref1_pos]
  exact ⟨by trivial, RInt.nat hV⟩

theorem agg2_inj' {A A' : Option Addr} {l l' c c' : Nat} {b b' : Bool} (h : (Value.agg #[.bool b, .slice A l c]) = .agg #[.bool b', .slice A' l' c']) : A = A' ∧ l = l' ∧ c = c' ∧ b = b' := by
  simpa [and_assoc, and_comm, and_left_comm] using h
theorem RInt.abs {H : PH} {A : Option Addr} {l c : Nat} {b : Bool} {z : Int} (h : RInt H (.agg #[.bool b, .slice A l c]) z) : RefV H (.slice A l c) z.natAbs ∧ b = decide (z < 0) := by
  obtain ⟨A', l', c', b', h1, h2, h3⟩ := h
  obtain ⟨rfl, rfl, rfl, rfl⟩ := agg2_inj' h1
  exact ⟨h2, h3⟩

theorem ratNew_ok (H : PH) (va vb : Value) (z w : Int) (ha : RInt H va z) (hb : RInt H vb w) (hbz : bi z ≤ 4294966900) (hbw : bi w ≤ 4294966900) (hw : w ≠ 0) : FnP Tryz.prog 59 [va, vb] H fun v H' => RRat H' v (Rat.divInt z w) := by
  obtain ⟨A, l, c, b, rfl⟩ := ha.form
  obtain ⟨A1, l1, c1, b1, rfl⟩ := hb.form
  obtain ⟨hb1, rfl⟩ := hb.abs
  have hbw' := hbw
  have hbz' := hbz
  unfold bi at hbw' hbz'
  refine of_cinctureref1_RatNew (by simp) ?_
  try simp only [go_sem, Nat.reduceEqDiff, Nat.reduceAdd, Nat.reduceBEq, ↓reduceIte, p_cinctureref1_RatNew]
  rw [divI_mk]
  obtain ⟨y, hy⟩ : ∃ y, w.natAbs = y := ⟨_, rfl⟩
  have hy0 : y ≠ 0 := by omega
  rw [hy] at hbw' ⊢
  have hby : bl y ≤ 4294966900 := hbw'
  by_cases h : w < 0
  · rw [if_pos h]
    rw [decide_eq_true h] at hb
    try simp only [go_sem, Nat.reduceEqDiff, Nat.reduceAdd, Nat.reduceBEq, ↓reduceIte, decide_eq_true h]
    first | refine ev_call (rneg_ok _ _ z ha) ?_ | refine ev_callP (rneg_ok _ _ z ha) ?_
    rintro v_10 H_10 le_10 g1 _
    replace hb := hb.le le_10
    try simp only [go_sem, Nat.reduceEqDiff, Nat.reduceAdd, Nat.reduceBEq, ↓reduceIte]
    obtain ⟨A4, l4, c4, b4, rfl⟩ := g1.form
    try simp only [go_sem, Nat.reduceEqDiff, Nat.reduceAdd, Nat.reduceBEq, ↓reduceIte]
    first | refine ev_call (rneg_ok _ _ w hb) ?_ | refine ev_callP (rneg_ok _ _ w hb) ?_
    rintro v_11 H_11 le_11 g0 _
    replace g1 := g1.le le_11
    try simp only [go_sem, Nat.reduceEqDiff, Nat.reduceAdd, Nat.reduceBEq, ↓reduceIte]
    obtain ⟨A3, l3, c3, b3, rfl⟩ := g0.form
    replace g0 := g0.abs.1
    rw [Int.natAbs_neg, hy] at g0
    have hbx : bl (-z).natAbs ≤ 4294966900 := by rw [Int.natAbs_neg]; exact hbz'
    generalize -z = x at *
    try simp only [go_sem, Nat.reduceEqDiff, Nat.reduceAdd, Nat.reduceBEq, ↓reduceIte]
    first | refine ev_call (rnatOf_ok _ 1 (by decide)) ?_ | refine ev_callP (rnatOf_ok _ 1 (by decide)) ?_
    rintro v_2 H_2 le_2 g2 _
    replace g1 := g1.le le_2
    replace g0 := g0.le le_2
    try simp only [go_sem, Nat.reduceEqDiff, Nat.reduceAdd, Nat.reduceBEq, ↓reduceIte]
    obtain ⟨A5, l5, c5, rfl⟩ := g2.form'
    first | refine ev_call (rcmp_ok _ _ _ y 1 g0 g2 (by omega) (by decide)) ?_ | refine ev_callP (rcmp_ok _ _ _ y 1 g0 g2 (by omega) (by decide)) ?_
    rintro v_3 H_3 le_3 rfl _
    replace g1 := g1.le le_3
    replace g0 := g0.le le_3
    try simp only [go_sem, Nat.reduceEqDiff, Nat.reduceAdd, Nat.reduceBEq, ↓reduceIte]
    by_cases hy1 : y = 1
    · refine ev_pos (by rw [hy1]; exact cmpN_self _) ?_
      try simp only [go_sem, Nat.reduceEqDiff, Nat.reduceAdd, Nat.reduceBEq, ↓reduceIte]
      obtain ⟨e1, e2⟩ := least_one x
      subst hy1
      exact ⟨by trivial, RRat.mk (by rw [e1]; exact g1) (by rw [e2]; exact g0)⟩
    · refine ev_neg (by unfold cmpN; split <;> (try split) <;> omega) ?_
      try simp only [go_sem, Nat.reduceEqDiff, Nat.reduceAdd, Nat.reduceBEq, ↓reduceIte]
      obtain ⟨gx, hbx⟩ := g1.abs
      have hbx' := bl_gcd (y := x.natAbs) hy0 hby
      have hgp := Nat.gcd_pos_of_pos_left x.natAbs (show 0 < y by omega)
      have e1 := least_num x hy0
      have e2 := least_den x hy0
      first | refine ev_call (rgcd_ok _ _ _ y x.natAbs g0 gx (by omega) (by omega)) ?_ | refine ev_callP (rgcd_ok _ _ _ y x.natAbs g0 gx (by omega) (by omega)) ?_
      rintro v_4 H_4 le_4 g3 _
      replace g1 := g1.le le_4
      replace g0 := g0.le le_4
      replace gx := gx.le le_4
      try simp only [go_sem, Nat.reduceEqDiff, Nat.reduceAdd, Nat.reduceBEq, ↓reduceIte]
      obtain ⟨A6, l6, c6, rfl⟩ := g3.form'
      try simp only [go_sem, Nat.reduceEqDiff, Nat.reduceAdd, Nat.reduceBEq, ↓reduceIte]
      first | refine ev_call (rnatOf_ok _ 1 (by decide)) ?_ | refine ev_callP (rnatOf_ok _ 1 (by decide)) ?_
      rintro v_5 H_5 le_5 g4 _
      replace g1 := g1.le le_5
      replace g0 := g0.le le_5
      replace gx := gx.le le_5
      replace g3 := g3.le le_5
      try simp only [go_sem, Nat.reduceEqDiff, Nat.reduceAdd, Nat.reduceBEq, ↓reduceIte]
      first | refine ev_call (rcmp_ok _ _ _ _ 1 g3 g4 (by omega) (by decide)) ?_ | refine ev_callP (rcmp_ok _ _ _ _ 1 g3 g4 (by omega) (by decide)) ?_
      rintro v_6 H_6 le_6 rfl _
      replace g1 := g1.le le_6
      replace g0 := g0.le le_6
      replace gx := gx.le le_6
      replace g3 := g3.le le_6
      try simp only [go_sem, Nat.reduceEqDiff, Nat.reduceAdd, Nat.reduceBEq, ↓reduceIte]
      by_cases hg1 : y.gcd x.natAbs = 1
      · refine ev_neg (by rw [hg1, cmpN_self]; decide) ?_
        try simp only [go_sem, Nat.reduceEqDiff, Nat.reduceAdd, Nat.reduceBEq, ↓reduceIte]
        rw [hg1, Nat.div_one] at e1 e2
        rw [sg_self] at e1
        exact ⟨by trivial, RRat.mk (by rw [e1]; exact g1) (by rw [e2]; exact g0)⟩
      · refine ev_pos (by unfold cmpN; split <;> (try split) <;> omega) ?_
        try simp only [go_sem, Nat.reduceEqDiff, Nat.reduceAdd, Nat.reduceBEq, ↓reduceIte]
        first | refine ev_call (rdiv_ok _ _ _ x.natAbs _ gx g3 (by omega) (by omega) (by omega)) ?_ | refine ev_callP (rdiv_ok _ _ _ x.natAbs _ gx g3 (by omega) (by omega) (by omega)) ?_
        rintro v_7 H_7 le_7 ⟨vq, vr, rfl, k1, k2⟩ _
        replace g1 := g1.le le_7
        replace g0 := g0.le le_7
        replace g3 := g3.le le_7
        try simp only [go_sem, Nat.reduceEqDiff, Nat.reduceAdd, Nat.reduceBEq, ↓reduceIte]
        obtain ⟨A7, l7, c7, rfl⟩ := k1.form'
        obtain ⟨A8, l8, c8, rfl⟩ := k2.form'
        try simp only [go_sem, Nat.reduceEqDiff, Nat.reduceAdd, Nat.reduceBEq, ↓reduceIte]
        first | refine ev_call (rdiv_ok _ _ _ y _ g0 g3 (by omega) (by omega) (by omega)) ?_ | refine ev_callP (rdiv_ok _ _ _ y _ g0 g3 (by omega) (by omega) (by omega)) ?_
        rintro v_8 H_8 le_8 ⟨wq, wr, rfl, k3, k4⟩ _
        replace g1 := g1.le le_8
        replace k1 := k1.le le_8
        try simp only [go_sem, Nat.reduceEqDiff, Nat.reduceAdd, Nat.reduceBEq, ↓reduceIte]
        obtain ⟨A9, l9, c9, rfl⟩ := k3.form'
        obtain ⟨A10, l10, c10, rfl⟩ := k4.form'
        try simp only [go_sem, Nat.reduceEqDiff, Nat.reduceAdd, Nat.reduceBEq, ↓reduceIte]
        first | refine ev_call (rfrom_ok _ _ _ _ k1) ?_ | refine ev_callP (rfrom_ok _ _ _ _ k1) ?_
        rintro v_9 H_9 le_9 k5 _
        replace k3 := k3.le le_9
        try simp only [go_sem, Nat.reduceEqDiff, Nat.reduceAdd, Nat.reduceBEq, ↓reduceIte]
        obtain ⟨A11, l11, c11, b11, rfl⟩ := k5.form
        try simp only [go_sem, Nat.reduceEqDiff, Nat.reduceAdd, Nat.reduceBEq, ↓reduceIte]
        rw [hbx, ← e1] at k5
        rw [← e2] at k3
        exact ⟨by trivial, RRat.mk k5 k3⟩
  · rw [if_neg h]
    try simp only [go_sem, Nat.reduceEqDiff, Nat.reduceAdd, Nat.reduceBEq, ↓reduceIte, decide_eq_false h]
    have g1 := ha
    have g0 := hb1
    rw [hy] at g0
    have hbx : bl z.natAbs ≤ 4294966900 := hbz'
    generalize z = x at *
    try simp only [go_sem, Nat.reduceEqDiff, Nat.reduceAdd, Nat.reduceBEq, ↓reduceIte]
    first | refine ev_call (rnatOf_ok _ 1 (by decide)) ?_ | refine ev_callP (rnatOf_ok _ 1 (by decide)) ?_
    rintro v_2 H_2 le_2 g2 _
    replace g1 := g1.le le_2
    replace g0 := g0.le le_2
    try simp only [go_sem, Nat.reduceEqDiff, Nat.reduceAdd, Nat.reduceBEq, ↓reduceIte]
    obtain ⟨A5, l5, c5, rfl⟩ := g2.form'
    first | refine ev_call (rcmp_ok _ _ _ y 1 g0 g2 (by omega) (by decide)) ?_ | refine ev_callP (rcmp_ok _ _ _ y 1 g0 g2 (by omega) (by decide)) ?_
    rintro v_3 H_3 le_3 rfl _
    replace g1 := g1.le le_3
    replace g0 := g0.le le_3
    try simp only [go_sem, Nat.reduceEqDiff, Nat.reduceAdd, Nat.reduceBEq, ↓reduceIte]
    by_cases hy1 : y = 1
    · refine ev_pos (by rw [hy1]; exact cmpN_self _) ?_
      try simp only [go_sem, Nat.reduceEqDiff, Nat.reduceAdd, Nat.reduceBEq, ↓reduceIte]
      obtain ⟨e1, e2⟩ := least_one x
      subst hy1
      exact ⟨by trivial, RRat.mk (by rw [e1]; exact g1) (by rw [e2]; exact g0)⟩
    · refine ev_neg (by unfold cmpN; split <;> (try split) <;> omega) ?_
      try simp only [go_sem, Nat.reduceEqDiff, Nat.reduceAdd, Nat.reduceBEq, ↓reduceIte]
      obtain ⟨gx, hbx⟩ := g1.abs
      have hbx' := bl_gcd (y := x.natAbs) hy0 hby
      have hgp := Nat.gcd_pos_of_pos_left x.natAbs (show 0 < y by omega)
      have e1 := least_num x hy0
      have e2 := least_den x hy0
      first | refine ev_call (rgcd_ok _ _ _ y x.natAbs g0 gx (by omega) (by omega)) ?_ | refine ev_callP (rgcd_ok _ _ _ y x.natAbs g0 gx (by omega) (by omega)) ?_
      rintro v_4 H_4 le_4 g3 _
      replace g1 := g1.le le_4
      replace g0 := g0.le le_4
      replace gx := gx.le le_4
      try simp only [go_sem, Nat.reduceEqDiff, Nat.reduceAdd, Nat.reduceBEq, ↓reduceIte]
      obtain ⟨A6, l6, c6, rfl⟩ := g3.form'
      try simp only [go_sem, Nat.reduceEqDiff, Nat.reduceAdd, Nat.reduceBEq, ↓reduceIte]
      first | refine ev_call (rnatOf_ok _ 1 (by decide)) ?_ | refine ev_callP (rnatOf_ok _ 1 (by decide)) ?_
      rintro v_5 H_5 le_5 g4 _
      replace g1 := g1.le le_5
      replace g0 := g0.le le_5
      replace gx := gx.le le_5
      replace g3 := g3.le le_5
      try simp only [go_sem, Nat.reduceEqDiff, Nat.reduceAdd, Nat.reduceBEq, ↓reduceIte]
      first | refine ev_call (rcmp_ok _ _ _ _ 1 g3 g4 (by omega) (by decide)) ?_ | refine ev_callP (rcmp_ok _ _ _ _ 1 g3 g4 (by omega) (by decide)) ?_
      rintro v_6 H_6 le_6 rfl _
      replace g1 := g1.le le_6
      replace g0 := g0.le le_6
      replace gx := gx.le le_6
      replace g3 := g3.le le_6
      try simp only [go_sem, Nat.reduceEqDiff, Nat.reduceAdd, Nat.reduceBEq, ↓reduceIte]
      by_cases hg1 : y.gcd x.natAbs = 1
      · refine ev_neg (by rw [hg1, cmpN_self]; decide) ?_
        try simp only [go_sem, Nat.reduceEqDiff, Nat.reduceAdd, Nat.reduceBEq, ↓reduceIte]
        rw [hg1, Nat.div_one] at e1 e2
        rw [sg_self] at e1
        exact ⟨by trivial, RRat.mk (by rw [e1]; exact g1) (by rw [e2]; exact g0)⟩
      · refine ev_pos (by unfold cmpN; split <;> (try split) <;> omega) ?_
        try simp only [go_sem, Nat.reduceEqDiff, Nat.reduceAdd, Nat.reduceBEq, ↓reduceIte]
        first | refine ev_call (rdiv_ok _ _ _ x.natAbs _ gx g3 (by omega) (by omega) (by omega)) ?_ | refine ev_callP (rdiv_ok _ _ _ x.natAbs _ gx g3 (by omega) (by omega) (by omega)) ?_
        rintro v_7 H_7 le_7 ⟨vq, vr, rfl, k1, k2⟩ _
        replace g1 := g1.le le_7
        replace g0 := g0.le le_7
        replace g3 := g3.le le_7
        try simp only [go_sem, Nat.reduceEqDiff, Nat.reduceAdd, Nat.reduceBEq, ↓reduceIte]
        obtain ⟨A7, l7, c7, rfl⟩ := k1.form'
        obtain ⟨A8, l8, c8, rfl⟩ := k2.form'
        try simp only [go_sem, Nat.reduceEqDiff, Nat.reduceAdd, Nat.reduceBEq, ↓reduceIte]
        first | refine ev_call (rdiv_ok _ _ _ y _ g0 g3 (by omega) (by omega) (by omega)) ?_ | refine ev_callP (rdiv_ok _ _ _ y _ g0 g3 (by omega) (by omega) (by omega)) ?_
        rintro v_8 H_8 le_8 ⟨wq, wr, rfl, k3, k4⟩ _
        replace g1 := g1.le le_8
        replace k1 := k1.le le_8
        try simp only [go_sem, Nat.reduceEqDiff, Nat.reduceAdd, Nat.reduceBEq, ↓reduceIte]
        obtain ⟨A9, l9, c9, rfl⟩ := k3.form'
        obtain ⟨A10, l10, c10, rfl⟩ := k4.form'
        try simp only [go_sem, Nat.reduceEqDiff, Nat.reduceAdd, Nat.reduceBEq, ↓reduceIte]
        first | refine ev_call (rfrom_ok _ _ _ _ k1) ?_ | refine ev_callP (rfrom_ok _ _ _ _ k1) ?_
        rintro v_9 H_9 le_9 k5 _
        replace k3 := k3.le le_9
        try simp only [go_sem, Nat.reduceEqDiff, Nat.reduceAdd, Nat.reduceBEq, ↓reduceIte]
        obtain ⟨A11, l11, c11, b11, rfl⟩ := k5.form
        try simp only [go_sem, Nat.reduceEqDiff, Nat.reduceAdd, Nat.reduceBEq, ↓reduceIte]
        rw [hbx, ← e1] at k5
        rw [← e2] at k3
        exact ⟨by trivial, RRat.mk k5 k3⟩

theorem rratOf_ok (H : PH) (n : Int) (h1 : -9223372036854775808 ≤ n) (h2 : n ≤ 9223372036854775807) : FnP Tryz.prog 43 [.int .i64 n] H fun v H' => RRat H' v (n : Rat) := by
  refine of_cinctureref1_RatOf (by simp) ?_
  try simp only [go_sem, Nat.reduceEqDiff, Nat.reduceAdd, Nat.reduceBEq, ↓reduceIte, p_cinctureref1_RatOf]
  first | refine ev_call (rintOf_ok _ n h1 h2) ?_ | refine ev_callP (rintOf_ok _ n h1 h2) ?_
  rintro v_12 H_12 le_12 g1 _
  try simp only [go_sem, Nat.reduceEqDiff, Nat.reduceAdd, Nat.reduceBEq, ↓reduceIte]
  obtain ⟨A, l, c, b, rfl⟩ := g1.form
  try simp only [go_sem, Nat.reduceEqDiff, Nat.reduceAdd, Nat.reduceBEq, ↓reduceIte]
  first | refine ev_call (rnatOf_ok _ 1 (by decide)) ?_ | refine ev_callP (rnatOf_ok _ 1 (by decide)) ?_
  rintro v_13 H_13 le_13 g2 _
  replace g1 := g1.le le_13
  try simp only [go_sem, Nat.reduceEqDiff, Nat.reduceAdd, Nat.reduceBEq, ↓reduceIte]
  obtain ⟨A1, l1, c1, rfl⟩ := g2.form'
  try simp only [go_sem, Nat.reduceEqDiff, Nat.reduceAdd, Nat.reduceBEq, ↓reduceIte]
  exact ⟨by trivial, RRat.mk g1 g2⟩

theorem rnegR_ok (H : PH) (v : Value) (q : Rat) (hV : RRat H v q) : FnP Tryz.prog 81 [v] H fun v H' => RRat H' v (-q) := by
  obtain ⟨b, A, l, c, B, m, e, rfl⟩ := hV.form
  obtain ⟨h1, _⟩ := hV.parts
  refine of_cinctureref1_RatNeg (by simp) ?_
  try simp only [go_sem, Nat.reduceEqDiff, Nat.reduceAdd, Nat.reduceBEq, ↓reduceIte, p_cinctureref1_RatNeg]
  first | refine ev_call (rneg_ok _ _ _ h1) ?_ | refine ev_callP (rneg_ok _ _ _ h1) ?_
  rintro v_14 H_14 le_14 g1 _
  replace hV := hV.le le_14
  try simp only [go_sem, Nat.reduceEqDiff, Nat.reduceAdd, Nat.reduceBEq, ↓reduceIte]
  obtain ⟨A1, l1, c1, b1, rfl⟩ := g1.form
  try simp only [go_sem, Nat.reduceEqDiff, Nat.reduceAdd, Nat.reduceBEq, ↓reduceIte]
  first | refine ev_call (rden_okR _ _ q hV) ?_ | refine ev_callP (rden_okR _ _ q hV) ?_
  rintro v_15 H_15 le_15 g2 _
  replace g1 := g1.le le_15
  try simp only [go_sem, Nat.reduceEqDiff, Nat.reduceAdd, Nat.reduceBEq, ↓reduceIte]
  obtain ⟨A2, l2, c2, rfl⟩ := g2.form'
  try simp only [go_sem, Nat.reduceEqDiff, Nat.reduceAdd, Nat.reduceBEq, ↓reduceIte]
  exact ⟨by trivial, RRat.mk (by rw [Rat.neg_num]; exact g1) (by rw [Rat.neg_den]; exact g2)⟩

theorem raddR_ok (H : PH) (va vb : Value) (p q : Rat) (ha : RRat H va p) (hb : RRat H vb q) (hbp : br p + br q ≤ 4294966000) : FnP Tryz.prog 25 [va, vb] H fun v H' => RRat H' v (p + q) := by
  obtain ⟨b, A, l, c, B, m, e, rfl⟩ := ha.form
  obtain ⟨b1, A1, l1, c1, B1, m1, e1, rfl⟩ := hb.form
  obtain ⟨h1, _⟩ := ha.parts
  obtain ⟨h2, _⟩ := hb.parts
  have a1 := bi_br p; have a2 := bl_br p; have a3 := bi_br q; have a4 := bl_br q
  have s1 := bi_mul p.num q.den
  have s2 := bi_mul q.num p.den
  rw [bi_cast] at s1 s2
  have s3 := bi_add (p.num * q.den) (q.num * p.den)
  have s4 := bl_mul p.den q.den
  have hnz : p.den * q.den ≠ 0 := Nat.mul_ne_zero p.den_nz q.den_nz
  refine of_cinctureref1_RatAdd (by simp) ?_
  try simp only [go_sem, Nat.reduceEqDiff, Nat.reduceAdd, Nat.reduceBEq, ↓reduceIte, p_cinctureref1_RatAdd]
  first | refine ev_call (rden_okR _ _ q hb) ?_ | refine ev_callP (rden_okR _ _ q hb) ?_
  rintro v_16 H_16 le_16 g1 _
  replace ha := ha.le le_16
  replace hb := hb.le le_16
  replace h1 := h1.le le_16
  replace h2 := h2.le le_16
  try simp only [go_sem, Nat.reduceEqDiff, Nat.reduceAdd, Nat.reduceBEq, ↓reduceIte]
  first | refine ev_call (rpos_ok _ _ _ g1) ?_ | refine ev_callP (rpos_ok _ _ _ g1) ?_
  rintro v_17 H_17 le_17 g2 _
  replace ha := ha.le le_17
  replace hb := hb.le le_17
  replace h1 := h1.le le_17
  replace h2 := h2.le le_17
  try simp only [go_sem, Nat.reduceEqDiff, Nat.reduceAdd, Nat.reduceBEq, ↓reduceIte]
  first | refine ev_call (rmulI_ok _ _ _ _ _ h1 g2 (by rw [bi_cast]; omega)) ?_ | refine ev_callP (rmulI_ok _ _ _ _ _ h1 g2 (by rw [bi_cast]; omega)) ?_
  rintro v_18 H_18 le_18 g3 _
  replace ha := ha.le le_18
  replace hb := hb.le le_18
  replace h2 := h2.le le_18
  try simp only [go_sem, Nat.reduceEqDiff, Nat.reduceAdd, Nat.reduceBEq, ↓reduceIte]
  first | refine ev_call (rden_okR _ _ p ha) ?_ | refine ev_callP (rden_okR _ _ p ha) ?_
  rintro v_19 H_19 le_19 g4 _
  replace ha := ha.le le_19
  replace hb := hb.le le_19
  replace h2 := h2.le le_19
  replace g3 := g3.le le_19
  try simp only [go_sem, Nat.reduceEqDiff, Nat.reduceAdd, Nat.reduceBEq, ↓reduceIte]
  first | refine ev_call (rpos_ok _ _ _ g4) ?_ | refine ev_callP (rpos_ok _ _ _ g4) ?_
  rintro v_20 H_20 le_20 g5 _
  replace ha := ha.le le_20
  replace hb := hb.le le_20
  replace h2 := h2.le le_20
  replace g3 := g3.le le_20
  try simp only [go_sem, Nat.reduceEqDiff, Nat.reduceAdd, Nat.reduceBEq, ↓reduceIte]
  first | refine ev_call (rmulI_ok _ _ _ _ _ h2 g5 (by rw [bi_cast]; omega)) ?_ | refine ev_callP (rmulI_ok _ _ _ _ _ h2 g5 (by rw [bi_cast]; omega)) ?_
  rintro v_21 H_21 le_21 g6 _
  replace ha := ha.le le_21
  replace hb := hb.le le_21
  replace g3 := g3.le le_21
  try simp only [go_sem, Nat.reduceEqDiff, Nat.reduceAdd, Nat.reduceBEq, ↓reduceIte]
  first | refine ev_call (raddI_ok _ _ _ _ _ g3 g6 (by omega) (by omega)) ?_ | refine ev_callP (raddI_ok _ _ _ _ _ g3 g6 (by omega) (by omega)) ?_
  rintro v_22 H_22 le_22 g7 _
  replace ha := ha.le le_22
  replace hb := hb.le le_22
  try simp only [go_sem, Nat.reduceEqDiff, Nat.reduceAdd, Nat.reduceBEq, ↓reduceIte]
  first | refine ev_call (rden_okR _ _ p ha) ?_ | refine ev_callP (rden_okR _ _ p ha) ?_
  rintro v_23 H_23 le_23 g8 _
  replace hb := hb.le le_23
  replace g7 := g7.le le_23
  try simp only [go_sem, Nat.reduceEqDiff, Nat.reduceAdd, Nat.reduceBEq, ↓reduceIte]
  first | refine ev_call (rden_okR _ _ q hb) ?_ | refine ev_callP (rden_okR _ _ q hb) ?_
  rintro v_24 H_24 le_24 g9 _
  replace g7 := g7.le le_24
  replace g8 := g8.le le_24
  try simp only [go_sem, Nat.reduceEqDiff, Nat.reduceAdd, Nat.reduceBEq, ↓reduceIte]
  first | refine ev_call (rmul_ok _ _ _ _ _ g8 g9 (by omega) (by omega)) ?_ | refine ev_callP (rmul_ok _ _ _ _ _ g8 g9 (by omega) (by omega)) ?_
  rintro v_25 H_25 le_25 g10 _
  replace g7 := g7.le le_25
  try simp only [go_sem, Nat.reduceEqDiff, Nat.reduceAdd, Nat.reduceBEq, ↓reduceIte]
  first | refine ev_call (rpos_ok _ _ _ g10) ?_ | refine ev_callP (rpos_ok _ _ _ g10) ?_
  rintro v_26 H_26 le_26 g11 _
  replace g7 := g7.le le_26
  try simp only [go_sem, Nat.reduceEqDiff, Nat.reduceAdd, Nat.reduceBEq, ↓reduceIte]
  first | refine ev_call (ratNew_ok _ _ _ _ _ g7 g11 (by omega) (by rw [bi_cast]; omega) (by omega)) ?_ | refine ev_callP (ratNew_ok _ _ _ _ _ g7 g11 (by omega) (by rw [bi_cast]; omega) (by omega)) ?_
  rintro v_27 H_27 le_27 g12 _
  try simp only [go_sem, Nat.reduceEqDiff, Nat.reduceAdd, Nat.reduceBEq, ↓reduceIte]
  obtain ⟨b9, A9, l9, c9, B9, m9, e9, rfl⟩ := g12.form
  try simp only [go_sem, Nat.reduceEqDiff, Nat.reduceAdd, Nat.reduceBEq, ↓reduceIte]
  rw [Rat.divInt_ofNat, ← Rat.add_def'] at g12
  exact ⟨by trivial, g12⟩

theorem rsubR_ok (H : PH) (va vb : Value) (p q : Rat) (ha : RRat H va p) (hb : RRat H vb q) (hbp : br p + br q ≤ 4294966000) : FnP Tryz.prog 45 [va, vb] H fun v H' => RRat H' v (p - q) := by
  obtain ⟨b, A, l, c, B, m, e, rfl⟩ := ha.form
  obtain ⟨b1, A1, l1, c1, B1, m1, e1, rfl⟩ := hb.form
  refine of_cinctureref1_RatSub (by simp) ?_
  try simp only [go_sem, Nat.reduceEqDiff, Nat.reduceAdd, Nat.reduceBEq, ↓reduceIte, p_cinctureref1_RatSub]
  first | refine ev_call (rnegR_ok _ _ q hb) ?_ | refine ev_callP (rnegR_ok _ _ q hb) ?_
  rintro v_28 H_28 le_28 g1 _
  replace ha := ha.le le_28
  try simp only [go_sem, Nat.reduceEqDiff, Nat.reduceAdd, Nat.reduceBEq, ↓reduceIte]
  first | refine ev_call (raddR_ok _ _ _ p (-q) ha g1 (by rw [br_neg]; omega)) ?_ | refine ev_callP (raddR_ok _ _ _ p (-q) ha g1 (by rw [br_neg]; omega)) ?_
  rintro v_29 H_29 le_29 g2 _
  try simp only [go_sem, Nat.reduceEqDiff, Nat.reduceAdd, Nat.reduceBEq, ↓reduceIte]
  obtain ⟨b9, A9, l9, c9, B9, m9, e9, rfl⟩ := g2.form
  try simp only [go_sem, Nat.reduceEqDiff, Nat.reduceAdd, Nat.reduceBEq, ↓reduceIte]
  rw [← Rat.sub_eq_add_neg] at g2
  exact ⟨by trivial, g2⟩

theorem rmulR_ok (H : PH) (va vb : Value) (p q : Rat) (ha : RRat H va p) (hb : RRat H vb q) (hbp : br p + br q ≤ 4294966000) : FnP Tryz.prog 44 [va, vb] H fun v H' => RRat H' v (p * q) := by
  obtain ⟨b, A, l, c, B, m, e, rfl⟩ := ha.form
  obtain ⟨b1, A1, l1, c1, B1, m1, e1, rfl⟩ := hb.form
  obtain ⟨h1, _⟩ := ha.parts
  obtain ⟨h2, _⟩ := hb.parts
  have a1 := bi_br p; have a2 := bl_br p; have a3 := bi_br q; have a4 := bl_br q
  have s1 := bi_mul p.num q.num
  have s4 := bl_mul p.den q.den
  have hnz : p.den * q.den ≠ 0 := Nat.mul_ne_zero p.den_nz q.den_nz
  refine of_cinctureref1_RatMul (by simp) ?_
  try simp only [go_sem, Nat.reduceEqDiff, Nat.reduceAdd, Nat.reduceBEq, ↓reduceIte, p_cinctureref1_RatMul]
  first | refine ev_call (rmulI_ok _ _ _ _ _ h1 h2 (by omega)) ?_ | refine ev_callP (rmulI_ok _ _ _ _ _ h1 h2 (by omega)) ?_
  rintro v_30 H_30 le_30 g7 _
  replace ha := ha.le le_30
  replace hb := hb.le le_30
  try simp only [go_sem, Nat.reduceEqDiff, Nat.reduceAdd, Nat.reduceBEq, ↓reduceIte]
  first | refine ev_call (rden_okR _ _ p ha) ?_ | refine ev_callP (rden_okR _ _ p ha) ?_
  rintro v_31 H_31 le_31 g8 _
  replace hb := hb.le le_31
  replace g7 := g7.le le_31
  try simp only [go_sem, Nat.reduceEqDiff, Nat.reduceAdd, Nat.reduceBEq, ↓reduceIte]
  first | refine ev_call (rden_okR _ _ q hb) ?_ | refine ev_callP (rden_okR _ _ q hb) ?_
  rintro v_32 H_32 le_32 g9 _
  replace g7 := g7.le le_32
  replace g8 := g8.le le_32
  try simp only [go_sem, Nat.reduceEqDiff, Nat.reduceAdd, Nat.reduceBEq, ↓reduceIte]
  first | refine ev_call (rmul_ok _ _ _ _ _ g8 g9 (by omega) (by omega)) ?_ | refine ev_callP (rmul_ok _ _ _ _ _ g8 g9 (by omega) (by omega)) ?_
  rintro v_33 H_33 le_33 g10 _
  replace g7 := g7.le le_33
  try simp only [go_sem, Nat.reduceEqDiff, Nat.reduceAdd, Nat.reduceBEq, ↓reduceIte]
  first | refine ev_call (rpos_ok _ _ _ g10) ?_ | refine ev_callP (rpos_ok _ _ _ g10) ?_
  rintro v_34 H_34 le_34 g11 _
  replace g7 := g7.le le_34
  try simp only [go_sem, Nat.reduceEqDiff, Nat.reduceAdd, Nat.reduceBEq, ↓reduceIte]
  first | refine ev_call (ratNew_ok _ _ _ _ _ g7 g11 (by omega) (by rw [bi_cast]; omega) (by omega)) ?_ | refine ev_callP (ratNew_ok _ _ _ _ _ g7 g11 (by omega) (by rw [bi_cast]; omega) (by omega)) ?_
  rintro v_35 H_35 le_35 g12 _
  try simp only [go_sem, Nat.reduceEqDiff, Nat.reduceAdd, Nat.reduceBEq, ↓reduceIte]
  obtain ⟨b9, A9, l9, c9, B9, m9, e9, rfl⟩ := g12.form
  try simp only [go_sem, Nat.reduceEqDiff, Nat.reduceAdd, Nat.reduceBEq, ↓reduceIte]
  rw [Rat.divInt_ofNat, ← Rat.mul_def'] at g12
  exact ⟨by trivial, g12⟩

theorem rdivR_ok (H : PH) (va vb : Value) (p q : Rat) (ha : RRat H va p) (hb : RRat H vb q) (hbp : br p + br q ≤ 4294966000) (hq : q ≠ 0) : FnP Tryz.prog 42 [va, vb] H fun v H' => RRat H' v (p / q) := by
  obtain ⟨b, A, l, c, B, m, e, rfl⟩ := ha.form
  obtain ⟨b1, A1, l1, c1, B1, m1, e1, rfl⟩ := hb.form
  obtain ⟨h1, _⟩ := ha.parts
  obtain ⟨h2, _⟩ := hb.parts
  have a1 := bi_br p; have a2 := bl_br p; have a3 := bi_br q; have a4 := bl_br q
  have s1 := bi_mul p.num q.den
  have s2 := bi_mul p.den q.num
  rw [bi_cast] at s1 s2
  have hqn : q.num ≠ 0 := fun h => hq ((num_eq_zero q).1 h)
  have hnz : (p.den : Int) * q.num ≠ 0 := Int.mul_ne_zero (by have := p.den_nz; omega) hqn
  refine of_cinctureref1_RatDiv (by simp) ?_
  try simp only [go_sem, Nat.reduceEqDiff, Nat.reduceAdd, Nat.reduceBEq, ↓reduceIte, p_cinctureref1_RatDiv]
  first | refine ev_call (rden_okR _ _ q hb) ?_ | refine ev_callP (rden_okR _ _ q hb) ?_
  rintro v_36 H_36 le_36 g1 _
  replace ha := ha.le le_36
  replace h1 := h1.le le_36
  replace h2 := h2.le le_36
  try simp only [go_sem, Nat.reduceEqDiff, Nat.reduceAdd, Nat.reduceBEq, ↓reduceIte]
  first | refine ev_call (rpos_ok _ _ _ g1) ?_ | refine ev_callP (rpos_ok _ _ _ g1) ?_
  rintro v_37 H_37 le_37 g2 _
  replace ha := ha.le le_37
  replace h1 := h1.le le_37
  replace h2 := h2.le le_37
  try simp only [go_sem, Nat.reduceEqDiff, Nat.reduceAdd, Nat.reduceBEq, ↓reduceIte]
  first | refine ev_call (rmulI_ok _ _ _ _ _ h1 g2 (by rw [bi_cast]; omega)) ?_ | refine ev_callP (rmulI_ok _ _ _ _ _ h1 g2 (by rw [bi_cast]; omega)) ?_
  rintro v_38 H_38 le_38 g3 _
  replace ha := ha.le le_38
  replace h2 := h2.le le_38
  try simp only [go_sem, Nat.reduceEqDiff, Nat.reduceAdd, Nat.reduceBEq, ↓reduceIte]
  first | refine ev_call (rden_okR _ _ p ha) ?_ | refine ev_callP (rden_okR _ _ p ha) ?_
  rintro v_39 H_39 le_39 g4 _
  replace h2 := h2.le le_39
  replace g3 := g3.le le_39
  try simp only [go_sem, Nat.reduceEqDiff, Nat.reduceAdd, Nat.reduceBEq, ↓reduceIte]
  first | refine ev_call (rpos_ok _ _ _ g4) ?_ | refine ev_callP (rpos_ok _ _ _ g4) ?_
  rintro v_40 H_40 le_40 g5 _
  replace h2 := h2.le le_40
  replace g3 := g3.le le_40
  try simp only [go_sem, Nat.reduceEqDiff, Nat.reduceAdd, Nat.reduceBEq, ↓reduceIte]
  first | refine ev_call (rmulI_ok _ _ _ _ _ g5 h2 (by rw [bi_cast]; omega)) ?_ | refine ev_callP (rmulI_ok _ _ _ _ _ g5 h2 (by rw [bi_cast]; omega)) ?_
  rintro v_41 H_41 le_41 g6 _
  replace g3 := g3.le le_41
  try simp only [go_sem, Nat.reduceEqDiff, Nat.reduceAdd, Nat.reduceBEq, ↓reduceIte]
  first | refine ev_call (ratNew_ok _ _ _ _ _ g3 g6 (by omega) (by omega) hnz) ?_ | refine ev_callP (ratNew_ok _ _ _ _ _ g3 g6 (by omega) (by omega) hnz) ?_
  rintro v_42 H_42 le_42 g12 _
  try simp only [go_sem, Nat.reduceEqDiff, Nat.reduceAdd, Nat.reduceBEq, ↓reduceIte]
  obtain ⟨b9, A9, l9, c9, B9, m9, e9, rfl⟩ := g12.form
  try simp only [go_sem, Nat.reduceEqDiff, Nat.reduceAdd, Nat.reduceBEq, ↓reduceIte]
  rw [← div_divI] at g12
  exact ⟨by trivial, g12⟩

theorem rtextR_ok (H : PH) (v : Value) (q : Rat) (hV : RRat H v q) (hb : br q ≤ 4294967000) : FnP Tryz.prog 46 [v] H fun v _ => v = .string (ofB (rtx q)) := by
  obtain ⟨b, A, l, c, B, m, e, rfl⟩ := hV.form
  obtain ⟨h1, d, h2, h3⟩ := hV.parts
  have a1 := bi_br q
  have a2 := bl_br q
  refine of_cinctureref1_RatText (by simp) ?_
  try simp only [go_sem, Nat.reduceEqDiff, Nat.reduceAdd, Nat.reduceBEq, ↓reduceIte, p_cinctureref1_RatText]
  first | refine ev_call (rden_okR _ _ q hV) ?_ | refine ev_callP (rden_okR _ _ q hV) ?_
  rintro v_50 H_50 le_50 g1 _
  replace h1 := h1.le le_50
  replace h2 := h2.le le_50
  try simp only [go_sem, Nat.reduceEqDiff, Nat.reduceAdd, Nat.reduceBEq, ↓reduceIte]
  first | refine ev_call (rnatOf_ok _ 1 (by decide)) ?_ | refine ev_callP (rnatOf_ok _ 1 (by decide)) ?_
  rintro v_51 H_51 le_51 g2 _
  replace h1 := h1.le le_51
  replace h2 := h2.le le_51
  replace g1 := g1.le le_51
  try simp only [go_sem, Nat.reduceEqDiff, Nat.reduceAdd, Nat.reduceBEq, ↓reduceIte]
  first | refine ev_call (rcmp_ok _ _ _ _ 1 g1 g2 (by omega) (by decide)) ?_ | refine ev_callP (rcmp_ok _ _ _ _ 1 g1 g2 (by omega) (by decide)) ?_
  rintro v_52 H_52 le_52 rfl _
  replace h1 := h1.le le_52
  replace h2 := h2.le le_52
  try simp only [go_sem, Nat.reduceEqDiff, Nat.reduceAdd, Nat.reduceBEq, ↓reduceIte]
  by_cases h : q.den = 1
  · refine ev_pos (by rw [h]; exact cmpN_self _) ?_
    try simp only [go_sem, Nat.reduceEqDiff, Nat.reduceAdd, Nat.reduceBEq, ↓reduceIte]
    first | refine ev_call (rtextI_ok _ _ _ h1 (by omega)) ?_ | refine ev_callP (rtextI_ok _ _ _ h1 (by omega)) ?_
    rintro v_53 H_53 le_53 rfl _
    try simp only [go_sem, Nat.reduceEqDiff, Nat.reduceAdd, Nat.reduceBEq, ↓reduceIte]
    refine ⟨by trivial, ?_⟩
    unfold rtx; rw [if_pos h]
  · refine ev_neg (by unfold cmpN; split <;> (try split) <;> omega) ?_
    have hd : q.den = d := by
      by_cases h0 : d = 0
      · rw [if_pos h0] at h3; exact absurd h3 h
      · rw [if_neg h0] at h3; exact h3
    rw [← hd] at h2
    try simp only [go_sem, Nat.reduceEqDiff, Nat.reduceAdd, Nat.reduceBEq, ↓reduceIte]
    first | refine ev_call (rtextI_ok _ _ _ h1 (by omega)) ?_ | refine ev_callP (rtextI_ok _ _ _ h1 (by omega)) ?_
    rintro v_54 H_54 le_54 rfl _
    replace h2 := h2.le le_54
    try simp only [go_sem, Nat.reduceEqDiff, Nat.reduceAdd, Nat.reduceBEq, ↓reduceIte]
    have z1 := itxt_size q.num (by omega)
    have z2 := txt_size q.den q.den_nz (by omega)
    refine ev_cat (by rw [ofB_size]; show _ + 1 ≤ _; omega) ?_
    try simp only [go_sem, Nat.reduceEqDiff, Nat.reduceAdd, Nat.reduceBEq, ↓reduceIte]
    first | refine ev_call (rtext_ok _ _ _ h2 (by omega)) ?_ | refine ev_callP (rtext_ok _ _ _ h2 (by omega)) ?_
    rintro v_55 H_55 le_55 rfl _
    try simp only [go_sem, Nat.reduceEqDiff, Nat.reduceAdd, Nat.reduceBEq, ↓reduceIte]
    rw [show (⟨#[47]⟩ : ByteArray) = ofB [47] from rfl, ofB_app]
    refine ev_cat (by rw [ofB_size, ofB_size, List.length_append]; show _ + 1 + _ ≤ _; omega) ?_
    try simp only [go_sem, Nat.reduceEqDiff, Nat.reduceAdd, Nat.reduceBEq, ↓reduceIte]
    refine ⟨by trivial, ?_⟩
    unfold rtx; rw [if_neg h, ofB_app, List.append_assoc]; rfl

end Go.Proofs.YtccdhgjfcgfgoaaGreat.X
namespace Go.Proofs.YtccdhgjfcgfgoaaGreat.X
open Go Go.RowKit Go.Shelf Go.Proofs

def lays219_ren : Go.Shelf.Ren := ⟨fun | 219 => 130 | 217 => 133 | 225 => 134 | 224 => 135 | 267 => 136 | 266 => 137 | 314 => 138 | n => n, fun | 9 => 9 | 3 => 3 | 4 => 4 | 5 => 5 | 46 => 131 | 146 => 170 | 51 => 130 | n => n, fun | 1 => 0 | n => n⟩
theorem lays219 : Lays.n219 Tryz.prog lays219_ren := {
  mixed := by kernel_rfl,
  f217 := Tryz.func133.trans (congrArg some (by kernel_rfl)),
  f219 := Tryz.func130.trans (congrArg some (by kernel_rfl)),
  f224 := Tryz.func135.trans (congrArg some (by kernel_rfl)),
  f225 := Tryz.func134.trans (congrArg some (by kernel_rfl)),
  f266 := Tryz.func137.trans (congrArg some (by kernel_rfl)),
  f267 := Tryz.func136.trans (congrArg some (by kernel_rfl)),
  f314 := Tryz.func138.trans (congrArg some (by kernel_rfl)),
  t3 := Tryz.underlying3,
  a3 := Tryz.isAgg3,
  z3 := Tryz.sizeOf3,
  v3 := Tryz.zeroValue3,
  t4 := Tryz.underlying4,
  a4 := Tryz.isAgg4,
  z4 := Tryz.sizeOf4,
  v4 := Tryz.zeroValue4,
  t5 := Tryz.underlying5,
  a5 := Tryz.isAgg5,
  z5 := Tryz.sizeOf5,
  v5 := Tryz.zeroValue5,
  t9 := Tryz.underlying9,
  a9 := Tryz.isAgg9,
  z9 := Tryz.sizeOf9,
  v9 := Tryz.zeroValue9,
  t46 := Tryz.underlying131,
  a46 := Tryz.isAgg131,
  z46 := Tryz.sizeOf131,
  v46 := Tryz.zeroValue131,
  t51 := Tryz.underlying130,
  a51 := Tryz.isAgg130,
  z51 := Tryz.sizeOf130,
  v51 := Tryz.zeroValue130,
  t146 := Tryz.underlying170,
  a146 := Tryz.isAgg170,
  z146 := Tryz.sizeOf170,
  v146 := Tryz.zeroValue170,
  g1 := by kernel_rfl }

end Go.Proofs.YtccdhgjfcgfgoaaGreat.X
set_option linter.unusedVariables false
set_option linter.unusedSimpArgs false
namespace Go.Proofs.YtccdhgjfcgfgoaaGreat.X
open Go Go.RowKit Go.Shelf Go.Proofs

theorem idxB : ∀ l : List UInt8, Lib.indexByte l 47 = if sl (l.map UInt8.toNat) = l.length then -1 else (sl (l.map UInt8.toNat) : Int)
  | [] => rfl
  | b :: l => by
    have ih := idxB l
    have hle := sl_le (l.map UInt8.toNat)
    rw [List.length_map] at hle
    unfold Lib.indexByte
    by_cases hb : b = 47
    · subst hb
      rw [if_pos (by decide)]
      have : sl (List.map UInt8.toNat (47 :: l)) = 0 := by unfold sl; rw [List.map_cons, List.idxOf_cons]; rfl
      rw [this, if_neg (by rw [List.length_cons]; omega)]
      rfl
    · rw [if_neg (by rwa [beq_iff_eq])]
      have h47 : b.toNat ≠ 47 := fun h => hb (UInt8.toNat_inj.1 h)
      have : sl (List.map UInt8.toNat (b :: l)) = sl (l.map UInt8.toNat) + 1 := by
        unfold sl; rw [List.map_cons, List.idxOf_cons, beq_false_of_ne h47]; rfl
      rw [this, ih, List.length_cons]
      generalize sl (l.map UInt8.toNat) = n at *
      generalize l.length = m at *
      by_cases h : n = m
      · subst h
        simp
      · have h2 : ((n : Int) == -1) = false := by rw [beq_eq_false_iff_ne]; omega
        have h3 : ¬ n + 1 = m + 1 := by omega
        rw [if_neg h, h2, if_neg h3, if_neg (by decide)]
        omega

theorem sidx_ok (H : PH) (t : ByteArray) : FnP Tryz.prog 130 [.string t, .string ⟨#[47]⟩] H fun v _ => v = .int .i64 (if sl (bs t) = (bs t).length then -1 else (sl (bs t) : Nat)) := by
  have e := idxB t.data.toList
  refine below_fn fun w hH => (Any.stringslite_Index_one lays219 t 47 w).mono ?_
  rintro e' w' ⟨rfl, rfl⟩
  refine ⟨_, rfl, ?_, Below.refl _ _⟩
  rw [e, bs_length]
  rfl

theorem bs_ext (t : ByteArray) (a b : Nat) : bs (t.extract a b) = ((bs t).take b).drop a := by
  unfold bs
  simp [ByteArray.data_extract, List.extract_eq_take_drop, List.map_take, List.map_drop, List.drop_take]

theorem scut_okT (H : PH) (t : ByteArray) (hy : t.size ≤ 9223372036854775807) (h : sl (bs t) ≠ (bs t).length) : FnP Tryz.prog 122 [.string t, .string ⟨#[47]⟩] H fun v _ => v = .tuple #[.string (t.extract 0 (sl (bs t))), .string (t.extract (sl (bs t) + 1) t.size), .bool true] := by
  have hle := sl_le (bs t)
  have hsz := bs_length t
  refine of_stringslite_Cut (by simp) ?_
  try simp only [go_sem, Nat.reduceEqDiff, Nat.reduceAdd, Nat.reduceBEq, ↓reduceIte, p_stringslite_Cut]
  first | refine ev_call (sidx_ok _ t) ?_ | refine ev_callP (sidx_ok _ t) ?_
  rintro v_1 H_1 le_1 rfl _
  try simp only [go_sem, Nat.reduceEqDiff, Nat.reduceAdd, Nat.reduceBEq, ↓reduceIte]
  rw [if_neg h]
  generalize sl (bs t) = i at *
  refine ev_pos (by omega) ?_
  try simp only [go_sem, Nat.reduceEqDiff, Nat.reduceAdd, Nat.reduceBEq, ↓reduceIte]
  refine ev_ss (by omega) (by omega) (by omega) ?_
  try simp only [go_sem, Nat.reduceEqDiff, Nat.reduceAdd, Nat.reduceBEq, ↓reduceIte]
  rw [show IntKind.i64.wrap ((i : Int) + ((#[47] : Array UInt8).size : Int)) = ((i + 1 : Nat) : Int) by rw [show ((#[47] : Array UInt8).size : Int) = 1 from rfl, w64 _ (by omega) (by omega)]; omega]
  refine ev_ss (by omega) (by omega) (by omega) ?_
  try simp only [go_sem, Nat.reduceEqDiff, Nat.reduceAdd, Nat.reduceBEq, ↓reduceIte]
  exact ⟨by trivial, by trivial⟩
theorem scut_okF (H : PH) (t : ByteArray) (h : sl (bs t) = (bs t).length) : FnP Tryz.prog 122 [.string t, .string ⟨#[47]⟩] H fun v _ => v = .tuple #[.string t, .string ⟨#[]⟩, .bool false] := by
  refine of_stringslite_Cut (by simp) ?_
  try simp only [go_sem, Nat.reduceEqDiff, Nat.reduceAdd, Nat.reduceBEq, ↓reduceIte, p_stringslite_Cut]
  first | refine ev_call (sidx_ok _ t) ?_ | refine ev_callP (sidx_ok _ t) ?_
  rintro v_2 H_2 le_2 rfl _
  try simp only [go_sem, Nat.reduceEqDiff, Nat.reduceAdd, Nat.reduceBEq, ↓reduceIte]
  rw [if_pos h]
  refine ev_neg (by decide) ?_
  try simp only [go_sem, Nat.reduceEqDiff, Nat.reduceAdd, Nat.reduceBEq, ↓reduceIte]
  exact ⟨by trivial, by trivial⟩
theorem cut_okT (H : PH) (t : ByteArray) (hy : t.size ≤ 9223372036854775807) (h : sl (bs t) ≠ (bs t).length) : FnP Tryz.prog 102 [.string t, .string ⟨#[47]⟩] H fun v _ => v = .tuple #[.string (t.extract 0 (sl (bs t))), .string (t.extract (sl (bs t) + 1) t.size), .bool true] := by
  refine of_strings_Cut (by simp) ?_
  try simp only [go_sem, Nat.reduceEqDiff, Nat.reduceAdd, Nat.reduceBEq, ↓reduceIte, p_strings_Cut]
  first | refine ev_call (scut_okT _ t hy h) ?_ | refine ev_callP (scut_okT _ t hy h) ?_
  rintro v_3 H_3 le_3 rfl _
  try simp only [go_sem, Nat.reduceEqDiff, Nat.reduceAdd, Nat.reduceBEq, ↓reduceIte]
  try simp only [go_sem, Nat.reduceEqDiff, Nat.reduceAdd, Nat.reduceBEq, ↓reduceIte]
  exact ⟨by trivial, by trivial⟩
theorem cut_okF (H : PH) (t : ByteArray) (h : sl (bs t) = (bs t).length) : FnP Tryz.prog 102 [.string t, .string ⟨#[47]⟩] H fun v _ => v = .tuple #[.string t, .string ⟨#[]⟩, .bool false] := by
  refine of_strings_Cut (by simp) ?_
  try simp only [go_sem, Nat.reduceEqDiff, Nat.reduceAdd, Nat.reduceBEq, ↓reduceIte, p_strings_Cut]
  first | refine ev_call (scut_okF _ t h) ?_ | refine ev_callP (scut_okF _ t h) ?_
  rintro v_4 H_4 le_4 rfl _
  try simp only [go_sem, Nat.reduceEqDiff, Nat.reduceAdd, Nat.reduceBEq, ↓reduceIte]
  try simp only [go_sem, Nat.reduceEqDiff, Nat.reduceAdd, Nat.reduceBEq, ↓reduceIte]
  exact ⟨by trivial, by trivial⟩

end Go.Proofs.YtccdhgjfcgfgoaaGreat.X
set_option linter.unusedVariables false
set_option linter.unusedSimpArgs false
namespace Go.Proofs.YtccdhgjfcgfgoaaGreat.X
open Go Go.RowKit Go.Proofs

theorem bi_dec {l : List Nat} (h : intOk l = true) : bi (iv l) ≤ 16000 := by
  unfold intOk at h
  unfold iv bi
  split at h
  · rename_i h45
    rw [Bool.and_eq_true] at h
    rw [if_pos h45, Int.natAbs_neg, Int.natAbs_natCast]
    exact bl_dec h.1
  · rename_i h45
    rw [if_neg h45, Int.natAbs_natCast]
    exact bl_dec h

theorem rparse'_ok (H : PH) (t : ByteArray) (hy : t.size ≤ 9223372036854775807) : FnP Tryz.prog 66 [.string t] H fun v H' => ∃ v', v = .tuple #[v', .int .i64 (if ratOk (bs t) then 0 else 2)] ∧ RatV H' v' (if ratOk (bs t) then rv (bs t) else 0) := by
  have hsz := bs_length t
  have hle := sl_le (bs t)
  have bad : ratOk (bs t) = false → ∀ H' : PH, ∃ v', (Value.tuple #[.agg #[.slice none 0 0, .bool false, .slice none 0 0], .int .i64 2]) = .tuple #[v', .int .i64 (if ratOk (bs t) then 0 else 2)] ∧ RatV H' v' (if ratOk (bs t) then rv (bs t) else 0) := by
    intro h H'
    rw [h]
    exact ⟨_, rfl, RatV.zero _⟩
  have bad2 : ratOk (bs t) = false → ∀ (H' : PH) A l c b, IntV H' (.agg #[.slice A l c, .bool b]) 0 → ∃ v', (Value.tuple #[.agg #[.slice A l c, .bool b, .slice none 0 0], .int .i64 2]) = .tuple #[v', .int .i64 (if ratOk (bs t) then 0 else 2)] ∧ RatV H' v' (if ratOk (bs t) then rv (bs t) else 0) := by
    intro h H' A l c b h1
    rw [h]
    have := RatV.mkI h1
    rw [Rat.zero_mkRat] at this
    exact ⟨_, rfl, this⟩
  refine of_rat_Parse (by simp) ?_
  try simp only [go_sem, Nat.reduceEqDiff, Nat.reduceAdd, Nat.reduceBEq, ↓reduceIte, p_rat_Parse]
  by_cases h0 : sl (bs t) = (bs t).length
  · have hro : ratOk (bs t) = intOk (bs t) := by unfold ratOk; rw [if_pos h0]
    have hrv : rv (bs t) = mkRat (iv (bs t)) 1 := by unfold rv; rw [if_pos h0]
    first | refine ev_call (cut_okF _ t h0) ?_ | refine ev_callP (cut_okF _ t h0) ?_
    rintro v_1 H_1 le_1 rfl _
    try simp only [go_sem, Nat.reduceEqDiff, Nat.reduceAdd, Nat.reduceBEq, ↓reduceIte]
    try simp only [go_sem, Nat.reduceEqDiff, Nat.reduceAdd, Nat.reduceBEq, ↓reduceIte]
    first | refine ev_call (wparse_ok _ t) ?_ | refine ev_callP (wparse_ok _ t) ?_
    rintro v_2 H_2 le_2 ⟨v1, rfl, h1⟩ _
    try simp only [go_sem, Nat.reduceEqDiff, Nat.reduceAdd, Nat.reduceBEq, ↓reduceIte]
    obtain ⟨A1, l1, c1, b1, rfl⟩ := h1.form
    cases hk : intOk (bs t) with
    | false =>
      rw [hk] at h1
      try simp only [go_sem, Nat.reduceEqDiff, Nat.reduceAdd, Nat.reduceBEq, ↓reduceIte, hk]
      refine ev_pos (by decide) ?_
      try simp only [go_sem, Nat.reduceEqDiff, Nat.reduceAdd, Nat.reduceBEq, ↓reduceIte]
      exact ⟨by trivial, bad2 (by rw [hro, hk]) _ _ _ _ _ h1⟩
    | true =>
      rw [hk, if_pos rfl] at h1
      try simp only [go_sem, Nat.reduceEqDiff, Nat.reduceAdd, Nat.reduceBEq, ↓reduceIte, hk]
      refine ev_neg (by decide) ?_
      try simp only [go_sem, Nat.reduceEqDiff, Nat.reduceAdd, Nat.reduceBEq, ↓reduceIte]
      rw [hro, hk, if_pos rfl, if_pos rfl, hrv]
      exact ⟨by trivial, _, rfl, RatV.mkI h1⟩
  · skip
    first | refine ev_call (cut_okT _ t hy h0) ?_ | refine ev_callP (cut_okT _ t hy h0) ?_
    rintro v_3 H_3 le_3 rfl _
    try simp only [go_sem, Nat.reduceEqDiff, Nat.reduceAdd, Nat.reduceBEq, ↓reduceIte]
    try simp only [go_sem, Nat.reduceEqDiff, Nat.reduceAdd, Nat.reduceBEq, ↓reduceIte]
    have e1 : bs (t.extract 0 (sl (bs t))) = (bs t).take (sl (bs t)) := by rw [bs_ext, List.drop_zero]
    have e2 : bs (t.extract (sl (bs t) + 1) t.size) = (bs t).drop (sl (bs t) + 1) := by rw [bs_ext, ← hsz, List.take_length]
    have hrv : rv (bs t) = mkRat (iv ((bs t).take (sl (bs t)))) (dv ((bs t).drop (sl (bs t) + 1))) := by unfold rv; rw [if_neg h0]
    have hro : ratOk (bs t) = ((intOk ((bs t).take (sl (bs t))) && decOk ((bs t).drop (sl (bs t) + 1))) && (decide (2 ≤ dv ((bs t).drop (sl (bs t) + 1))) && decide ((dv ((bs t).drop (sl (bs t) + 1))).gcd (iv ((bs t).take (sl (bs t)))).natAbs = 1))) := by unfold ratOk; rw [if_neg h0]
    first | refine ev_call (wparse_ok _ (t.extract 0 (sl (bs t)))) ?_ | refine ev_callP (wparse_ok _ (t.extract 0 (sl (bs t)))) ?_
    rintro v_4 H_4 le_4 ⟨v1, rfl, h1⟩ _
    try simp only [go_sem, Nat.reduceEqDiff, Nat.reduceAdd, Nat.reduceBEq, ↓reduceIte]
    rw [e1] at h1 ⊢
    obtain ⟨A1, l1, c1, b1, rfl⟩ := h1.form
    cases hk : intOk ((bs t).take (sl (bs t))) with
    | false =>
      rw [hk] at h1
      try simp only [go_sem, Nat.reduceEqDiff, Nat.reduceAdd, Nat.reduceBEq, ↓reduceIte, hk]
      refine ev_pos (by decide) ?_
      try simp only [go_sem, Nat.reduceEqDiff, Nat.reduceAdd, Nat.reduceBEq, ↓reduceIte]
      exact ⟨by trivial, bad2 (by rw [hro, hk]; rfl) _ _ _ _ _ h1⟩
    | true =>
      have hbi := bi_iv hk
      rw [List.length_take] at hbi
      rw [hk, if_pos rfl] at h1
      try simp only [go_sem, Nat.reduceEqDiff, Nat.reduceAdd, Nat.reduceBEq, ↓reduceIte, hk]
      refine ev_neg (by decide) ?_
      try simp only [go_sem, Nat.reduceEqDiff, Nat.reduceAdd, Nat.reduceBEq, ↓reduceIte]
      first | refine ev_call (parse_ok _ (t.extract (sl (bs t) + 1) t.size)) ?_ | refine ev_callP (parse_ok _ (t.extract (sl (bs t) + 1) t.size)) ?_
      rintro v_5 H_5 le_5 ⟨v2, rfl, h2⟩ _
      replace h1 := h1.le le_5
      try simp only [go_sem, Nat.reduceEqDiff, Nat.reduceAdd, Nat.reduceBEq, ↓reduceIte]
      rw [e2] at h2 ⊢
      obtain ⟨A2, l2, c2, rfl⟩ := h2.form
      cases hk2 : decOk ((bs t).drop (sl (bs t) + 1)) with
      | false =>
        try simp only [go_sem, Nat.reduceEqDiff, Nat.reduceAdd, Nat.reduceBEq, ↓reduceIte, hk2]
        refine ev_pos (by decide) ?_
        try simp only [go_sem, Nat.reduceEqDiff, Nat.reduceAdd, Nat.reduceBEq, ↓reduceIte]
        exact ⟨by trivial, bad (by rw [hro, hk2, Bool.and_false, Bool.false_and]) _⟩
      | true =>
        have hbl := bl_dec hk2
        have hbi2 : bi (iv ((bs t).take (sl (bs t)))) ≤ 16000 := bi_dec hk
        rw [hk2, if_pos rfl] at h2
        rw [hk, hk2, Bool.true_and, Bool.true_and] at hro
        generalize dv ((bs t).drop (sl (bs t) + 1)) = y at *
        generalize iv ((bs t).take (sl (bs t))) = z at *
        try simp only [go_sem, Nat.reduceEqDiff, Nat.reduceAdd, Nat.reduceBEq, ↓reduceIte, hk2]
        refine ev_neg (by decide) ?_
        try simp only [go_sem, Nat.reduceEqDiff, Nat.reduceAdd, Nat.reduceBEq, ↓reduceIte]
        first | refine ev_call (nbits_ok _ _ _ h2 (by omega)) ?_ | refine ev_callP (nbits_ok _ _ _ h2 (by omega)) ?_
        rintro v_6 H_6 le_6 rfl _
        replace h1 := h1.le le_6
        replace h2 := h2.le le_6
        try simp only [go_sem, Nat.reduceEqDiff, Nat.reduceAdd, Nat.reduceBEq, ↓reduceIte]
        refine ev_if (fun h3 => ?_) (fun h3 => ?_)
        · try simp only [go_sem, Nat.reduceEqDiff, Nat.reduceAdd, Nat.reduceBEq, ↓reduceIte]
          have hy : ¬ 2 ≤ y := fun h4 => by have := lt_bl_iff.2 (show 2 ^ 1 ≤ y from h4); omega
          exact ⟨by trivial, bad (by rw [hro, decide_eq_false hy, Bool.false_and]) _⟩
        · have hy : 2 ≤ y := by
            have h4 : 1 < bl y := by omega
            exact lt_bl_iff.1 h4
          rw [decide_eq_true hy, Bool.true_and] at hro
          try simp only [go_sem, Nat.reduceEqDiff, Nat.reduceAdd, Nat.reduceBEq, ↓reduceIte]
          first | refine ev_call (wabs_ok _ _ z h1) ?_ | refine ev_callP (wabs_ok _ _ z h1) ?_
          rintro v_7 H_7 le_7 g1 _
          replace h1 := h1.le le_7
          replace h2 := h2.le le_7
          try simp only [go_sem, Nat.reduceEqDiff, Nat.reduceAdd, Nat.reduceBEq, ↓reduceIte]
          first | refine ev_call (gcd_ok _ _ _ y z.natAbs h2 g1 (by omega) (show bl z.natAbs ≤ _ by unfold bi at hbi2; omega)) ?_ | refine ev_callP (gcd_ok _ _ _ y z.natAbs h2 g1 (by omega) (show bl z.natAbs ≤ _ by unfold bi at hbi2; omega)) ?_
          rintro v_8 H_8 le_8 g2 _
          replace h1 := h1.le le_8
          replace h2 := h2.le le_8
          try simp only [go_sem, Nat.reduceEqDiff, Nat.reduceAdd, Nat.reduceBEq, ↓reduceIte]
          have hg : bl (y.gcd z.natAbs) ≤ 16000 := bl_gcd (by omega) hbl
          have hgp := Nat.gcd_pos_of_pos_left z.natAbs (show 0 < y by omega)
          first | refine ev_call (nbits_ok _ _ _ g2 (by omega)) ?_ | refine ev_callP (nbits_ok _ _ _ g2 (by omega)) ?_
          rintro v_9 H_9 le_9 rfl _
          replace h1 := h1.le le_9
          replace h2 := h2.le le_9
          try simp only [go_sem, Nat.reduceEqDiff, Nat.reduceAdd, Nat.reduceBEq, ↓reduceIte]
          refine ev_if (fun h5 => ?_) (fun h5 => ?_)
          · try simp only [go_sem, Nat.reduceEqDiff, Nat.reduceAdd, Nat.reduceBEq, ↓reduceIte]
            have hg1 : ¬ y.gcd z.natAbs = 1 := fun h4 => by rw [h4] at h5; exact absurd h5 (by decide)
            exact ⟨by trivial, bad (by rw [hro, decide_eq_false hg1]) _⟩
          · have hg1 : y.gcd z.natAbs = 1 := by
              have h10 : bl (y.gcd z.natAbs) ≤ 1 := by omega
              have := bl_le_iff.1 h10
              omega
            rw [decide_eq_true hg1] at hro
            obtain ⟨f1, f2⟩ := mk_coprime (z := z) (y := y) (by omega) hg1
            try simp only [go_sem, Nat.reduceEqDiff, Nat.reduceAdd, Nat.reduceBEq, ↓reduceIte]
            rw [hro, if_pos rfl, if_pos rfl, hrv]
            exact ⟨by trivial, _, rfl, _, _, _, _, _, _, _, rfl, by rw [f1]; exact h1, by rw [dn_ne (by omega), f2]; exact h2⟩

theorem rparseR_ok (H : PH) (t : ByteArray) (hy : t.size ≤ 9223372036854775807) : FnP Tryz.prog 70 [.string t] H fun v H' => ∃ v', v = .tuple #[v', .bool (ratOk (bs t))] ∧ RRat H' v' (if ratOk (bs t) then rv (bs t) else 0) := by
  have hsz := bs_length t
  have hle := sl_le (bs t)
  refine of_cinctureref1_RatParse (by simp) ?_
  try simp only [go_sem, Nat.reduceEqDiff, Nat.reduceAdd, Nat.reduceBEq, ↓reduceIte, p_cinctureref1_RatParse]
  have bad : ratOk (bs t) = false → ∀ H' : PH, ∃ v', (Value.tuple #[.agg #[.bool false, .slice none 0 0, .slice none 0 0], .bool false]) = .tuple #[v', .bool (ratOk (bs t))] ∧ RRat H' v' (if ratOk (bs t) then rv (bs t) else 0) := by
    intro h H'
    rw [h]
    exact ⟨_, rfl, RRat.zero _⟩
  refine ev_loop (fun n' s => ∃ (i : Nat) (k : Int), n' = t.size - i ∧ ((k = -1 ∧ i ≤ sl (bs t)) ∨ (k = (sl (bs t) : Nat) ∧ sl (bs t) ≠ (bs t).length)) ∧
    s = ⟨[(5, .v (.int .i64 (i : Nat))), (4, .v (.int .i64 k)), (2, .ptr 2 0), (0, .v (.string t))], [(2, [.bool false, .slice none 0 0, .slice none 0 0])], H, PH.no⟩)
    _ _ ⟨0, -1, rfl, .inl ⟨rfl, Nat.zero_le _⟩, rfl⟩ sub_of ?_
  rintro n' s ⟨i, k, rfl, hk, rfl⟩
  try simp only [go_sem, Nat.reduceEqDiff, Nat.reduceAdd, Nat.reduceBEq, ↓reduceIte]
  rcases hk with ⟨rfl, hi⟩ | ⟨rfl, h0⟩
  · refine ev_if (fun h => ?_) (fun h => ?_)
    · try simp only [go_sem, Nat.reduceEqDiff, Nat.reduceAdd, Nat.reduceBEq, ↓reduceIte]
      refine ev_pos (by decide) ?_
      try simp only [go_sem, Nat.reduceEqDiff, Nat.reduceAdd, Nat.reduceBEq, ↓reduceIte]
      refine ev_ix (by omega) (by omega) ?_
      try simp only [go_sem, Nat.reduceEqDiff, Nat.reduceAdd, Nat.reduceBEq, ↓reduceIte]
      rw [toNat_cast]
      have hat := sl_at (bs t) i hi (by omega)
      have hb0 := bs_getD t i
      refine ev_if (fun h2 => ?_) (fun h2 => ?_)
      · try simp only [go_sem, Nat.reduceEqDiff, Nat.reduceAdd, Nat.reduceBEq, ↓reduceIte]
        try simp (disch := omega) only [nA64, nS64, nM64, nC64, nA64l, nS64l, nM64l, nM64r, nR64l, nL64l, nAu64, nMu64, nMu64r, nSu64, nAu64l, nLu64l, nCu64, nCu32, nCu8, nAu32, nLu32l, nSu8l, toNat_cast]
        have hsi : sl (bs t) = i := hat.1 (by rw [← hb0]; omega)
        refine k_next (t.size - (i + 1)) _ (by omega) ⟨i + 1, (i : Nat), rfl, .inr ⟨by rw [hsi], by omega⟩, rfl⟩ sub_of
      · try simp only [go_sem, Nat.reduceEqDiff, Nat.reduceAdd, Nat.reduceBEq, ↓reduceIte]
        try simp (disch := omega) only [nA64, nS64, nM64, nC64, nA64l, nS64l, nM64l, nM64r, nR64l, nL64l, nAu64, nMu64, nMu64r, nSu64, nAu64l, nLu64l, nCu64, nCu32, nCu8, nAu32, nLu32l, nSu8l, toNat_cast]
        have hsi : sl (bs t) ≠ i := fun e => h2 (by rw [hb0, hat.2 e]; rfl)
        refine k_next (t.size - (i + 1)) _ (by omega) ⟨i + 1, -1, rfl, .inl ⟨rfl, by omega⟩, rfl⟩ sub_of
    · have h0 : sl (bs t) = (bs t).length := by omega
      try simp only [go_sem, Nat.reduceEqDiff, Nat.reduceAdd, Nat.reduceBEq, ↓reduceIte]
      have hro : ratOk (bs t) = intOk (bs t) := by unfold ratOk; rw [if_pos h0]
      have hrv : rv (bs t) = mkRat (iv (bs t)) 1 := by unfold rv; rw [if_pos h0]
      refine ev_pos (by decide) ?_
      try simp only [go_sem, Nat.reduceEqDiff, Nat.reduceAdd, Nat.reduceBEq, ↓reduceIte]
      first | refine ev_call (rparseI_ok _ t) ?_ | refine ev_callP (rparseI_ok _ t) ?_
      rintro v_12 H_12 le_12 ⟨v1, rfl, h1⟩ _
      try simp only [go_sem, Nat.reduceEqDiff, Nat.reduceAdd, Nat.reduceBEq, ↓reduceIte]
      obtain ⟨A1, l1, c1, b1, rfl⟩ := h1.form
      try simp only [go_sem, Nat.reduceEqDiff, Nat.reduceAdd, Nat.reduceBEq, ↓reduceIte]
      first | refine ev_call (rnatOf_ok _ 1 (by decide)) ?_ | refine ev_callP (rnatOf_ok _ 1 (by decide)) ?_
      rintro v_13 H_13 le_13 g1 _
      replace h1 := h1.le le_13
      try simp only [go_sem, Nat.reduceEqDiff, Nat.reduceAdd, Nat.reduceBEq, ↓reduceIte]
      obtain ⟨A2, l2, c2, rfl⟩ := g1.form'
      try simp only [go_sem, Nat.reduceEqDiff, Nat.reduceAdd, Nat.reduceBEq, ↓reduceIte]
      rw [hro, hrv]
      refine ⟨by trivial, _, rfl, ?_⟩
      cases hk : intOk (bs t) with
      | false =>
        rw [hk] at h1
        exact RRat.mk (q := 0) h1 g1
      | true =>
        rw [hk, if_pos rfl] at h1
        obtain ⟨f1, f2⟩ := least_one (iv (bs t))
        exact RRat.mk (by rw [if_pos rfl, f1]; exact h1) (by rw [if_pos rfl, f2]; exact g1)
  · refine ev_if (fun h => ?_) (fun h => ?_)
    · try simp only [go_sem, Nat.reduceEqDiff, Nat.reduceAdd, Nat.reduceBEq, ↓reduceIte]
      refine ev_neg (by omega) ?_
      try simp only [go_sem, Nat.reduceEqDiff, Nat.reduceAdd, Nat.reduceBEq, ↓reduceIte]
      have e1 : bs (t.extract 0 (sl (bs t))) = (bs t).take (sl (bs t)) := by rw [bs_ext, List.drop_zero]
      have e2 : bs (t.extract (sl (bs t) + 1) t.size) = (bs t).drop (sl (bs t) + 1) := by rw [bs_ext, ← hsz, List.take_length]
      have hrv : rv (bs t) = mkRat (iv ((bs t).take (sl (bs t)))) (dv ((bs t).drop (sl (bs t) + 1))) := by unfold rv; rw [if_neg h0]
      have hro : ratOk (bs t) = ((intOk ((bs t).take (sl (bs t))) && decOk ((bs t).drop (sl (bs t) + 1))) && (decide (2 ≤ dv ((bs t).drop (sl (bs t) + 1))) && decide ((dv ((bs t).drop (sl (bs t) + 1))).gcd (iv ((bs t).take (sl (bs t)))).natAbs = 1))) := by unfold ratOk; rw [if_neg h0]
      refine ev_neg (by omega) ?_
      try simp only [go_sem, Nat.reduceEqDiff, Nat.reduceAdd, Nat.reduceBEq, ↓reduceIte]
      refine ev_ss (by omega) (by omega) (by omega) ?_
      rw [show (0 : Int).toNat = 0 from rfl, toNat_cast]
      try simp only [go_sem, Nat.reduceEqDiff, Nat.reduceAdd, Nat.reduceBEq, ↓reduceIte]
      first | refine ev_call (rparseI_ok _ (t.extract 0 (sl (bs t)))) ?_ | refine ev_callP (rparseI_ok _ (t.extract 0 (sl (bs t)))) ?_
      rintro v_14 H_14 le_14 ⟨v1, rfl, h1⟩ _
      try simp only [go_sem, Nat.reduceEqDiff, Nat.reduceAdd, Nat.reduceBEq, ↓reduceIte]
      rw [e1] at h1 ⊢
      obtain ⟨A1, l1, c1, b1, rfl⟩ := h1.form
      try simp only [go_sem, Nat.reduceEqDiff, Nat.reduceAdd, Nat.reduceBEq, ↓reduceIte]
      rw [show IntKind.i64.wrap ((sl (bs t) : Int) + 1) = ((sl (bs t) + 1 : Nat) : Int) by rw [w64 _ (by omega) (by omega)]; omega]
      refine ev_ss (by omega) (by omega) (by omega) ?_
      rw [toNat_cast, toNat_cast]
      try simp only [go_sem, Nat.reduceEqDiff, Nat.reduceAdd, Nat.reduceBEq, ↓reduceIte]
      first | refine ev_call (rparse_ok _ (t.extract (sl (bs t) + 1) t.size)) ?_ | refine ev_callP (rparse_ok _ (t.extract (sl (bs t) + 1) t.size)) ?_
      rintro v_15 H_15 le_15 ⟨v2, rfl, h2⟩ _
      replace h1 := h1.le le_15
      try simp only [go_sem, Nat.reduceEqDiff, Nat.reduceAdd, Nat.reduceBEq, ↓reduceIte]
      rw [e2] at h2 ⊢
      obtain ⟨A2, l2, c2, rfl⟩ := h2.form'
      cases hk1 : intOk ((bs t).take (sl (bs t))) with
      | false =>
        try simp only [go_sem, Nat.reduceEqDiff, Nat.reduceAdd, Nat.reduceBEq, ↓reduceIte, hk1]
        exact ⟨by trivial, bad (by rw [hro, hk1]; rfl) _⟩
      | true =>
        cases hk2 : decOk ((bs t).drop (sl (bs t) + 1)) with
        | false =>
          try simp only [go_sem, Nat.reduceEqDiff, Nat.reduceAdd, Nat.reduceBEq, ↓reduceIte, hk1, hk2]
          exact ⟨by trivial, bad (by rw [hro, hk2, Bool.and_false, Bool.false_and]) _⟩
        | true =>
          have hbl := bl_dec hk2
          have hbi2 : bi (iv ((bs t).take (sl (bs t)))) ≤ 16000 := bi_dec hk1
          rw [hk1, if_pos rfl] at h1
          rw [hk2, if_pos rfl] at h2
          rw [hk1, hk2, Bool.true_and, Bool.true_and] at hro
          generalize dv ((bs t).drop (sl (bs t) + 1)) = y at *
          generalize iv ((bs t).take (sl (bs t))) = z at *
          try simp only [go_sem, Nat.reduceEqDiff, Nat.reduceAdd, Nat.reduceBEq, ↓reduceIte, hk1, hk2]
          first | refine ev_call (rnatOf_ok _ 1 (by decide)) ?_ | refine ev_callP (rnatOf_ok _ 1 (by decide)) ?_
          rintro v_16 H_16 le_16 g1 _
          replace h1 := h1.le le_16
          replace h2 := h2.le le_16
          try simp only [go_sem, Nat.reduceEqDiff, Nat.reduceAdd, Nat.reduceBEq, ↓reduceIte]
          first | refine ev_call (rcmp_ok _ _ _ y 1 h2 g1 (by omega) (by decide)) ?_ | refine ev_callP (rcmp_ok _ _ _ y 1 h2 g1 (by omega) (by decide)) ?_
          rintro v_17 H_17 le_17 rfl _
          replace h1 := h1.le le_17
          replace h2 := h2.le le_17
          try simp only [go_sem, Nat.reduceEqDiff, Nat.reduceAdd, Nat.reduceBEq, ↓reduceIte]
          refine ev_if (fun h3 => ?_) (fun h3 => ?_)
          · try simp only [go_sem, Nat.reduceEqDiff, Nat.reduceAdd, Nat.reduceBEq, ↓reduceIte]
            have hy2 : ¬ 2 ≤ y := fun h4 => by unfold cmpN at h3; rw [if_neg (by omega), if_pos (by omega)] at h3; omega
            exact ⟨by trivial, bad (by rw [hro, decide_eq_false hy2, Bool.false_and]) _⟩
          · have hy2 : 2 ≤ y := by
              refine Decidable.byContradiction fun h4 => h3 ?_
              unfold cmpN
              split
              · decide
              · rw [if_neg (by omega)]; decide
            rw [decide_eq_true hy2, Bool.true_and] at hro
            obtain ⟨hz1, _⟩ := h1.abs
            try simp only [go_sem, Nat.reduceEqDiff, Nat.reduceAdd, Nat.reduceBEq, ↓reduceIte]
            first | refine ev_call (rgcd_ok _ _ _ y z.natAbs h2 hz1 (by omega) (show bl z.natAbs ≤ _ by unfold bi at hbi2; omega)) ?_ | refine ev_callP (rgcd_ok _ _ _ y z.natAbs h2 hz1 (by omega) (show bl z.natAbs ≤ _ by unfold bi at hbi2; omega)) ?_
            rintro v_18 H_18 le_18 g2 _
            replace h1 := h1.le le_18
            replace h2 := h2.le le_18
            try simp only [go_sem, Nat.reduceEqDiff, Nat.reduceAdd, Nat.reduceBEq, ↓reduceIte]
            first | refine ev_call (rnatOf_ok _ 1 (by decide)) ?_ | refine ev_callP (rnatOf_ok _ 1 (by decide)) ?_
            rintro v_19 H_19 le_19 g3 _
            replace h1 := h1.le le_19
            replace h2 := h2.le le_19
            replace g2 := g2.le le_19
            try simp only [go_sem, Nat.reduceEqDiff, Nat.reduceAdd, Nat.reduceBEq, ↓reduceIte]
            have hg : bl (y.gcd z.natAbs) ≤ 16000 := bl_gcd (by omega) hbl
            first | refine ev_call (rcmp_ok _ _ _ _ 1 g2 g3 (by omega) (by decide)) ?_ | refine ev_callP (rcmp_ok _ _ _ _ 1 g2 g3 (by omega) (by decide)) ?_
            rintro v_20 H_20 le_20 rfl _
            replace h1 := h1.le le_20
            replace h2 := h2.le le_20
            try simp only [go_sem, Nat.reduceEqDiff, Nat.reduceAdd, Nat.reduceBEq, ↓reduceIte]
            by_cases hg1 : y.gcd z.natAbs = 1
            · refine ev_neg (by rw [hg1, cmpN_self]; decide) ?_
              rw [decide_eq_true hg1] at hro
              obtain ⟨f1, f2⟩ := mk_coprime (z := z) (y := y) (by omega) hg1
              try simp only [go_sem, Nat.reduceEqDiff, Nat.reduceAdd, Nat.reduceBEq, ↓reduceIte]
              rw [hro, hrv]
              exact ⟨by trivial, _, rfl, RRat.mk (by rw [if_pos rfl, f1]; exact h1) (by rw [if_pos rfl, f2]; exact h2)⟩
            · refine ev_pos (by unfold cmpN; split <;> (try split) <;> omega) ?_
              try simp only [go_sem, Nat.reduceEqDiff, Nat.reduceAdd, Nat.reduceBEq, ↓reduceIte]
              exact ⟨by trivial, bad (by rw [hro, decide_eq_false hg1]) _⟩
    · try simp only [go_sem, Nat.reduceEqDiff, Nat.reduceAdd, Nat.reduceBEq, ↓reduceIte]
      have e1 : bs (t.extract 0 (sl (bs t))) = (bs t).take (sl (bs t)) := by rw [bs_ext, List.drop_zero]
      have e2 : bs (t.extract (sl (bs t) + 1) t.size) = (bs t).drop (sl (bs t) + 1) := by rw [bs_ext, ← hsz, List.take_length]
      have hrv : rv (bs t) = mkRat (iv ((bs t).take (sl (bs t)))) (dv ((bs t).drop (sl (bs t) + 1))) := by unfold rv; rw [if_neg h0]
      have hro : ratOk (bs t) = ((intOk ((bs t).take (sl (bs t))) && decOk ((bs t).drop (sl (bs t) + 1))) && (decide (2 ≤ dv ((bs t).drop (sl (bs t) + 1))) && decide ((dv ((bs t).drop (sl (bs t) + 1))).gcd (iv ((bs t).take (sl (bs t)))).natAbs = 1))) := by unfold ratOk; rw [if_neg h0]
      refine ev_neg (by omega) ?_
      try simp only [go_sem, Nat.reduceEqDiff, Nat.reduceAdd, Nat.reduceBEq, ↓reduceIte]
      refine ev_ss (by omega) (by omega) (by omega) ?_
      rw [show (0 : Int).toNat = 0 from rfl, toNat_cast]
      try simp only [go_sem, Nat.reduceEqDiff, Nat.reduceAdd, Nat.reduceBEq, ↓reduceIte]
      first | refine ev_call (rparseI_ok _ (t.extract 0 (sl (bs t)))) ?_ | refine ev_callP (rparseI_ok _ (t.extract 0 (sl (bs t)))) ?_
      rintro v_14 H_14 le_14 ⟨v1, rfl, h1⟩ _
      try simp only [go_sem, Nat.reduceEqDiff, Nat.reduceAdd, Nat.reduceBEq, ↓reduceIte]
      rw [e1] at h1 ⊢
      obtain ⟨A1, l1, c1, b1, rfl⟩ := h1.form
      try simp only [go_sem, Nat.reduceEqDiff, Nat.reduceAdd, Nat.reduceBEq, ↓reduceIte]
      rw [show IntKind.i64.wrap ((sl (bs t) : Int) + 1) = ((sl (bs t) + 1 : Nat) : Int) by rw [w64 _ (by omega) (by omega)]; omega]
      refine ev_ss (by omega) (by omega) (by omega) ?_
      rw [toNat_cast, toNat_cast]
      try simp only [go_sem, Nat.reduceEqDiff, Nat.reduceAdd, Nat.reduceBEq, ↓reduceIte]
      first | refine ev_call (rparse_ok _ (t.extract (sl (bs t) + 1) t.size)) ?_ | refine ev_callP (rparse_ok _ (t.extract (sl (bs t) + 1) t.size)) ?_
      rintro v_15 H_15 le_15 ⟨v2, rfl, h2⟩ _
      replace h1 := h1.le le_15
      try simp only [go_sem, Nat.reduceEqDiff, Nat.reduceAdd, Nat.reduceBEq, ↓reduceIte]
      rw [e2] at h2 ⊢
      obtain ⟨A2, l2, c2, rfl⟩ := h2.form'
      cases hk1 : intOk ((bs t).take (sl (bs t))) with
      | false =>
        try simp only [go_sem, Nat.reduceEqDiff, Nat.reduceAdd, Nat.reduceBEq, ↓reduceIte, hk1]
        exact ⟨by trivial, bad (by rw [hro, hk1]; rfl) _⟩
      | true =>
        cases hk2 : decOk ((bs t).drop (sl (bs t) + 1)) with
        | false =>
          try simp only [go_sem, Nat.reduceEqDiff, Nat.reduceAdd, Nat.reduceBEq, ↓reduceIte, hk1, hk2]
          exact ⟨by trivial, bad (by rw [hro, hk2, Bool.and_false, Bool.false_and]) _⟩
        | true =>
          have hbl := bl_dec hk2
          have hbi2 : bi (iv ((bs t).take (sl (bs t)))) ≤ 16000 := bi_dec hk1
          rw [hk1, if_pos rfl] at h1
          rw [hk2, if_pos rfl] at h2
          rw [hk1, hk2, Bool.true_and, Bool.true_and] at hro
          generalize dv ((bs t).drop (sl (bs t) + 1)) = y at *
          generalize iv ((bs t).take (sl (bs t))) = z at *
          try simp only [go_sem, Nat.reduceEqDiff, Nat.reduceAdd, Nat.reduceBEq, ↓reduceIte, hk1, hk2]
          first | refine ev_call (rnatOf_ok _ 1 (by decide)) ?_ | refine ev_callP (rnatOf_ok _ 1 (by decide)) ?_
          rintro v_16 H_16 le_16 g1 _
          replace h1 := h1.le le_16
          replace h2 := h2.le le_16
          try simp only [go_sem, Nat.reduceEqDiff, Nat.reduceAdd, Nat.reduceBEq, ↓reduceIte]
          first | refine ev_call (rcmp_ok _ _ _ y 1 h2 g1 (by omega) (by decide)) ?_ | refine ev_callP (rcmp_ok _ _ _ y 1 h2 g1 (by omega) (by decide)) ?_
          rintro v_17 H_17 le_17 rfl _
          replace h1 := h1.le le_17
          replace h2 := h2.le le_17
          try simp only [go_sem, Nat.reduceEqDiff, Nat.reduceAdd, Nat.reduceBEq, ↓reduceIte]
          refine ev_if (fun h3 => ?_) (fun h3 => ?_)
          · try simp only [go_sem, Nat.reduceEqDiff, Nat.reduceAdd, Nat.reduceBEq, ↓reduceIte]
            have hy2 : ¬ 2 ≤ y := fun h4 => by unfold cmpN at h3; rw [if_neg (by omega), if_pos (by omega)] at h3; omega
            exact ⟨by trivial, bad (by rw [hro, decide_eq_false hy2, Bool.false_and]) _⟩
          · have hy2 : 2 ≤ y := by
              refine Decidable.byContradiction fun h4 => h3 ?_
              unfold cmpN
              split
              · decide
              · rw [if_neg (by omega)]; decide
            rw [decide_eq_true hy2, Bool.true_and] at hro
            obtain ⟨hz1, _⟩ := h1.abs
            try simp only [go_sem, Nat.reduceEqDiff, Nat.reduceAdd, Nat.reduceBEq, ↓reduceIte]
            first | refine ev_call (rgcd_ok _ _ _ y z.natAbs h2 hz1 (by omega) (show bl z.natAbs ≤ _ by unfold bi at hbi2; omega)) ?_ | refine ev_callP (rgcd_ok _ _ _ y z.natAbs h2 hz1 (by omega) (show bl z.natAbs ≤ _ by unfold bi at hbi2; omega)) ?_
            rintro v_18 H_18 le_18 g2 _
            replace h1 := h1.le le_18
            replace h2 := h2.le le_18
            try simp only [go_sem, Nat.reduceEqDiff, Nat.reduceAdd, Nat.reduceBEq, ↓reduceIte]
            first | refine ev_call (rnatOf_ok _ 1 (by decide)) ?_ | refine ev_callP (rnatOf_ok _ 1 (by decide)) ?_
            rintro v_19 H_19 le_19 g3 _
            replace h1 := h1.le le_19
            replace h2 := h2.le le_19
            replace g2 := g2.le le_19
            try simp only [go_sem, Nat.reduceEqDiff, Nat.reduceAdd, Nat.reduceBEq, ↓reduceIte]
            have hg : bl (y.gcd z.natAbs) ≤ 16000 := bl_gcd (by omega) hbl
            first | refine ev_call (rcmp_ok _ _ _ _ 1 g2 g3 (by omega) (by decide)) ?_ | refine ev_callP (rcmp_ok _ _ _ _ 1 g2 g3 (by omega) (by decide)) ?_
            rintro v_20 H_20 le_20 rfl _
            replace h1 := h1.le le_20
            replace h2 := h2.le le_20
            try simp only [go_sem, Nat.reduceEqDiff, Nat.reduceAdd, Nat.reduceBEq, ↓reduceIte]
            by_cases hg1 : y.gcd z.natAbs = 1
            · refine ev_neg (by rw [hg1, cmpN_self]; decide) ?_
              rw [decide_eq_true hg1] at hro
              obtain ⟨f1, f2⟩ := mk_coprime (z := z) (y := y) (by omega) hg1
              try simp only [go_sem, Nat.reduceEqDiff, Nat.reduceAdd, Nat.reduceBEq, ↓reduceIte]
              rw [hro, hrv]
              exact ⟨by trivial, _, rfl, RRat.mk (by rw [if_pos rfl, f1]; exact h1) (by rw [if_pos rfl, f2]; exact h2)⟩
            · refine ev_pos (by unfold cmpN; split <;> (try split) <;> omega) ?_
              try simp only [go_sem, Nat.reduceEqDiff, Nat.reduceAdd, Nat.reduceBEq, ↓reduceIte]
              exact ⟨by trivial, bad (by rw [hro, decide_eq_false hg1]) _⟩

end Go.Proofs.YtccdhgjfcgfgoaaGreat.X
