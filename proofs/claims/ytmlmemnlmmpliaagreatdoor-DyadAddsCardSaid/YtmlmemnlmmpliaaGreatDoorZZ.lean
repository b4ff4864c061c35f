/- The laws of chapter 4: what they share; the first ones. -/
import Derived.Test.YtmlmemnlmmpliaaGreatDoorZA
import Derived.Test.YtmlmemnlmmpliaaGreatDoorZE
set_option linter.unusedVariables false
set_option linter.unusedSimpArgs false
namespace Go.Proofs.YtmlmemnlmmpliaaGreatDoor.X
open Go Go.RowKit Go.Proofs

theorem aliveD_ok (H : PH) (hT : Tab H) : FnP Tryz.prog 6 [] H fun v _ => v = .bool true := by
  have b1 : br (mkRat 1 3) = 2 := by decide +kernel
  have b2 : br (mkRat 1 4) = 3 := by decide +kernel
  have b3 : br (mkRat 3 8) = 4 := by decide +kernel
  refine of_cincturelaw4_alive (by simp) ?_
  try simp only [go_sem, Nat.reduceEqDiff, Nat.reduceAdd, Bool.false_eq_true, Nat.reduceBEq, ↓reduceIte, p_cincturelaw4_alive]
  first | refine ev_call (rparse'_ok _ ⟨#[49, 47, 51]⟩ (by decide)) ?_ | refine ev_callP (rparse'_ok _ ⟨#[49, 47, 51]⟩ (by decide)) ?_
  rintro v_1 H_1 le_1 ⟨va, rfl, h1⟩ _
  replace hT := hT.le le_1
  try simp only [go_sem, Nat.reduceEqDiff, Nat.reduceAdd, Bool.false_eq_true, Nat.reduceBEq, ↓reduceIte]
  rw [show bs ⟨#[49, 47, 51]⟩ = [49, 47, 51] from rfl] at h1 ⊢
  rw [al_ok, if_pos rfl, al_rv] at h1
  rw [al_ok, if_pos rfl]
  obtain ⟨A1, l1, c1, b1, B1, m1, e1, rfl⟩ := h1.form
  try simp only [go_sem, Nat.reduceEqDiff, Nat.reduceAdd, Bool.false_eq_true, Nat.reduceBEq, ↓reduceIte]
  refine ev_pos (by trivial) ?_
  try simp only [go_sem, Nat.reduceEqDiff, Nat.reduceAdd, Bool.false_eq_true, Nat.reduceBEq, ↓reduceIte]
  first | refine ev_call (down_ok _ hT _ _ 2 h1 (by omega)) ?_ | refine ev_callP (down_ok _ hT _ _ 2 h1 (by omega)) ?_
  rintro v_2 H_2 le_2 h2 _
  replace h1 := h1.le le_2
  replace hT := hT.le le_2
  try simp only [go_sem, Nat.reduceEqDiff, Nat.reduceAdd, Bool.false_eq_true, Nat.reduceBEq, ↓reduceIte]
  rw [show cb 2 = 2 by decide, al_dn] at h2
  obtain ⟨A2, l2, c2, b2, rfl⟩ := h2.form
  try simp only [go_sem, Nat.reduceEqDiff, Nat.reduceAdd, Bool.false_eq_true, Nat.reduceBEq, ↓reduceIte]
  first | refine ev_call (dtext_ok _ _ _ h2 (by omega)) ?_ | refine ev_callP (dtext_ok _ _ _ h2 (by omega)) ?_
  rintro v_3 H_3 le_3 rfl _
  replace h1 := h1.le le_3
  replace hT := hT.le le_3
  try simp only [go_sem, Nat.reduceEqDiff, Nat.reduceAdd, Bool.false_eq_true, Nat.reduceBEq, ↓reduceIte]
  rw [al_t1]
  refine ev_pos (by rfl) ?_
  try simp only [go_sem, Nat.reduceEqDiff, Nat.reduceAdd, Bool.false_eq_true, Nat.reduceBEq, ↓reduceIte]
  first | refine ev_call (up_ok _ hT _ _ 2 h1 (by omega)) ?_ | refine ev_callP (up_ok _ hT _ _ 2 h1 (by omega)) ?_
  rintro v_4 H_4 le_4 h2 _
  try simp only [go_sem, Nat.reduceEqDiff, Nat.reduceAdd, Bool.false_eq_true, Nat.reduceBEq, ↓reduceIte]
  rw [show cb 2 = 2 by decide, al_up] at h2
  obtain ⟨A2, l2, c2, b2, rfl⟩ := h2.form
  try simp only [go_sem, Nat.reduceEqDiff, Nat.reduceAdd, Bool.false_eq_true, Nat.reduceBEq, ↓reduceIte]
  first | refine ev_call (dtext_ok _ _ _ h2 (by omega)) ?_ | refine ev_callP (dtext_ok _ _ _ h2 (by omega)) ?_
  rintro v_5 H_5 le_5 rfl _
  try simp only [go_sem, Nat.reduceEqDiff, Nat.reduceAdd, Bool.false_eq_true, Nat.reduceBEq, ↓reduceIte]
  rw [al_t2]
  refine ev_pos (by rfl) ?_
  try simp only [go_sem, Nat.reduceEqDiff, Nat.reduceAdd, Bool.false_eq_true, Nat.reduceBEq, ↓reduceIte]
  exact ⟨by trivial, by trivial⟩

/-- a text is a dyadic number, not too long -/
def dok (a : ByteArray) : Bool := ratOk (bs a) && decide (a.size ≤ 100) && isDy (rv (bs a))
theorem dok_br {a : ByteArray} (h : dok a = true) : br (rv (bs a)) ≤ 401 ∧ ofB (rtx (rv (bs a))) = a ∧ ratOk (bs a) = true ∧ isDy (rv (bs a)) = true := by
  unfold dok at h
  rw [Bool.and_eq_true, Bool.and_eq_true, decide_eq_true_eq] at h
  have := rv_br h.1.1
  rw [bs_length] at this
  exact ⟨by omega, by rw [rtx_rv h.1.1, ofB_bs], h.1.1, h.2⟩
theorem numD_ok (H : PH) (hT : Tab H) (a : ByteArray) (hy : a.size ≤ 9223372036854775807) : FnP Tryz.prog 13 [.string a] H fun v H' => ∃ va ra, v = .tuple #[va, ra, .bool (dok a)] ∧ DyadV H' va (if dok a then rv (bs a) else 0) ∧ RRat H' ra (if dok a then rv (bs a) else 0) := by
  refine of_cincturelaw4_num (by simp) ?_
  try simp only [go_sem, Nat.reduceEqDiff, Nat.reduceAdd, Bool.false_eq_true, Nat.reduceBEq, ↓reduceIte, p_cincturelaw4_num]
  first | refine ev_call (rparseR_ok _ a hy) ?_ | refine ev_callP (rparseR_ok _ a hy) ?_
  rintro v_6 H_6 le_6 ⟨ra, rfl, h1⟩ _
  replace hT := hT.le le_6
  try simp only [go_sem, Nat.reduceEqDiff, Nat.reduceAdd, Bool.false_eq_true, Nat.reduceBEq, ↓reduceIte]
  obtain ⟨b1, A1, l1, c1, B1, m1, e1, rfl⟩ := h1.form
  have bad : dok a = false → ∀ H' : PH, ∃ va ra, (Value.tuple #[.agg #[.slice none 0 0, .bool false, .int .i64 0], .agg #[.bool false, .slice none 0 0, .slice none 0 0], .bool false]) = .tuple #[va, ra, .bool (dok a)] ∧ DyadV H' va (if dok a then rv (bs a) else 0) ∧ RRat H' ra (if dok a then rv (bs a) else 0) := by
    intro h H'
    rw [h]
    exact ⟨_, _, rfl, DyadV.zero _, RRat.zero _⟩
  cases hk : ratOk (bs a) with
  | false =>
    try simp only [go_sem, Nat.reduceEqDiff, Nat.reduceAdd, Bool.false_eq_true, Nat.reduceBEq, ↓reduceIte, hk]
    exact ⟨by trivial, bad (by unfold dok; rw [hk]; rfl) _⟩
  | true =>
    have hm := rv_max hk
    rw [hk, if_pos rfl] at h1
    try simp only [go_sem, Nat.reduceEqDiff, Nat.reduceAdd, Bool.false_eq_true, Nat.reduceBEq, ↓reduceIte, hk]
    refine ev_if (fun h => ?_) (fun h => ?_)
    · try simp only [go_sem, Nat.reduceEqDiff, Nat.reduceAdd, Bool.false_eq_true, Nat.reduceBEq, ↓reduceIte]
      exact ⟨by trivial, bad (by unfold dok; rw [hk, decide_eq_false (show ¬ a.size ≤ 100 by omega)]; rfl) _⟩
    · try simp only [go_sem, Nat.reduceEqDiff, Nat.reduceAdd, Bool.false_eq_true, Nat.reduceBEq, ↓reduceIte]
      first | refine ev_call (dyadicR_ok _ _ _ h1 (by omega)) ?_ | refine ev_callP (dyadicR_ok _ _ _ h1 (by omega)) ?_
      rintro v_7 H_7 le_7 rfl _
      replace h1 := h1.le le_7
      replace hT := hT.le le_7
      try simp only [go_sem, Nat.reduceEqDiff, Nat.reduceAdd, Bool.false_eq_true, Nat.reduceBEq, ↓reduceIte]
      cases hi : isDy (rv (bs a)) with
      | false =>
        try simp only [go_sem, Nat.reduceEqDiff, Nat.reduceAdd, Bool.false_eq_true, Nat.reduceBEq, ↓reduceIte, hi]
        exact ⟨by trivial, bad (by unfold dok; rw [hk, hi, Bool.and_false]) _⟩
      | true =>
        have hn : dok a = true := by unfold dok; rw [hk, hi, decide_eq_true (show a.size ≤ 100 by omega)]; rfl
        have hp : dyOk a = true := by unfold dyOk; rw [hk, hi]; rfl
        try simp only [go_sem, Nat.reduceEqDiff, Nat.reduceAdd, Bool.false_eq_true, Nat.reduceBEq, ↓reduceIte, hi]
        first | refine ev_call (dparse_ok _ hT a hy) ?_ | refine ev_callP (dparse_ok _ hT a hy) ?_
        rintro v_8 H_8 le_8 ⟨va, rfl, h2⟩ _
        replace h1 := h1.le le_8
        try simp only [go_sem, Nat.reduceEqDiff, Nat.reduceAdd, Bool.false_eq_true, Nat.reduceBEq, ↓reduceIte]
        rw [hp, if_pos rfl] at h2
        obtain ⟨A2, l2, c2, b2, rfl⟩ := h2.form
        try simp only [go_sem, Nat.reduceEqDiff, Nat.reduceAdd, Bool.false_eq_true, Nat.reduceBEq, ↓reduceIte]
        rw [hn]
        repeat' (with_reducible refine And.intro ?_ ?_)
        all_goals first | trivial | exact ⟨_, _, rfl, h2, h1⟩

end Go.Proofs.YtmlmemnlmmpliaaGreatDoor.X
set_option linter.unusedVariables false
set_option linter.unusedSimpArgs false
namespace Go.Proofs.YtmlmemnlmmpliaaGreatDoor.X
open Go Go.RowKit Go.Proofs

set_option maxHeartbeats 8000000 in
theorem downR_ok (H : PH) (v : Value) (q : Rat) (m : Int) (hV : RRat H v q) (hb : br q ≤ 100000) : FnP Tryz.prog 10 [v, .int .i64 m] H fun v H' => RRat H' v (rndR q (cb m) false) := by
  obtain ⟨b, A, l, c, B, k, e, rfl⟩ := hV.form
  obtain ⟨hc1, hc2⟩ := cb_bd m
  obtain ⟨h1, _⟩ := hV.parts
  obtain ⟨h2, _⟩ := h1.abs
  have k1 := bi_br q
  have k2 := bl_br q
  have k3 := e0_abs q (cb m)
  refine of_cinctureref1_Down (by simp) ?_
  try simp only [go_sem, Nat.reduceEqDiff, Nat.reduceAdd, Bool.false_eq_true, Nat.reduceBEq, ↓reduceIte, p_cinctureref1_Down]
  rw [show (if 4096 < (if m < 1 then 1 else m) then 4096 else (if m < 1 then 1 else m)) = ((cb m : Nat) : Int) by unfold cb; split <;> (try split) <;> omega]
  generalize cb m = n at *
  first | refine ev_call (rsign_ok _ _ _ h1) ?_ | refine ev_callP (rsign_ok _ _ _ h1) ?_
  rintro v_1 H_1 le_1 rfl _
  replace hV := hV.le le_1
  replace h1 := h1.le le_1
  replace h2 := h2.le le_1
  try simp only [go_sem, Nat.reduceEqDiff, Nat.reduceAdd, Bool.false_eq_true, Nat.reduceBEq, ↓reduceIte]
  rw [sgnI_R]
  refine ev_if (fun h => ?_) (fun h => ?_)
  · have hz : q = 0 := by
      rcases cmpR_cases q 0 with c | c | c
      · omega
      · exact c.1
      · omega
    try simp only [go_sem, Nat.reduceEqDiff, Nat.reduceAdd, Bool.false_eq_true, Nat.reduceBEq, ↓reduceIte]
    first | refine ev_call (rratOf_ok _ 0 (by decide) (by decide)) ?_ | refine ev_callP (rratOf_ok _ 0 (by decide) (by decide)) ?_
    rintro v_2 H_2 le_2 g1 _
    try simp only [go_sem, Nat.reduceEqDiff, Nat.reduceAdd, Bool.false_eq_true, Nat.reduceBEq, ↓reduceIte]
    obtain ⟨b4, A4, l4, c4, B4, m4, e4, rfl⟩ := g1.form
    try simp only [go_sem, Nat.reduceEqDiff, Nat.reduceAdd, Bool.false_eq_true, Nat.reduceBEq, ↓reduceIte]
    rw [hz, rnd_zero]
    exact ⟨by trivial, g1⟩
  · have hz : q ≠ 0 := fun e0 => h (by rw [e0]; exact cmpR_self 0)
    try simp only [go_sem, Nat.reduceEqDiff, Nat.reduceAdd, Bool.false_eq_true, Nat.reduceBEq, ↓reduceIte]
    first | refine ev_call (rbits_ok _ _ _ h2 (by unfold bi at k1; omega)) ?_ | refine ev_callP (rbits_ok _ _ _ h2 (by unfold bi at k1; omega)) ?_
    rintro v_3 H_3 le_3 rfl _
    replace hV := hV.le le_3
    try simp only [go_sem, Nat.reduceEqDiff, Nat.reduceAdd, Bool.false_eq_true, Nat.reduceBEq, ↓reduceIte]
    first | refine ev_call (rden_okR _ _ q hV) ?_ | refine ev_callP (rden_okR _ _ q hV) ?_
    rintro v_4 H_4 le_4 g1 _
    replace hV := hV.le le_4
    try simp only [go_sem, Nat.reduceEqDiff, Nat.reduceAdd, Bool.false_eq_true, Nat.reduceBEq, ↓reduceIte]
    first | refine ev_call (rbits_ok _ _ _ g1 (by omega)) ?_ | refine ev_callP (rbits_ok _ _ _ g1 (by omega)) ?_
    rintro v_5 H_5 le_5 rfl _
    replace hV := hV.le le_5
    try simp only [go_sem, Nat.reduceEqDiff, Nat.reduceAdd, Bool.false_eq_true, Nat.reduceBEq, ↓reduceIte]
    have he : IntKind.i64.wrap (IntKind.i64.wrap ((bl q.num.natAbs : Int) - (bl q.den : Int)) - (n : Int)) = e0 q n := by
      unfold bi at k1
      rw [w64 ((bl q.num.natAbs : Int) - (bl q.den : Int)) (by omega) (by omega), w64 _ (by omega) (by omega)]
      rfl
    rw [he]
    refine ev_loop (fun n' s => ∃ H1 E, ((n' = 1 ∧ E = e0 q n) ∨ (n' = 0 ∧ E = e0 q n + 1 ∧ ¬ stop n (nq q (e0 q n)))) ∧ RRat H1 (.agg #[.bool b, .slice A l c, .slice B k e]) q ∧
      s = ⟨[(5, .v (.int .i64 E)), (4, .ptr 4 0), (2, .ptr 2 0), (1, .v (.int .i64 (n : Int)))], [(4, [.bool false, .slice none 0 0, .slice none 0 0]), (2, [.bool b, .slice A l c, .slice B k e])], H1, PH.no⟩) 1 _ ⟨_, _, .inl ⟨rfl, rfl⟩, hV, rfl⟩ ⟨rfl, by simp only [go_sem, Nat.reduceEqDiff, Nat.reduceAdd, Bool.false_eq_true, Nat.reduceBEq, ↓reduceIte, and_self, Option.some.injEq, SV.v.injEq, SV.ptr.injEq, Value.int.injEq, Value.bool.injEq, Value.slice.injEq, true_and, and_true] <;> (repeat' apply And.intro) <;> first | rfl | omega | (simp (disch := omega) only [w64, wu64, wu32, wu8] <;> omega), by simp only [go_sem, Nat.reduceEqDiff, Nat.reduceAdd, Bool.false_eq_true, Nat.reduceBEq, ↓reduceIte, and_self, Option.some.injEq, SV.v.injEq, SV.ptr.injEq, Value.int.injEq, Value.bool.injEq, Value.slice.injEq, true_and, and_true] <;> (repeat' apply And.intro) <;> rfl, rfl, PH.le.refl _⟩ ?_
    rintro n' s ⟨H1, E, hE, hV, rfl⟩
    have hEb : -200000 ≤ E ∧ E ≤ 200000 := by omega
    have hEo : E = e0 q n ∨ E = e0 q n + 1 := by omega
    have b1 := br_tw (-E)
    have b2 := br_mul q (tw (-E))
    have b4 := br_tw E
    try simp only [go_sem, Nat.reduceEqDiff, Nat.reduceAdd, Bool.false_eq_true, Nat.reduceBEq, ↓reduceIte]
    have hneg : IntKind.i64.wrap (0 - E) = -E := by rw [w64 _ (by omega) (by omega)]; omega
    refine ev_cut (fun s => ∃ H2 A6 l6 c6 b6 B6 m6 e6, RRat H2 (.agg #[.bool b, .slice A l c, .slice B k e]) q ∧ RRat H2 (.agg #[.bool b6, .slice A6 l6 c6, .slice B6 m6 e6]) (q * tw (-E)) ∧
      s = ⟨[(6, .ptr 6 0), (5, .v (.int .i64 E)), (4, .ptr 4 0), (2, .ptr 2 0), (1, .v (.int .i64 (n : Int)))], [(6, [.bool b6, .slice A6 l6 c6, .slice B6 m6 e6]), (4, [.bool false, .slice none 0 0, .slice none 0 0]), (2, [.bool b, .slice A l c, .slice B k e])], H2, PH.no⟩) ?_ ?_
    · try simp only [go_sem, Nat.reduceEqDiff, Nat.reduceAdd, Bool.false_eq_true, Nat.reduceBEq, ↓reduceIte]
      rw [hneg]
      repeat' (with_reducible refine And.intro ?_ ?_)
      all_goals
        first | refine ev_call (twoR_ok _ (-E) (by omega) (by omega)) ?_ | refine ev_callP (twoR_ok _ (-E) (by omega) (by omega)) ?_
        rintro v_6 H_6 le_6 g2 _
        replace hV := hV.le le_6
        try simp only [go_sem, Nat.reduceEqDiff, Nat.reduceAdd, Bool.false_eq_true, Nat.reduceBEq, ↓reduceIte]
        repeat' (with_reducible refine And.intro ?_ ?_)
        all_goals
          first | refine ev_call (rmulR_ok _ _ _ _ _ hV g2 (by omega)) ?_ | refine ev_callP (rmulR_ok _ _ _ _ _ hV g2 (by omega)) ?_
          rintro v_7 H_7 le_7 g3 _
          replace hV := hV.le le_7
          try simp only [go_sem, Nat.reduceEqDiff, Nat.reduceAdd, Bool.false_eq_true, Nat.reduceBEq, ↓reduceIte]
          obtain ⟨b6, A6, l6, c6, B6, m6, e6, rfl⟩ := g3.form
          try simp only [go_sem, Nat.reduceEqDiff, Nat.reduceAdd, Bool.false_eq_true, Nat.reduceBEq, ↓reduceIte]
          exact k_cut _ ⟨_, _, _, _, _, _, _, _, hV, g3, rfl⟩ ⟨rfl, by simp only [go_sem, Nat.reduceEqDiff, Nat.reduceAdd, Bool.false_eq_true, Nat.reduceBEq, ↓reduceIte, and_self, Option.some.injEq, SV.v.injEq, SV.ptr.injEq, Value.int.injEq, Value.bool.injEq, Value.slice.injEq, true_and, and_true] <;> (repeat' apply And.intro) <;> first | rfl | omega | (simp (disch := omega) only [w64, wu64, wu32, wu8] <;> omega), by simp only [go_sem, Nat.reduceEqDiff, Nat.reduceAdd, Bool.false_eq_true, Nat.reduceBEq, ↓reduceIte, and_self, Option.some.injEq, SV.v.injEq, SV.ptr.injEq, Value.int.injEq, Value.bool.injEq, Value.slice.injEq, true_and, and_true] <;> (repeat' apply And.intro) <;> rfl, rfl, PH.le.refl _⟩
    · rintro s ⟨H2, A6, l6, c6, b6, B6, m6, e6, hV, h3, rfl⟩
      obtain ⟨h4, _⟩ := h3.parts
      have hfd := nq_floor q E
      have b3 := bi_nq hz hc1 hEo
      have d1 := bi_br (q * tw (-E))
      have d2 := bl_br (q * tw (-E))
      have d3 := (q * tw (-E)).den_nz
      try simp only [go_sem, Nat.reduceEqDiff, Nat.reduceAdd, Bool.false_eq_true, Nat.reduceBEq, ↓reduceIte]
      refine ev_cut (fun s => ∃ H3 A7 l7 c7 b7, RRat H3 (.agg #[.bool b, .slice A l c, .slice B k e]) q ∧ RInt H3 (.agg #[.bool b7, .slice A7 l7 c7]) (nq q E) ∧
        s = ⟨[(7, .ptr 7 0), (5, .v (.int .i64 E)), (4, .ptr 4 0), (2, .ptr 2 0), (1, .v (.int .i64 (n : Int)))], [(7, [.bool b7, .slice A7 l7 c7]), (4, [.bool false, .slice none 0 0, .slice none 0 0]), (2, [.bool b, .slice A l c, .slice B k e])], H3, PH.no⟩) ?_ ?_
      · try simp only [go_sem, Nat.reduceEqDiff, Nat.reduceAdd, Bool.false_eq_true, Nat.reduceBEq, ↓reduceIte]
        repeat' (with_reducible refine And.intro ?_ ?_)
        all_goals
          first | refine ev_call (rden_okR _ _ _ h3) ?_ | refine ev_callP (rden_okR _ _ _ h3) ?_
          rintro v_8 H_8 le_8 g4 _
          replace hV := hV.le le_8
          replace h4 := h4.le le_8
          try simp only [go_sem, Nat.reduceEqDiff, Nat.reduceAdd, Bool.false_eq_true, Nat.reduceBEq, ↓reduceIte]
          repeat' (with_reducible refine And.intro ?_ ?_)
          all_goals
            first | refine ev_call (rpos_ok _ _ _ g4) ?_ | refine ev_callP (rpos_ok _ _ _ g4) ?_
            rintro v_9 H_9 le_9 g5 _
            replace hV := hV.le le_9
            replace h4 := h4.le le_9
            try simp only [go_sem, Nat.reduceEqDiff, Nat.reduceAdd, Bool.false_eq_true, Nat.reduceBEq, ↓reduceIte]
            repeat' (with_reducible refine And.intro ?_ ?_)
            all_goals
              first | refine ev_call (rdivI_ok _ _ _ _ _ h4 g5 (by omega) (by rw [bi_cast]; omega) (by omega)) ?_ | refine ev_callP (rdivI_ok _ _ _ _ _ h4 g5 (by omega) (by rw [bi_cast]; omega) (by omega)) ?_
              rintro v_10 H_10 le_10 ⟨vq, vr, rfl, g6, g7⟩ _
              replace hV := hV.le le_10
              try simp only [go_sem, Nat.reduceEqDiff, Nat.reduceAdd, Bool.false_eq_true, Nat.reduceBEq, ↓reduceIte]
              rw [hfd] at g6
              obtain ⟨A7, l7, c7, b7, rfl⟩ := g6.form
              obtain ⟨A8, l8, c8, b8, rfl⟩ := g7.form
              try simp only [go_sem, Nat.reduceEqDiff, Nat.reduceAdd, Bool.false_eq_true, Nat.reduceBEq, ↓reduceIte]
              repeat' (with_reducible refine And.intro ?_ ?_)
              all_goals exact k_cut _ ⟨_, _, _, _, _, hV, g6, rfl⟩ ⟨rfl, by simp only [go_sem, Nat.reduceEqDiff, Nat.reduceAdd, Bool.false_eq_true, Nat.reduceBEq, ↓reduceIte, and_self, Option.some.injEq, SV.v.injEq, SV.ptr.injEq, Value.int.injEq, Value.bool.injEq, Value.slice.injEq, true_and, and_true] <;> (repeat' apply And.intro) <;> first | rfl | omega | (simp (disch := omega) only [w64, wu64, wu32, wu8] <;> omega), by simp only [go_sem, Nat.reduceEqDiff, Nat.reduceAdd, Bool.false_eq_true, Nat.reduceBEq, ↓reduceIte, and_self, Option.some.injEq, SV.v.injEq, SV.ptr.injEq, Value.int.injEq, Value.bool.injEq, Value.slice.injEq, true_and, and_true] <;> (repeat' apply And.intro) <;> rfl, rfl, PH.le.refl _⟩
      · rintro s ⟨H3, A7, l7, c7, b7, hV, h5, rfl⟩
        obtain ⟨h6, _⟩ := h5.abs
        have hb6 : bl (nq q E).natAbs ≤ n + 3 := b3
        have b5 := br_int (nq q E)
        try simp only [go_sem, Nat.reduceEqDiff, Nat.reduceAdd, Bool.false_eq_true, Nat.reduceBEq, ↓reduceIte]
        first | refine ev_call (rbits_ok _ _ _ h6 (by omega)) ?_ | refine ev_callP (rbits_ok _ _ _ h6 (by omega)) ?_
        rintro v_11 H_11 le_11 rfl _
        replace hV := hV.le le_11
        replace h5 := h5.le le_11
        replace h6 := h6.le le_11
        try simp only [go_sem, Nat.reduceEqDiff, Nat.reduceAdd, Bool.false_eq_true, Nat.reduceBEq, ↓reduceIte]
        have hv : stop n (nq q E) → (nq q E : Rat) * tw E = rndR q n false := by
          intro hs
          rcases hE with ⟨_, rfl⟩ | ⟨_, rfl, hns⟩
          · exact ref_stop hz hc1 hs
          · exact (ref_next hz hns).2
        refine ev_if (fun h => ?_) (fun h => ?_)
        · have hval := hv (.inl (by omega))
          try simp only [go_sem, Nat.reduceEqDiff, Nat.reduceAdd, Bool.false_eq_true, Nat.reduceBEq, ↓reduceIte]
          first | refine ev_call (rnatOf_ok _ 1 (by decide)) ?_ | refine ev_callP (rnatOf_ok _ 1 (by decide)) ?_
          rintro v_12 H_12 le_12 g4 _
          replace h5 := h5.le le_12
          try simp only [go_sem, Nat.reduceEqDiff, Nat.reduceAdd, Bool.false_eq_true, Nat.reduceBEq, ↓reduceIte]
          obtain ⟨A8, l8, c8, rfl, _⟩ := g4.form
          have g5 := RRat.int h5 g4
          try simp only [go_sem, Nat.reduceEqDiff, Nat.reduceAdd, Bool.false_eq_true, Nat.reduceBEq, ↓reduceIte]
          first | refine ev_call (twoR_ok _ E (by omega) (by omega)) ?_ | refine ev_callP (twoR_ok _ E (by omega) (by omega)) ?_
          rintro v_13 H_13 le_13 g6 _
          replace g5 := g5.le le_13
          try simp only [go_sem, Nat.reduceEqDiff, Nat.reduceAdd, Bool.false_eq_true, Nat.reduceBEq, ↓reduceIte]
          first | refine ev_call (rmulR_ok _ _ _ _ _ g5 g6 (by omega)) ?_ | refine ev_callP (rmulR_ok _ _ _ _ _ g5 g6 (by omega)) ?_
          rintro v_14 H_14 le_14 g7 _
          try simp only [go_sem, Nat.reduceEqDiff, Nat.reduceAdd, Bool.false_eq_true, Nat.reduceBEq, ↓reduceIte]
          obtain ⟨b9, A9, l9, c9, B9, m9, e9, rfl⟩ := g7.form
          rw [hval] at g7
          try simp only [go_sem, Nat.reduceEqDiff, Nat.reduceAdd, Bool.false_eq_true, Nat.reduceBEq, ↓reduceIte]
          exact ⟨by trivial, g7⟩
        · try simp only [go_sem, Nat.reduceEqDiff, Nat.reduceAdd, Bool.false_eq_true, Nat.reduceBEq, ↓reduceIte]
          first | refine ev_call (rzeros_ok _ _ _ h6 (by omega)) ?_ | refine ev_callP (rzeros_ok _ _ _ h6 (by omega)) ?_
          rintro v_15 H_15 le_15 rfl _
          replace hV := hV.le le_15
          replace h5 := h5.le le_15
          replace h6 := h6.le le_15
          try simp only [go_sem, Nat.reduceEqDiff, Nat.reduceAdd, Bool.false_eq_true, Nat.reduceBEq, ↓reduceIte]
          first | refine ev_call (rbits_ok _ _ _ h6 (by omega)) ?_ | refine ev_callP (rbits_ok _ _ _ h6 (by omega)) ?_
          rintro v_16 H_16 le_16 rfl _
          replace hV := hV.le le_16
          replace h5 := h5.le le_16
          replace h6 := h6.le le_16
          try simp only [go_sem, Nat.reduceEqDiff, Nat.reduceAdd, Bool.false_eq_true, Nat.reduceBEq, ↓reduceIte]
          rw [w64 ((bl (nq q E).natAbs : Int) - 1) (by omega) (by omega)]
          refine ev_if (fun h9 => ?_) (fun h9 => ?_)
          · have hval := hv (.inr (by omega))
            try simp only [go_sem, Nat.reduceEqDiff, Nat.reduceAdd, Bool.false_eq_true, Nat.reduceBEq, ↓reduceIte]
            first | refine ev_call (rnatOf_ok _ 1 (by decide)) ?_ | refine ev_callP (rnatOf_ok _ 1 (by decide)) ?_
            rintro v_12 H_12 le_12 g4 _
            replace h5 := h5.le le_12
            try simp only [go_sem, Nat.reduceEqDiff, Nat.reduceAdd, Bool.false_eq_true, Nat.reduceBEq, ↓reduceIte]
            obtain ⟨A8, l8, c8, rfl, _⟩ := g4.form
            have g5 := RRat.int h5 g4
            try simp only [go_sem, Nat.reduceEqDiff, Nat.reduceAdd, Bool.false_eq_true, Nat.reduceBEq, ↓reduceIte]
            first | refine ev_call (twoR_ok _ E (by omega) (by omega)) ?_ | refine ev_callP (twoR_ok _ E (by omega) (by omega)) ?_
            rintro v_13 H_13 le_13 g6 _
            replace g5 := g5.le le_13
            try simp only [go_sem, Nat.reduceEqDiff, Nat.reduceAdd, Bool.false_eq_true, Nat.reduceBEq, ↓reduceIte]
            first | refine ev_call (rmulR_ok _ _ _ _ _ g5 g6 (by omega)) ?_ | refine ev_callP (rmulR_ok _ _ _ _ _ g5 g6 (by omega)) ?_
            rintro v_14 H_14 le_14 g7 _
            try simp only [go_sem, Nat.reduceEqDiff, Nat.reduceAdd, Bool.false_eq_true, Nat.reduceBEq, ↓reduceIte]
            obtain ⟨b9, A9, l9, c9, B9, m9, e9, rfl⟩ := g7.form
            rw [hval] at g7
            try simp only [go_sem, Nat.reduceEqDiff, Nat.reduceAdd, Bool.false_eq_true, Nat.reduceBEq, ↓reduceIte]
            exact ⟨by trivial, g7⟩
          · have hns : ¬ stop n (nq q E) := by
              unfold stop
              omega
            rcases hE with ⟨rfl, rfl⟩ | ⟨rfl, rfl, hns2⟩
            · try simp only [go_sem, Nat.reduceEqDiff, Nat.reduceAdd, Bool.false_eq_true, Nat.reduceBEq, ↓reduceIte]
              rw [w64 (e0 q n + 1) (by omega) (by omega)]
              exact k_next 0 _ (by omega) ⟨_, _, .inr ⟨rfl, rfl, hns⟩, hV, rfl⟩ ⟨rfl, by simp only [go_sem, Nat.reduceEqDiff, Nat.reduceAdd, Bool.false_eq_true, Nat.reduceBEq, ↓reduceIte, and_self, Option.some.injEq, SV.v.injEq, SV.ptr.injEq, Value.int.injEq, Value.bool.injEq, Value.slice.injEq, true_and, and_true] <;> (repeat' apply And.intro) <;> first | rfl | omega | (simp (disch := omega) only [w64, wu64, wu32, wu8] <;> omega), by simp only [go_sem, Nat.reduceEqDiff, Nat.reduceAdd, Bool.false_eq_true, Nat.reduceBEq, ↓reduceIte, and_self, Option.some.injEq, SV.v.injEq, SV.ptr.injEq, Value.int.injEq, Value.bool.injEq, Value.slice.injEq, true_and, and_true] <;> (repeat' apply And.intro) <;> rfl, rfl, PH.le.refl _⟩
            · exact absurd (ref_next hz hns2).1 hns

theorem upR_ok (H : PH) (v : Value) (q : Rat) (m : Int) (hV : RRat H v q) (hb : br q ≤ 100000) : FnP Tryz.prog 12 [v, .int .i64 m] H fun v H' => RRat H' v (rndR q (cb m) true) := by
  obtain ⟨b, A, l, c, B, k, e, rfl⟩ := hV.form
  refine of_cinctureref1_Up (by simp) ?_
  try simp only [go_sem, Nat.reduceEqDiff, Nat.reduceAdd, Bool.false_eq_true, Nat.reduceBEq, ↓reduceIte, p_cinctureref1_Up]
  first | refine ev_call (rnegR_ok _ _ q hV) ?_ | refine ev_callP (rnegR_ok _ _ q hV) ?_
  rintro v_17 H_17 le_17 g1 _
  try simp only [go_sem, Nat.reduceEqDiff, Nat.reduceAdd, Bool.false_eq_true, Nat.reduceBEq, ↓reduceIte]
  first | refine ev_call (downR_ok _ _ (-q) m g1 (by rw [br_neg]; exact hb)) ?_ | refine ev_callP (downR_ok _ _ (-q) m g1 (by rw [br_neg]; exact hb)) ?_
  rintro v_18 H_18 le_18 g2 _
  try simp only [go_sem, Nat.reduceEqDiff, Nat.reduceAdd, Bool.false_eq_true, Nat.reduceBEq, ↓reduceIte]
  first | refine ev_call (rnegR_ok _ _ _ g2) ?_ | refine ev_callP (rnegR_ok _ _ _ g2) ?_
  rintro v_19 H_19 le_19 g3 _
  try simp only [go_sem, Nat.reduceEqDiff, Nat.reduceAdd, Bool.false_eq_true, Nat.reduceBEq, ↓reduceIte]
  rw [rnd_neg, Rat.neg_neg] at g3
  obtain ⟨b9, A9, l9, c9, B9, m9, e9, rfl⟩ := g3.form
  try simp only [go_sem, Nat.reduceEqDiff, Nat.reduceAdd, Bool.false_eq_true, Nat.reduceBEq, ↓reduceIte]
  exact ⟨by trivial, g3⟩

theorem DyadRounds_ok (H : PH) (hT : Tab H) (a : ByteArray) (ha : a.size ≤ 9223372036854775807) (bits : Int) (wb : (Lit.int .i64 bits).wf = true) : FnP Tryz.prog 3 [.string a, .int .i64 bits] H fun v _ => v = .bool true := by
  refine of_cincturelaw4_DyadRounds (by simp) ?_
  try simp only [go_sem, Nat.reduceEqDiff, Nat.reduceAdd, Bool.false_eq_true, Nat.reduceBEq, ↓reduceIte, p_cincturelaw4_DyadRounds]
  first | refine ev_call (numQ_ok _ a ha) ?_ | refine ev_callP (numQ_ok _ a ha) ?_
  rintro v_20 H_20 le_20 ⟨va, ra, rfl, h1, h2⟩ _
  replace hT := hT.le le_20
  try simp only [go_sem, Nat.reduceEqDiff, Nat.reduceAdd, Bool.false_eq_true, Nat.reduceBEq, ↓reduceIte]
  obtain ⟨A1, l1, c1, b1, B1, m1, e1, rfl⟩ := h1.form
  obtain ⟨b2, A2, l2, c2, B2, m2, e2, rfl⟩ := h2.form
  cases hk : qok a with
  | false =>
    try simp only [go_sem, Nat.reduceEqDiff, Nat.reduceAdd, Bool.false_eq_true, Nat.reduceBEq, ↓reduceIte, hk]
    first | refine ev_call (aliveD_ok _ hT) ?_ | refine ev_callP (aliveD_ok _ hT) ?_
    rintro v_21 H_21 le_21 rfl _
    try simp only [go_sem, Nat.reduceEqDiff, Nat.reduceAdd, Bool.false_eq_true, Nat.reduceBEq, ↓reduceIte]
    exact ⟨by trivial, by trivial⟩
  | true =>
    rw [hk, if_pos rfl] at h1 h2
    obtain ⟨hbx, _, _⟩ := qok_br hk
    generalize rv (bs a) = x at *
    try simp only [go_sem, Nat.reduceEqDiff, Nat.reduceAdd, Bool.false_eq_true, Nat.reduceBEq, ↓reduceIte, hk]
    first | refine ev_call (aliveD_ok _ hT) ?_ | refine ev_callP (aliveD_ok _ hT) ?_
    rintro v_22 H_22 le_22 rfl _
    replace h1 := h1.le le_22
    replace h2 := h2.le le_22
    replace hT := hT.le le_22
    try simp only [go_sem, Nat.reduceEqDiff, Nat.reduceAdd, Bool.false_eq_true, Nat.reduceBEq, ↓reduceIte]
    refine ev_if (fun h => ?_) (fun h => ?_)
    · try simp only [go_sem, Nat.reduceEqDiff, Nat.reduceAdd, Bool.false_eq_true, Nat.reduceBEq, ↓reduceIte]
      obtain ⟨w, hw⟩ : ∃ w : Int, w = 200 := ⟨_, rfl⟩
      rw [← hw]
      have hcw := cb_bd w
      have s1 := br_rnd x hcw.1 false
      have s2 := br_rnd x hcw.1 true
      first | refine ev_call (down_ok _ hT _ x w h1 (by omega)) ?_ | refine ev_callP (down_ok _ hT _ x w h1 (by omega)) ?_
      rintro v_23 H_23 le_23 g1 _
      replace h1 := h1.le le_23
      replace h2 := h2.le le_23
      replace hT := hT.le le_23
      try simp only [go_sem, Nat.reduceEqDiff, Nat.reduceAdd, Bool.false_eq_true, Nat.reduceBEq, ↓reduceIte]
      first | refine ev_call (dtext_ok _ _ _ g1 (by omega)) ?_ | refine ev_callP (dtext_ok _ _ _ g1 (by omega)) ?_
      rintro v_24 H_24 le_24 rfl _
      replace h1 := h1.le le_24
      replace h2 := h2.le le_24
      replace hT := hT.le le_24
      try simp only [go_sem, Nat.reduceEqDiff, Nat.reduceAdd, Bool.false_eq_true, Nat.reduceBEq, ↓reduceIte]
      first | refine ev_call (downR_ok _ _ x w h2 (by omega)) ?_ | refine ev_callP (downR_ok _ _ x w h2 (by omega)) ?_
      rintro v_25 H_25 le_25 g2 _
      replace h1 := h1.le le_25
      replace h2 := h2.le le_25
      replace hT := hT.le le_25
      try simp only [go_sem, Nat.reduceEqDiff, Nat.reduceAdd, Bool.false_eq_true, Nat.reduceBEq, ↓reduceIte]
      first | refine ev_call (rtextR_ok _ _ _ g2 (by omega)) ?_ | refine ev_callP (rtextR_ok _ _ _ g2 (by omega)) ?_
      rintro v_26 H_26 le_26 rfl _
      replace h1 := h1.le le_26
      replace h2 := h2.le le_26
      replace hT := hT.le le_26
      try simp only [go_sem, Nat.reduceEqDiff, Nat.reduceAdd, Bool.false_eq_true, Nat.reduceBEq, ↓reduceIte]
      refine ev_pos (by trivial) ?_
      try simp only [go_sem, Nat.reduceEqDiff, Nat.reduceAdd, Bool.false_eq_true, Nat.reduceBEq, ↓reduceIte]
      first | refine ev_call (up_ok _ hT _ x w h1 (by omega)) ?_ | refine ev_callP (up_ok _ hT _ x w h1 (by omega)) ?_
      rintro v_27 H_27 le_27 g1 _
      replace h2 := h2.le le_27
      try simp only [go_sem, Nat.reduceEqDiff, Nat.reduceAdd, Bool.false_eq_true, Nat.reduceBEq, ↓reduceIte]
      first | refine ev_call (dtext_ok _ _ _ g1 (by omega)) ?_ | refine ev_callP (dtext_ok _ _ _ g1 (by omega)) ?_
      rintro v_28 H_28 le_28 rfl _
      replace h2 := h2.le le_28
      try simp only [go_sem, Nat.reduceEqDiff, Nat.reduceAdd, Bool.false_eq_true, Nat.reduceBEq, ↓reduceIte]
      first | refine ev_call (upR_ok _ _ x w h2 (by omega)) ?_ | refine ev_callP (upR_ok _ _ x w h2 (by omega)) ?_
      rintro v_29 H_29 le_29 g2 _
      try simp only [go_sem, Nat.reduceEqDiff, Nat.reduceAdd, Bool.false_eq_true, Nat.reduceBEq, ↓reduceIte]
      first | refine ev_call (rtextR_ok _ _ _ g2 (by omega)) ?_ | refine ev_callP (rtextR_ok _ _ _ g2 (by omega)) ?_
      rintro v_30 H_30 le_30 rfl _
      try simp only [go_sem, Nat.reduceEqDiff, Nat.reduceAdd, Bool.false_eq_true, Nat.reduceBEq, ↓reduceIte]
      refine ev_pos (by trivial) ?_
      try simp only [go_sem, Nat.reduceEqDiff, Nat.reduceAdd, Bool.false_eq_true, Nat.reduceBEq, ↓reduceIte]
      exact ⟨by trivial, by trivial⟩
    · try simp only [go_sem, Nat.reduceEqDiff, Nat.reduceAdd, Bool.false_eq_true, Nat.reduceBEq, ↓reduceIte]
      obtain ⟨w, hw⟩ : ∃ w : Int, w = bits := ⟨_, rfl⟩
      rw [← hw]
      have hcw := cb_bd w
      have s1 := br_rnd x hcw.1 false
      have s2 := br_rnd x hcw.1 true
      first | refine ev_call (down_ok _ hT _ x w h1 (by omega)) ?_ | refine ev_callP (down_ok _ hT _ x w h1 (by omega)) ?_
      rintro v_23 H_23 le_23 g1 _
      replace h1 := h1.le le_23
      replace h2 := h2.le le_23
      replace hT := hT.le le_23
      try simp only [go_sem, Nat.reduceEqDiff, Nat.reduceAdd, Bool.false_eq_true, Nat.reduceBEq, ↓reduceIte]
      first | refine ev_call (dtext_ok _ _ _ g1 (by omega)) ?_ | refine ev_callP (dtext_ok _ _ _ g1 (by omega)) ?_
      rintro v_24 H_24 le_24 rfl _
      replace h1 := h1.le le_24
      replace h2 := h2.le le_24
      replace hT := hT.le le_24
      try simp only [go_sem, Nat.reduceEqDiff, Nat.reduceAdd, Bool.false_eq_true, Nat.reduceBEq, ↓reduceIte]
      first | refine ev_call (downR_ok _ _ x w h2 (by omega)) ?_ | refine ev_callP (downR_ok _ _ x w h2 (by omega)) ?_
      rintro v_25 H_25 le_25 g2 _
      replace h1 := h1.le le_25
      replace h2 := h2.le le_25
      replace hT := hT.le le_25
      try simp only [go_sem, Nat.reduceEqDiff, Nat.reduceAdd, Bool.false_eq_true, Nat.reduceBEq, ↓reduceIte]
      first | refine ev_call (rtextR_ok _ _ _ g2 (by omega)) ?_ | refine ev_callP (rtextR_ok _ _ _ g2 (by omega)) ?_
      rintro v_26 H_26 le_26 rfl _
      replace h1 := h1.le le_26
      replace h2 := h2.le le_26
      replace hT := hT.le le_26
      try simp only [go_sem, Nat.reduceEqDiff, Nat.reduceAdd, Bool.false_eq_true, Nat.reduceBEq, ↓reduceIte]
      refine ev_pos (by trivial) ?_
      try simp only [go_sem, Nat.reduceEqDiff, Nat.reduceAdd, Bool.false_eq_true, Nat.reduceBEq, ↓reduceIte]
      first | refine ev_call (up_ok _ hT _ x w h1 (by omega)) ?_ | refine ev_callP (up_ok _ hT _ x w h1 (by omega)) ?_
      rintro v_27 H_27 le_27 g1 _
      replace h2 := h2.le le_27
      try simp only [go_sem, Nat.reduceEqDiff, Nat.reduceAdd, Bool.false_eq_true, Nat.reduceBEq, ↓reduceIte]
      first | refine ev_call (dtext_ok _ _ _ g1 (by omega)) ?_ | refine ev_callP (dtext_ok _ _ _ g1 (by omega)) ?_
      rintro v_28 H_28 le_28 rfl _
      replace h2 := h2.le le_28
      try simp only [go_sem, Nat.reduceEqDiff, Nat.reduceAdd, Bool.false_eq_true, Nat.reduceBEq, ↓reduceIte]
      first | refine ev_call (upR_ok _ _ x w h2 (by omega)) ?_ | refine ev_callP (upR_ok _ _ x w h2 (by omega)) ?_
      rintro v_29 H_29 le_29 g2 _
      try simp only [go_sem, Nat.reduceEqDiff, Nat.reduceAdd, Bool.false_eq_true, Nat.reduceBEq, ↓reduceIte]
      first | refine ev_call (rtextR_ok _ _ _ g2 (by omega)) ?_ | refine ev_callP (rtextR_ok _ _ _ g2 (by omega)) ?_
      rintro v_30 H_30 le_30 rfl _
      try simp only [go_sem, Nat.reduceEqDiff, Nat.reduceAdd, Bool.false_eq_true, Nat.reduceBEq, ↓reduceIte]
      refine ev_pos (by trivial) ?_
      try simp only [go_sem, Nat.reduceEqDiff, Nat.reduceAdd, Bool.false_eq_true, Nat.reduceBEq, ↓reduceIte]
      exact ⟨by trivial, by trivial⟩

theorem DyadAdds_ok (H : PH) (hT : Tab H) (a : ByteArray) (ha : a.size ≤ 9223372036854775807) (b : ByteArray) (hb : b.size ≤ 9223372036854775807) : FnP Tryz.prog 4 [.string a, .string b] H fun v _ => v = .bool true := by
  refine of_cincturelaw4_DyadAdds (by simp) ?_
  try simp only [go_sem, Nat.reduceEqDiff, Nat.reduceAdd, Bool.false_eq_true, Nat.reduceBEq, ↓reduceIte, p_cincturelaw4_DyadAdds]
  first | refine ev_call (numD_ok _ hT a ha) ?_ | refine ev_callP (numD_ok _ hT a ha) ?_
  rintro v_31 H_31 le_31 ⟨va, ra, rfl, h1, h2⟩ _
  replace hT := hT.le le_31
  try simp only [go_sem, Nat.reduceEqDiff, Nat.reduceAdd, Bool.false_eq_true, Nat.reduceBEq, ↓reduceIte]
  obtain ⟨A1, l1, c1, b1, rfl⟩ := h1.form
  obtain ⟨b2, A2, l2, c2, B2, m2, e2, rfl⟩ := h2.form
  try simp only [go_sem, Nat.reduceEqDiff, Nat.reduceAdd, Bool.false_eq_true, Nat.reduceBEq, ↓reduceIte]
  first | refine ev_call (numD_ok _ hT b hb) ?_ | refine ev_callP (numD_ok _ hT b hb) ?_
  rintro v_32 H_32 le_32 ⟨vb, rb, rfl, h3, h4⟩ _
  replace h1 := h1.le le_32
  replace h2 := h2.le le_32
  replace hT := hT.le le_32
  try simp only [go_sem, Nat.reduceEqDiff, Nat.reduceAdd, Bool.false_eq_true, Nat.reduceBEq, ↓reduceIte]
  obtain ⟨A3, l3, c3, b3, rfl⟩ := h3.form
  obtain ⟨b4, A4, l4, c4, B4, m4, e4, rfl⟩ := h4.form
  cases hk : dok a with
  | false =>
    try simp only [go_sem, Nat.reduceEqDiff, Nat.reduceAdd, Bool.false_eq_true, Nat.reduceBEq, ↓reduceIte, hk]
    first | refine ev_call (aliveD_ok _ hT) ?_ | refine ev_callP (aliveD_ok _ hT) ?_
    rintro v_21 H_21 le_21 rfl _
    try simp only [go_sem, Nat.reduceEqDiff, Nat.reduceAdd, Bool.false_eq_true, Nat.reduceBEq, ↓reduceIte]
    exact ⟨by trivial, by trivial⟩
  | true =>
    cases hk2 : dok b with
    | false =>
      try simp only [go_sem, Nat.reduceEqDiff, Nat.reduceAdd, Bool.false_eq_true, Nat.reduceBEq, ↓reduceIte, hk, hk2]
      first | refine ev_call (aliveD_ok _ hT) ?_ | refine ev_callP (aliveD_ok _ hT) ?_
      rintro v_21 H_21 le_21 rfl _
      try simp only [go_sem, Nat.reduceEqDiff, Nat.reduceAdd, Bool.false_eq_true, Nat.reduceBEq, ↓reduceIte]
      exact ⟨by trivial, by trivial⟩
    | true =>
      rw [hk, if_pos rfl] at h1 h2
      rw [hk2, if_pos rfl] at h3 h4
      obtain ⟨hbx, _, _, hdx⟩ := dok_br hk
      obtain ⟨hby, _, _, hdy⟩ := dok_br hk2
      generalize rv (bs a) = x at *
      generalize rv (bs b) = y at *
      have s1 := br_add x y
      have s2 := br_div (x + y) 2
      have s3 : br 2 = 2 := by decide +kernel
      have s4 := br_sub x y
      have s5 := br_mul x y
      try simp only [go_sem, Nat.reduceEqDiff, Nat.reduceAdd, Bool.false_eq_true, Nat.reduceBEq, ↓reduceIte, hk, hk2]
      first | refine ev_call (aliveD_ok _ hT) ?_ | refine ev_callP (aliveD_ok _ hT) ?_
      rintro v_33 H_33 le_33 rfl _
      replace h1 := h1.le le_33
      replace h2 := h2.le le_33
      replace h3 := h3.le le_33
      replace h4 := h4.le le_33
      replace hT := hT.le le_33
      try simp only [go_sem, Nat.reduceEqDiff, Nat.reduceAdd, Bool.false_eq_true, Nat.reduceBEq, ↓reduceIte]
      first | refine ev_call (dadd_ok _ hT _ _ x y h1 h3 (by omega)) ?_ | refine ev_callP (dadd_ok _ hT _ _ x y h1 h3 (by omega)) ?_
      rintro v_34 H_34 le_34 g1 _
      replace h1 := h1.le le_34
      replace h2 := h2.le le_34
      replace h3 := h3.le le_34
      replace h4 := h4.le le_34
      replace hT := hT.le le_34
      try simp only [go_sem, Nat.reduceEqDiff, Nat.reduceAdd, Bool.false_eq_true, Nat.reduceBEq, ↓reduceIte]
      first | refine ev_call (dtext_ok _ _ _ g1 (by omega)) ?_ | refine ev_callP (dtext_ok _ _ _ g1 (by omega)) ?_
      rintro v_35 H_35 le_35 rfl _
      replace h1 := h1.le le_35
      replace h2 := h2.le le_35
      replace h3 := h3.le le_35
      replace h4 := h4.le le_35
      replace hT := hT.le le_35
      try simp only [go_sem, Nat.reduceEqDiff, Nat.reduceAdd, Bool.false_eq_true, Nat.reduceBEq, ↓reduceIte]
      first | refine ev_call (raddR_ok _ _ _ x y h2 h4 (by omega)) ?_ | refine ev_callP (raddR_ok _ _ _ x y h2 h4 (by omega)) ?_
      rintro v_36 H_36 le_36 g2 _
      replace h1 := h1.le le_36
      replace h2 := h2.le le_36
      replace h3 := h3.le le_36
      replace h4 := h4.le le_36
      replace hT := hT.le le_36
      try simp only [go_sem, Nat.reduceEqDiff, Nat.reduceAdd, Bool.false_eq_true, Nat.reduceBEq, ↓reduceIte]
      first | refine ev_call (rtextR_ok _ _ _ g2 (by omega)) ?_ | refine ev_callP (rtextR_ok _ _ _ g2 (by omega)) ?_
      rintro v_37 H_37 le_37 rfl _
      replace h1 := h1.le le_37
      replace h2 := h2.le le_37
      replace h3 := h3.le le_37
      replace h4 := h4.le le_37
      replace hT := hT.le le_37
      try simp only [go_sem, Nat.reduceEqDiff, Nat.reduceAdd, Bool.false_eq_true, Nat.reduceBEq, ↓reduceIte]
      refine ev_pos (by trivial) ?_
      try simp only [go_sem, Nat.reduceEqDiff, Nat.reduceAdd, Bool.false_eq_true, Nat.reduceBEq, ↓reduceIte]
      first | refine ev_call (dsub_ok _ hT _ _ x y h1 h3 (by omega)) ?_ | refine ev_callP (dsub_ok _ hT _ _ x y h1 h3 (by omega)) ?_
      rintro v_38 H_38 le_38 g1 _
      replace h1 := h1.le le_38
      replace h2 := h2.le le_38
      replace h3 := h3.le le_38
      replace h4 := h4.le le_38
      replace hT := hT.le le_38
      try simp only [go_sem, Nat.reduceEqDiff, Nat.reduceAdd, Bool.false_eq_true, Nat.reduceBEq, ↓reduceIte]
      first | refine ev_call (dtext_ok _ _ _ g1 (by omega)) ?_ | refine ev_callP (dtext_ok _ _ _ g1 (by omega)) ?_
      rintro v_39 H_39 le_39 rfl _
      replace h1 := h1.le le_39
      replace h2 := h2.le le_39
      replace h3 := h3.le le_39
      replace h4 := h4.le le_39
      replace hT := hT.le le_39
      try simp only [go_sem, Nat.reduceEqDiff, Nat.reduceAdd, Bool.false_eq_true, Nat.reduceBEq, ↓reduceIte]
      first | refine ev_call (rsubR_ok _ _ _ x y h2 h4 (by omega)) ?_ | refine ev_callP (rsubR_ok _ _ _ x y h2 h4 (by omega)) ?_
      rintro v_40 H_40 le_40 g2 _
      replace h1 := h1.le le_40
      replace h2 := h2.le le_40
      replace h3 := h3.le le_40
      replace h4 := h4.le le_40
      replace hT := hT.le le_40
      try simp only [go_sem, Nat.reduceEqDiff, Nat.reduceAdd, Bool.false_eq_true, Nat.reduceBEq, ↓reduceIte]
      first | refine ev_call (rtextR_ok _ _ _ g2 (by omega)) ?_ | refine ev_callP (rtextR_ok _ _ _ g2 (by omega)) ?_
      rintro v_41 H_41 le_41 rfl _
      replace h1 := h1.le le_41
      replace h2 := h2.le le_41
      replace h3 := h3.le le_41
      replace h4 := h4.le le_41
      replace hT := hT.le le_41
      try simp only [go_sem, Nat.reduceEqDiff, Nat.reduceAdd, Bool.false_eq_true, Nat.reduceBEq, ↓reduceIte]
      refine ev_pos (by trivial) ?_
      try simp only [go_sem, Nat.reduceEqDiff, Nat.reduceAdd, Bool.false_eq_true, Nat.reduceBEq, ↓reduceIte]
      first | refine ev_call (dmul_ok _ hT _ _ x y h1 h3 (by omega)) ?_ | refine ev_callP (dmul_ok _ hT _ _ x y h1 h3 (by omega)) ?_
      rintro v_42 H_42 le_42 g1 _
      replace h1 := h1.le le_42
      replace h2 := h2.le le_42
      replace h3 := h3.le le_42
      replace h4 := h4.le le_42
      replace hT := hT.le le_42
      try simp only [go_sem, Nat.reduceEqDiff, Nat.reduceAdd, Bool.false_eq_true, Nat.reduceBEq, ↓reduceIte]
      first | refine ev_call (dtext_ok _ _ _ g1 (by omega)) ?_ | refine ev_callP (dtext_ok _ _ _ g1 (by omega)) ?_
      rintro v_43 H_43 le_43 rfl _
      replace h1 := h1.le le_43
      replace h2 := h2.le le_43
      replace h3 := h3.le le_43
      replace h4 := h4.le le_43
      replace hT := hT.le le_43
      try simp only [go_sem, Nat.reduceEqDiff, Nat.reduceAdd, Bool.false_eq_true, Nat.reduceBEq, ↓reduceIte]
      first | refine ev_call (rmulR_ok _ _ _ x y h2 h4 (by omega)) ?_ | refine ev_callP (rmulR_ok _ _ _ x y h2 h4 (by omega)) ?_
      rintro v_44 H_44 le_44 g2 _
      replace h1 := h1.le le_44
      replace h2 := h2.le le_44
      replace h3 := h3.le le_44
      replace h4 := h4.le le_44
      replace hT := hT.le le_44
      try simp only [go_sem, Nat.reduceEqDiff, Nat.reduceAdd, Bool.false_eq_true, Nat.reduceBEq, ↓reduceIte]
      first | refine ev_call (rtextR_ok _ _ _ g2 (by omega)) ?_ | refine ev_callP (rtextR_ok _ _ _ g2 (by omega)) ?_
      rintro v_45 H_45 le_45 rfl _
      replace h1 := h1.le le_45
      replace h2 := h2.le le_45
      replace h3 := h3.le le_45
      replace h4 := h4.le le_45
      replace hT := hT.le le_45
      try simp only [go_sem, Nat.reduceEqDiff, Nat.reduceAdd, Bool.false_eq_true, Nat.reduceBEq, ↓reduceIte]
      refine ev_pos (by trivial) ?_
      try simp only [go_sem, Nat.reduceEqDiff, Nat.reduceAdd, Bool.false_eq_true, Nat.reduceBEq, ↓reduceIte]
      first | refine ev_call (dmid_ok _ hT _ _ x y h1 h3 (by omega)) ?_ | refine ev_callP (dmid_ok _ hT _ _ x y h1 h3 (by omega)) ?_
      rintro v_46 H_46 le_46 g1 _
      replace h1 := h1.le le_46
      replace h2 := h2.le le_46
      replace h3 := h3.le le_46
      replace h4 := h4.le le_46
      replace hT := hT.le le_46
      try simp only [go_sem, Nat.reduceEqDiff, Nat.reduceAdd, Bool.false_eq_true, Nat.reduceBEq, ↓reduceIte]
      first | refine ev_call (dtext_ok _ _ _ g1 (by omega)) ?_ | refine ev_callP (dtext_ok _ _ _ g1 (by omega)) ?_
      rintro v_47 H_47 le_47 rfl _
      replace h1 := h1.le le_47
      replace h2 := h2.le le_47
      replace h3 := h3.le le_47
      replace h4 := h4.le le_47
      replace hT := hT.le le_47
      try simp only [go_sem, Nat.reduceEqDiff, Nat.reduceAdd, Bool.false_eq_true, Nat.reduceBEq, ↓reduceIte]
      first | refine ev_call (raddR_ok _ _ _ x y h2 h4 (by omega)) ?_ | refine ev_callP (raddR_ok _ _ _ x y h2 h4 (by omega)) ?_
      rintro v_48 H_48 le_48 g2 _
      replace h1 := h1.le le_48
      replace h2 := h2.le le_48
      replace h3 := h3.le le_48
      replace h4 := h4.le le_48
      replace hT := hT.le le_48
      try simp only [go_sem, Nat.reduceEqDiff, Nat.reduceAdd, Bool.false_eq_true, Nat.reduceBEq, ↓reduceIte]
      first | refine ev_call (halfR_ok _ _ _ g2 (by omega)) ?_ | refine ev_callP (halfR_ok _ _ _ g2 (by omega)) ?_
      rintro v_49 H_49 le_49 g3 _
      replace h1 := h1.le le_49
      replace h2 := h2.le le_49
      replace h3 := h3.le le_49
      replace h4 := h4.le le_49
      replace hT := hT.le le_49
      try simp only [go_sem, Nat.reduceEqDiff, Nat.reduceAdd, Bool.false_eq_true, Nat.reduceBEq, ↓reduceIte]
      first | refine ev_call (rtextR_ok _ _ _ g3 (by omega)) ?_ | refine ev_callP (rtextR_ok _ _ _ g3 (by omega)) ?_
      rintro v_50 H_50 le_50 rfl _
      replace h1 := h1.le le_50
      replace h2 := h2.le le_50
      replace h3 := h3.le le_50
      replace h4 := h4.le le_50
      replace hT := hT.le le_50
      try simp only [go_sem, Nat.reduceEqDiff, Nat.reduceAdd, Bool.false_eq_true, Nat.reduceBEq, ↓reduceIte]
      refine ev_pos (by trivial) ?_
      try simp only [go_sem, Nat.reduceEqDiff, Nat.reduceAdd, Bool.false_eq_true, Nat.reduceBEq, ↓reduceIte]
      first | refine ev_call (dcmp_ok _ hT _ _ x y h1 h3 (by omega)) ?_ | refine ev_callP (dcmp_ok _ hT _ _ x y h1 h3 (by omega)) ?_
      rintro v_51 H_51 le_51 rfl _
      replace h2 := h2.le le_51
      replace h4 := h4.le le_51
      try simp only [go_sem, Nat.reduceEqDiff, Nat.reduceAdd, Bool.false_eq_true, Nat.reduceBEq, ↓reduceIte]
      first | refine ev_call (rcmpRR_ok _ _ _ x y h2 h4 (by omega)) ?_ | refine ev_callP (rcmpRR_ok _ _ _ x y h2 h4 (by omega)) ?_
      rintro v_52 H_52 le_52 rfl _
      try simp only [go_sem, Nat.reduceEqDiff, Nat.reduceAdd, Bool.false_eq_true, Nat.reduceBEq, ↓reduceIte]
      refine ev_pos (by trivial) ?_
      try simp only [go_sem, Nat.reduceEqDiff, Nat.reduceAdd, Bool.false_eq_true, Nat.reduceBEq, ↓reduceIte]
      exact ⟨by trivial, by trivial⟩

end Go.Proofs.YtmlmemnlmmpliaaGreatDoor.X
