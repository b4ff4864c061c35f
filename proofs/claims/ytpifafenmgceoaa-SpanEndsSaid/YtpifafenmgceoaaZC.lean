/- The law SpanEnds: every end is come to. -/
import Derived.Test.YtpifafenmgceoaaZZ
set_option linter.unusedVariables false
set_option linter.unusedSimpArgs false
namespace Go.Proofs.Ytpifafenmgceoaa.X
open Go Go.RowKit Go.Proofs

theorem ev_ldMV {X : XT} {s : St} {K : St → Prop} {d : Nat} {p : Value} {agg : Bool} {n b off : Nat} {cs : Array Value} {T : TypeId} {fz : Nat × Nat} {v : Value} (hp : p = .pointer (some ⟨b, off, none⟩)) (hM : s.M b = some (.cells cs T fz)) (hv : ldv agg n off cs.toList = some v) (k : X (s.put d (.v v)) K) : EvLd agg n p d X s K :=
  ⟨b, off, cs, T, fz, v, hp, .inr hM, hv, k⟩
def two2 (p q : Rat) (i : Nat) : Rat := if i = 0 then p else q
theorem br_two {p q : Rat} {n : Nat} (h : br p ≤ n) (k : br q ≤ n) (i : Nat) : br (two2 p q i) ≤ n := by unfold two2; split <;> assumption
theorem mulLo_in (p q u w : Rat) : ∃ a b, a < 2 ∧ b < 2 ∧ mulLo p q u w = two2 p q a * two2 u w b := by
  unfold mulLo
  rcases minR_cases (minR (p * u) (q * w)) (minR (p * w) (q * u)) with h | h <;> rw [h]
  · rcases minR_cases (p * u) (q * w) with k | k <;> rw [k]
    · exact ⟨0, 0, by decide, by decide, rfl⟩
    · exact ⟨1, 1, by decide, by decide, rfl⟩
  · rcases minR_cases (p * w) (q * u) with k | k <;> rw [k]
    · exact ⟨0, 1, by decide, by decide, rfl⟩
    · exact ⟨1, 0, by decide, by decide, rfl⟩
theorem mulHi_in (p q u w : Rat) : ∃ a b, a < 2 ∧ b < 2 ∧ mulHi p q u w = two2 p q a * two2 u w b := by
  unfold mulHi
  rcases maxR_cases (maxR (p * u) (q * w)) (maxR (p * w) (q * u)) with h | h <;> rw [h]
  · rcases maxR_cases (p * u) (q * w) with k | k <;> rw [k]
    · exact ⟨0, 0, by decide, by decide, rfl⟩
    · exact ⟨1, 1, by decide, by decide, rfl⟩
  · rcases maxR_cases (p * w) (q * u) with k | k <;> rw [k]
    · exact ⟨0, 1, by decide, by decide, rfl⟩
    · exact ⟨1, 0, by decide, by decide, rfl⟩
/-- what of the products is told so far -/
def Told (f : Nat → Nat → Prop) (i k : Nat) (t : Bool) : Prop := ∀ a b, a < 2 → b < 2 → (a < i ∨ (a = i ∧ b < k)) → f a b → t = true
theorem Told.start {f : Nat → Nat → Prop} : Told f 0 0 false := fun a b _ _ h _ => by omega
theorem Told.next {f : Nat → Nat → Prop} {i k : Nat} {t t' : Bool} (h : Told f i k t) (h1 : t = true → t' = true) (h2 : f i k → t' = true) : Told f i (k + 1) t' := fun a b ha hb hab hf => by
  by_cases e : a = i ∧ b = k
  · obtain ⟨rfl, rfl⟩ := e
    exact h2 hf
  · exact h1 (h a b ha hb (by omega) hf)
theorem Told.row {f : Nat → Nat → Prop} {i : Nat} {t : Bool} (h : Told f i 2 t) : Told f (i + 1) 0 t := fun a b ha hb hab hf => h a b ha hb (by omega) hf

set_option maxHeartbeats 16000000 in
theorem SpanEnds_ok (H : PH) (a1 : ByteArray) (ha1 : a1.size ≤ 9223372036854775807) (a2 : ByteArray) (ha2 : a2.size ≤ 9223372036854775807) (b1 : ByteArray) (hb1 : b1.size ≤ 9223372036854775807) (b2 : ByteArray) (hb2 : b2.size ≤ 9223372036854775807) (n : Int) (wn : (Lit.int .i64 n).wf = true) : FnP Try.prog 5 [.agg #[.string a1, .string a2], .agg #[.string b1, .string b2], .int .i64 n] H fun v _ => v = .bool true := by
  have hn := i64_of_wf wn
  refine Fn.release (of_cincturelaw5_SpanEnds (by simp) ?_)
  try simp only [go_sem, Nat.reduceEqDiff, Nat.reduceAdd, Bool.false_eq_true, Nat.reduceBEq, ↓reduceIte, p_cincturelaw5_SpanEnds]
  first | refine ev_call (ofS_ok _ a1 a2 ha1 ha2) ?_ | refine ev_callP (ofS_ok _ a1 a2 ha1 ha2) ?_
  rintro v_1 H_1 le_1 ⟨va, ra, rfl, h1, h2⟩ _
  try simp only [go_sem, Nat.reduceEqDiff, Nat.reduceAdd, Bool.false_eq_true, Nat.reduceBEq, ↓reduceIte]
  obtain ⟨A1, l1, c1, t1, B1, m1, e1, A1', l1', c1', t1', B1', m1', e1', rfl⟩ := h1.form
  obtain ⟨t2, A2, l2, c2, B2, m2, e2, t2', A2', l2', c2', B2', m2', e2', rfl⟩ := h2.form
  try simp only [go_sem, Nat.reduceEqDiff, Nat.reduceAdd, Bool.false_eq_true, Nat.reduceBEq, ↓reduceIte]
  first | refine ev_call (ofS_ok _ b1 b2 hb1 hb2) ?_ | refine ev_callP (ofS_ok _ b1 b2 hb1 hb2) ?_
  rintro v_2 H_2 le_2 ⟨vb, rb, rfl, h3, h4⟩ _
  replace h1 := h1.le le_2
  replace h2 := h2.le le_2
  try simp only [go_sem, Nat.reduceEqDiff, Nat.reduceAdd, Bool.false_eq_true, Nat.reduceBEq, ↓reduceIte]
  obtain ⟨A3, l3, c3, t3, B3, m3, e3, A3', l3', c3', t3', B3', m3', e3', rfl⟩ := h3.form
  obtain ⟨t4, A4, l4, c4, B4, m4, e4, t4', A4', l4', c4', B4', m4', e4', rfl⟩ := h4.form
  try simp only [go_sem, Nat.reduceEqDiff, Nat.reduceAdd, Bool.false_eq_true, Nat.reduceBEq, ↓reduceIte]
  cases hk : soOk a1 a2 with
  | false =>
    try simp only [go_sem, Nat.reduceEqDiff, Nat.reduceAdd, Bool.false_eq_true, Nat.reduceBEq, ↓reduceIte, hk]
    first | refine ev_call (aliveS_ok _) ?_ | refine ev_callP (aliveS_ok _) ?_
    rintro v_3 H_3 le_3 rfl _
    try simp only [go_sem, Nat.reduceEqDiff, Nat.reduceAdd, Bool.false_eq_true, Nat.reduceBEq, ↓reduceIte]
    exact fun _ => by trivial
  | true =>
    cases hk2 : soOk b1 b2 with
    | false =>
      try simp only [go_sem, Nat.reduceEqDiff, Nat.reduceAdd, Bool.false_eq_true, Nat.reduceBEq, ↓reduceIte, hk, hk2]
      first | refine ev_call (aliveS_ok _) ?_ | refine ev_callP (aliveS_ok _) ?_
      rintro v_3 H_3 le_3 rfl _
      try simp only [go_sem, Nat.reduceEqDiff, Nat.reduceAdd, Bool.false_eq_true, Nat.reduceBEq, ↓reduceIte]
      exact fun _ => by trivial
    | true =>
      rw [hk, if_pos rfl, if_pos rfl] at h1 h2
      rw [hk2, if_pos rfl, if_pos rfl] at h3 h4
      obtain ⟨kp, kq, hpq, htp, htq, _, _, _⟩ := soOk_br hk
      obtain ⟨kr, ks, hrs, htr, hts, _, _, _⟩ := soOk_br hk2
      generalize rv (bs a1) = p at *
      generalize rv (bs a2) = q at *
      generalize rv (bs b1) = u at *
      generalize rv (bs b2) = w at *
      try simp only [go_sem, Nat.reduceEqDiff, Nat.reduceAdd, Bool.false_eq_true, Nat.reduceBEq, ↓reduceIte, hk, hk2]
      first | refine ev_call (aliveS_ok _) ?_ | refine ev_callP (aliveS_ok _) ?_
      rintro v_4 H_4 le_4 rfl _
      replace h1 := h1.le le_4
      replace h3 := h3.le le_4
      try simp only [go_sem, Nat.reduceEqDiff, Nat.reduceAdd, Bool.false_eq_true, Nat.reduceBEq, ↓reduceIte]
      first | refine ev_call (within_ok _ n 1 5 (by omega) (by omega) (by decide) (by decide) (by decide)) ?_ | refine ev_callP (within_ok _ n 1 5 (by omega) (by omega) (by decide) (by decide) (by decide)) ?_
      rintro v_5 H_5 le_5 rfl _
      replace h1 := h1.le le_5
      replace h3 := h3.le le_5
      try simp only [go_sem, Nat.reduceEqDiff, Nat.reduceAdd, Bool.false_eq_true, Nat.reduceBEq, ↓reduceIte]
      have hw := @wth_bd n 1 5 (by decide)
      generalize wth n 1 5 = N at *
      have hN : expN N ≤ 5 := by unfold expN; omega
      have o1 : expN N * br p ≤ 5 * br p := Nat.mul_le_mul_right _ hN
      have o2 : expN N * br q ≤ 5 * br q := Nat.mul_le_mul_right _ hN
      have s1 := br_mulLo p q u w
      have s2 := br_mulHi p q u w
      have s3 := br_powLo p q (expN N)
      have s4 := br_powHi p q (expN N)
      have s5 := br_pow p (expN N)
      have s6 := br_pow q (expN N)
      first | refine ev_call (smul_ok _ _ _ p q u w h1 h3 (by omega)) ?_ | refine ev_callP (smul_ok _ _ _ p q u w h1 h3 (by omega)) ?_
      rintro v_6 H_6 le_6 h5 _
      replace h1 := h1.le le_6
      replace h3 := h3.le le_6
      try simp only [go_sem, Nat.reduceEqDiff, Nat.reduceAdd, Bool.false_eq_true, Nat.reduceBEq, ↓reduceIte]
      obtain ⟨A5, l5, c5, t5, B5, m5, e5, A5', l5', c5', t5', B5', m5', e5', rfl⟩ := h5.form
      try simp only [go_sem, Nat.reduceEqDiff, Nat.reduceAdd, Bool.false_eq_true, Nat.reduceBEq, ↓reduceIte]
      first | refine ev_call (spow_ok _ _ p q N h1 (by omega)) ?_ | refine ev_callP (spow_ok _ _ p q N h1 (by omega)) ?_
      rintro v_7 H_7 le_7 h6 _
      replace h1 := h1.le le_7
      replace h3 := h3.le le_7
      replace h5 := h5.le le_7
      try simp only [go_sem, Nat.reduceEqDiff, Nat.reduceAdd, Bool.false_eq_true, Nat.reduceBEq, ↓reduceIte]
      obtain ⟨A6, l6, c6, t6, B6, m6, e6, A6', l6', c6', t6', B6', m6', e6', rfl⟩ := h6.form
      try simp only [go_sem, Nat.reduceEqDiff, Nat.reduceAdd, Bool.false_eq_true, Nat.reduceBEq, ↓reduceIte]
      refine ev_bslV fun g hg1 hg2 => ?_
      try simp only [go_sem, Nat.reduceEqDiff, Nat.reduceAdd, Bool.false_eq_true, Nat.reduceBEq, ↓reduceIte]
      refine ev_loop (fun n' s => ∃ (i : Nat) (H1 : PH) (lo hi : Bool), i ≤ 2 ∧ n' = 2 - i ∧ Told (fun a b => mulLo p q u w = two2 p q a * two2 u w b) i 0 lo ∧ Told (fun a b => mulHi p q u w = two2 p q a * two2 u w b) i 0 hi ∧
        SpanV H1 (.agg #[.slice A1 l1 c1, .bool t1, .slice B1 m1 e1, .slice A1' l1' c1', .bool t1', .slice B1' m1' e1']) p q ∧ SpanV H1 (.agg #[.slice A3 l3 c3, .bool t3, .slice B3 m3 e3, .slice A3' l3' c3', .bool t3', .slice B3' m3' e3']) u w ∧
        SpanV H1 (.agg #[.slice A5 l5 c5, .bool t5, .slice B5 m5 e5, .slice A5' l5' c5', .bool t5', .slice B5' m5' e5']) (mulLo p q u w) (mulHi p q u w) ∧ SpanV H1 (.agg #[.slice A6 l6 c6, .bool t6, .slice B6 m6 e6, .slice A6' l6' c6', .bool t6', .slice B6' m6' e6']) (powLo p q (expN N)) (powHi p q (expN N)) ∧
        s = ⟨[(59, .v (.int .i64 (i : Int))), (58, .v (.int .i64 ((2 : Nat) : Int))), (57, .v (.slice (some ⟨g, 0, none⟩) 2 2)), (16, .v (.bool hi)), (15, .v (.bool lo)), (14, .ptr 14 0), (13, .ptr 13 0), (10, .ptr 10 0), (7, .ptr 7 0), (2, .v (.int .i64 N))],
          [(14, [.slice A6 l6 c6, .bool t6, .slice B6 m6 e6, .slice A6' l6' c6', .bool t6', .slice B6' m6' e6']), (13, [.slice A5 l5 c5, .bool t5, .slice B5 m5 e5, .slice A5' l5' c5', .bool t5', .slice B5' m5' e5']), (10, [.slice A3 l3 c3, .bool t3, .slice B3 m3 e3, .slice A3' l3' c3', .bool t3', .slice B3' m3' e3']), (7, [.slice A1 l1 c1, .bool t1, .slice B1 m1 e1, .slice A1' l1' c1', .bool t1', .slice B1' m1' e1'])],
          H1, PH.no.set g (.cells [.slice A1 l1 c1, .bool t1, .slice B1 m1 e1, .slice A1' l1' c1', .bool t1', .slice B1' m1' e1'].toArray 30 (0, 0))⟩) 2 _ ⟨0, _, false, false, by decide, rfl, .start, .start, h1, h3, h5, h6, rfl⟩ ⟨rfl, by simp only [go_sem, Nat.reduceEqDiff, Nat.reduceAdd, Bool.false_eq_true, Nat.reduceBEq, ↓reduceIte, and_self, Option.some.injEq, SV.v.injEq, SV.ptr.injEq, Value.int.injEq, Value.bool.injEq, Value.slice.injEq, true_and, and_true] <;> (repeat' apply And.intro) <;> first | rfl | omega | (simp (disch := omega) only [w64, wu64, wu32, wu8] <;> omega), by simp only [go_sem, Nat.reduceEqDiff, Nat.reduceAdd, Bool.false_eq_true, Nat.reduceBEq, ↓reduceIte, and_self, Option.some.injEq, SV.v.injEq, SV.ptr.injEq, Value.int.injEq, Value.bool.injEq, Value.slice.injEq, true_and, and_true] <;> (repeat' apply And.intro) <;> rfl, rfl, PH.le.refl _⟩ ?_
      clear h1 h2 h3 h4 h5 h6
      rintro n' s ⟨i, H1, lo, hi, hi2, hn', hlo, hhi, h1, h3, h5, h6, rfl⟩
      obtain ⟨x1, x2⟩ := h1.parts
      try simp only [go_sem, Nat.reduceEqDiff, Nat.reduceAdd, Bool.false_eq_true, Nat.reduceBEq, ↓reduceIte]
      refine ev_if (fun hlt => ?_) (fun hlt => ?_)
      · try simp only [go_sem, Nat.reduceEqDiff, Nat.reduceAdd, Bool.false_eq_true, Nat.reduceBEq, ↓reduceIte]
        have hi1 : i < 2 := by omega
        refine ev_ia rfl (by omega) (by omega) ?_
        try simp only [go_sem, Nat.reduceEqDiff, Nat.reduceAdd, Bool.false_eq_true, Nat.reduceBEq, ↓reduceIte]
        have hx : ∃ A7 l7 c7 t7 B7 m7 e7, ldv true 3 ((i : Int).toNat * 3) [Value.slice A1 l1 c1, .bool t1, .slice B1 m1 e1, .slice A1' l1' c1', .bool t1', .slice B1' m1' e1'] = some (.agg #[.slice A7 l7 c7, .bool t7, .slice B7 m7 e7]) ∧ RatV H1 (.agg #[.slice A7 l7 c7, .bool t7, .slice B7 m7 e7]) (two2 p q i) := by
          match i, hi1 with
          | 0, _ => exact ⟨_, _, _, _, _, _, _, rfl, x1⟩
          | 1, _ => exact ⟨_, _, _, _, _, _, _, rfl, x2⟩
        obtain ⟨A7, l7, c7, t7, B7, m7, e7, hld, h7⟩ := hx
        refine ev_ldMV rfl (PH.set_self _ _ _) hld ?_
        try simp only [go_sem, Nat.reduceEqDiff, Nat.reduceAdd, Bool.false_eq_true, Nat.reduceBEq, ↓reduceIte]
        refine ev_bslV fun g2 hg3 hg4 => ?_
        try simp only [go_sem, Nat.reduceEqDiff, Nat.reduceAdd, Bool.false_eq_true, Nat.reduceBEq, ↓reduceIte]
        have hne : g2 ≠ g := fun e0 => by
          rw [e0] at hg4
          exact absurd ((PH.set_self PH.no g _).symm.trans hg4) (by simp)
        refine ev_loop (fun n' s => ∃ (k : Nat) (H2 : PH) (lo hi : Bool), k ≤ 2 ∧ n' = 2 - k ∧ Told (fun a b => mulLo p q u w = two2 p q a * two2 u w b) i k lo ∧ Told (fun a b => mulHi p q u w = two2 p q a * two2 u w b) i k hi ∧
          SpanV H2 (.agg #[.slice A1 l1 c1, .bool t1, .slice B1 m1 e1, .slice A1' l1' c1', .bool t1', .slice B1' m1' e1']) p q ∧ SpanV H2 (.agg #[.slice A3 l3 c3, .bool t3, .slice B3 m3 e3, .slice A3' l3' c3', .bool t3', .slice B3' m3' e3']) u w ∧
          SpanV H2 (.agg #[.slice A5 l5 c5, .bool t5, .slice B5 m5 e5, .slice A5' l5' c5', .bool t5', .slice B5' m5' e5']) (mulLo p q u w) (mulHi p q u w) ∧ SpanV H2 (.agg #[.slice A6 l6 c6, .bool t6, .slice B6 m6 e6, .slice A6' l6' c6', .bool t6', .slice B6' m6' e6']) (powLo p q (expN N)) (powHi p q (expN N)) ∧
          RatV H2 (.agg #[.slice A7 l7 c7, .bool t7, .slice B7 m7 e7]) (two2 p q i) ∧
          s = ⟨[(69, .v (.int .i64 (k : Int))), (68, .v (.int .i64 ((2 : Nat) : Int))), (67, .v (.slice (some ⟨g2, 0, none⟩) 2 2)), (59, .v (.int .i64 (i : Int))), (58, .v (.int .i64 ((2 : Nat) : Int))), (57, .v (.slice (some ⟨g, 0, none⟩) 2 2)), (18, .ptr 18 0), (16, .v (.bool hi)), (15, .v (.bool lo)), (14, .ptr 14 0), (13, .ptr 13 0), (10, .ptr 10 0), (7, .ptr 7 0), (2, .v (.int .i64 N))],
            [(18, [.slice A7 l7 c7, .bool t7, .slice B7 m7 e7]), (14, [.slice A6 l6 c6, .bool t6, .slice B6 m6 e6, .slice A6' l6' c6', .bool t6', .slice B6' m6' e6']), (13, [.slice A5 l5 c5, .bool t5, .slice B5 m5 e5, .slice A5' l5' c5', .bool t5', .slice B5' m5' e5']), (10, [.slice A3 l3 c3, .bool t3, .slice B3 m3 e3, .slice A3' l3' c3', .bool t3', .slice B3' m3' e3']), (7, [.slice A1 l1 c1, .bool t1, .slice B1 m1 e1, .slice A1' l1' c1', .bool t1', .slice B1' m1' e1'])],
            H2, (PH.no.set g (.cells [.slice A1 l1 c1, .bool t1, .slice B1 m1 e1, .slice A1' l1' c1', .bool t1', .slice B1' m1' e1'].toArray 30 (0, 0))).set g2 (.cells [.slice A3 l3 c3, .bool t3, .slice B3 m3 e3, .slice A3' l3' c3', .bool t3', .slice B3' m3' e3'].toArray 30 (0, 0))⟩) 2 _ ⟨0, _, lo, hi, by decide, rfl, hlo, hhi, h1, h3, h5, h6, h7, rfl⟩ ⟨rfl, by simp only [go_sem, Nat.reduceEqDiff, Nat.reduceAdd, Bool.false_eq_true, Nat.reduceBEq, ↓reduceIte, and_self, Option.some.injEq, SV.v.injEq, SV.ptr.injEq, Value.int.injEq, Value.bool.injEq, Value.slice.injEq, true_and, and_true] <;> (repeat' apply And.intro) <;> first | rfl | omega | (simp (disch := omega) only [w64, wu64, wu32, wu8] <;> omega), by simp only [go_sem, Nat.reduceEqDiff, Nat.reduceAdd, Bool.false_eq_true, Nat.reduceBEq, ↓reduceIte, and_self, Option.some.injEq, SV.v.injEq, SV.ptr.injEq, Value.int.injEq, Value.bool.injEq, Value.slice.injEq, true_and, and_true] <;> (repeat' apply And.intro) <;> rfl, rfl, PH.le.refl _⟩ ?_
        clear h1 h3 h5 h6 h7 hlo hhi x1 x2
        rintro n' s ⟨k, H2, lo, hi, hk2, hn', hlo, hhi, h1, h3, h5, h6, h7, rfl⟩
        obtain ⟨x1, x2⟩ := h3.parts
        try simp only [go_sem, Nat.reduceEqDiff, Nat.reduceAdd, Bool.false_eq_true, Nat.reduceBEq, ↓reduceIte]
        refine ev_if (fun hlt2 => ?_) (fun hlt2 => ?_)
        · try simp only [go_sem, Nat.reduceEqDiff, Nat.reduceAdd, Bool.false_eq_true, Nat.reduceBEq, ↓reduceIte]
          have hk1 : k < 2 := by omega
          refine ev_ia rfl (by omega) (by omega) ?_
          try simp only [go_sem, Nat.reduceEqDiff, Nat.reduceAdd, Bool.false_eq_true, Nat.reduceBEq, ↓reduceIte]
          have hx : ∃ A8 l8 c8 t8 B8 m8 e8, ldv true 3 ((k : Int).toNat * 3) [Value.slice A3 l3 c3, .bool t3, .slice B3 m3 e3, .slice A3' l3' c3', .bool t3', .slice B3' m3' e3'] = some (.agg #[.slice A8 l8 c8, .bool t8, .slice B8 m8 e8]) ∧ RatV H2 (.agg #[.slice A8 l8 c8, .bool t8, .slice B8 m8 e8]) (two2 u w k) := by
            match k, hk1 with
            | 0, _ => exact ⟨_, _, _, _, _, _, _, rfl, x1⟩
            | 1, _ => exact ⟨_, _, _, _, _, _, _, rfl, x2⟩
          obtain ⟨A8, l8, c8, t8, B8, m8, e8, hld2, h8⟩ := hx
          refine ev_ldMV rfl (PH.set_self _ _ _) hld2 ?_
          try simp only [go_sem, Nat.reduceEqDiff, Nat.reduceAdd, Bool.false_eq_true, Nat.reduceBEq, ↓reduceIte]
          obtain ⟨z1, z2⟩ := h5.parts
          have q1 := br_mul (two2 p q i) (two2 u w k)
          have q2 := @br_two p q 241 kp kq i
          have q3 := @br_two u w 241 kr ks k
          cases lo with
          | true =>
            have hlo1 : true = true → true = true := fun h => h
            have hlo2 : mulLo p q u w = two2 p q i * two2 u w k → true = true := fun _ => rfl
            try simp only [go_sem, Nat.reduceEqDiff, Nat.reduceAdd, Bool.false_eq_true, Nat.reduceBEq, ↓reduceIte]
            cases hi with
            | true =>
              have hhi1 : true = true → true = true := fun h => h
              have hhi2 : mulHi p q u w = two2 p q i * two2 u w k → true = true := fun _ => rfl
              try simp only [go_sem, Nat.reduceEqDiff, Nat.reduceAdd, Bool.false_eq_true, Nat.reduceBEq, ↓reduceIte]
              try simp only [go_sem, Nat.reduceEqDiff, Nat.reduceAdd, Bool.false_eq_true, Nat.reduceBEq, ↓reduceIte]
              rw [w64 ((k : Int) + 1) (by omega) (by omega), show (k : Int) + 1 = ((k + 1 : Nat) : Int) by omega]
              refine k_next (2 - (k + 1)) _ (by omega) ⟨k + 1, _, _, _, by omega, rfl, ?_, ?_, h1, h3, h5, h6, h7, rfl⟩ ⟨rfl, by simp only [go_sem, Nat.reduceEqDiff, Nat.reduceAdd, Bool.false_eq_true, Nat.reduceBEq, ↓reduceIte, and_self, Option.some.injEq, SV.v.injEq, SV.ptr.injEq, Value.int.injEq, Value.bool.injEq, Value.slice.injEq, true_and, and_true] <;> (repeat' apply And.intro) <;> first | rfl | omega | (simp (disch := omega) only [w64, wu64, wu32, wu8] <;> omega), by simp only [go_sem, Nat.reduceEqDiff, Nat.reduceAdd, Bool.false_eq_true, Nat.reduceBEq, ↓reduceIte, and_self, Option.some.injEq, SV.v.injEq, SV.ptr.injEq, Value.int.injEq, Value.bool.injEq, Value.slice.injEq, true_and, and_true] <;> (repeat' apply And.intro) <;> rfl, rfl, PH.le.refl _⟩
              · exact hlo.next hlo1 hlo2
              · exact hhi.next hhi1 hhi2
            | false =>
              try simp only [go_sem, Nat.reduceEqDiff, Nat.reduceAdd, Bool.false_eq_true, Nat.reduceBEq, ↓reduceIte]
              first | refine ev_call (rmul'_ok _ _ _ _ _ h7 h8 (by omega)) ?_ | refine ev_callP (rmul'_ok _ _ _ _ _ h7 h8 (by omega)) ?_
              rintro v_8 H_8 le_8 g2 _
              replace h1 := h1.le le_8
              replace h3 := h3.le le_8
              replace h5 := h5.le le_8
              replace h6 := h6.le le_8
              replace h7 := h7.le le_8
              replace z2 := z2.le le_8
              try simp only [go_sem, Nat.reduceEqDiff, Nat.reduceAdd, Bool.false_eq_true, Nat.reduceBEq, ↓reduceIte]
              first | refine ev_call (rcmpR_ok _ _ _ _ _ z2 g2 (by omega)) ?_ | refine ev_callP (rcmpR_ok _ _ _ _ _ z2 g2 (by omega)) ?_
              rintro v_9 H_9 le_9 rfl _
              replace h1 := h1.le le_9
              replace h3 := h3.le le_9
              replace h5 := h5.le le_9
              replace h6 := h6.le le_9
              replace h7 := h7.le le_9
              try simp only [go_sem, Nat.reduceEqDiff, Nat.reduceAdd, Bool.false_eq_true, Nat.reduceBEq, ↓reduceIte]
              rw [cmpR_eq_iff]
              refine ev_if (fun he => ?_) (fun he => ?_)
              · have hhi1 : false = true → true = true := fun _ => rfl
                have hhi2 : mulHi p q u w = two2 p q i * two2 u w k → true = true := fun _ => rfl
                try simp only [go_sem, Nat.reduceEqDiff, Nat.reduceAdd, Bool.false_eq_true, Nat.reduceBEq, ↓reduceIte]
                rw [w64 ((k : Int) + 1) (by omega) (by omega), show (k : Int) + 1 = ((k + 1 : Nat) : Int) by omega]
                refine k_next (2 - (k + 1)) _ (by omega) ⟨k + 1, _, _, _, by omega, rfl, ?_, ?_, h1, h3, h5, h6, h7, rfl⟩ ⟨rfl, by simp only [go_sem, Nat.reduceEqDiff, Nat.reduceAdd, Bool.false_eq_true, Nat.reduceBEq, ↓reduceIte, and_self, Option.some.injEq, SV.v.injEq, SV.ptr.injEq, Value.int.injEq, Value.bool.injEq, Value.slice.injEq, true_and, and_true] <;> (repeat' apply And.intro) <;> first | rfl | omega | (simp (disch := omega) only [w64, wu64, wu32, wu8] <;> omega), by simp only [go_sem, Nat.reduceEqDiff, Nat.reduceAdd, Bool.false_eq_true, Nat.reduceBEq, ↓reduceIte, and_self, Option.some.injEq, SV.v.injEq, SV.ptr.injEq, Value.int.injEq, Value.bool.injEq, Value.slice.injEq, true_and, and_true] <;> (repeat' apply And.intro) <;> rfl, rfl, PH.le.refl _⟩
                · exact hlo.next hlo1 hlo2
                · exact hhi.next hhi1 hhi2
              · have hhi1 : false = true → false = true := fun h => h
                have hhi2 : mulHi p q u w = two2 p q i * two2 u w k → false = true := fun h => absurd h he
                try simp only [go_sem, Nat.reduceEqDiff, Nat.reduceAdd, Bool.false_eq_true, Nat.reduceBEq, ↓reduceIte]
                rw [w64 ((k : Int) + 1) (by omega) (by omega), show (k : Int) + 1 = ((k + 1 : Nat) : Int) by omega]
                refine k_next (2 - (k + 1)) _ (by omega) ⟨k + 1, _, _, _, by omega, rfl, ?_, ?_, h1, h3, h5, h6, h7, rfl⟩ ⟨rfl, by simp only [go_sem, Nat.reduceEqDiff, Nat.reduceAdd, Bool.false_eq_true, Nat.reduceBEq, ↓reduceIte, and_self, Option.some.injEq, SV.v.injEq, SV.ptr.injEq, Value.int.injEq, Value.bool.injEq, Value.slice.injEq, true_and, and_true] <;> (repeat' apply And.intro) <;> first | rfl | omega | (simp (disch := omega) only [w64, wu64, wu32, wu8] <;> omega), by simp only [go_sem, Nat.reduceEqDiff, Nat.reduceAdd, Bool.false_eq_true, Nat.reduceBEq, ↓reduceIte, and_self, Option.some.injEq, SV.v.injEq, SV.ptr.injEq, Value.int.injEq, Value.bool.injEq, Value.slice.injEq, true_and, and_true] <;> (repeat' apply And.intro) <;> rfl, rfl, PH.le.refl _⟩
                · exact hlo.next hlo1 hlo2
                · exact hhi.next hhi1 hhi2
          | false =>
            try simp only [go_sem, Nat.reduceEqDiff, Nat.reduceAdd, Bool.false_eq_true, Nat.reduceBEq, ↓reduceIte]
            first | refine ev_call (rmul'_ok _ _ _ _ _ h7 h8 (by omega)) ?_ | refine ev_callP (rmul'_ok _ _ _ _ _ h7 h8 (by omega)) ?_
            rintro v_10 H_10 le_10 g1 _
            replace h1 := h1.le le_10
            replace h3 := h3.le le_10
            replace h5 := h5.le le_10
            replace h6 := h6.le le_10
            replace h7 := h7.le le_10
            replace h8 := h8.le le_10
            replace z1 := z1.le le_10
            replace z2 := z2.le le_10
            try simp only [go_sem, Nat.reduceEqDiff, Nat.reduceAdd, Bool.false_eq_true, Nat.reduceBEq, ↓reduceIte]
            first | refine ev_call (rcmpR_ok _ _ _ _ _ z1 g1 (by omega)) ?_ | refine ev_callP (rcmpR_ok _ _ _ _ _ z1 g1 (by omega)) ?_
            rintro v_11 H_11 le_11 rfl _
            replace h1 := h1.le le_11
            replace h3 := h3.le le_11
            replace h5 := h5.le le_11
            replace h6 := h6.le le_11
            replace h7 := h7.le le_11
            replace h8 := h8.le le_11
            replace z2 := z2.le le_11
            try simp only [go_sem, Nat.reduceEqDiff, Nat.reduceAdd, Bool.false_eq_true, Nat.reduceBEq, ↓reduceIte]
            rw [cmpR_eq_iff]
            refine ev_if (fun he => ?_) (fun he => ?_)
            · have hlo1 : false = true → true = true := fun _ => rfl
              have hlo2 : mulLo p q u w = two2 p q i * two2 u w k → true = true := fun _ => rfl
              try simp only [go_sem, Nat.reduceEqDiff, Nat.reduceAdd, Bool.false_eq_true, Nat.reduceBEq, ↓reduceIte]
              cases hi with
              | true =>
                have hhi1 : true = true → true = true := fun h => h
                have hhi2 : mulHi p q u w = two2 p q i * two2 u w k → true = true := fun _ => rfl
                try simp only [go_sem, Nat.reduceEqDiff, Nat.reduceAdd, Bool.false_eq_true, Nat.reduceBEq, ↓reduceIte]
                try simp only [go_sem, Nat.reduceEqDiff, Nat.reduceAdd, Bool.false_eq_true, Nat.reduceBEq, ↓reduceIte]
                rw [w64 ((k : Int) + 1) (by omega) (by omega), show (k : Int) + 1 = ((k + 1 : Nat) : Int) by omega]
                refine k_next (2 - (k + 1)) _ (by omega) ⟨k + 1, _, _, _, by omega, rfl, ?_, ?_, h1, h3, h5, h6, h7, rfl⟩ ⟨rfl, by simp only [go_sem, Nat.reduceEqDiff, Nat.reduceAdd, Bool.false_eq_true, Nat.reduceBEq, ↓reduceIte, and_self, Option.some.injEq, SV.v.injEq, SV.ptr.injEq, Value.int.injEq, Value.bool.injEq, Value.slice.injEq, true_and, and_true] <;> (repeat' apply And.intro) <;> first | rfl | omega | (simp (disch := omega) only [w64, wu64, wu32, wu8] <;> omega), by simp only [go_sem, Nat.reduceEqDiff, Nat.reduceAdd, Bool.false_eq_true, Nat.reduceBEq, ↓reduceIte, and_self, Option.some.injEq, SV.v.injEq, SV.ptr.injEq, Value.int.injEq, Value.bool.injEq, Value.slice.injEq, true_and, and_true] <;> (repeat' apply And.intro) <;> rfl, rfl, PH.le.refl _⟩
                · exact hlo.next hlo1 hlo2
                · exact hhi.next hhi1 hhi2
              | false =>
                try simp only [go_sem, Nat.reduceEqDiff, Nat.reduceAdd, Bool.false_eq_true, Nat.reduceBEq, ↓reduceIte]
                first | refine ev_call (rmul'_ok _ _ _ _ _ h7 h8 (by omega)) ?_ | refine ev_callP (rmul'_ok _ _ _ _ _ h7 h8 (by omega)) ?_
                rintro v_8 H_8 le_8 g2 _
                replace h1 := h1.le le_8
                replace h3 := h3.le le_8
                replace h5 := h5.le le_8
                replace h6 := h6.le le_8
                replace h7 := h7.le le_8
                replace z2 := z2.le le_8
                try simp only [go_sem, Nat.reduceEqDiff, Nat.reduceAdd, Bool.false_eq_true, Nat.reduceBEq, ↓reduceIte]
                first | refine ev_call (rcmpR_ok _ _ _ _ _ z2 g2 (by omega)) ?_ | refine ev_callP (rcmpR_ok _ _ _ _ _ z2 g2 (by omega)) ?_
                rintro v_9 H_9 le_9 rfl _
                replace h1 := h1.le le_9
                replace h3 := h3.le le_9
                replace h5 := h5.le le_9
                replace h6 := h6.le le_9
                replace h7 := h7.le le_9
                try simp only [go_sem, Nat.reduceEqDiff, Nat.reduceAdd, Bool.false_eq_true, Nat.reduceBEq, ↓reduceIte]
                rw [cmpR_eq_iff]
                refine ev_if (fun he => ?_) (fun he => ?_)
                · have hhi1 : false = true → true = true := fun _ => rfl
                  have hhi2 : mulHi p q u w = two2 p q i * two2 u w k → true = true := fun _ => rfl
                  try simp only [go_sem, Nat.reduceEqDiff, Nat.reduceAdd, Bool.false_eq_true, Nat.reduceBEq, ↓reduceIte]
                  rw [w64 ((k : Int) + 1) (by omega) (by omega), show (k : Int) + 1 = ((k + 1 : Nat) : Int) by omega]
                  refine k_next (2 - (k + 1)) _ (by omega) ⟨k + 1, _, _, _, by omega, rfl, ?_, ?_, h1, h3, h5, h6, h7, rfl⟩ ⟨rfl, by simp only [go_sem, Nat.reduceEqDiff, Nat.reduceAdd, Bool.false_eq_true, Nat.reduceBEq, ↓reduceIte, and_self, Option.some.injEq, SV.v.injEq, SV.ptr.injEq, Value.int.injEq, Value.bool.injEq, Value.slice.injEq, true_and, and_true] <;> (repeat' apply And.intro) <;> first | rfl | omega | (simp (disch := omega) only [w64, wu64, wu32, wu8] <;> omega), by simp only [go_sem, Nat.reduceEqDiff, Nat.reduceAdd, Bool.false_eq_true, Nat.reduceBEq, ↓reduceIte, and_self, Option.some.injEq, SV.v.injEq, SV.ptr.injEq, Value.int.injEq, Value.bool.injEq, Value.slice.injEq, true_and, and_true] <;> (repeat' apply And.intro) <;> rfl, rfl, PH.le.refl _⟩
                  · exact hlo.next hlo1 hlo2
                  · exact hhi.next hhi1 hhi2
                · have hhi1 : false = true → false = true := fun h => h
                  have hhi2 : mulHi p q u w = two2 p q i * two2 u w k → false = true := fun h => absurd h he
                  try simp only [go_sem, Nat.reduceEqDiff, Nat.reduceAdd, Bool.false_eq_true, Nat.reduceBEq, ↓reduceIte]
                  rw [w64 ((k : Int) + 1) (by omega) (by omega), show (k : Int) + 1 = ((k + 1 : Nat) : Int) by omega]
                  refine k_next (2 - (k + 1)) _ (by omega) ⟨k + 1, _, _, _, by omega, rfl, ?_, ?_, h1, h3, h5, h6, h7, rfl⟩ ⟨rfl, by simp only [go_sem, Nat.reduceEqDiff, Nat.reduceAdd, Bool.false_eq_true, Nat.reduceBEq, ↓reduceIte, and_self, Option.some.injEq, SV.v.injEq, SV.ptr.injEq, Value.int.injEq, Value.bool.injEq, Value.slice.injEq, true_and, and_true] <;> (repeat' apply And.intro) <;> first | rfl | omega | (simp (disch := omega) only [w64, wu64, wu32, wu8] <;> omega), by simp only [go_sem, Nat.reduceEqDiff, Nat.reduceAdd, Bool.false_eq_true, Nat.reduceBEq, ↓reduceIte, and_self, Option.some.injEq, SV.v.injEq, SV.ptr.injEq, Value.int.injEq, Value.bool.injEq, Value.slice.injEq, true_and, and_true] <;> (repeat' apply And.intro) <;> rfl, rfl, PH.le.refl _⟩
                  · exact hlo.next hlo1 hlo2
                  · exact hhi.next hhi1 hhi2
            · have hlo1 : false = true → false = true := fun h => h
              have hlo2 : mulLo p q u w = two2 p q i * two2 u w k → false = true := fun h => absurd h he
              try simp only [go_sem, Nat.reduceEqDiff, Nat.reduceAdd, Bool.false_eq_true, Nat.reduceBEq, ↓reduceIte]
              cases hi with
              | true =>
                have hhi1 : true = true → true = true := fun h => h
                have hhi2 : mulHi p q u w = two2 p q i * two2 u w k → true = true := fun _ => rfl
                try simp only [go_sem, Nat.reduceEqDiff, Nat.reduceAdd, Bool.false_eq_true, Nat.reduceBEq, ↓reduceIte]
                try simp only [go_sem, Nat.reduceEqDiff, Nat.reduceAdd, Bool.false_eq_true, Nat.reduceBEq, ↓reduceIte]
                rw [w64 ((k : Int) + 1) (by omega) (by omega), show (k : Int) + 1 = ((k + 1 : Nat) : Int) by omega]
                refine k_next (2 - (k + 1)) _ (by omega) ⟨k + 1, _, _, _, by omega, rfl, ?_, ?_, h1, h3, h5, h6, h7, rfl⟩ ⟨rfl, by simp only [go_sem, Nat.reduceEqDiff, Nat.reduceAdd, Bool.false_eq_true, Nat.reduceBEq, ↓reduceIte, and_self, Option.some.injEq, SV.v.injEq, SV.ptr.injEq, Value.int.injEq, Value.bool.injEq, Value.slice.injEq, true_and, and_true] <;> (repeat' apply And.intro) <;> first | rfl | omega | (simp (disch := omega) only [w64, wu64, wu32, wu8] <;> omega), by simp only [go_sem, Nat.reduceEqDiff, Nat.reduceAdd, Bool.false_eq_true, Nat.reduceBEq, ↓reduceIte, and_self, Option.some.injEq, SV.v.injEq, SV.ptr.injEq, Value.int.injEq, Value.bool.injEq, Value.slice.injEq, true_and, and_true] <;> (repeat' apply And.intro) <;> rfl, rfl, PH.le.refl _⟩
                · exact hlo.next hlo1 hlo2
                · exact hhi.next hhi1 hhi2
              | false =>
                try simp only [go_sem, Nat.reduceEqDiff, Nat.reduceAdd, Bool.false_eq_true, Nat.reduceBEq, ↓reduceIte]
                first | refine ev_call (rmul'_ok _ _ _ _ _ h7 h8 (by omega)) ?_ | refine ev_callP (rmul'_ok _ _ _ _ _ h7 h8 (by omega)) ?_
                rintro v_8 H_8 le_8 g2 _
                replace h1 := h1.le le_8
                replace h3 := h3.le le_8
                replace h5 := h5.le le_8
                replace h6 := h6.le le_8
                replace h7 := h7.le le_8
                replace z2 := z2.le le_8
                try simp only [go_sem, Nat.reduceEqDiff, Nat.reduceAdd, Bool.false_eq_true, Nat.reduceBEq, ↓reduceIte]
                first | refine ev_call (rcmpR_ok _ _ _ _ _ z2 g2 (by omega)) ?_ | refine ev_callP (rcmpR_ok _ _ _ _ _ z2 g2 (by omega)) ?_
                rintro v_9 H_9 le_9 rfl _
                replace h1 := h1.le le_9
                replace h3 := h3.le le_9
                replace h5 := h5.le le_9
                replace h6 := h6.le le_9
                replace h7 := h7.le le_9
                try simp only [go_sem, Nat.reduceEqDiff, Nat.reduceAdd, Bool.false_eq_true, Nat.reduceBEq, ↓reduceIte]
                rw [cmpR_eq_iff]
                refine ev_if (fun he => ?_) (fun he => ?_)
                · have hhi1 : false = true → true = true := fun _ => rfl
                  have hhi2 : mulHi p q u w = two2 p q i * two2 u w k → true = true := fun _ => rfl
                  try simp only [go_sem, Nat.reduceEqDiff, Nat.reduceAdd, Bool.false_eq_true, Nat.reduceBEq, ↓reduceIte]
                  rw [w64 ((k : Int) + 1) (by omega) (by omega), show (k : Int) + 1 = ((k + 1 : Nat) : Int) by omega]
                  refine k_next (2 - (k + 1)) _ (by omega) ⟨k + 1, _, _, _, by omega, rfl, ?_, ?_, h1, h3, h5, h6, h7, rfl⟩ ⟨rfl, by simp only [go_sem, Nat.reduceEqDiff, Nat.reduceAdd, Bool.false_eq_true, Nat.reduceBEq, ↓reduceIte, and_self, Option.some.injEq, SV.v.injEq, SV.ptr.injEq, Value.int.injEq, Value.bool.injEq, Value.slice.injEq, true_and, and_true] <;> (repeat' apply And.intro) <;> first | rfl | omega | (simp (disch := omega) only [w64, wu64, wu32, wu8] <;> omega), by simp only [go_sem, Nat.reduceEqDiff, Nat.reduceAdd, Bool.false_eq_true, Nat.reduceBEq, ↓reduceIte, and_self, Option.some.injEq, SV.v.injEq, SV.ptr.injEq, Value.int.injEq, Value.bool.injEq, Value.slice.injEq, true_and, and_true] <;> (repeat' apply And.intro) <;> rfl, rfl, PH.le.refl _⟩
                  · exact hlo.next hlo1 hlo2
                  · exact hhi.next hhi1 hhi2
                · have hhi1 : false = true → false = true := fun h => h
                  have hhi2 : mulHi p q u w = two2 p q i * two2 u w k → false = true := fun h => absurd h he
                  try simp only [go_sem, Nat.reduceEqDiff, Nat.reduceAdd, Bool.false_eq_true, Nat.reduceBEq, ↓reduceIte]
                  rw [w64 ((k : Int) + 1) (by omega) (by omega), show (k : Int) + 1 = ((k + 1 : Nat) : Int) by omega]
                  refine k_next (2 - (k + 1)) _ (by omega) ⟨k + 1, _, _, _, by omega, rfl, ?_, ?_, h1, h3, h5, h6, h7, rfl⟩ ⟨rfl, by simp only [go_sem, Nat.reduceEqDiff, Nat.reduceAdd, Bool.false_eq_true, Nat.reduceBEq, ↓reduceIte, and_self, Option.some.injEq, SV.v.injEq, SV.ptr.injEq, Value.int.injEq, Value.bool.injEq, Value.slice.injEq, true_and, and_true] <;> (repeat' apply And.intro) <;> first | rfl | omega | (simp (disch := omega) only [w64, wu64, wu32, wu8] <;> omega), by simp only [go_sem, Nat.reduceEqDiff, Nat.reduceAdd, Bool.false_eq_true, Nat.reduceBEq, ↓reduceIte, and_self, Option.some.injEq, SV.v.injEq, SV.ptr.injEq, Value.int.injEq, Value.bool.injEq, Value.slice.injEq, true_and, and_true] <;> (repeat' apply And.intro) <;> rfl, rfl, PH.le.refl _⟩
                  · exact hlo.next hlo1 hlo2
                  · exact hhi.next hhi1 hhi2
        · have hk0 : k = 2 := by omega
          subst hk0
          try simp only [go_sem, Nat.reduceEqDiff, Nat.reduceAdd, Bool.false_eq_true, Nat.reduceBEq, ↓reduceIte]
          rw [w64 ((i : Int) + 1) (by omega) (by omega), show (i : Int) + 1 = ((i + 1 : Nat) : Int) by omega]
          refine k_next (2 - (i + 1)) _ (by omega) ⟨i + 1, _, _, _, by omega, rfl, hlo.row, hhi.row, h1, h3, h5, h6, rfl⟩ ⟨rfl, ?_, ?_, rfl, ?_⟩
          · simp only [go_sem, Nat.reduceEqDiff, Nat.reduceAdd, Bool.false_eq_true, Nat.reduceBEq, ↓reduceIte, and_self, Option.some.injEq, SV.v.injEq, SV.ptr.injEq, Value.int.injEq, Value.bool.injEq, Value.slice.injEq, true_and, and_true]
          · simp only [go_sem, Nat.reduceEqDiff, Nat.reduceAdd, Bool.false_eq_true, Nat.reduceBEq, ↓reduceIte, and_self, Option.some.injEq, SV.v.injEq, SV.ptr.injEq, Value.int.injEq, Value.bool.injEq, Value.slice.injEq, true_and, and_true]
          · intro b o hb
            replace hb : PH.set PH.no g _ b = some o := hb
            by_cases e0 : b = g2
            · rw [e0, PH.set_ne _ _ hne] at hb
              cases hb
            · show (PH.set _ g2 _) b = some o
              rw [PH.set_ne _ _ e0]
              exact hb
      · have hi0 : i = 2 := by omega
        subst hi0
        have hlt : lo = true := by
          obtain ⟨a, b, h7, h8, h9⟩ := mulLo_in p q u w
          exact hlo a b h7 h8 (by omega) h9
        have hht : hi = true := by
          obtain ⟨a, b, h7, h8, h9⟩ := mulHi_in p q u w
          exact hhi a b h7 h8 (by omega) h9
        subst hlt hht
        obtain ⟨z1, z2⟩ := h6.parts
        try simp only [go_sem, Nat.reduceEqDiff, Nat.reduceAdd, Bool.false_eq_true, Nat.reduceBEq, ↓reduceIte]
        first | refine ev_call (rpow'_ok _ _ q N x2 (by omega)) ?_ | refine ev_callP (rpow'_ok _ _ q N x2 (by omega)) ?_
        rintro v_13 H_13 le_13 g1 _
        replace x1 := x1.le le_13
        replace z1 := z1.le le_13
        replace z2 := z2.le le_13
        try simp only [go_sem, Nat.reduceEqDiff, Nat.reduceAdd, Bool.false_eq_true, Nat.reduceBEq, ↓reduceIte]
        first | refine ev_call (rcmpR_ok _ _ _ _ _ z2 g1 (by omega)) ?_ | refine ev_callP (rcmpR_ok _ _ _ _ _ z2 g1 (by omega)) ?_
        rintro v_14 H_14 le_14 rfl _
        replace x1 := x1.le le_14
        replace z1 := z1.le le_14
        replace z2 := z2.le le_14
        try simp only [go_sem, Nat.reduceEqDiff, Nat.reduceAdd, Bool.false_eq_true, Nat.reduceBEq, ↓reduceIte]
        rw [cmpR_eq_iff]
        refine ev_if (fun he => ?_) (fun he => ?_)
        · skip
          try simp only [go_sem, Nat.reduceEqDiff, Nat.reduceAdd, Bool.false_eq_true, Nat.reduceBEq, ↓reduceIte]
          refine ev_rem (by decide) ?_
          try simp only [go_sem, Nat.reduceEqDiff, Nat.reduceAdd, Bool.false_eq_true, Nat.reduceBEq, ↓reduceIte]
          have hmod : N.tmod 2 = 1 ∨ expN N % 2 = 0 := by
            have : N.tmod 2 = N % 2 := Int.tmod_eq_emod_of_nonneg (by omega)
            rw [this]
            unfold expN
            omega
          refine ev_if (fun he => ?_) (fun he => ?_)
          · try simp only [go_sem, Nat.reduceEqDiff, Nat.reduceAdd, Bool.false_eq_true, Nat.reduceBEq, ↓reduceIte]
            exact fun _ => by trivial
          · try simp only [go_sem, Nat.reduceEqDiff, Nat.reduceAdd, Bool.false_eq_true, Nat.reduceBEq, ↓reduceIte]
            first | refine ev_call (rsgn_ok _ _ _ z1 (by omega)) ?_ | refine ev_callP (rsgn_ok _ _ _ z1 (by omega)) ?_
            rintro v_12 H_12 le_12 rfl _
            try simp only [go_sem, Nat.reduceEqDiff, Nat.reduceAdd, Bool.false_eq_true, Nat.reduceBEq, ↓reduceIte]
            rw [sgnI_R]
            refine ev_pos (cmpR_ge (powLo_even p q (hmod.resolve_left he))) ?_
            try simp only [go_sem, Nat.reduceEqDiff, Nat.reduceAdd, Bool.false_eq_true, Nat.reduceBEq, ↓reduceIte]
            exact fun _ => by trivial
        · try simp only [go_sem, Nat.reduceEqDiff, Nat.reduceAdd, Bool.false_eq_true, Nat.reduceBEq, ↓reduceIte]
          first | refine ev_call (rpow'_ok _ _ p N x1 (by omega)) ?_ | refine ev_callP (rpow'_ok _ _ p N x1 (by omega)) ?_
          rintro v_15 H_15 le_15 g1 _
          replace z1 := z1.le le_15
          replace z2 := z2.le le_15
          try simp only [go_sem, Nat.reduceEqDiff, Nat.reduceAdd, Bool.false_eq_true, Nat.reduceBEq, ↓reduceIte]
          first | refine ev_call (rcmpR_ok _ _ _ _ _ z2 g1 (by omega)) ?_ | refine ev_callP (rcmpR_ok _ _ _ _ _ z2 g1 (by omega)) ?_
          rintro v_16 H_16 le_16 rfl _
          replace z1 := z1.le le_16
          try simp only [go_sem, Nat.reduceEqDiff, Nat.reduceAdd, Bool.false_eq_true, Nat.reduceBEq, ↓reduceIte]
          rw [cmpR_eq_iff]
          refine ev_pos ((maxR_cases (p ^ expN N) (q ^ expN N)).resolve_right he) ?_
          try simp only [go_sem, Nat.reduceEqDiff, Nat.reduceAdd, Bool.false_eq_true, Nat.reduceBEq, ↓reduceIte]
          refine ev_rem (by decide) ?_
          try simp only [go_sem, Nat.reduceEqDiff, Nat.reduceAdd, Bool.false_eq_true, Nat.reduceBEq, ↓reduceIte]
          have hmod : N.tmod 2 = 1 ∨ expN N % 2 = 0 := by
            have : N.tmod 2 = N % 2 := Int.tmod_eq_emod_of_nonneg (by omega)
            rw [this]
            unfold expN
            omega
          refine ev_if (fun he => ?_) (fun he => ?_)
          · try simp only [go_sem, Nat.reduceEqDiff, Nat.reduceAdd, Bool.false_eq_true, Nat.reduceBEq, ↓reduceIte]
            exact fun _ => by trivial
          · try simp only [go_sem, Nat.reduceEqDiff, Nat.reduceAdd, Bool.false_eq_true, Nat.reduceBEq, ↓reduceIte]
            first | refine ev_call (rsgn_ok _ _ _ z1 (by omega)) ?_ | refine ev_callP (rsgn_ok _ _ _ z1 (by omega)) ?_
            rintro v_12 H_12 le_12 rfl _
            try simp only [go_sem, Nat.reduceEqDiff, Nat.reduceAdd, Bool.false_eq_true, Nat.reduceBEq, ↓reduceIte]
            rw [sgnI_R]
            refine ev_pos (cmpR_ge (powLo_even p q (hmod.resolve_left he))) ?_
            try simp only [go_sem, Nat.reduceEqDiff, Nat.reduceAdd, Bool.false_eq_true, Nat.reduceBEq, ↓reduceIte]
            exact fun _ => by trivial

end Go.Proofs.Ytpifafenmgceoaa.X
