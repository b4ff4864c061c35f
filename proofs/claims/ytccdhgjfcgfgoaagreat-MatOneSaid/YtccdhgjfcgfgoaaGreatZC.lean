/- The reference's matrices: One, products, whether they are the same. -/
import Derived.Test.YtccdhgjfcgfgoaaGreatZZ
set_option linter.unusedVariables false
set_option linter.unusedSimpArgs false
namespace Go.Proofs.YtccdhgjfcgfgoaaGreat.X
open Go Go.RowKit Go.Proofs

theorem New.of {M : PH} {g : Nat} (hg : M g = none) : New M (some ⟨g, 0, none⟩) := by
  intro b o hb e
  injection e with e; injection e with e _; subst e
  rw [hg] at hb; cases hb

theorem refOne_ok (H : PH) (z : Int) : FnP Tryz.prog 16 [.int .i64 z] H fun v H' => ∃ A e, v = .slice A (onN z) e ∧ MatH 3 RRatC H' A (onN z) (rect (onN z) Dt.one) := by
  refine Fn.release (of_cinctureref1_One (by simp) ?_)
  try simp only [go_sem, Nat.reduceEqDiff, Nat.reduceAdd, Bool.false_eq_true, Nat.reduceBEq, ↓reduceIte, p_cinctureref1_One]
  have hz : (if (12 : Int) < (if z < 1 then (1 : Int) else z) then (12 : Int) else (if z < 1 then (1 : Int) else z)) = ((onN z : Nat) : Int) := by
    have := onN_bd z
    unfold onN
    split <;> split <;> omega
  have hN := onN_bd z
  try simp only [Bool.false_eq_true, ↓reduceIte]
  rw [hz]
  generalize onN z = N at *
  try simp only [go_sem, Nat.reduceEqDiff, Nat.reduceAdd, Bool.false_eq_true, Nat.reduceBEq, ↓reduceIte]
  refine ev_loop (fun k s => ∃ (i : Nat) (H2 M2 : PH) (A : Option Addr) (c : Nat) (ra : Nat → Option Addr) (rc : Nat → Nat), k = N - i ∧ i ≤ N ∧ PH.disj H2 M2 ∧
    MatO 3 RRatC 43 58 H2 M2 A i c ra rc (rect N Dt.one) ∧
    s = ⟨[(4, .v (.int .i64 (i : Int))), (3, .v (.slice A i c)), (0, .v (.int .i64 (N : Int)))], [], H2, M2⟩) N _ ⟨0, H, PH.no, none, 0, fun _ => none, fun _ => 0, rfl, by omega, PH.disj_no _, MatO.nil, rfl⟩ ⟨rfl, by simp only [go_sem, Nat.reduceEqDiff, Nat.reduceAdd, Bool.false_eq_true, Nat.reduceBEq, ↓reduceIte, and_self, Option.some.injEq, SV.v.injEq, SV.ptr.injEq, Value.int.injEq, Value.bool.injEq, Value.slice.injEq, true_and, and_true] <;> (repeat' apply And.intro) <;> first | rfl | omega | (simp (disch := omega) only [w64, wu64, wu32, wu8] <;> omega), by simp only [go_sem, Nat.reduceEqDiff, Nat.reduceAdd, Bool.false_eq_true, Nat.reduceBEq, ↓reduceIte, and_self, Option.some.injEq, SV.v.injEq, SV.ptr.injEq, Value.int.injEq, Value.bool.injEq, Value.slice.injEq, true_and, and_true] <;> (repeat' apply And.intro) <;> rfl, .inl ⟨rfl, PH.le.refl _⟩⟩ ?_
  rintro k s ⟨i, H2, M2, A, c, ra, rc, rfl, hi, hd2, hO2, rfl⟩
  try simp only [go_sem, Nat.reduceEqDiff, Nat.reduceAdd, Bool.false_eq_true, Nat.reduceBEq, ↓reduceIte]
  refine ev_if (fun c1 => ?_) (fun c1 => ?_)
  · try simp only [go_sem, Nat.reduceEqDiff, Nat.reduceAdd, Bool.false_eq_true, Nat.reduceBEq, ↓reduceIte]
    refine ev_mkF (w := 3) (P := RRatC) (x0 := 0) rfl (by simp [Value.oneCell']) (RRat.zero H2) (by omega) (by omega) (by omega) hd2 ?_
    intro g M3 hB hle hg hd3
    rw [Int.toNat_natCast] at hB ⊢
    try simp only [go_sem, Nat.reduceEqDiff, Nat.reduceAdd, Bool.false_eq_true, Nat.reduceBEq, ↓reduceIte]
    first | refine ev_call (rratOf_ok _ 1 (by decide) (by decide)) ?_ | refine ev_callP (rratOf_ok _ 1 (by decide) (by decide)) ?_
    rintro v_1 H_1 le_1 h6 _
    try simp only [go_sem, Nat.reduceEqDiff, Nat.reduceAdd, Bool.false_eq_true, Nat.reduceBEq, ↓reduceIte]
    have hO3 := (hO2.leH RRatC.grows (by assumption)).leM hle
    have hB := hB.leH RRatC.grows (by assumption)
    have hap := (hO2.leH RRatC.grows (by assumption)).apart (New.of hg)
    obtain ⟨b9, A9, l9, c9, B9, m9, e9, rfl⟩ := h6.form
    try simp only [go_sem, Nat.reduceEqDiff, Nat.reduceAdd, Bool.false_eq_true, Nat.reduceBEq, ↓reduceIte]
    refine ev_ia rfl (by omega) (by omega) ?_
    rw [Int.toNat_natCast]
    try simp only [go_sem, Nat.reduceEqDiff, Nat.reduceAdd, Bool.false_eq_true, Nat.reduceBEq, ↓reduceIte]
    refine ev_stOF (x := (1 : Rat)) hB (by omega) (by assumption) rfl (by simp [cellsL, Value.oneCell']) h6 ?_
    intro M4 hB4 hb4 hd4
    have hO4 := hO3.but hb4 hap
    have hd4 := hd4 _ (by assumption)
    try simp only [go_sem, Nat.reduceEqDiff, Nat.reduceAdd, Bool.false_eq_true, Nat.reduceBEq, ↓reduceIte]
    refine ev_bslF (w := 1) (P := SlC) (f := fun _ => ((some ⟨g, 0, none⟩ : Option Addr), N, N)) rfl (by omega) (one_cell rfl rfl rfl) hd4 ?_
    intro g5 M5 hO5 hle5 hg5 hd5
    try simp only [go_sem, Nat.reduceEqDiff, Nat.reduceAdd, Bool.false_eq_true, Nat.reduceBEq, ↓reduceIte]
    refine ev_appF (by decide) (hO4.top.leM hle5) (hO5.src (by decide)) rfl (by decide) (by omega) (by omega) hd5 ?_
    intro A' c' M6 hO6 hb6 hA6 hd6
    try simp only [go_sem, Nat.reduceEqDiff, Nat.reduceAdd, Bool.false_eq_true, Nat.reduceBEq, ↓reduceIte]
    rw [w64 ((i : Int) + 1) (by omega) (by omega), show (i : Int) + 1 = ((i + 1 : Nat) : Int) by omega]
    have hO7 := hO4.push hB4 hap hle5 hO6 hb6 hA6
    refine k_next (N - (i + 1)) _ (by omega) ⟨i + 1, _, M6, A', c', _, _, rfl, by omega, hd6, hO7.congr (fun a ha => ?_), rfl⟩ ⟨rfl, by simp only [go_sem, Nat.reduceEqDiff, Nat.reduceAdd, Bool.false_eq_true, Nat.reduceBEq, ↓reduceIte, and_self, Option.some.injEq, SV.v.injEq, SV.ptr.injEq, Value.int.injEq, Value.bool.injEq, Value.slice.injEq, true_and, and_true] <;> (repeat' apply And.intro) <;> first | rfl | omega | (simp (disch := omega) only [w64, wu64, wu32, wu8] <;> omega), by simp only [go_sem, Nat.reduceEqDiff, Nat.reduceAdd, Bool.false_eq_true, Nat.reduceBEq, ↓reduceIte, and_self, Option.some.injEq, SV.v.injEq, SV.ptr.injEq, Value.int.injEq, Value.bool.injEq, Value.slice.injEq, true_and, and_true] <;> (repeat' apply And.intro) <;> rfl, .inl ⟨rfl, PH.le.refl _⟩⟩
    try dsimp only
    by_cases e : a = i
    · subst e
      rw [if_pos rfl]
      refine ⟨rfl, fun b hb => ?_⟩
      show upF (fun _ => 0) a 1 b = Dt.one a b
      unfold upF Dt.one
      by_cases e2 : b = a
      · rw [if_pos e2, if_pos e2.symm]
      · rw [if_neg e2, if_neg (fun h => e2 h.symm)]
    · rw [if_neg e]
      exact ⟨rfl, fun _ _ => rfl⟩
  · have hin : i = N := by omega
    subst hin
    try simp only [go_sem, Nat.reduceEqDiff, Nat.reduceAdd, Bool.false_eq_true, Nat.reduceBEq, ↓reduceIte]
    exact fun hd => ⟨_, _, rfl, hO2.mat RRatC.grows hd⟩

end Go.Proofs.YtccdhgjfcgfgoaaGreat.X
set_option linter.unusedVariables false
set_option linter.unusedSimpArgs false
namespace Go.Proofs.YtccdhgjfcgfgoaaGreat.X
open Go Go.RowKit Go.Proofs

/-- the reference's rows that stand -/
def MX (H : PH) (A : Option Addr) (n : Nat) (R : Nat → Rw Rat) : Prop := MatH 3 RRatC H A n R
theorem MX.le {H H' : PH} {A : Option Addr} {n : Nat} {R : Nat → Rw Rat} (h : MX H A n R) (hl : H.le H') : MX H' A n R := MatH.le RRatC.grows h hl
theorem qraw2_ok (H : PH) (A0 : Option Addr) (n c0 : Nat) (R : Nat → Rw ByteArray) (hM : MS H A0 n R) (hn : n ≤ 9223372036854775807) (hr : ∀ i, i < n → (R i).1 ≤ 9223372036854775807) :
    FnP Tryz.prog 7 [.slice A0 n c0] H fun v H' => ∃ A c B e, v = .tuple #[.slice A (min n 5) c, .slice B (min n 5) e] ∧ MR H' A (min n 5) (rawR R) ∧ MX H' B (min n 5) (rawR R) :=
  (raw_ok H A0 n c0 R hM hn hr).mono fun v H' _ ⟨A, c, B, e, h1, h2, h3⟩ => ⟨A, c, B, e, h1, h2, h3⟩
theorem xright_ok (H : PH) (A : Option Addr) (n c : Nat) (R : Nat → Rw Rat) (hM : MX H A n R) (hn : n ≤ 9223372036854775807) : FnP Tryz.prog 17 [.slice A n c] H fun v _ => v = .bool (evB n R) := rightR_ok H A n c R hM hn
theorem ev_rect {n w : Nat} (f : Nat → Nat → Rat) (h1 : 1 ≤ n) (h2 : n ≤ 12) (h3 : 1 ≤ w) (h4 : w ≤ 12) : evB n (rect w f) = true := decide_eq_true ⟨h1, h2, h3, h4, fun i hi => rfl⟩
theorem xone_ok (H : PH) (n : Nat) (h1 : 1 ≤ n) (h5 : n ≤ 12) : FnP Tryz.prog 15 [.int .i64 (n : Int)] H fun v H' => ∃ A e, v = .slice A n e ∧ MR H' A n (rect n Dt.one) := by
  have := mone_ok H (n : Int)
  rw [onN_of h1 h5] at this
  exact this
theorem xone2_ok (H : PH) (n : Nat) (h1 : 1 ≤ n) (h5 : n ≤ 12) : FnP Tryz.prog 16 [.int .i64 (n : Int)] H fun v H' => ∃ A e, v = .slice A n e ∧ MX H' A n (rect n Dt.one) := by
  have := refOne_ok H (n : Int)
  rw [onN_of h1 h5] at this
  exact this
theorem br_one1 (i k : Nat) : br (Dt.one i k) ≤ 81 := by
  unfold Dt.one
  split <;> decide +kernel
/-- a product of two that go together -/
theorem gmul_ok (H : PH) (A0 B0 : Option Addr) (n c m e w : Nat) (R S : Nat → Rw Rat) (L : Nat) (hA : MR H A0 n R) (hB : MR H B0 m S) (hg : goB n m R S = true) (hw : (S 0).1 = w) (hL : L ≤ 10000000) (hbR : ∀ i k, i < n → k < (R i).1 → br (mx R i k) ≤ L) (hbS : ∀ i k, i < m → k < (S i).1 → br (mx S i k) ≤ L) :
    FnP Tryz.prog 18 [.slice A0 n c, .slice B0 m e] H fun v H' => ∃ A e, v = .tuple #[.slice A n e, .bool true] ∧ MR H' A n (rect w (Dt.mul m (mx R) (mx S))) := by
  have hev : evB n R = true ∧ evB m S = true := by
    unfold goB at hg
    rw [Bool.and_eq_true, Bool.and_eq_true] at hg
    exact hg.1
  refine (mmul_ok H A0 B0 n c m e R S L hA hB (by have := evB_of hev.1; omega) (by have := evB_of hev.2; omega) hL hbR hbS).mono ?_
  rintro v H' _ (⟨h, _⟩ | ⟨_, A, e, rfl, h⟩)
  · rw [hg] at h; cases h
  · rw [hw] at h
    exact ⟨A, e, rfl, h⟩
open Classical in
theorem gsame_ok (H : PH) (A B : Option Addr) (n c e : Nat) (R S : Nat → Rw Rat) (hA : MR H A n R) (hB : MR H B n S) (h1 : evB n R = true) (h2 : evB n S = true) (hbf : ∀ i k, i < n → k < (R i).1 → br (mx R i k) ≤ 2000000000) (hbh : ∀ i k, i < n → k < (S i).1 → br (mx S i k) ≤ 2000000000) (he : SameM n n R S) :
    FnP Tryz.prog 19 [.slice A n c, .slice B n e] H fun v _ => v = .bool true := by
  refine (same_ok H A B n n c e R S hA hB (by have := evB_of h1; omega) (by have := evB_of h1; omega) hbf hbh).mono ?_
  rintro v H' _ rfl
  rw [h1, h2, decide_eq_true he]
  rfl

set_option maxHeartbeats 4000000 in
theorem MatOne_ok (H : PH) (A0 : Option Addr) (n c0 : Nat) (R : Nat → Rw ByteArray) (z : Int) (hA : MatH 1 StrC H A0 n R) (hn : n ≤ 9223372036854775807) (hr : ∀ i, i < n → (R i).1 ≤ 9223372036854775807) :
    FnP Tryz.prog 4 [.slice A0 n c0, .int .i64 z] H fun v _ => v = .bool true := by
  replace hA : MS H A0 n R := hA
  refine of_cincturelaw11_MatOne (by simp) ?_
  try simp only [go_sem, Nat.reduceEqDiff, Nat.reduceAdd, Bool.false_eq_true, Nat.reduceBEq, ↓reduceIte, p_cincturelaw11_MatOne]
  first | refine ev_call (alive11_ok _) ?_ | refine ev_callP (alive11_ok _) ?_
  rintro v_1 H_1 le_1 rfl _
  replace hA := hA.le le_1
  try simp only [go_sem, Nat.reduceEqDiff, Nat.reduceAdd, Bool.false_eq_true, Nat.reduceBEq, ↓reduceIte]
  first | refine ev_call (qraw2_ok _ A0 n c0 R hA hn hr) ?_ | refine ev_callP (qraw2_ok _ A0 n c0 R hA hn hr) ?_
  rintro v_2 H_2 le_2 ⟨A1, c1, A2, c2, rfl, hP, hX⟩ _
  try simp only [go_sem, Nat.reduceEqDiff, Nat.reduceAdd, Bool.false_eq_true, Nat.reduceBEq, ↓reduceIte]
  have bP := fun i k (h : k < (rawR R i).1) => rawR_br R i k h
  have lP := rawR_len R
  generalize rawR R = P at *
  have hN5 : min n 5 ≤ 5 := by omega
  generalize min n 5 = N at *
  clear hA hr hn
  have hz : (if (12 : Int) < (if z < 1 then (1 : Int) else z) then (12 : Int) else (if z < 1 then (1 : Int) else z)) = ((onN z : Nat) : Int) := by
    have := onN_bd z
    unfold onN
    split <;> split <;> omega
  have hK := onN_bd z
  first | refine ev_call (mone_ok _ z) ?_ | refine ev_callP (mone_ok _ z) ?_
  rintro v_3 H_3 le_3 ⟨A3, c3, rfl, hO⟩ _
  replace hP := hP.le le_3
  replace hX := hX.le le_3
  try simp only [go_sem, Nat.reduceEqDiff, Nat.reduceAdd, Bool.false_eq_true, Nat.reduceBEq, ↓reduceIte]
  replace hO : MR _ A3 (onN z) (rect (onN z) Dt.one) := hO
  try simp only [Bool.false_eq_true, ↓reduceIte]
  rw [hz]
  generalize onN z = K at *
  refine ev_neg (by simp) ?_
  try simp only [go_sem, Nat.reduceEqDiff, Nat.reduceAdd, Bool.false_eq_true, Nat.reduceBEq, ↓reduceIte]
  first | refine ev_call (xone2_ok _ K hK.1 hK.2) ?_ | refine ev_callP (xone2_ok _ K hK.1 hK.2) ?_
  rintro v_4 H_4 le_4 ⟨A4, c4, rfl, hO2⟩ _
  replace hP := hP.le le_4
  replace hX := hX.le le_4
  replace hO := hO.le le_4
  try simp only [go_sem, Nat.reduceEqDiff, Nat.reduceAdd, Bool.false_eq_true, Nat.reduceBEq, ↓reduceIte]
  first | refine ev_call (isM_ok _ A3 A4 K c3 c4 (rect K Dt.one) hO hO2 (by omega) (fun i hi => by show K ≤ 1000; omega) (fun i hi k hk => by have := br_one1 i k; show br (Dt.one i k) ≤ _; omega)) ?_ | refine ev_callP (isM_ok _ A3 A4 K c3 c4 (rect K Dt.one) hO hO2 (by omega) (fun i hi => by show K ≤ 1000; omega) (fun i hi k hk => by have := br_one1 i k; show br (Dt.one i k) ≤ _; omega)) ?_
  rintro v_5 H_5 le_5 rfl _
  replace hP := hP.le le_5
  replace hX := hX.le le_5
  try simp only [go_sem, Nat.reduceEqDiff, Nat.reduceAdd, Bool.false_eq_true, Nat.reduceBEq, ↓reduceIte]
  first | refine ev_call (xright_ok _ A2 N c2 P hX (by omega)) ?_ | refine ev_callP (xright_ok _ A2 N c2 P hX (by omega)) ?_
  rintro v_6 H_6 le_6 rfl _
  replace hP := hP.le le_6
  replace hX := hX.le le_6
  try simp only [go_sem, Nat.reduceEqDiff, Nat.reduceAdd, Bool.false_eq_true, Nat.reduceBEq, ↓reduceIte]
  cases he : evB N P with
  | false =>
    try simp only [go_sem, Nat.reduceEqDiff, Nat.reduceAdd, Bool.false_eq_true, Nat.reduceBEq, ↓reduceIte, he]
    exact ⟨by trivial, by trivial⟩
  | true =>
    obtain ⟨n1, n2, w1, w2, hr⟩ := evB_of he
    obtain ⟨b, off, rfl⟩ := ArrF.base hX (by omega)
    have w5 := lP 0
    obtain ⟨w, hw⟩ : ∃ w, w = (P 0).1 := ⟨_, rfl⟩
    rw [← hw] at w1 w2 w5 hr
    have bP' : ∀ i k, i < N → k < (P i).1 → br (mx P i k) ≤ 81 := fun i k _ hk => bP i k hk
    have eN : evB N (rect N Dt.one) = true := ev_rect _ n1 n2 n1 n2
    have eW : evB w (rect w Dt.one) = true := ev_rect _ w1 w2 w1 w2
    have g1 : goB N N (rect N Dt.one) P = true := by
      unfold goB
      rw [eN, he]
      simp [rect]
    have g2 : goB N w P (rect w Dt.one) = true := by
      unfold goB
      rw [eW, he, ← hw]
      simp
    have s1 : SameM N N (rect w (Dt.mul N (mx (rect N Dt.one)) (mx P))) P := ⟨rfl, fun i hi => ⟨(hr i hi).symm, fun k hk => by
      show Dt.sm N (fun j => Dt.one i j * mx P j k) = (P i).2 k
      rw [Dt.sm_one i hi (fun j _ hj => by unfold Dt.one; rw [if_neg (fun h => hj h.symm)]; grind)]
      unfold Dt.one
      rw [if_pos rfl]
      show 1 * (P i).2 k = _
      grind⟩⟩
    have s2 : SameM N N (rect w (Dt.mul w (mx P) (mx (rect w Dt.one)))) P := ⟨rfl, fun i hi => ⟨(hr i hi).symm, fun k hk => by
      show Dt.sm w (fun j => mx P i j * Dt.one j k) = (P i).2 k
      rw [Dt.sm_one k hk (fun j _ hj => by unfold Dt.one; rw [if_neg hj]; grind)]
      unfold Dt.one
      rw [if_pos rfl]
      show (P i).2 k * 1 = _
      grind⟩⟩
    have b1 : ∀ i k, i < N → k < w → br (mx (rect w (Dt.mul N (mx (rect N Dt.one)) (mx P))) i k) ≤ 2000000000 := fun i k hi hk => by
      have := (s1.2 i hi).2 k hk
      show br ((rect w (Dt.mul N (mx (rect N Dt.one)) (mx P)) i).2 k) ≤ _
      rw [this]
      have := bP i k (by rw [hr i hi]; exact hk)
      omega
    have b2 : ∀ i k, i < N → k < w → br (mx (rect w (Dt.mul w (mx P) (mx (rect w Dt.one)))) i k) ≤ 2000000000 := fun i k hi hk => by
      have := (s2.2 i hi).2 k hk
      show br ((rect w (Dt.mul w (mx P) (mx (rect w Dt.one))) i).2 k) ≤ _
      rw [this]
      have := bP i k (by rw [hr i hi]; exact hk)
      omega
    try simp only [go_sem, Nat.reduceEqDiff, Nat.reduceAdd, Bool.false_eq_true, Nat.reduceBEq, ↓reduceIte, he]
    first | refine ev_call (xone_ok _ N n1 n2) ?_ | refine ev_callP (xone_ok _ N n1 n2) ?_
    rintro v_7 H_7 le_7 ⟨A5, c5, rfl, hO⟩ _
    replace hP := hP.le le_7
    replace hX := hX.le le_7
    try simp only [go_sem, Nat.reduceEqDiff, Nat.reduceAdd, Bool.false_eq_true, Nat.reduceBEq, ↓reduceIte]
    first | refine ev_call (gmul_ok _ A5 A1 N c5 N c1 w _ P 81 hO hP g1 hw.symm (by decide) (fun i k _ _ => br_one1 i k) bP') ?_ | refine ev_callP (gmul_ok _ A5 A1 N c5 N c1 w _ P 81 hO hP g1 hw.symm (by decide) (fun i k _ _ => br_one1 i k) bP') ?_
    rintro v_8 H_8 le_8 ⟨A6, c6, rfl, hU⟩ _
    replace hP := hP.le le_8
    replace hX := hX.le le_8
    try simp only [go_sem, Nat.reduceEqDiff, Nat.reduceAdd, Bool.false_eq_true, Nat.reduceBEq, ↓reduceIte]
    refine ev_ia rfl (by omega) (by omega) ?_
    try simp only [go_sem, Nat.reduceEqDiff, Nat.reduceAdd, Bool.false_eq_true, Nat.reduceBEq, ↓reduceIte]
    refine ev_ldRow0 hX (by omega) ?_
    intro A7 q7 ha7
    rw [← hw]
    clear ha7
    try simp only [go_sem, Nat.reduceEqDiff, Nat.reduceAdd, Bool.false_eq_true, Nat.reduceBEq, ↓reduceIte]
    first | refine ev_call (xone_ok _ w w1 w2) ?_ | refine ev_callP (xone_ok _ w w1 w2) ?_
    rintro v_9 H_9 le_9 ⟨A8, c8, rfl, hO⟩ _
    replace hP := hP.le le_9
    replace hU := hU.le le_9
    try simp only [go_sem, Nat.reduceEqDiff, Nat.reduceAdd, Bool.false_eq_true, Nat.reduceBEq, ↓reduceIte]
    first | refine ev_call (gmul_ok _ A1 A8 N c1 w c8 w P _ 81 hP hO g2 rfl (by decide) bP' (fun i k _ _ => br_one1 i k)) ?_ | refine ev_callP (gmul_ok _ A1 A8 N c1 w c8 w P _ 81 hP hO g2 rfl (by decide) bP' (fun i k _ _ => br_one1 i k)) ?_
    rintro v_10 H_10 le_10 ⟨A9, c9, rfl, hV⟩ _
    replace hP := hP.le le_10
    replace hU := hU.le le_10
    try simp only [go_sem, Nat.reduceEqDiff, Nat.reduceAdd, Bool.false_eq_true, Nat.reduceBEq, ↓reduceIte]
    first | refine ev_call (gsame_ok _ A6 A1 N c6 c1 _ P hU hP (ev_rect _ n1 n2 w1 w2) he b1 (fun i k hi hk => by have := bP' i k hi hk; omega) s1) ?_ | refine ev_callP (gsame_ok _ A6 A1 N c6 c1 _ P hU hP (ev_rect _ n1 n2 w1 w2) he b1 (fun i k hi hk => by have := bP' i k hi hk; omega) s1) ?_
    rintro v_11 H_11 le_11 rfl _
    replace hP := hP.le le_11
    replace hV := hV.le le_11
    try simp only [go_sem, Nat.reduceEqDiff, Nat.reduceAdd, Bool.false_eq_true, Nat.reduceBEq, ↓reduceIte]
    first | refine ev_call (gsame_ok _ A9 A1 N c9 c1 _ P hV hP (ev_rect _ n1 n2 w1 w2) he b2 (fun i k hi hk => by have := bP' i k hi hk; omega) s2) ?_ | refine ev_callP (gsame_ok _ A9 A1 N c9 c1 _ P hV hP (ev_rect _ n1 n2 w1 w2) he b2 (fun i k hi hk => by have := bP' i k hi hk; omega) s2) ?_
    rintro v_12 H_12 le_12 rfl _
    try simp only [go_sem, Nat.reduceEqDiff, Nat.reduceAdd, Bool.false_eq_true, Nat.reduceBEq, ↓reduceIte]
    exact ⟨by trivial, by trivial⟩

end Go.Proofs.YtccdhgjfcgfgoaaGreat.X
