/- The reference's matrices: One, products, whether they are the same. -/
import Derived.Test.YtccdhgjfcgfgoaaGreatZZ
set_option linter.unusedVariables false
set_option linter.unusedSimpArgs false
namespace Go.Proofs.YtccdhgjfcgfgoaaGreat.X
open Go Go.RowKit Go.Proofs

theorem New.of {M : PH} {g : Nat} (hg : M g = none) : New M (some ⟨g, 0, none⟩) := by
  intro b o hb e
  injection e with e; injection e with e _; subst e
  rw [hg] at hb; cases hb

def mulB (m : Nat) (f h : Nat → Nat → Rat) (i k j : Nat) : Nat → Rat := fun b => if b < k then Dt.mul m f h i b else if b = k then Dt.sm j (fun x => f i x * h x b) else 0

set_option maxHeartbeats 4000000 in
theorem refMul_ok (H : PH) (A0 B0 : Option Addr) (n c m e : Nat) (R S : Nat → Rw Rat) (L : Nat) (hA : MatH 3 RRatC H A0 n R) (hB : MatH 3 RRatC H B0 m S) (hn : n ≤ 9223372036854775807) (hm : m ≤ 9223372036854775807) (hL : L ≤ 10000000) (hbR : ∀ i k, i < n → k < (R i).1 → br (mx R i k) ≤ L) (hbS : ∀ i k, i < m → k < (S i).1 → br (mx S i k) ≤ L) :
    FnP Tryz.prog 20 [.slice A0 n c, .slice B0 m e] H fun v H' => (goB n m R S = false ∧ v = .tuple #[.slice none 0 0, .bool false]) ∨ (goB n m R S = true ∧ ∃ A e, v = .tuple #[.slice A n e, .bool true] ∧ MatH 3 RRatC H' A n (rect (S 0).1 (Dt.mul m (mx R) (mx S)))) := by
  refine Fn.release (of_cinctureref1_MatMul (by simp) ?_)
  try simp only [go_sem, Nat.reduceEqDiff, Nat.reduceAdd, Nat.reduceBEq, ↓reduceIte, p_cinctureref1_MatMul]
  first | refine ev_call (rightR_ok _ A0 n c R hA hn) ?_ | refine ev_callP (rightR_ok _ A0 n c R hA hn) ?_
  rintro v_2 H_2 le_2 rfl _
  try simp only [go_sem, Nat.reduceEqDiff, Nat.reduceAdd, Nat.reduceBEq, ↓reduceIte]
  have hA := MatH.le RRatC.grows hA (by assumption)
  have hB := MatH.le RRatC.grows hB (by assumption)
  unfold goB
  cases hs : evB n R with
  | false =>
    try simp only [go_sem, Nat.reduceEqDiff, Nat.reduceAdd, Nat.reduceBEq, ↓reduceIte, hs]
    exact fun _ => .inl ⟨by trivial, by trivial⟩
  | true =>
    try simp only [go_sem, Nat.reduceEqDiff, Nat.reduceAdd, Nat.reduceBEq, ↓reduceIte, hs]
    first | refine ev_call (rightR_ok _ B0 m e S hB hm) ?_ | refine ev_callP (rightR_ok _ B0 m e S hB hm) ?_
    rintro v_3 H_3 le_3 rfl _
    try simp only [go_sem, Nat.reduceEqDiff, Nat.reduceAdd, Nat.reduceBEq, ↓reduceIte]
    have hA := MatH.le RRatC.grows hA (by assumption)
    have hB := MatH.le RRatC.grows hB (by assumption)
    cases ht : evB m S with
    | false =>
      try simp only [go_sem, Nat.reduceEqDiff, Nat.reduceAdd, Nat.reduceBEq, ↓reduceIte, ht]
      exact fun _ => .inl ⟨by trivial, by trivial⟩
    | true =>
      obtain ⟨n1, n2, r1, r2, hr⟩ := evB_of hs
      obtain ⟨m1, m2, s1, s2, hs'⟩ := evB_of ht
      obtain ⟨b, off, rfl⟩ := hA.base (by omega)
      obtain ⟨b', off', rfl⟩ := hB.base (by omega)
      try simp only [go_sem, Nat.reduceEqDiff, Nat.reduceAdd, Nat.reduceBEq, ↓reduceIte, ht]
      refine ev_ia rfl (by omega) (by omega) ?_
      try simp only [go_sem, Nat.reduceEqDiff, Nat.reduceAdd, Nat.reduceBEq, ↓reduceIte]
      refine ev_ldRow0 hA (by omega) ?_
      intro A1 q1 ha1
      try simp only [go_sem, Nat.reduceEqDiff, Nat.reduceAdd, Nat.reduceBEq, ↓reduceIte]
      refine ev_if (fun c1 => ?_) (fun c1 => ?_)
      · try simp only [go_sem, Nat.reduceEqDiff, Nat.reduceAdd, Nat.reduceBEq, ↓reduceIte]
        rw [decide_eq_false (show ¬ (R 0).1 = m by omega)]
        exact fun _ => .inl ⟨by trivial, by trivial⟩
      · have hw : (R 0).1 = m := by have := Classical.not_not.1 c1; omega
        rw [decide_eq_true hw]
        clear ha1
        try simp only [go_sem, Nat.reduceEqDiff, Nat.reduceAdd, Nat.reduceBEq, ↓reduceIte]
        refine ev_loop (fun k s => ∃ (i : Nat) (H2 M2 : PH) (A : Option Addr) (cA : Nat) (ra : Nat → Option Addr) (rc : Nat → Nat), k = n - i ∧ i ≤ n ∧ MatH 3 RRatC H2 (some ⟨b, off, none⟩) n R ∧ MatH 3 RRatC H2 (some ⟨b', off', none⟩) m S ∧ PH.disj H2 M2 ∧
          MatO 3 RRatC 43 58 H2 M2 A i cA ra rc (rect (S 0).1 (Dt.mul m (mx R) (mx S))) ∧
          s = ⟨[(7, .v (.int .i64 (i : Int))), (6, .v (.slice A i cA)), (1, .v (.slice (some ⟨b', off', none⟩) m e)), (0, .v (.slice (some ⟨b, off, none⟩) n c))], [], H2, M2⟩) n _ ⟨0, _, PH.no, none, 0, fun _ => none, fun _ => 0, rfl, by omega, hA, hB, PH.disj_no _, MatO.nil, rfl⟩ sub_of ?_
        rintro t s ⟨i, H2, M2, A, cA, ra, rc, rfl, hi, hA2, hB2, hd2, hO2, rfl⟩
        clear hA hB
        try simp only [go_sem, Nat.reduceEqDiff, Nat.reduceAdd, Nat.reduceBEq, ↓reduceIte]
        refine ev_if (fun c2 => ?_) (fun c2 => ?_)
        · have hin : i < n := by omega
          have hri := hr i hin
          try simp only [go_sem, Nat.reduceEqDiff, Nat.reduceAdd, Nat.reduceBEq, ↓reduceIte]
          refine ev_ia rfl (by omega) (by omega) ?_
          try simp only [go_sem, Nat.reduceEqDiff, Nat.reduceAdd, Nat.reduceBEq, ↓reduceIte]
          refine ev_ldRow0 hB2 (by omega) ?_
          intro A1 q1 ha1
          try simp only [go_sem, Nat.reduceEqDiff, Nat.reduceAdd, Nat.reduceBEq, ↓reduceIte]
          refine ev_mkF (w := 3) (P := RRatC) (x0 := 0) rfl (by simp [Value.oneCell']) (RRat.zero H2) (by omega) (by omega) (by omega) hd2 ?_
          intro g M3 hB3 hle hg hd3
          rw [Int.toNat_natCast] at hB3 ⊢
          have hap := hO2.apart (New.of hg)
          have hO3 := hO2.leM hle
          clear ha1
          try simp only [go_sem, Nat.reduceEqDiff, Nat.reduceAdd, Nat.reduceBEq, ↓reduceIte]
          refine ev_loop (fun t s => ∃ (k : Nat) (H4 M4 : PH), t = (S 0).1 - k ∧ k ≤ (S 0).1 ∧ MatH 3 RRatC H4 (some ⟨b, off, none⟩) n R ∧ MatH 3 RRatC H4 (some ⟨b', off', none⟩) m S ∧ PH.disj H4 M4 ∧
            MatO 3 RRatC 43 58 H4 M4 A i cA ra rc (rect (S 0).1 (Dt.mul m (mx R) (mx S))) ∧ OwnF 3 RRatC 43 H4 M4 (some ⟨g, 0, none⟩) (S 0).1 (mulB m (mx R) (mx S) i k 0) (S 0).1 ∧
            s = ⟨[(9, .v (.int .i64 (k : Int))), (8, .v (.slice (some ⟨g, 0, none⟩) (S 0).1 (S 0).1)), (7, .v (.int .i64 (i : Int))), (6, .v (.slice A i cA)), (1, .v (.slice (some ⟨b', off', none⟩) m e)), (0, .v (.slice (some ⟨b, off, none⟩) n c))], [], H4, M4⟩) (S 0).1 _
            ⟨0, H2, M3, rfl, by omega, hA2, hB2, hd3, hO3, hB3.congr (fun x hx => by unfold mulB; rw [if_neg (by omega)]; split <;> rfl), rfl⟩ sub_of ?_
          clear hA2 hB2 hd2 hO2 hB3 hO3 hd3
          rintro t s ⟨k, H4, M4, rfl, hk, hA4, hB4, hd4, hO4, hW4, rfl⟩
          try simp only [go_sem, Nat.reduceEqDiff, Nat.reduceAdd, Nat.reduceBEq, ↓reduceIte]
          refine ev_if (fun c3 => ?_) (fun c3 => ?_)
          · have hkn : k < (S 0).1 := by omega
            try simp only [go_sem, Nat.reduceEqDiff, Nat.reduceAdd, Nat.reduceBEq, ↓reduceIte]
            refine ev_loop (fun t s => ∃ (j : Nat) (H5 M5 : PH), t = m - j ∧ j ≤ m ∧ MatH 3 RRatC H5 (some ⟨b, off, none⟩) n R ∧ MatH 3 RRatC H5 (some ⟨b', off', none⟩) m S ∧ PH.disj H5 M5 ∧
              MatO 3 RRatC 43 58 H5 M5 A i cA ra rc (rect (S 0).1 (Dt.mul m (mx R) (mx S))) ∧ OwnF 3 RRatC 43 H5 M5 (some ⟨g, 0, none⟩) (S 0).1 (mulB m (mx R) (mx S) i k j) (S 0).1 ∧
              s = ⟨[(10, .v (.int .i64 (j : Int))), (9, .v (.int .i64 (k : Int))), (8, .v (.slice (some ⟨g, 0, none⟩) (S 0).1 (S 0).1)), (7, .v (.int .i64 (i : Int))), (6, .v (.slice A i cA)), (1, .v (.slice (some ⟨b', off', none⟩) m e)), (0, .v (.slice (some ⟨b, off, none⟩) n c))], [], H5, M5⟩) m _
              ⟨0, H4, M4, rfl, by omega, hA4, hB4, hd4, hO4, hW4, rfl⟩ sub_of ?_
            clear hA4 hB4 hd4 hO4 hW4
            rintro t s ⟨j, H5, M5, rfl, hj, hA5, hB5, hd5, hO5, hW5, rfl⟩
            try simp only [go_sem, Nat.reduceEqDiff, Nat.reduceAdd, Nat.reduceBEq, ↓reduceIte]
            refine ev_if (fun c4 => ?_) (fun c4 => ?_)
            · have hjm : j < m := by omega
              have hsj := hs' j hjm
              try simp only [go_sem, Nat.reduceEqDiff, Nat.reduceAdd, Nat.reduceBEq, ↓reduceIte]
              refine ev_ia rfl (by omega) (by omega) ?_
              rw [Int.toNat_natCast]
              try simp only [go_sem, Nat.reduceEqDiff, Nat.reduceAdd, Nat.reduceBEq, ↓reduceIte]
              refine ev_ldOF hW5 hkn ?_
              intro us hp _
              obtain ⟨b5, A5, l5, c5, B5, m5, e5, hf⟩ := RRat.form hp
              have hp : RRat H5 (.agg us.toArray) (Dt.sm j (fun x => mx R i x * mx S x k)) := by
                have : mulB m (mx R) (mx S) i k j k = Dt.sm j (fun x => mx R i x * mx S x k) := by
                  unfold mulB
                  rw [if_neg (Nat.lt_irrefl _), if_pos rfl]
                rw [← this]
                exact hp
              rw [hf] at hp ⊢
              clear hf
              try simp only [go_sem, Nat.reduceEqDiff, Nat.reduceAdd, Nat.reduceBEq, ↓reduceIte]
              refine ev_ia rfl (by omega) (by omega) ?_
              rw [Int.toNat_natCast]
              try simp only [go_sem, Nat.reduceEqDiff, Nat.reduceAdd, Nat.reduceBEq, ↓reduceIte]
              refine ev_ldRow hA5 hin ?_
              intro A6 q6 ha6
              obtain ⟨b6, off6, rfl⟩ := ha6.base (by omega)
              try simp only [go_sem, Nat.reduceEqDiff, Nat.reduceAdd, Nat.reduceBEq, ↓reduceIte]
              refine ev_ia rfl (by omega) (by omega) ?_
              rw [Int.toNat_natCast]
              try simp only [go_sem, Nat.reduceEqDiff, Nat.reduceAdd, Nat.reduceBEq, ↓reduceIte]
              refine ev_ldF ha6 (by omega) ?_
              intro us hq _
              obtain ⟨b7, A7, l7, c7, B7, m7, e7, hf⟩ := RRat.form hq
              have hq : RRat H5 (.agg us.toArray) (mx R i j) := hq
              rw [hf] at hq ⊢
              clear hf
              try simp only [go_sem, Nat.reduceEqDiff, Nat.reduceAdd, Nat.reduceBEq, ↓reduceIte]
              refine ev_ia rfl (by omega) (by omega) ?_
              rw [Int.toNat_natCast]
              try simp only [go_sem, Nat.reduceEqDiff, Nat.reduceAdd, Nat.reduceBEq, ↓reduceIte]
              refine ev_ldRow hB5 hjm ?_
              intro A8 q8 ha8
              obtain ⟨b8, off8, rfl⟩ := ha8.base (by omega)
              try simp only [go_sem, Nat.reduceEqDiff, Nat.reduceAdd, Nat.reduceBEq, ↓reduceIte]
              refine ev_ia rfl (by omega) (by omega) ?_
              rw [Int.toNat_natCast]
              try simp only [go_sem, Nat.reduceEqDiff, Nat.reduceAdd, Nat.reduceBEq, ↓reduceIte]
              refine ev_ldF ha8 (by omega) ?_
              intro us hu _
              obtain ⟨b9, A9, l9, c9, B9, m9, e9, hf⟩ := RRat.form hu
              have hu : RRat H5 (.agg us.toArray) (mx S j k) := hu
              rw [hf] at hu ⊢
              clear hf ha6 ha8
              have y1 := hbR i j hin (by omega)
              have y2 := hbS j k hjm (by omega)
              have y3 := br_mul (mx R i j) (mx S j k)
              have y4 := br_sm (L := 2 * L + 1) (f := fun x => mx R i x * mx S x k) j (fun x hx => by
                have z1 := hbR i x hin (by omega)
                have z2 := hbS x k (by omega) (by rw [hs' x (by omega)]; exact hkn)
                have z3 := br_mul (mx R i x) (mx S x k)
                show br (mx R i x * mx S x k) ≤ _
                omega)
              have y5 : j * (2 * L + 1 + 2) ≤ 12 * (2 * L + 1 + 2) := Nat.mul_le_mul_right _ (by omega)
              try simp only [go_sem, Nat.reduceEqDiff, Nat.reduceAdd, Nat.reduceBEq, ↓reduceIte]
              first | refine ev_call (rmulR_ok _ _ _ _ _ hq hu (by omega)) ?_ | refine ev_callP (rmulR_ok _ _ _ _ _ hq hu (by omega)) ?_
              rintro v_4 H_4 le_4 h1 _
              replace hp := hp.le le_4
              try simp only [go_sem, Nat.reduceEqDiff, Nat.reduceAdd, Nat.reduceBEq, ↓reduceIte]
              first | refine ev_call (raddR_ok _ _ _ _ _ hp h1 (by omega)) ?_ | refine ev_callP (raddR_ok _ _ _ _ _ hp h1 (by omega)) ?_
              rintro v_5 H_5 le_5 h2 _
              try simp only [go_sem, Nat.reduceEqDiff, Nat.reduceAdd, Nat.reduceBEq, ↓reduceIte]
              have hA5 := MatH.le RRatC.grows (MatH.le RRatC.grows hA5 (by assumption)) (by assumption)
              have hB5 := MatH.le RRatC.grows (MatH.le RRatC.grows hB5 (by assumption)) (by assumption)
              have hO5 := (hO5.leH RRatC.grows (by assumption)).leH RRatC.grows (by assumption)
              have hW5 := (hW5.leH RRatC.grows (by assumption)).leH RRatC.grows (by assumption)
              obtain ⟨b10, A10, l10, c10, B10, m10, e10, rfl⟩ := h2.form
              try simp only [go_sem, Nat.reduceEqDiff, Nat.reduceAdd, Nat.reduceBEq, ↓reduceIte]
              refine ev_ia rfl (by omega) (by omega) ?_
              rw [Int.toNat_natCast]
              try simp only [go_sem, Nat.reduceEqDiff, Nat.reduceAdd, Nat.reduceBEq, ↓reduceIte]
              refine ev_stOF (x := Dt.sm j (fun x => mx R i x * mx S x k) + mx R i j * mx S j k) hW5 hkn (by assumption) rfl (by simp [cellsL, Value.oneCell']) h2 ?_
              intro M6 hW6 hb6 hd6
              try simp only [go_sem, Nat.reduceEqDiff, Nat.reduceAdd, Nat.reduceBEq, ↓reduceIte]
              rw [w64 ((j : Int) + 1) (by omega) (by omega), show (j : Int) + 1 = ((j + 1 : Nat) : Int) by omega]
              refine k_next (m - (j + 1)) _ (by omega) ⟨j + 1, _, M6, rfl, by omega, hA5, hB5, hd6 _ (by assumption), hO5.but hb6 hap, hW6.congr (fun x hx => ?_), rfl⟩ sub_of
              unfold upF mulB
              by_cases e : x = k
              · subst e
                rw [if_pos rfl, if_neg (Nat.lt_irrefl _), if_pos rfl]
                rfl
              · rw [if_neg e]
                by_cases e2 : x < k
                · rw [if_pos e2, if_pos e2]
                · rw [if_neg e2, if_neg e2, if_neg e, if_neg e]
            · have hj' : j = m := by omega
              subst hj'
              try simp only [go_sem, Nat.reduceEqDiff, Nat.reduceAdd, Nat.reduceBEq, ↓reduceIte]
              rw [w64 ((k : Int) + 1) (by omega) (by omega), show (k : Int) + 1 = ((k + 1 : Nat) : Int) by omega]
              refine k_next ((S 0).1 - (k + 1)) _ (by omega) ⟨k + 1, H5, M5, rfl, by omega, hA5, hB5, hd5, hO5, hW5.congr (fun x hx => ?_), rfl⟩ sub_of
              unfold mulB
              by_cases e : x < k
              · rw [if_pos e, if_pos (by omega)]
              · rw [if_neg e]
                by_cases e2 : x = k
                · rw [if_pos e2, if_pos (by omega)]
                  rfl
                · rw [if_neg e2, if_neg (by omega)]
                  split <;> rfl
          · have hk' : k = (S 0).1 := by omega
            subst hk'
            try simp only [go_sem, Nat.reduceEqDiff, Nat.reduceAdd, Nat.reduceBEq, ↓reduceIte]
            refine ev_bslF (w := 1) (P := SlC) (f := fun _ => ((some ⟨g, 0, none⟩ : Option Addr), (S 0).1, (S 0).1)) rfl (by omega) (one_cell rfl rfl rfl) hd4 ?_
            intro g5 M5 hO5 hle5 hg5 hd5
            try simp only [go_sem, Nat.reduceEqDiff, Nat.reduceAdd, Nat.reduceBEq, ↓reduceIte]
            refine ev_appF (by decide) (hO4.top.leM hle5) (hO5.src (by decide)) rfl (by decide) (by omega) (by omega) hd5 ?_
            intro A' c' M6 hO6 hb6 hA6 hd6
            try simp only [go_sem, Nat.reduceEqDiff, Nat.reduceAdd, Nat.reduceBEq, ↓reduceIte]
            rw [w64 ((i : Int) + 1) (by omega) (by omega), show (i : Int) + 1 = ((i + 1 : Nat) : Int) by omega]
            have hO7 := hO4.push hW4 hap hle5 hO6 hb6 hA6
            refine k_next (n - (i + 1)) _ (by omega) ⟨i + 1, H4, M6, A', c', _, _, rfl, by omega, hA4, hB4, hd6, hO7.congr (fun a ha => ?_), rfl⟩ sub_of
            try dsimp only
            by_cases e : a = i
            · subst e
              rw [if_pos rfl]
              refine ⟨rfl, fun x hx => ?_⟩
              have hx' : x < (S 0).1 := hx
              show mulB m (mx R) (mx S) a (S 0).1 0 x = Dt.mul m (mx R) (mx S) a x
              unfold mulB
              rw [if_pos hx']
            · rw [if_neg e]
              exact ⟨rfl, fun _ _ => rfl⟩
        · have hin : i = n := by omega
          subst hin
          try simp only [go_sem, Nat.reduceEqDiff, Nat.reduceAdd, Nat.reduceBEq, ↓reduceIte]
          exact fun hd => .inr ⟨by simp, _, _, rfl, hO2.mat RRatC.grows hd⟩

open Classical in
set_option maxHeartbeats 2000000 in
theorem refSame_ok (H : PH) (A B : Option Addr) (n m c e : Nat) (R S : Nat → Rw Rat) (hA : MatH 3 RRatC H A n R) (hB : MatH 3 RRatC H B m S) (hn : n ≤ 9223372036854775807) (hm : m ≤ 9223372036854775807) (hbf : ∀ i k, i < n → k < (R i).1 → br (mx R i k) ≤ 2000000000) (hbh : ∀ i k, i < m → k < (S i).1 → br (mx S i k) ≤ 2000000000) :
    FnP Tryz.prog 24 [.slice A n c, .slice B m e] H fun v _ => v = .bool (evB n R && evB m S && decide (SameM n m R S)) := by
  refine of_cinctureref1_MatSame (by simp) ?_
  try simp only [go_sem, Nat.reduceEqDiff, Nat.reduceAdd, Nat.reduceBEq, ↓reduceIte, p_cinctureref1_MatSame]
  first | refine ev_call (rightR_ok _ A n c R hA hn) ?_ | refine ev_callP (rightR_ok _ A n c R hA hn) ?_
  rintro v_6 H_6 le_6 rfl _
  try simp only [go_sem, Nat.reduceEqDiff, Nat.reduceAdd, Nat.reduceBEq, ↓reduceIte]
  have hA := MatH.le RRatC.grows hA (by assumption)
  have hB := MatH.le RRatC.grows hB (by assumption)
  cases h1 : evB n R with
  | false =>
    try simp only [go_sem, Nat.reduceEqDiff, Nat.reduceAdd, Nat.reduceBEq, ↓reduceIte, h1]
    exact ⟨by trivial, by trivial⟩
  | true =>
    try simp only [go_sem, Nat.reduceEqDiff, Nat.reduceAdd, Nat.reduceBEq, ↓reduceIte, h1]
    first | refine ev_call (rightR_ok _ B m e S hB hm) ?_ | refine ev_callP (rightR_ok _ B m e S hB hm) ?_
    rintro v_7 H_7 le_7 rfl _
    try simp only [go_sem, Nat.reduceEqDiff, Nat.reduceAdd, Nat.reduceBEq, ↓reduceIte]
    have hA := MatH.le RRatC.grows hA (by assumption)
    have hB := MatH.le RRatC.grows hB (by assumption)
    cases h2 : evB m S with
    | false =>
      try simp only [go_sem, Nat.reduceEqDiff, Nat.reduceAdd, Nat.reduceBEq, ↓reduceIte, h2]
      exact ⟨by trivial, by trivial⟩
    | true =>
      obtain ⟨n1, n2, r1, r2, hr⟩ := evB_of h1
      obtain ⟨m1, m2, s1, s2, hs'⟩ := evB_of h2
      obtain ⟨b, off, rfl⟩ := hA.base (by omega)
      obtain ⟨b', off', rfl⟩ := hB.base (by omega)
      rw [Bool.and_self, Bool.true_and]
      try simp only [go_sem, Nat.reduceEqDiff, Nat.reduceAdd, Nat.reduceBEq, ↓reduceIte, h2]
      refine ev_if (fun c1 => ?_) (fun c1 => ?_)
      · try simp only [go_sem, Nat.reduceEqDiff, Nat.reduceAdd, Nat.reduceBEq, ↓reduceIte]
        refine ⟨by trivial, ?_⟩
        rw [decide_eq_false (fun h : SameM n m R S => c1 (by rw [h.1]))]
      · have hnm : n = m := by have := Classical.not_not.1 c1; omega
        subst hnm
        try simp only [go_sem, Nat.reduceEqDiff, Nat.reduceAdd, Nat.reduceBEq, ↓reduceIte]
        refine ev_loop (fun t s => ∃ (i : Nat) (H2 : PH), t = n - i ∧ i ≤ n ∧ (∀ j, j < i → (R j).1 = (S j).1 ∧ ∀ k, k < (R j).1 → (R j).2 k = (S j).2 k) ∧ MatH 3 RRatC H2 (some ⟨b, off, none⟩) n R ∧ MatH 3 RRatC H2 (some ⟨b', off', none⟩) n S ∧
          s = ⟨[(5, .v (.int .i64 (i : Int))), (1, .v (.slice (some ⟨b', off', none⟩) n e)), (0, .v (.slice (some ⟨b, off, none⟩) n c))], [], H2, PH.no⟩) n _ ⟨0, _, rfl, by omega, fun j hj => by omega, hA, hB, rfl⟩ sub_of ?_
        clear hA hB
        rintro t s ⟨i, H2, rfl, hi, he, hA2, hB2, rfl⟩
        try simp only [go_sem, Nat.reduceEqDiff, Nat.reduceAdd, Nat.reduceBEq, ↓reduceIte]
        refine ev_if (fun c2 => ?_) (fun c2 => ?_)
        · have hri := hr i (by omega)
          have hsi := hs' i (by omega)
          try simp only [go_sem, Nat.reduceEqDiff, Nat.reduceAdd, Nat.reduceBEq, ↓reduceIte]
          refine ev_ia rfl (by omega) (by omega) ?_
          rw [Int.toNat_natCast]
          try simp only [go_sem, Nat.reduceEqDiff, Nat.reduceAdd, Nat.reduceBEq, ↓reduceIte]
          refine ev_ldRow hA2 (by omega) ?_
          intro A3 q3 ha3
          try simp only [go_sem, Nat.reduceEqDiff, Nat.reduceAdd, Nat.reduceBEq, ↓reduceIte]
          refine ev_ia rfl (by omega) (by omega) ?_
          rw [Int.toNat_natCast]
          try simp only [go_sem, Nat.reduceEqDiff, Nat.reduceAdd, Nat.reduceBEq, ↓reduceIte]
          refine ev_ldRow hB2 (by omega) ?_
          intro A4 q4 ha4
          try simp only [go_sem, Nat.reduceEqDiff, Nat.reduceAdd, Nat.reduceBEq, ↓reduceIte]
          clear ha3 ha4
          refine ev_if (fun c3 => ?_) (fun c3 => ?_)
          · try simp only [go_sem, Nat.reduceEqDiff, Nat.reduceAdd, Nat.reduceBEq, ↓reduceIte]
            refine ⟨by trivial, ?_⟩
            rw [decide_eq_false (fun h : SameM n n R S => c3 (by rw [(h.2 i (by omega)).1]))]
          · have hl : (R i).1 = (S i).1 := by have := Classical.not_not.1 c3; omega
            try simp only [go_sem, Nat.reduceEqDiff, Nat.reduceAdd, Nat.reduceBEq, ↓reduceIte]
            refine ev_loop (fun t s => ∃ (k : Nat) (H4 : PH), t = (R i).1 - k ∧ k ≤ (R i).1 ∧ (∀ x, x < k → (R i).2 x = (S i).2 x) ∧ MatH 3 RRatC H4 (some ⟨b, off, none⟩) n R ∧ MatH 3 RRatC H4 (some ⟨b', off', none⟩) n S ∧
              s = ⟨[(6, .v (.int .i64 (k : Int))), (5, .v (.int .i64 (i : Int))), (1, .v (.slice (some ⟨b', off', none⟩) n e)), (0, .v (.slice (some ⟨b, off, none⟩) n c))], [], H4, PH.no⟩) (R i).1 _ ⟨0, H2, rfl, by omega, fun j hj => by omega, hA2, hB2, rfl⟩ sub_of ?_
            clear hA2 hB2
            rintro t s ⟨k, H4, rfl, hk, hx, hA4, hB4, rfl⟩
            try simp only [go_sem, Nat.reduceEqDiff, Nat.reduceAdd, Nat.reduceBEq, ↓reduceIte]
            refine ev_ia rfl (by omega) (by omega) ?_
            rw [Int.toNat_natCast]
            try simp only [go_sem, Nat.reduceEqDiff, Nat.reduceAdd, Nat.reduceBEq, ↓reduceIte]
            refine ev_ldRow hA4 (by omega) ?_
            intro A3 q3 ha3
            try simp only [go_sem, Nat.reduceEqDiff, Nat.reduceAdd, Nat.reduceBEq, ↓reduceIte]
            clear ha3
            refine ev_if (fun c4 => ?_) (fun c4 => ?_)
            · try simp only [go_sem, Nat.reduceEqDiff, Nat.reduceAdd, Nat.reduceBEq, ↓reduceIte]
              refine ev_ia rfl (by omega) (by omega) ?_
              rw [Int.toNat_natCast]
              try simp only [go_sem, Nat.reduceEqDiff, Nat.reduceAdd, Nat.reduceBEq, ↓reduceIte]
              refine ev_ldRow hA4 (by omega) ?_
              intro A3 q3 ha3
              obtain ⟨b3, off3, rfl⟩ := ha3.base (by omega)
              try simp only [go_sem, Nat.reduceEqDiff, Nat.reduceAdd, Nat.reduceBEq, ↓reduceIte]
              refine ev_ia rfl (by omega) (by omega) ?_
              rw [Int.toNat_natCast]
              try simp only [go_sem, Nat.reduceEqDiff, Nat.reduceAdd, Nat.reduceBEq, ↓reduceIte]
              refine ev_ldF ha3 (by omega) ?_
              intro us hp _
              obtain ⟨b5, A5, l5, c5, B5, m5, e5, hf⟩ := RRat.form hp
              have hp : RRat H4 (.agg us.toArray) ((R i).2 k) := hp
              rw [hf] at hp ⊢
              clear hf
              try simp only [go_sem, Nat.reduceEqDiff, Nat.reduceAdd, Nat.reduceBEq, ↓reduceIte]
              refine ev_ia rfl (by omega) (by omega) ?_
              rw [Int.toNat_natCast]
              try simp only [go_sem, Nat.reduceEqDiff, Nat.reduceAdd, Nat.reduceBEq, ↓reduceIte]
              refine ev_ldRow hB4 (by omega) ?_
              intro A4 q4 ha4
              obtain ⟨b4, off4, rfl⟩ := ha4.base (by omega)
              try simp only [go_sem, Nat.reduceEqDiff, Nat.reduceAdd, Nat.reduceBEq, ↓reduceIte]
              refine ev_ia rfl (by omega) (by omega) ?_
              rw [Int.toNat_natCast]
              try simp only [go_sem, Nat.reduceEqDiff, Nat.reduceAdd, Nat.reduceBEq, ↓reduceIte]
              refine ev_ldF ha4 (by omega) ?_
              intro us hq _
              obtain ⟨b6, A6, l6, c6, B6, m6, e6, hf⟩ := RRat.form hq
              have hq : RRat H4 (.agg us.toArray) ((S i).2 k) := hq
              rw [hf] at hq ⊢
              clear hf ha3 ha4
              have y1 := hbf i k (by omega) (by omega)
              have y2 := hbh i k (by omega) (by omega)
              try simp only [go_sem, Nat.reduceEqDiff, Nat.reduceAdd, Nat.reduceBEq, ↓reduceIte]
              first | refine ev_call (rcmpRR_ok _ _ _ _ _ hp hq (by show br (mx R i k) + br (mx S i k) ≤ _; omega)) ?_ | refine ev_callP (rcmpRR_ok _ _ _ _ _ hp hq (by show br (mx R i k) + br (mx S i k) ≤ _; omega)) ?_
              rintro v_8 H_8 le_8 rfl _
              try simp only [go_sem, Nat.reduceEqDiff, Nat.reduceAdd, Nat.reduceBEq, ↓reduceIte]
              have hA4 := MatH.le RRatC.grows hA4 (by assumption)
              have hB4 := MatH.le RRatC.grows hB4 (by assumption)
              rcases cmpR_cases ((R i).2 k) ((S i).2 k) with ⟨h, e⟩ | ⟨h, e⟩ | ⟨h, e⟩
              · rw [e]
                refine ev_pos (by simp) ?_
                try simp only [go_sem, Nat.reduceEqDiff, Nat.reduceAdd, Nat.reduceBEq, ↓reduceIte]
                refine ⟨by trivial, ?_⟩
                rw [decide_eq_false (fun hh : SameM n n R S => by have := (hh.2 i (by omega)).2 k (by omega); rw [this] at h; exact Rat.lt_irrefl h)]
              · rw [e]
                refine ev_neg (by simp) ?_
                try simp only [go_sem, Nat.reduceEqDiff, Nat.reduceAdd, Nat.reduceBEq, ↓reduceIte]
                rw [w64 ((k : Int) + 1) (by omega) (by omega), show (k : Int) + 1 = ((k + 1 : Nat) : Int) by omega]
                refine k_next ((R i).1 - (k + 1)) _ (by omega) ⟨k + 1, _, rfl, by omega, fun x hx' => ?_, hA4, hB4, rfl⟩ sub_of
                by_cases e : x = k
                · rw [e]; exact h
                · exact hx x (by omega)
              · rw [e]
                refine ev_pos (by simp) ?_
                try simp only [go_sem, Nat.reduceEqDiff, Nat.reduceAdd, Nat.reduceBEq, ↓reduceIte]
                refine ⟨by trivial, ?_⟩
                rw [decide_eq_false (fun hh : SameM n n R S => by have := (hh.2 i (by omega)).2 k (by omega); rw [this] at h; exact Rat.lt_irrefl h)]
            · have hk' : k = (R i).1 := by omega
              try simp only [go_sem, Nat.reduceEqDiff, Nat.reduceAdd, Nat.reduceBEq, ↓reduceIte]
              rw [w64 ((i : Int) + 1) (by omega) (by omega), show (i : Int) + 1 = ((i + 1 : Nat) : Int) by omega]
              refine k_next (n - (i + 1)) _ (by omega) ⟨i + 1, H4, rfl, by omega, fun j hj => ?_, hA4, hB4, rfl⟩ sub_of
              by_cases e : j = i
              · subst e
                exact ⟨hl, fun x hx' => hx x (by omega)⟩
              · exact he j (by omega)
        · have hin : i = n := by omega
          subst hin
          try simp only [go_sem, Nat.reduceEqDiff, Nat.reduceAdd, Nat.reduceBEq, ↓reduceIte]
          refine ⟨by trivial, ?_⟩
          rw [decide_eq_true (show SameM i i R S from ⟨rfl, he⟩)]

end Go.Proofs.YtccdhgjfcgfgoaaGreat.X
set_option linter.unusedVariables false
set_option linter.unusedSimpArgs false
namespace Go.Proofs.YtccdhgjfcgfgoaaGreat.X
open Go Go.RowKit Go.Proofs

/-- the reference's rows that stand -/
def MX (H : PH) (A : Option Addr) (n : Nat) (R : Nat → Rw Rat) : Prop := MatH 3 RRatC H A n R
theorem MX.le {H H' : PH} {A : Option Addr} {n : Nat} {R : Nat → Rw Rat} (h : MX H A n R) (hl : H.le H') : MX H' A n R := MatH.le RRatC.grows h hl
theorem qraw2_ok (H : PH) (A0 : Option Addr) (n c0 : Nat) (R : Nat → Rw ByteArray) (hM : MS H A0 n R) (hn : n ≤ 9223372036854775807) (hr : ∀ i, i < n → (R i).1 ≤ 9223372036854775807) :
    FnP Tryz.prog 7 [.slice A0 n c0] H fun v H' => ∃ A c B e, v = .tuple #[.slice A (min n 5) c, .slice B (min n 5) e] ∧ MR H' A (min n 5) (rawR R) ∧ MX H' B (min n 5) (rawR R) :=
  (raw_ok H A0 n c0 R hM hn hr).mono fun v H' _ ⟨A, c, B, e, h1, h2, h3⟩ => ⟨A, c, B, e, h1, h2, h3⟩
theorem xright_ok (H : PH) (A : Option Addr) (n c : Nat) (R : Nat → Rw Rat) (hM : MX H A n R) (hn : n ≤ 9223372036854775807) : FnP Tryz.prog 17 [.slice A n c] H fun v _ => v = .bool (evB n R) := rightR_ok H A n c R hM hn
end Go.Proofs.YtccdhgjfcgfgoaaGreat.X
set_option linter.unusedVariables false
set_option linter.unusedSimpArgs false
namespace Go.Proofs.YtccdhgjfcgfgoaaGreat.X
open Go Go.RowKit Go.Proofs

theorem raw_all (R : Nat → Rw ByteArray) (i k : Nat) : br (mx (rawR R) i k) ≤ 81 := by
  by_cases h : k < (rawR R i).1
  · exact rawR_br R i k h
  · have h' : ¬ k < (rwL (R i) (min (R i).1 5)).length := h
    show br ((rwL (R i) (min (R i).1 5)).getD k 0) ≤ 81
    have : (rwL (R i) (min (R i).1 5)).getD k 0 = 0 := by simp [List.getD, h']
    rw [this]
    decide +kernel
theorem mul_all {P Q : Nat → Nat → Rat} {K : Nat} (hK : K ≤ 5) (hP : ∀ i k, br (P i k) ≤ 81) (hQ : ∀ i k, br (Q i k) ≤ 81) (i k : Nat) : br (Dt.mul K P Q i k) ≤ 1000 := by
  have := br_sm (f := fun j => P i j * Q j k) (L := 163) K (fun j hj => by
    have h1 := hP i j
    have h2 := hQ j k
    have h3 := br_mul (P i j) (Q j k)
    show br (P i j * Q j k) ≤ _
    omega)
  show br (Dt.sm K fun j => P i j * Q j k) ≤ _
  have h5 : K * (163 + 2) ≤ 5 * (163 + 2) := Nat.mul_le_mul_right _ hK
  omega

section
variable {N K : Nat} {P Q : Nat → Rw Rat}
def nU (N K : Nat) (P Q : Nat → Rw Rat) : Nat := if goB N K P Q = true then N else 0
def nS (N K : Nat) (P Q : Nat → Rw Rat) : Nat := if likeB N K P Q = true then N else 0
def nT (N : Nat) (P : Nat → Rw Rat) : Nat := if evB N P = true then (P 0).1 else 0
end
theorem umul_ok (H : PH) (A B : Option Addr) (N c K e : Nat) (P Q : Nat → Rw Rat) (hA : MR H A N P) (hB : MR H B K Q) (h5 : N ≤ 5) (k5 : K ≤ 5) (hP : ∀ i k, br (mx P i k) ≤ 81) (hQ : ∀ i k, br (mx Q i k) ≤ 81) :
    FnP Tryz.prog 18 [.slice A N c, .slice B K e] H fun v H' => ∃ C z, v = .tuple #[.slice C (nU N K P Q) z, .bool (goB N K P Q)] ∧ MR H' C (nU N K P Q) (rect (Q 0).1 (Dt.mul K (mx P) (mx Q))) := by
  refine (mmul_ok H A B N c K e P Q 81 hA hB (by omega) (by omega) (by decide) (fun i k _ _ => hP i k) (fun i k _ _ => hQ i k)).mono ?_
  unfold nU
  rintro v H' _ (⟨h, rfl⟩ | ⟨h, C, z, rfl, hC⟩)
  · rw [h, if_neg (by simp)]
    exact ⟨_, _, rfl, ArrF.nil⟩
  · rw [h, if_pos rfl]
    exact ⟨_, _, rfl, hC⟩
theorem uxmul_ok (H : PH) (A B : Option Addr) (N c K e : Nat) (P Q : Nat → Rw Rat) (hA : MX H A N P) (hB : MX H B K Q) (h5 : N ≤ 5) (k5 : K ≤ 5) (hP : ∀ i k, br (mx P i k) ≤ 81) (hQ : ∀ i k, br (mx Q i k) ≤ 81) :
    FnP Tryz.prog 20 [.slice A N c, .slice B K e] H fun v H' => ∃ C z, v = .tuple #[.slice C (nU N K P Q) z, .bool (goB N K P Q)] ∧ MX H' C (nU N K P Q) (rect (Q 0).1 (Dt.mul K (mx P) (mx Q))) := by
  refine (refMul_ok H A B N c K e P Q 81 hA hB (by omega) (by omega) (by decide) (fun i k _ _ => hP i k) (fun i k _ _ => hQ i k)).mono ?_
  unfold nU
  rintro v H' _ (⟨h, rfl⟩ | ⟨h, C, z, rfl, hC⟩)
  · rw [h, if_neg (by simp)]
    exact ⟨_, _, rfl, ArrF.nil⟩
  · rw [h, if_pos rfl]
    exact ⟨_, _, rfl, hC⟩
theorem uadd_ok (H : PH) (A B : Option Addr) (N c K e : Nat) (P Q : Nat → Rw Rat) (hA : MR H A N P) (hB : MR H B K Q) (h5 : N ≤ 5) (k5 : K ≤ 5) (hP : ∀ i k, br (mx P i k) ≤ 81) (hQ : ∀ i k, br (mx Q i k) ≤ 81) :
    FnP Tryz.prog 21 [.slice A N c, .slice B K e] H fun v H' => ∃ C z, v = .tuple #[.slice C (nS N K P Q) z, .bool (likeB N K P Q)] ∧ MR H' C (nS N K P Q) (rect (P 0).1 (sumR P Q)) := by
  refine (madd_ok H A B N c K e P Q hA hB (by omega) (by omega) (fun i k _ _ => by have := hP i k; omega) (fun i k _ _ => by have := hQ i k; omega)).mono ?_
  unfold nS
  rintro v H' _ (⟨h, rfl⟩ | ⟨h, C, z, rfl, hC⟩)
  · rw [h, if_neg (by simp)]
    exact ⟨_, _, rfl, ArrF.nil⟩
  · rw [h, if_pos rfl]
    exact ⟨_, _, rfl, hC⟩
theorem uturn_ok (H : PH) (A : Option Addr) (N c : Nat) (P : Nat → Rw Rat) (hA : MR H A N P) (h5 : N ≤ 5) :
    FnP Tryz.prog 22 [.slice A N c] H fun v H' => ∃ C z, v = .tuple #[.slice C (nT N P) z, .bool (evB N P)] ∧ MR H' C (nT N P) (rect N (Dt.tr (mx P))) := by
  refine (turn_ok H A N c P hA (by omega)).mono ?_
  unfold nT
  rintro v H' _ (⟨h, rfl⟩ | ⟨h, C, z, rfl, hC⟩)
  · rw [h, if_neg (by simp)]
    exact ⟨_, _, rfl, ArrF.nil⟩
  · rw [h, if_pos rfl]
    exact ⟨_, _, rfl, hC⟩
theorem uright_ok (H : PH) (A : Option Addr) (N c : Nat) (P : Nat → Rw Rat) (hA : MR H A N P) (h5 : N ≤ 5) : FnP Tryz.prog 23 [.slice A N c] H fun v _ => v = .bool (evB N P) := right_ok H A N c P hA (by omega)
open Classical in
/-- whether they are the same -/
noncomputable def smB (N K : Nat) (P Q : Nat → Rw Rat) : Bool := evB N P && evB K Q && decide (SameM N K P Q)
theorem usame_ok (H : PH) (A B : Option Addr) (N c K e : Nat) (P Q : Nat → Rw Rat) (hA : MR H A N P) (hB : MR H B K Q) (h5 : N ≤ 5) (k5 : K ≤ 5) (hP : ∀ i k, br (mx P i k) ≤ 81) (hQ : ∀ i k, br (mx Q i k) ≤ 81) :
    FnP Tryz.prog 19 [.slice A N c, .slice B K e] H fun v _ => v = .bool (smB N K P Q) :=
  same_ok H A B N K c e P Q hA hB (by omega) (by omega) (fun i k _ _ => by have := hP i k; omega) (fun i k _ _ => by have := hQ i k; omega)
theorem uxsame_ok (H : PH) (A B : Option Addr) (N c K e : Nat) (P Q : Nat → Rw Rat) (hA : MX H A N P) (hB : MX H B K Q) (h5 : N ≤ 5) (k5 : K ≤ 5) (hP : ∀ i k, br (mx P i k) ≤ 81) (hQ : ∀ i k, br (mx Q i k) ≤ 81) :
    FnP Tryz.prog 24 [.slice A N c, .slice B K e] H fun v _ => v = .bool (smB N K P Q) :=
  refSame_ok H A B N K c e P Q hA hB (by omega) (by omega) (fun i k _ _ => by have := hP i k; omega) (fun i k _ _ => by have := hQ i k; omega)
theorem nU_le (N K : Nat) (P Q : Nat → Rw Rat) : nU N K P Q ≤ N := by unfold nU; split <;> omega

set_option maxHeartbeats 8000000 in
theorem MatMuls_ok (H : PH) (A0 B0 : Option Addr) (n c0 m e0 : Nat) (R S : Nat → Rw ByteArray) (hA : MatH 1 StrC H A0 n R) (hB : MatH 1 StrC H B0 m S) (hn : n ≤ 9223372036854775807) (hm : m ≤ 9223372036854775807) (hr : ∀ i, i < n → (R i).1 ≤ 9223372036854775807) (hs : ∀ i, i < m → (S i).1 ≤ 9223372036854775807) :
    FnP Tryz.prog 5 [.slice A0 n c0, .slice B0 m e0] H fun v _ => v = .bool true := by
  replace hA : MS H A0 n R := hA
  replace hB : MS H B0 m S := hB
  refine of_cincturelaw11_MatMuls (by simp) ?_
  try simp only [go_sem, Nat.reduceEqDiff, Nat.reduceAdd, Nat.reduceBEq, ↓reduceIte, p_cincturelaw11_MatMuls]
  first | refine ev_call (alive11_ok _) ?_ | refine ev_callP (alive11_ok _) ?_
  rintro v_1 H_1 le_1 rfl _
  replace hA := hA.le le_1
  replace hB := hB.le le_1
  try simp only [go_sem, Nat.reduceEqDiff, Nat.reduceAdd, Nat.reduceBEq, ↓reduceIte]
  first | refine ev_call (qraw2_ok _ A0 n c0 R hA hn hr) ?_ | refine ev_callP (qraw2_ok _ A0 n c0 R hA hn hr) ?_
  rintro v_2 H_2 le_2 ⟨A1, c1, A2, c2, rfl, hP, hX⟩ _
  replace hB := hB.le le_2
  try simp only [go_sem, Nat.reduceEqDiff, Nat.reduceAdd, Nat.reduceBEq, ↓reduceIte]
  first | refine ev_call (qraw2_ok _ B0 m e0 S hB hm hs) ?_ | refine ev_callP (qraw2_ok _ B0 m e0 S hB hm hs) ?_
  rintro v_3 H_3 le_3 ⟨A3, c3, A4, c4, rfl, hQ, hY⟩ _
  replace hP := hP.le le_3
  replace hX := hX.le le_3
  try simp only [go_sem, Nat.reduceEqDiff, Nat.reduceAdd, Nat.reduceBEq, ↓reduceIte]
  have bP := raw_all R
  have bQ := raw_all S
  have lP := rawR_len R
  have lQ := rawR_len S
  generalize rawR R = P at *
  generalize rawR S = Q at *
  have hN5 : min n 5 ≤ 5 := by omega
  have hK5 : min m 5 ≤ 5 := by omega
  generalize min n 5 = N at *
  generalize min m 5 = K at *
  clear hA hB hr hs hn hm
  first | refine ev_call (umul_ok _ A1 A3 N c1 K c3 P Q hP hQ hN5 hK5 bP bQ) ?_ | refine ev_callP (umul_ok _ A1 A3 N c1 K c3 P Q hP hQ hN5 hK5 bP bQ) ?_
  rintro v_4 H_4 le_4 ⟨A5, c5, rfl, hU⟩ _
  replace hP := hP.le le_4
  replace hQ := hQ.le le_4
  replace hX := hX.le le_4
  replace hY := hY.le le_4
  try simp only [go_sem, Nat.reduceEqDiff, Nat.reduceAdd, Nat.reduceBEq, ↓reduceIte]
  first | refine ev_call (uxmul_ok _ A2 A4 N c2 K c4 P Q hX hY hN5 hK5 bP bQ) ?_ | refine ev_callP (uxmul_ok _ A2 A4 N c2 K c4 P Q hX hY hN5 hK5 bP bQ) ?_
  rintro v_5 H_5 le_5 ⟨A6, c6, rfl, hV⟩ _
  replace hP := hP.le le_5
  replace hQ := hQ.le le_5
  replace hX := hX.le le_5
  replace hY := hY.le le_5
  replace hU := hU.le le_5
  try simp only [go_sem, Nat.reduceEqDiff, Nat.reduceAdd, Nat.reduceBEq, ↓reduceIte]
  first | refine ev_call (uadd_ok _ A1 A3 N c1 K c3 P Q hP hQ hN5 hK5 bP bQ) ?_ | refine ev_callP (uadd_ok _ A1 A3 N c1 K c3 P Q hP hQ hN5 hK5 bP bQ) ?_
  rintro v_6 H_6 le_6 ⟨A7, c7, rfl, hS⟩ _
  replace hP := hP.le le_6
  replace hQ := hQ.le le_6
  replace hX := hX.le le_6
  replace hY := hY.le le_6
  replace hU := hU.le le_6
  replace hV := hV.le le_6
  try simp only [go_sem, Nat.reduceEqDiff, Nat.reduceAdd, Nat.reduceBEq, ↓reduceIte]
  refine ev_cut (fun s => ∃ H' b, b = likeB N K P Q ∧ MR H' A1 N P ∧ MX H' A2 N P ∧ MR H' A3 K Q ∧ MX H' A4 K Q ∧ MR H' A5 (nU N K P Q) (rect (Q 0).1 (Dt.mul K (mx P) (mx Q))) ∧ MX H' A6 (nU N K P Q) (rect (Q 0).1 (Dt.mul K (mx P) (mx Q))) ∧ MR H' A7 (nS N K P Q) (rect (P 0).1 (sumR P Q)) ∧
    s = ⟨[(15, .v (.bool b)), (14, .v (.bool (likeB N K P Q))), (13, .v (.slice A7 (nS N K P Q) c7)), (12, .v (.bool (goB N K P Q))), (11, .v (.slice A6 (nU N K P Q) c6)), (10, .v (.bool (goB N K P Q))), (9, .v (.slice A5 (nU N K P Q) c5)), (8, .v (.slice A4 K c4)), (7, .v (.slice A3 K c3)), (6, .v (.slice A2 N c2)), (5, .v (.slice A1 N c1))], [], H', PH.no⟩) ?_ ?_
  · try simp only [go_sem, Nat.reduceEqDiff, Nat.reduceAdd, Nat.reduceBEq, ↓reduceIte]
    first | refine ev_call (xright_ok _ A2 N c2 P hX (by omega)) ?_ | refine ev_callP (xright_ok _ A2 N c2 P hX (by omega)) ?_
    rintro v_7 H_7 le_7 rfl _
    replace hP := hP.le le_7
    replace hQ := hQ.le le_7
    replace hX := hX.le le_7
    replace hY := hY.le le_7
    replace hU := hU.le le_7
    replace hV := hV.le le_7
    replace hS := hS.le le_7
    try simp only [go_sem, Nat.reduceEqDiff, Nat.reduceAdd, Nat.reduceBEq, ↓reduceIte]
    cases h1 : evB N P with
    | false =>
      have hl : likeB N K P Q = false := by unfold likeB; rw [h1]; rfl
      try simp only [go_sem, Nat.reduceEqDiff, Nat.reduceAdd, Nat.reduceBEq, ↓reduceIte, h1]
      exact k_cut _ ⟨_, false, hl.symm, hP, hX, hQ, hY, hU, hV, hS, rfl⟩ sub_of
    | true =>
      try simp only [go_sem, Nat.reduceEqDiff, Nat.reduceAdd, Nat.reduceBEq, ↓reduceIte, h1]
      first | refine ev_call (xright_ok _ A4 K c4 Q hY (by omega)) ?_ | refine ev_callP (xright_ok _ A4 K c4 Q hY (by omega)) ?_
      rintro v_8 H_8 le_8 rfl _
      replace hP := hP.le le_8
      replace hQ := hQ.le le_8
      replace hX := hX.le le_8
      replace hY := hY.le le_8
      replace hU := hU.le le_8
      replace hV := hV.le le_8
      replace hS := hS.le le_8
      try simp only [go_sem, Nat.reduceEqDiff, Nat.reduceAdd, Nat.reduceBEq, ↓reduceIte]
      cases h2 : evB K Q with
      | false =>
        have hl : likeB N K P Q = false := by unfold likeB; rw [h1, h2]; rfl
        try simp only [go_sem, Nat.reduceEqDiff, Nat.reduceAdd, Nat.reduceBEq, ↓reduceIte, h2]
        exact k_cut _ ⟨_, false, hl.symm, hP, hX, hQ, hY, hU, hV, hS, rfl⟩ sub_of
      | true =>
        obtain ⟨n1, n2, r1, r2, hr⟩ := evB_of h1
        obtain ⟨m1, m2, s1, s2, hs'⟩ := evB_of h2
        obtain ⟨b, off, rfl⟩ := ArrF.base hX (by omega)
        obtain ⟨b', off', rfl⟩ := ArrF.base hY (by omega)
        try simp only [go_sem, Nat.reduceEqDiff, Nat.reduceAdd, Nat.reduceBEq, ↓reduceIte, h2]
        refine ev_if (fun x1 => ?_) (fun x1 => ?_)
        · try simp only [go_sem, Nat.reduceEqDiff, Nat.reduceAdd, Nat.reduceBEq, ↓reduceIte]
          refine ev_ia rfl (by omega) (by omega) ?_
          try simp only [go_sem, Nat.reduceEqDiff, Nat.reduceAdd, Nat.reduceBEq, ↓reduceIte]
          refine ev_ldRow0 hX (by omega) ?_
          intro A8 q8 ha8
          try simp only [go_sem, Nat.reduceEqDiff, Nat.reduceAdd, Nat.reduceBEq, ↓reduceIte]
          refine ev_ia rfl (by omega) (by omega) ?_
          try simp only [go_sem, Nat.reduceEqDiff, Nat.reduceAdd, Nat.reduceBEq, ↓reduceIte]
          refine ev_ldRow0 hY (by omega) ?_
          intro A9 q9 ha9
          try simp only [go_sem, Nat.reduceEqDiff, Nat.reduceAdd, Nat.reduceBEq, ↓reduceIte]
          refine ev_if (fun x2 => ?_) (fun x2 => ?_)
          · have hl : likeB N K P Q = true := by unfold likeB; rw [h1, h2, decide_eq_true (show N = K by omega), decide_eq_true (show (P 0).1 = (Q 0).1 by omega)]; rfl
            try simp only [go_sem, Nat.reduceEqDiff, Nat.reduceAdd, Nat.reduceBEq, ↓reduceIte]
            exact k_cut _ ⟨_, true, hl.symm, hP, hX, hQ, hY, hU, hV, hS, rfl⟩ sub_of
          · have hl : likeB N K P Q = false := by unfold likeB; rw [h1, h2, decide_eq_false (show ¬ (P 0).1 = (Q 0).1 by omega)]; simp
            try simp only [go_sem, Nat.reduceEqDiff, Nat.reduceAdd, Nat.reduceBEq, ↓reduceIte]
            exact k_cut _ ⟨_, false, hl.symm, hP, hX, hQ, hY, hU, hV, hS, rfl⟩ sub_of
        · have hl : likeB N K P Q = false := by unfold likeB; rw [h1, h2, decide_eq_false (show ¬ N = K by omega)]; simp
          try simp only [go_sem, Nat.reduceEqDiff, Nat.reduceAdd, Nat.reduceBEq, ↓reduceIte]
          exact k_cut _ ⟨_, false, hl.symm, hP, hX, hQ, hY, hU, hV, hS, rfl⟩ sub_of
  · clear hP hX hQ hY hU hV hS
    rintro s ⟨H2, b, rfl, hP, hX, hQ, hY, hU, hV, hS, rfl⟩
    try simp only [go_sem, Nat.reduceEqDiff, Nat.reduceAdd, Nat.reduceBEq, ↓reduceIte]
    first | refine ev_call (uturn_ok _ A1 N c1 P hP hN5) ?_ | refine ev_callP (uturn_ok _ A1 N c1 P hP hN5) ?_
    rintro v_9 H_9 le_9 ⟨A8, c8, rfl, hT⟩ _
    replace hP := hP.le le_9
    replace hQ := hQ.le le_9
    replace hX := hX.le le_9
    replace hY := hY.le le_9
    replace hU := hU.le le_9
    replace hV := hV.le le_9
    replace hS := hS.le le_9
    try simp only [go_sem, Nat.reduceEqDiff, Nat.reduceAdd, Nat.reduceBEq, ↓reduceIte]
    try simp only [go_sem, Nat.reduceEqDiff, Nat.reduceAdd, Nat.reduceBEq, ↓reduceIte, bne_self_eq_false]
    first | refine ev_call (isM_ok _ A5 A6 (nU N K P Q) c5 c6 _ hU hV (by have := nU_le N K P Q; omega) (fun i hi => by have := lQ 0; show (Q 0).1 ≤ 1000; omega) (fun i hi k hk => by have := mul_all hK5 bP bQ i k; show br (Dt.mul K (mx P) (mx Q) i k) ≤ _; omega)) ?_ | refine ev_callP (isM_ok _ A5 A6 (nU N K P Q) c5 c6 _ hU hV (by have := nU_le N K P Q; omega) (fun i hi => by have := lQ 0; show (Q 0).1 ≤ 1000; omega) (fun i hi k hk => by have := mul_all hK5 bP bQ i k; show br (Dt.mul K (mx P) (mx Q) i k) ≤ _; omega)) ?_
    rintro v_10 H_10 le_10 rfl _
    replace hP := hP.le le_10
    replace hQ := hQ.le le_10
    replace hX := hX.le le_10
    replace hY := hY.le le_10
    replace hS := hS.le le_10
    replace hT := hT.le le_10
    try simp only [go_sem, Nat.reduceEqDiff, Nat.reduceAdd, Nat.reduceBEq, ↓reduceIte]
    try simp only [go_sem, Nat.reduceEqDiff, Nat.reduceAdd, Nat.reduceBEq, ↓reduceIte, bne_self_eq_false]
    first | refine ev_call (xright_ok _ A2 N c2 P hX (by omega)) ?_ | refine ev_callP (xright_ok _ A2 N c2 P hX (by omega)) ?_
    rintro v_11 H_11 le_11 rfl _
    replace hP := hP.le le_11
    replace hQ := hQ.le le_11
    replace hX := hX.le le_11
    replace hY := hY.le le_11
    replace hS := hS.le le_11
    replace hT := hT.le le_11
    try simp only [go_sem, Nat.reduceEqDiff, Nat.reduceAdd, Nat.reduceBEq, ↓reduceIte]
    try simp only [go_sem, Nat.reduceEqDiff, Nat.reduceAdd, Nat.reduceBEq, ↓reduceIte, bne_self_eq_false]
    first | refine ev_call (uright_ok _ A1 N c1 P hP hN5) ?_ | refine ev_callP (uright_ok _ A1 N c1 P hP hN5) ?_
    rintro v_12 H_12 le_12 rfl _
    replace hP := hP.le le_12
    replace hQ := hQ.le le_12
    replace hX := hX.le le_12
    replace hY := hY.le le_12
    replace hS := hS.le le_12
    replace hT := hT.le le_12
    try simp only [go_sem, Nat.reduceEqDiff, Nat.reduceAdd, Nat.reduceBEq, ↓reduceIte]
    first | refine ev_call (xright_ok _ A2 N c2 P hX (by omega)) ?_ | refine ev_callP (xright_ok _ A2 N c2 P hX (by omega)) ?_
    rintro v_13 H_13 le_13 rfl _
    replace hP := hP.le le_13
    replace hQ := hQ.le le_13
    replace hX := hX.le le_13
    replace hY := hY.le le_13
    replace hS := hS.le le_13
    replace hT := hT.le le_13
    try simp only [go_sem, Nat.reduceEqDiff, Nat.reduceAdd, Nat.reduceBEq, ↓reduceIte]
    try simp only [go_sem, Nat.reduceEqDiff, Nat.reduceAdd, Nat.reduceBEq, ↓reduceIte, bne_self_eq_false]
    first | refine ev_call (usame_ok _ A1 A3 N c1 K c3 P Q hP hQ hN5 hK5 bP bQ) ?_ | refine ev_callP (usame_ok _ A1 A3 N c1 K c3 P Q hP hQ hN5 hK5 bP bQ) ?_
    rintro v_14 H_14 le_14 rfl _
    replace hX := hX.le le_14
    replace hY := hY.le le_14
    replace hS := hS.le le_14
    replace hT := hT.le le_14
    try simp only [go_sem, Nat.reduceEqDiff, Nat.reduceAdd, Nat.reduceBEq, ↓reduceIte]
    first | refine ev_call (uxsame_ok _ A2 A4 N c2 K c4 P Q hX hY hN5 hK5 bP bQ) ?_ | refine ev_callP (uxsame_ok _ A2 A4 N c2 K c4 P Q hX hY hN5 hK5 bP bQ) ?_
    rintro v_15 H_15 le_15 rfl _
    replace hX := hX.le le_15
    replace hY := hY.le le_15
    replace hS := hS.le le_15
    replace hT := hT.le le_15
    try simp only [go_sem, Nat.reduceEqDiff, Nat.reduceAdd, Nat.reduceBEq, ↓reduceIte]
    try simp only [go_sem, Nat.reduceEqDiff, Nat.reduceAdd, Nat.reduceBEq, ↓reduceIte, bne_self_eq_false]
    clear hP hQ hU hV
    unfold nS at hS ⊢
    unfold nT at hT ⊢
    cases h1 : evB N P with
    | false =>
      have hl : likeB N K P Q = false := by unfold likeB; rw [h1]; rfl
      rw [hl]
      rw [hl] at hS
      simp only [Bool.false_eq_true, ↓reduceIte] at hS hT ⊢
      try simp only [go_sem, Nat.reduceEqDiff, Nat.reduceAdd, Nat.reduceBEq, ↓reduceIte]
      refine ev_neg (by omega) ?_
      try simp only [go_sem, Nat.reduceEqDiff, Nat.reduceAdd, Nat.reduceBEq, ↓reduceIte]
      refine ev_neg (by omega) ?_
      try simp only [go_sem, Nat.reduceEqDiff, Nat.reduceAdd, Nat.reduceBEq, ↓reduceIte]
      refine ev_loop (fun t s => ∃ H3 : PH, s = ⟨[(18, .v (.int .i64 0)), (17, .v (.bool false)), (16, .v (.slice A8 0 c8)), (14, .v (.bool false)), (6, .v (.slice A2 N c2))], [], H3, PH.no⟩) 0 _ ⟨_, rfl⟩ sub_of ?_
      rintro t s ⟨H3, rfl⟩
      try simp only [go_sem, Nat.reduceEqDiff, Nat.reduceAdd, Nat.reduceBEq, ↓reduceIte]
      refine ev_loop (fun t s => ∃ H3 : PH, s = ⟨[(20, .v (.int .i64 0)), (17, .v (.bool false)), (16, .v (.slice A8 0 c8)), (6, .v (.slice A2 N c2))], [], H3, PH.no⟩) 0 _ ⟨_, rfl⟩ sub_of ?_
      rintro t s ⟨H3, rfl⟩
      try simp only [go_sem, Nat.reduceEqDiff, Nat.reduceAdd, Nat.reduceBEq, ↓reduceIte]
      exact ⟨by trivial, by trivial⟩
    | true =>
      obtain ⟨n1, n2, r1, r2, hr⟩ := evB_of h1
      obtain ⟨b, off, rfl⟩ := ArrF.base hX (by omega)
      rw [h1, if_pos rfl] at hT
      simp only [↓reduceIte]
      cases hl : likeB N K P Q with
      | false =>
        simp only [hl, Bool.false_eq_true, ↓reduceIte] at hS ⊢
        try simp only [go_sem, Nat.reduceEqDiff, Nat.reduceAdd, Nat.reduceBEq, ↓reduceIte]
        refine ev_neg (by omega) ?_
        try simp only [go_sem, Nat.reduceEqDiff, Nat.reduceAdd, Nat.reduceBEq, ↓reduceIte]
        refine ev_loop (fun t s => ∃ H3 : PH, MX H3 (some ⟨b, off, none⟩) N P ∧ MR H3 A8 (P 0).1 (rect N (Dt.tr (mx P))) ∧ s = ⟨[(18, .v (.int .i64 0)), (17, .v (.bool true)), (16, .v (.slice A8 (P 0).1 c8)), (14, .v (.bool false)), (6, .v (.slice (some ⟨b, off, none⟩) N c2))], [], H3, PH.no⟩) 0 _ ⟨_, hX, hT, rfl⟩ sub_of ?_
        clear hX hT
        rintro t s ⟨H3, hX, hT, rfl⟩
        try simp only [go_sem, Nat.reduceEqDiff, Nat.reduceAdd, Nat.reduceBEq, ↓reduceIte]
        refine ev_loop (fun t s => ∃ (k : Nat) (H3 : PH), t = (P 0).1 - k ∧ k ≤ (P 0).1 ∧ MX H3 (some ⟨b, off, none⟩) N P ∧ MR H3 A8 (P 0).1 (rect N (Dt.tr (mx P))) ∧
          s = ⟨[(20, .v (.int .i64 (k : Int))), (17, .v (.bool true)), (16, .v (.slice A8 (P 0).1 c8)), (6, .v (.slice (some ⟨b, off, none⟩) N c2))], [], H3, PH.no⟩) (P 0).1 _ ⟨0, _, rfl, by omega, hX, hT, rfl⟩ sub_of ?_
        clear hX hT
        rintro t s ⟨k, H3, rfl, hk, hX, hT, rfl⟩
        try simp only [go_sem, Nat.reduceEqDiff, Nat.reduceAdd, Nat.reduceBEq, ↓reduceIte]
        refine ev_ia rfl (by omega) (by omega) ?_
        try simp only [go_sem, Nat.reduceEqDiff, Nat.reduceAdd, Nat.reduceBEq, ↓reduceIte]
        refine ev_ldRow0 hX (by omega) ?_
        intro A9 q9 ha9
        clear ha9
        try simp only [go_sem, Nat.reduceEqDiff, Nat.reduceAdd, Nat.reduceBEq, ↓reduceIte]
        refine ev_if (fun x1 => ?_) (fun x1 => ?_)
        · have hkw : k < (P 0).1 := by omega
          obtain ⟨b8, o8, rfl⟩ := ArrF.base hT (by omega)
          try simp only [go_sem, Nat.reduceEqDiff, Nat.reduceAdd, Nat.reduceBEq, ↓reduceIte]
          refine ev_ia rfl (by omega) (by omega) ?_
          try simp only [go_sem, Nat.reduceEqDiff, Nat.reduceAdd, Nat.reduceBEq, ↓reduceIte]
          refine ev_ldRow0 hX (by omega) ?_
          intro A9 q9 ha9
          clear ha9
          try simp only [go_sem, Nat.reduceEqDiff, Nat.reduceAdd, Nat.reduceBEq, ↓reduceIte]
          refine ev_neg (by simp) ?_
          try simp only [go_sem, Nat.reduceEqDiff, Nat.reduceAdd, Nat.reduceBEq, ↓reduceIte]
          refine ev_ia rfl (by omega) (by omega) ?_
          rw [Int.toNat_natCast]
          try simp only [go_sem, Nat.reduceEqDiff, Nat.reduceAdd, Nat.reduceBEq, ↓reduceIte]
          refine ev_ldRow hT hkw ?_
          intro A9 q9 ha9
          replace ha9 : ArrF 3 RatC _ A9 N (Dt.tr (mx P) k) := ha9
          try simp only [go_sem, Nat.reduceEqDiff, Nat.reduceAdd, Nat.reduceBEq, ↓reduceIte]
          refine ev_neg (fun h => h rfl) ?_
          clear ha9
          try simp only [go_sem, Nat.reduceEqDiff, Nat.reduceAdd, Nat.reduceBEq, ↓reduceIte]
          refine ev_loop (fun t s => ∃ (i : Nat) (H4 : PH), t = N - i ∧ i ≤ N ∧ MX H4 (some ⟨b, off, none⟩) N P ∧ MR H4 (some ⟨b8, o8, none⟩) (P 0).1 (rect N (Dt.tr (mx P))) ∧
            s = ⟨[(21, .v (.int .i64 (i : Int))), (20, .v (.int .i64 (k : Int))), (17, .v (.bool true)), (16, .v (.slice (some ⟨b8, o8, none⟩) (P 0).1 c8)), (6, .v (.slice (some ⟨b, off, none⟩) N c2))], [], H4, PH.no⟩) N _ ⟨0, H3, rfl, by omega, hX, hT, rfl⟩ sub_of ?_
          clear hX hT
          rintro t s ⟨i, H4, rfl, hi, hX, hT, rfl⟩
          try simp only [go_sem, Nat.reduceEqDiff, Nat.reduceAdd, Nat.reduceBEq, ↓reduceIte]
          refine ev_if (fun x2 => ?_) (fun x2 => ?_)
          · have hiN : i < N := by omega
            have hri := hr i hiN
            try simp only [go_sem, Nat.reduceEqDiff, Nat.reduceAdd, Nat.reduceBEq, ↓reduceIte]
            refine ev_ia rfl (by omega) (by omega) ?_
            rw [Int.toNat_natCast]
            try simp only [go_sem, Nat.reduceEqDiff, Nat.reduceAdd, Nat.reduceBEq, ↓reduceIte]
            refine ev_ldRow hT hkw ?_
            intro A9 q9 ha9
            replace ha9 : ArrF 3 RatC H4 A9 N (Dt.tr (mx P) k) := ha9
            obtain ⟨b9, o9, rfl⟩ := ha9.base (by omega)
            try simp only [go_sem, Nat.reduceEqDiff, Nat.reduceAdd, Nat.reduceBEq, ↓reduceIte]
            refine ev_ia rfl (by omega) (by show (i : Int) < (N : Int); omega) ?_
            rw [Int.toNat_natCast]
            try simp only [go_sem, Nat.reduceEqDiff, Nat.reduceAdd, Nat.reduceBEq, ↓reduceIte]
            refine ev_ldF ha9 hiN ?_
            intro us hp _
            obtain ⟨A10, l10, y10, b10, B10, m10, z10, hf⟩ := RatV.form hp
            have hp : RatV H4 (.agg us.toArray) (mx P i k) := hp
            rw [hf] at hp ⊢
            clear hf
            try simp only [go_sem, Nat.reduceEqDiff, Nat.reduceAdd, Nat.reduceBEq, ↓reduceIte]
            refine ev_ia rfl (by omega) (by omega) ?_
            rw [Int.toNat_natCast]
            try simp only [go_sem, Nat.reduceEqDiff, Nat.reduceAdd, Nat.reduceBEq, ↓reduceIte]
            refine ev_ldRow hX hiN ?_
            intro A11 q11 ha11
            obtain ⟨b11, o11, rfl⟩ := ha11.base (by omega)
            try simp only [go_sem, Nat.reduceEqDiff, Nat.reduceAdd, Nat.reduceBEq, ↓reduceIte]
            refine ev_ia rfl (by omega) (by omega) ?_
            rw [Int.toNat_natCast]
            try simp only [go_sem, Nat.reduceEqDiff, Nat.reduceAdd, Nat.reduceBEq, ↓reduceIte]
            refine ev_ldF ha11 (by omega) ?_
            intro us hq _
            obtain ⟨b12, A12, l12, y12, B12, m12, z12, hf⟩ := RRat.form hq
            have hq : RRat H4 (.agg us.toArray) (mx P i k) := hq
            rw [hf] at hq ⊢
            clear hf ha9 ha11
            have y1 := bP i k
            try simp only [go_sem, Nat.reduceEqDiff, Nat.reduceAdd, Nat.reduceBEq, ↓reduceIte]
            first | refine ev_call (isQ_ok _ _ _ _ hp hq (by omega)) ?_ | refine ev_callP (isQ_ok _ _ _ _ hp hq (by omega)) ?_
            rintro v_16 H_16 le_16 rfl _
            replace hX := hX.le le_16
            replace hT := hT.le le_16
            try simp only [go_sem, Nat.reduceEqDiff, Nat.reduceAdd, Nat.reduceBEq, ↓reduceIte]
            rw [w64 ((i : Int) + 1) (by omega) (by omega), show (i : Int) + 1 = ((i + 1 : Nat) : Int) by omega]
            exact k_next (N - (i + 1)) _ (by omega) ⟨i + 1, _, rfl, by omega, hX, hT, rfl⟩ sub_of
          · have hin : i = N := by omega
            try simp only [go_sem, Nat.reduceEqDiff, Nat.reduceAdd, Nat.reduceBEq, ↓reduceIte]
            rw [w64 ((k : Int) + 1) (by omega) (by omega), show (k : Int) + 1 = ((k + 1 : Nat) : Int) by omega]
            exact k_next ((P 0).1 - (k + 1)) _ (by omega) ⟨k + 1, H4, rfl, by omega, hX, hT, rfl⟩ sub_of
        · have hin : k = (P 0).1 := by omega
          try simp only [go_sem, Nat.reduceEqDiff, Nat.reduceAdd, Nat.reduceBEq, ↓reduceIte]
          exact ⟨by trivial, by trivial⟩
      | true =>
        simp only [hl, ↓reduceIte] at hS ⊢
        obtain ⟨h2, hNK, hw⟩ : evB K Q = true ∧ N = K ∧ (P 0).1 = (Q 0).1 := by
          unfold likeB at hl
          rw [Bool.and_eq_true, Bool.and_eq_true, Bool.and_eq_true, decide_eq_true_eq, decide_eq_true_eq] at hl
          exact ⟨hl.1.1.2, hl.1.2, hl.2⟩
        subst hNK
        obtain ⟨m1, m2, s1, s2, hs'⟩ := evB_of h2
        obtain ⟨b4, o4, rfl⟩ := ArrF.base hY (by omega)
        obtain ⟨b7, o7, rfl⟩ := ArrF.base hS (by omega)
        try simp only [go_sem, Nat.reduceEqDiff, Nat.reduceAdd, Nat.reduceBEq, ↓reduceIte]
        refine ev_loop (fun t s => ∃ (i : Nat) (H3 : PH), t = N - i ∧ i ≤ N ∧ MX H3 (some ⟨b, off, none⟩) N P ∧ MX H3 (some ⟨b4, o4, none⟩) N Q ∧ MR H3 (some ⟨b7, o7, none⟩) N (rect (P 0).1 (sumR P Q)) ∧ MR H3 A8 (P 0).1 (rect N (Dt.tr (mx P))) ∧
          s = ⟨[(18, .v (.int .i64 (i : Int))), (17, .v (.bool true)), (16, .v (.slice A8 (P 0).1 c8)), (14, .v (.bool true)), (13, .v (.slice (some ⟨b7, o7, none⟩) N c7)), (8, .v (.slice (some ⟨b4, o4, none⟩) N c4)), (6, .v (.slice (some ⟨b, off, none⟩) N c2))], [], H3, PH.no⟩) N _ ⟨0, _, rfl, by omega, hX, hY, hS, hT, rfl⟩ sub_of ?_
        clear hX hY hS hT
        rintro t s ⟨i, H3, rfl, hi, hX, hY, hS, hT, rfl⟩
        try simp only [go_sem, Nat.reduceEqDiff, Nat.reduceAdd, Nat.reduceBEq, ↓reduceIte]
        refine ev_if (fun x1 => ?_) (fun x1 => ?_)
        · have hiN : i < N := by omega
          have hri := hr i hiN
          have hsi := hs' i hiN
          try simp only [go_sem, Nat.reduceEqDiff, Nat.reduceAdd, Nat.reduceBEq, ↓reduceIte]
          refine ev_neg (by simp) ?_
          try simp only [go_sem, Nat.reduceEqDiff, Nat.reduceAdd, Nat.reduceBEq, ↓reduceIte]
          refine ev_ia rfl (by omega) (by omega) ?_
          rw [Int.toNat_natCast]
          try simp only [go_sem, Nat.reduceEqDiff, Nat.reduceAdd, Nat.reduceBEq, ↓reduceIte]
          refine ev_ldRow hS hiN ?_
          intro A9 q9 ha9
          replace ha9 : ArrF 3 RatC H3 A9 (P 0).1 (sumR P Q i) := ha9
          try simp only [go_sem, Nat.reduceEqDiff, Nat.reduceAdd, Nat.reduceBEq, ↓reduceIte]
          refine ev_ia rfl (by omega) (by omega) ?_
          rw [Int.toNat_natCast]
          try simp only [go_sem, Nat.reduceEqDiff, Nat.reduceAdd, Nat.reduceBEq, ↓reduceIte]
          refine ev_ldRow hX hiN ?_
          intro A10 q10 ha10
          try simp only [go_sem, Nat.reduceEqDiff, Nat.reduceAdd, Nat.reduceBEq, ↓reduceIte]
          refine ev_neg (fun h => h (by show ((P 0).1 : Int) = ((P i).1 : Int); omega)) ?_
          clear ha9 ha10
          try simp only [go_sem, Nat.reduceEqDiff, Nat.reduceAdd, Nat.reduceBEq, ↓reduceIte]
          refine ev_loop (fun t s => ∃ (j : Nat) (H4 : PH), t = (P 0).1 - j ∧ j ≤ (P 0).1 ∧ MX H4 (some ⟨b, off, none⟩) N P ∧ MX H4 (some ⟨b4, o4, none⟩) N Q ∧ MR H4 (some ⟨b7, o7, none⟩) N (rect (P 0).1 (sumR P Q)) ∧ MR H4 A8 (P 0).1 (rect N (Dt.tr (mx P))) ∧
            s = ⟨[(19, .v (.int .i64 (j : Int))), (18, .v (.int .i64 (i : Int))), (17, .v (.bool true)), (16, .v (.slice A8 (P 0).1 c8)), (14, .v (.bool true)), (13, .v (.slice (some ⟨b7, o7, none⟩) N c7)), (8, .v (.slice (some ⟨b4, o4, none⟩) N c4)), (6, .v (.slice (some ⟨b, off, none⟩) N c2))], [], H4, PH.no⟩) (P 0).1 _ ⟨0, H3, rfl, by omega, hX, hY, hS, hT, rfl⟩ sub_of ?_
          clear hX hY hS hT
          rintro t s ⟨j, H4, rfl, hj, hX, hY, hS, hT, rfl⟩
          try simp only [go_sem, Nat.reduceEqDiff, Nat.reduceAdd, Nat.reduceBEq, ↓reduceIte]
          refine ev_ia rfl (by omega) (by omega) ?_
          rw [Int.toNat_natCast]
          try simp only [go_sem, Nat.reduceEqDiff, Nat.reduceAdd, Nat.reduceBEq, ↓reduceIte]
          refine ev_ldRow hX hiN ?_
          intro A10 q10 ha10
          clear ha10
          try simp only [go_sem, Nat.reduceEqDiff, Nat.reduceAdd, Nat.reduceBEq, ↓reduceIte]
          refine ev_if (fun x2 => ?_) (fun x2 => ?_)
          · have hjw : j < (P 0).1 := by omega
            try simp only [go_sem, Nat.reduceEqDiff, Nat.reduceAdd, Nat.reduceBEq, ↓reduceIte]
            refine ev_ia rfl (by omega) (by omega) ?_
            rw [Int.toNat_natCast]
            try simp only [go_sem, Nat.reduceEqDiff, Nat.reduceAdd, Nat.reduceBEq, ↓reduceIte]
            refine ev_ldRow hS hiN ?_
            intro A9 q9 ha9
            replace ha9 : ArrF 3 RatC H4 A9 (P 0).1 (sumR P Q i) := ha9
            obtain ⟨b9, o9, rfl⟩ := ha9.base (by omega)
            try simp only [go_sem, Nat.reduceEqDiff, Nat.reduceAdd, Nat.reduceBEq, ↓reduceIte]
            refine ev_ia rfl (by omega) (by show (j : Int) < ((P 0).1 : Int); omega) ?_
            rw [Int.toNat_natCast]
            try simp only [go_sem, Nat.reduceEqDiff, Nat.reduceAdd, Nat.reduceBEq, ↓reduceIte]
            refine ev_ldF ha9 hjw ?_
            intro us hp _
            obtain ⟨A10, l10, y10, b10, B10, m10, z10, hf⟩ := RatV.form hp
            have hp : RatV H4 (.agg us.toArray) (mx P i j + mx Q i j) := hp
            rw [hf] at hp ⊢
            clear hf ha9
            try simp only [go_sem, Nat.reduceEqDiff, Nat.reduceAdd, Nat.reduceBEq, ↓reduceIte]
            refine ev_ia rfl (by omega) (by omega) ?_
            rw [Int.toNat_natCast]
            try simp only [go_sem, Nat.reduceEqDiff, Nat.reduceAdd, Nat.reduceBEq, ↓reduceIte]
            refine ev_ldRow hX hiN ?_
            intro A11 q11 ha11
            obtain ⟨b11, o11, rfl⟩ := ha11.base (by omega)
            try simp only [go_sem, Nat.reduceEqDiff, Nat.reduceAdd, Nat.reduceBEq, ↓reduceIte]
            refine ev_ia rfl (by omega) (by omega) ?_
            rw [Int.toNat_natCast]
            try simp only [go_sem, Nat.reduceEqDiff, Nat.reduceAdd, Nat.reduceBEq, ↓reduceIte]
            refine ev_ldF ha11 (by omega) ?_
            intro us hq _
            obtain ⟨b12, A12, l12, y12, B12, m12, z12, hf⟩ := RRat.form hq
            have hq : RRat H4 (.agg us.toArray) (mx P i j) := hq
            rw [hf] at hq ⊢
            clear hf ha11
            try simp only [go_sem, Nat.reduceEqDiff, Nat.reduceAdd, Nat.reduceBEq, ↓reduceIte]
            refine ev_ia rfl (by omega) (by omega) ?_
            rw [Int.toNat_natCast]
            try simp only [go_sem, Nat.reduceEqDiff, Nat.reduceAdd, Nat.reduceBEq, ↓reduceIte]
            refine ev_ldRow hY hiN ?_
            intro A13 q13 ha13
            obtain ⟨b13, o13, rfl⟩ := ha13.base (by omega)
            try simp only [go_sem, Nat.reduceEqDiff, Nat.reduceAdd, Nat.reduceBEq, ↓reduceIte]
            refine ev_ia rfl (by omega) (by omega) ?_
            rw [Int.toNat_natCast]
            try simp only [go_sem, Nat.reduceEqDiff, Nat.reduceAdd, Nat.reduceBEq, ↓reduceIte]
            refine ev_ldF ha13 (by omega) ?_
            intro us hu _
            obtain ⟨b14, A14, l14, y14, B14, m14, z14, hf⟩ := RRat.form hu
            have hu : RRat H4 (.agg us.toArray) (mx Q i j) := hu
            rw [hf] at hu ⊢
            clear hf ha13
            have y1 := bP i j
            have y2 := bQ i j
            have y3 := br_add (mx P i j) (mx Q i j)
            try simp only [go_sem, Nat.reduceEqDiff, Nat.reduceAdd, Nat.reduceBEq, ↓reduceIte]
            first | refine ev_call (raddR_ok _ _ _ _ _ hq hu (by omega)) ?_ | refine ev_callP (raddR_ok _ _ _ _ _ hq hu (by omega)) ?_
            rintro v_17 H_17 le_17 h15 _
            replace hX := hX.le le_17
            replace hY := hY.le le_17
            replace hS := hS.le le_17
            replace hT := hT.le le_17
            replace hp := hp.le le_17
            try simp only [go_sem, Nat.reduceEqDiff, Nat.reduceAdd, Nat.reduceBEq, ↓reduceIte]
            first | refine ev_call (isQ_ok _ _ _ _ hp h15 (by omega)) ?_ | refine ev_callP (isQ_ok _ _ _ _ hp h15 (by omega)) ?_
            rintro v_18 H_18 le_18 rfl _
            replace hX := hX.le le_18
            replace hY := hY.le le_18
            replace hS := hS.le le_18
            replace hT := hT.le le_18
            try simp only [go_sem, Nat.reduceEqDiff, Nat.reduceAdd, Nat.reduceBEq, ↓reduceIte]
            rw [w64 ((j : Int) + 1) (by omega) (by omega), show (j : Int) + 1 = ((j + 1 : Nat) : Int) by omega]
            exact k_next ((P 0).1 - (j + 1)) _ (by omega) ⟨j + 1, _, rfl, by omega, hX, hY, hS, hT, rfl⟩ sub_of
          · have hin : j = (P 0).1 := by omega
            try simp only [go_sem, Nat.reduceEqDiff, Nat.reduceAdd, Nat.reduceBEq, ↓reduceIte]
            rw [w64 ((i : Int) + 1) (by omega) (by omega), show (i : Int) + 1 = ((i + 1 : Nat) : Int) by omega]
            exact k_next (N - (i + 1)) _ (by omega) ⟨i + 1, H4, rfl, by omega, hX, hY, hS, hT, rfl⟩ sub_of
        · have hin : i = N := by omega
          clear hY hS
          try simp only [go_sem, Nat.reduceEqDiff, Nat.reduceAdd, Nat.reduceBEq, ↓reduceIte]
          refine ev_loop (fun t s => ∃ (k : Nat) (H3 : PH), t = (P 0).1 - k ∧ k ≤ (P 0).1 ∧ MX H3 (some ⟨b, off, none⟩) N P ∧ MR H3 A8 (P 0).1 (rect N (Dt.tr (mx P))) ∧
            s = ⟨[(20, .v (.int .i64 (k : Int))), (17, .v (.bool true)), (16, .v (.slice A8 (P 0).1 c8)), (6, .v (.slice (some ⟨b, off, none⟩) N c2))], [], H3, PH.no⟩) (P 0).1 _ ⟨0, _, rfl, by omega, hX, hT, rfl⟩ sub_of ?_
          clear hX hT
          rintro t s ⟨k, H3, rfl, hk, hX, hT, rfl⟩
          try simp only [go_sem, Nat.reduceEqDiff, Nat.reduceAdd, Nat.reduceBEq, ↓reduceIte]
          refine ev_ia rfl (by omega) (by omega) ?_
          try simp only [go_sem, Nat.reduceEqDiff, Nat.reduceAdd, Nat.reduceBEq, ↓reduceIte]
          refine ev_ldRow0 hX (by omega) ?_
          intro A9 q9 ha9
          clear ha9
          try simp only [go_sem, Nat.reduceEqDiff, Nat.reduceAdd, Nat.reduceBEq, ↓reduceIte]
          refine ev_if (fun x1 => ?_) (fun x1 => ?_)
          · have hkw : k < (P 0).1 := by omega
            obtain ⟨b8, o8, rfl⟩ := ArrF.base hT (by omega)
            try simp only [go_sem, Nat.reduceEqDiff, Nat.reduceAdd, Nat.reduceBEq, ↓reduceIte]
            refine ev_ia rfl (by omega) (by omega) ?_
            try simp only [go_sem, Nat.reduceEqDiff, Nat.reduceAdd, Nat.reduceBEq, ↓reduceIte]
            refine ev_ldRow0 hX (by omega) ?_
            intro A9 q9 ha9
            clear ha9
            try simp only [go_sem, Nat.reduceEqDiff, Nat.reduceAdd, Nat.reduceBEq, ↓reduceIte]
            refine ev_neg (by simp) ?_
            try simp only [go_sem, Nat.reduceEqDiff, Nat.reduceAdd, Nat.reduceBEq, ↓reduceIte]
            refine ev_ia rfl (by omega) (by omega) ?_
            rw [Int.toNat_natCast]
            try simp only [go_sem, Nat.reduceEqDiff, Nat.reduceAdd, Nat.reduceBEq, ↓reduceIte]
            refine ev_ldRow hT hkw ?_
            intro A9 q9 ha9
            replace ha9 : ArrF 3 RatC _ A9 N (Dt.tr (mx P) k) := ha9
            try simp only [go_sem, Nat.reduceEqDiff, Nat.reduceAdd, Nat.reduceBEq, ↓reduceIte]
            refine ev_neg (fun h => h rfl) ?_
            clear ha9
            try simp only [go_sem, Nat.reduceEqDiff, Nat.reduceAdd, Nat.reduceBEq, ↓reduceIte]
            refine ev_loop (fun t s => ∃ (i : Nat) (H4 : PH), t = N - i ∧ i ≤ N ∧ MX H4 (some ⟨b, off, none⟩) N P ∧ MR H4 (some ⟨b8, o8, none⟩) (P 0).1 (rect N (Dt.tr (mx P))) ∧
              s = ⟨[(21, .v (.int .i64 (i : Int))), (20, .v (.int .i64 (k : Int))), (17, .v (.bool true)), (16, .v (.slice (some ⟨b8, o8, none⟩) (P 0).1 c8)), (6, .v (.slice (some ⟨b, off, none⟩) N c2))], [], H4, PH.no⟩) N _ ⟨0, H3, rfl, by omega, hX, hT, rfl⟩ sub_of ?_
            clear hX hT
            rintro t s ⟨i, H4, rfl, hi, hX, hT, rfl⟩
            try simp only [go_sem, Nat.reduceEqDiff, Nat.reduceAdd, Nat.reduceBEq, ↓reduceIte]
            refine ev_if (fun x2 => ?_) (fun x2 => ?_)
            · have hiN : i < N := by omega
              have hri := hr i hiN
              try simp only [go_sem, Nat.reduceEqDiff, Nat.reduceAdd, Nat.reduceBEq, ↓reduceIte]
              refine ev_ia rfl (by omega) (by omega) ?_
              rw [Int.toNat_natCast]
              try simp only [go_sem, Nat.reduceEqDiff, Nat.reduceAdd, Nat.reduceBEq, ↓reduceIte]
              refine ev_ldRow hT hkw ?_
              intro A9 q9 ha9
              replace ha9 : ArrF 3 RatC H4 A9 N (Dt.tr (mx P) k) := ha9
              obtain ⟨b9, o9, rfl⟩ := ha9.base (by omega)
              try simp only [go_sem, Nat.reduceEqDiff, Nat.reduceAdd, Nat.reduceBEq, ↓reduceIte]
              refine ev_ia rfl (by omega) (by show (i : Int) < (N : Int); omega) ?_
              rw [Int.toNat_natCast]
              try simp only [go_sem, Nat.reduceEqDiff, Nat.reduceAdd, Nat.reduceBEq, ↓reduceIte]
              refine ev_ldF ha9 hiN ?_
              intro us hp _
              obtain ⟨A10, l10, y10, b10, B10, m10, z10, hf⟩ := RatV.form hp
              have hp : RatV H4 (.agg us.toArray) (mx P i k) := hp
              rw [hf] at hp ⊢
              clear hf
              try simp only [go_sem, Nat.reduceEqDiff, Nat.reduceAdd, Nat.reduceBEq, ↓reduceIte]
              refine ev_ia rfl (by omega) (by omega) ?_
              rw [Int.toNat_natCast]
              try simp only [go_sem, Nat.reduceEqDiff, Nat.reduceAdd, Nat.reduceBEq, ↓reduceIte]
              refine ev_ldRow hX hiN ?_
              intro A11 q11 ha11
              obtain ⟨b11, o11, rfl⟩ := ha11.base (by omega)
              try simp only [go_sem, Nat.reduceEqDiff, Nat.reduceAdd, Nat.reduceBEq, ↓reduceIte]
              refine ev_ia rfl (by omega) (by omega) ?_
              rw [Int.toNat_natCast]
              try simp only [go_sem, Nat.reduceEqDiff, Nat.reduceAdd, Nat.reduceBEq, ↓reduceIte]
              refine ev_ldF ha11 (by omega) ?_
              intro us hq _
              obtain ⟨b12, A12, l12, y12, B12, m12, z12, hf⟩ := RRat.form hq
              have hq : RRat H4 (.agg us.toArray) (mx P i k) := hq
              rw [hf] at hq ⊢
              clear hf ha9 ha11
              have y1 := bP i k
              try simp only [go_sem, Nat.reduceEqDiff, Nat.reduceAdd, Nat.reduceBEq, ↓reduceIte]
              first | refine ev_call (isQ_ok _ _ _ _ hp hq (by omega)) ?_ | refine ev_callP (isQ_ok _ _ _ _ hp hq (by omega)) ?_
              rintro v_16 H_16 le_16 rfl _
              replace hX := hX.le le_16
              replace hT := hT.le le_16
              try simp only [go_sem, Nat.reduceEqDiff, Nat.reduceAdd, Nat.reduceBEq, ↓reduceIte]
              rw [w64 ((i : Int) + 1) (by omega) (by omega), show (i : Int) + 1 = ((i + 1 : Nat) : Int) by omega]
              exact k_next (N - (i + 1)) _ (by omega) ⟨i + 1, _, rfl, by omega, hX, hT, rfl⟩ sub_of
            · have hin : i = N := by omega
              try simp only [go_sem, Nat.reduceEqDiff, Nat.reduceAdd, Nat.reduceBEq, ↓reduceIte]
              rw [w64 ((k : Int) + 1) (by omega) (by omega), show (k : Int) + 1 = ((k + 1 : Nat) : Int) by omega]
              exact k_next ((P 0).1 - (k + 1)) _ (by omega) ⟨k + 1, H4, rfl, by omega, hX, hT, rfl⟩ sub_of
          · have hin : k = (P 0).1 := by omega
            try simp only [go_sem, Nat.reduceEqDiff, Nat.reduceAdd, Nat.reduceBEq, ↓reduceIte]
            exact ⟨by trivial, by trivial⟩

end Go.Proofs.YtccdhgjfcgfgoaaGreat.X
