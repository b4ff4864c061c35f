/- Package mat: what is square; copies; a row brought to its place. -/
import Derived.Test.YtccdhgjfcgfgoaaGreatZA
import Derived.Test.YtccdhgjfcgfgoaaGreatZM
set_option linter.unusedVariables false
set_option linter.unusedSimpArgs false
namespace Go.Proofs.YtccdhgjfcgfgoaaGreat.X
open Go Go.RowKit Go.Proofs

theorem right_ok (H : PH) (A : Option Addr) (n c : Nat) (R : Nat → Rw Rat) (hM : MatH 3 RatC H A n R) (hn : n ≤ 9223372036854775807) : FnP Tryz.prog 23 [.slice A n c] H fun v _ => v = .bool (evB n R) := by
  refine of_mat_Right (by simp) ?_
  try simp only [go_sem, Nat.reduceEqDiff, Nat.reduceAdd, Nat.reduceBEq, ↓reduceIte, p_mat_Right]
  first | refine ev_call (evenR_ok _ A n c R hM hn) ?_ | refine ev_callP (evenR_ok _ A n c R hM hn) ?_
  rintro v_1 H_1 le_1 rfl _
  try simp only [go_sem, Nat.reduceEqDiff, Nat.reduceAdd, Nat.reduceBEq, ↓reduceIte]
  exact ⟨by trivial, by trivial⟩
/-- as many rows as columns -/
def sqB {α : Type} (n : Nat) (R : Nat → Rw α) : Bool := evB n R && decide (n = (R 0).1)
theorem square_ok (H : PH) (A : Option Addr) (n c : Nat) (R : Nat → Rw Rat) (hM : MatH 3 RatC H A n R) (hn : n ≤ 9223372036854775807) : FnP Tryz.prog 29 [.slice A n c] H fun v _ => v = .bool (sqB n R) := by
  refine of_mat_square (by simp) ?_
  try simp only [go_sem, Nat.reduceEqDiff, Nat.reduceAdd, Nat.reduceBEq, ↓reduceIte, p_mat_square]
  first | refine ev_call (right_ok _ A n c R hM hn) ?_ | refine ev_callP (right_ok _ A n c R hM hn) ?_
  rintro v_2 H_2 le_2 rfl _
  try simp only [go_sem, Nat.reduceEqDiff, Nat.reduceAdd, Nat.reduceBEq, ↓reduceIte]
  have hM := MatH.le RatC.grows hM (by assumption)
  unfold sqB
  cases he : evB n R with
  | false =>
    try simp only [go_sem, Nat.reduceEqDiff, Nat.reduceAdd, Nat.reduceBEq, ↓reduceIte, he]
    exact ⟨by trivial, by trivial⟩
  | true =>
    obtain ⟨n1, _⟩ := evB_of he
    obtain ⟨b, off, rfl⟩ := hM.base (by omega)
    try simp only [go_sem, Nat.reduceEqDiff, Nat.reduceAdd, Nat.reduceBEq, ↓reduceIte, he]
    refine ev_ia rfl (by omega) (by omega) ?_
    try simp only [go_sem, Nat.reduceEqDiff, Nat.reduceAdd, Nat.reduceBEq, ↓reduceIte]
    refine ev_ldRow0 hM (by omega) ?_
    intro A1 q1 ha1
    try simp only [go_sem, Nat.reduceEqDiff, Nat.reduceAdd, Nat.reduceBEq, ↓reduceIte]
    refine ev_if (fun c1 => ?_) (fun c1 => ?_)
    · try simp only [go_sem, Nat.reduceEqDiff, Nat.reduceAdd, Nat.reduceBEq, ↓reduceIte]
      refine ⟨by trivial, ?_⟩
      rw [decide_eq_true (show n = (R 0).1 by omega)]
      rfl
    · try simp only [go_sem, Nat.reduceEqDiff, Nat.reduceAdd, Nat.reduceBEq, ↓reduceIte]
      refine ⟨by trivial, ?_⟩
      rw [decide_eq_false (show ¬ n = (R 0).1 by omega)]
      rfl

theorem OwnF.new {α : Type} {w : Nat} {P : PH → List Value → α → Prop} {T : TypeId} {H M M' : PH} {A : Option Addr} {n c : Nat} {f : Nat → α} (h : OwnF w P T H M' A n f c) (hF : PH.Fresh M PH.no M') : New M A := by
  intro b o hb e
  rcases h.live with k | ⟨b', o', h1, h2⟩
  · rw [k] at e; cases e
  · rw [e] at h1; injection h1 with h1; injection h1 with h1 _; subst h1
    rcases hF b (by rw [h2]; simp) with k | k
    · exact k rfl
    · rw [k] at hb; cases hb

theorem cloneR_ok (H : PH) (A : Option Addr) (n c : Nat) (f : Nat → Rat) (hA : ArrF 3 RatC H A n f) (h0 : 0 < n) (hn : n ≤ 1000) : Fn Tryz.prog 71 [.slice A n c] H PH.no fun v H' M' => ∃ A' c', v = .slice A' n c' ∧ OwnF 3 RatC 36 H' M' A' n f c' := by
  obtain ⟨b, off, rfl⟩ := hA.base h0
  refine of_slices_Clone_rat_Rat_rat_Rat (by simp) ?_
  try simp only [go_sem, Nat.reduceEqDiff, Nat.reduceAdd, Nat.reduceBEq, ↓reduceIte, p_slices_Clone_rat_Rat_rat_Rat]
  refine ev_bslF (w := 3) (P := RatC) (f := f) rfl (by omega) (fun i hi => by omega) (PH.disj_no _) ?_
  intro g M1 hO hle hg hd
  try simp only [go_sem, Nat.reduceEqDiff, Nat.reduceAdd, Nat.reduceBEq, ↓reduceIte]
  refine ev_appF (by decide) hO (hA.src h0) rfl h0 (by omega) (by omega) hd ?_
  intro A' c' M2 hO2 _ _ hd2
  try simp only [go_sem, Nat.reduceEqDiff, Nat.reduceAdd, Nat.reduceBEq, ↓reduceIte]
  rw [Nat.zero_add] at hO2
  exact ⟨_, _, rfl, hO2.congr fun i hi => by unfold thenF; rw [if_neg (by omega)]; rfl⟩

/-- rows with others behind them -/
def cpR (n : Nat) (R Rm : Nat → Rw Rat) : Nat → Rw Rat := fun i => if i < n then ((R i).1 + (Rm i).1, thenF (R i).1 (R i).2 (Rm i).2) else R i

set_option maxHeartbeats 1000000 in
theorem copied_ok (H : PH) (A0 Am : Option Addr) (n c0 nm cm : Nat) (R Rm : Nat → Rw Rat) (hM : MatH 3 RatC H A0 n R) (hMm : MatH 3 RatC H Am nm Rm) (hn : n ≤ 1000) (hnm : nm ≤ 1000) (hr : ∀ i, i < n → 0 < (R i).1 ∧ (R i).1 ≤ 1000) (hrm : ∀ i, i < nm → 0 < (Rm i).1 ∧ (Rm i).1 ≤ 1000) :
    Fn Tryz.prog 30 [.slice A0 n c0, .slice Am nm cm] H PH.no fun v H' M' => ∃ A c ra rc, v = .slice A n c ∧ MatO 3 RatC 36 64 H' M' A n c ra rc (cpR nm R Rm) := by
  refine of_mat_copied (by simp) ?_
  try simp only [go_sem, Nat.reduceEqDiff, Nat.reduceAdd, Nat.reduceBEq, ↓reduceIte, p_mat_copied]
  refine ev_loop (fun k s => ∃ (i : Nat) (H2 M2 : PH) (A : Option Addr) (c : Nat) (ra : Nat → Option Addr) (rc : Nat → Nat), k = n - i ∧ i ≤ n ∧ MatH 3 RatC H2 A0 n R ∧ MatH 3 RatC H2 Am nm Rm ∧ PH.disj H2 M2 ∧
    MatO 3 RatC 36 64 H2 M2 A i c ra rc (cpR nm R Rm) ∧
    s = ⟨[(11, .v (.int .i64 (i : Int))), (10, .v (.int .i64 (n : Int))), (9, .v (.slice A0 n c0)), (5, .v (.slice A i c)), (1, .v (.slice Am nm cm))], [], H2, M2⟩) n _ ⟨0, H, PH.no, none, 0, fun _ => none, fun _ => 0, rfl, by omega, hM, hMm, PH.disj_no _, MatO.nil, rfl⟩ sub_of ?_
  rintro k s ⟨i, H2, M2, A, c, ra, rc, rfl, hi, hM2, hMm2, hd2, hO2, rfl⟩
  try simp only [go_sem, Nat.reduceEqDiff, Nat.reduceAdd, Nat.reduceBEq, ↓reduceIte]
  refine ev_if (fun c1 => ?_) (fun c1 => ?_)
  · obtain ⟨b, off, rfl⟩ := hM2.base (by omega)
    have hri := hr i (by omega)
    try simp only [go_sem, Nat.reduceEqDiff, Nat.reduceAdd, Nat.reduceBEq, ↓reduceIte]
    refine ev_ia rfl (by omega) (by omega) ?_
    rw [Int.toNat_natCast]
    try simp only [go_sem, Nat.reduceEqDiff, Nat.reduceAdd, Nat.reduceBEq, ↓reduceIte]
    refine ev_ldRow hM2 (by omega) ?_
    intro A3 q3 ha3
    try simp only [go_sem, Nat.reduceEqDiff, Nat.reduceAdd, Nat.reduceBEq, ↓reduceIte]
    refine ev_callN (cloneR_ok _ A3 _ q3 _ ha3 hri.1 hri.2) ?_
    rintro v H4 M3 M4 hle4 ⟨B, cB, rfl, hB3⟩ hleM hleM3 hd4 hF
    have hM4 := MatH.le RatC.grows hM2 hle4
    have hMm4 := MatH.le RatC.grows hMm2 hle4
    have hO2 := hO2.leH RatC.grows hle4
    have hap := hO2.apart (hB3.new hF)
    have hO4 := hO2.leM hleM
    have hB4 := hB3.leM hleM3
    clear hM2 hMm2
    try simp only [go_sem, Nat.reduceEqDiff, Nat.reduceAdd, Nat.reduceBEq, ↓reduceIte]
    refine ev_if (fun c2 => ?_) (fun c2 => ?_)
    · have hrm1 := hrm i (by omega)
      obtain ⟨b7, off7, rfl⟩ := hMm4.base (by omega)
      try simp only [go_sem, Nat.reduceEqDiff, Nat.reduceAdd, Nat.reduceBEq, ↓reduceIte]
      refine ev_ia rfl (by omega) (by omega) ?_
      rw [Int.toNat_natCast]
      try simp only [go_sem, Nat.reduceEqDiff, Nat.reduceAdd, Nat.reduceBEq, ↓reduceIte]
      refine ev_ldRow hMm4 (by omega) ?_
      intro A8 q8 ha8
      try simp only [go_sem, Nat.reduceEqDiff, Nat.reduceAdd, Nat.reduceBEq, ↓reduceIte]
      refine ev_appF (by decide) hB4 (ha8.src hrm1.1) rfl hrm1.1 (by omega) (by omega) hd4 ?_
      intro B' cB' M8 hB8 hb8 hA8 hd8
      have hap' : Apart B' A i ra := by
        rcases hA8 with rfl | h
        · exact hap
        · exact hO4.apart h
      replace hO4 := hO4.but hb8 hap
      clear hap hB4 hB3
      have hap := hap'
      have hB4 := hB8
      have hd4 := hd8
      have hrow : (R i).1 + (Rm i).1 = (cpR nm R Rm i).1 ∧ ∀ k, k < (R i).1 + (Rm i).1 → thenF (R i).1 (R i).2 (Rm i).2 k = (cpR nm R Rm i).2 k := by
        unfold cpR
        rw [if_pos (show i < nm by omega)]
        exact ⟨rfl, fun _ _ => rfl⟩
      generalize hm : (R i).1 + (Rm i).1 = m at *
      have hm1 : m ≤ 2000 := by omega
      generalize B' = B at *
      generalize cB' = cB at *
      try simp only [go_sem, Nat.reduceEqDiff, Nat.reduceAdd, Nat.reduceBEq, ↓reduceIte]
      refine ev_bslF (w := 1) (P := SlC) (f := fun _ => (B, m, cB)) rfl (by omega) (one_cell rfl rfl rfl) hd4 ?_
      intro g5 M5 hO5 hle5 hg5 hd5
      try simp only [go_sem, Nat.reduceEqDiff, Nat.reduceAdd, Nat.reduceBEq, ↓reduceIte]
      refine ev_appF (by decide) (hO4.top.leM hle5) (hO5.src (by decide)) rfl (by decide) (by omega) (by omega) hd5 ?_
      intro A' c' M6 hO6 hb6 hA6 hd6
      try simp only [go_sem, Nat.reduceEqDiff, Nat.reduceAdd, Nat.reduceBEq, ↓reduceIte]
      rw [w64 ((i : Int) + 1) (by omega) (by omega), show (i : Int) + 1 = ((i + 1 : Nat) : Int) by omega]
      have hO7 := hO4.push hB4 hap hle5 hO6 hb6 hA6
      refine k_next (n - (i + 1)) _ (by omega) ⟨i + 1, H4, M6, A', c', _, _, rfl, by omega, hM4, hMm4, hd6, hO7.congr (fun a ha => ?_), rfl⟩ sub_of
      try dsimp only
      by_cases e : a = i
      · subst e
        rw [if_pos rfl]
        exact hrow
      · rw [if_neg e]
        exact ⟨rfl, fun _ _ => rfl⟩
    · have hrow : (R i).1 = (cpR nm R Rm i).1 ∧ ∀ k, k < (R i).1 → (R i).2 k = (cpR nm R Rm i).2 k := by
        unfold cpR
        rw [if_neg (show ¬ i < nm by omega)]
        exact ⟨rfl, fun _ _ => rfl⟩
      generalize hm : (R i).1 = m at *
      try simp only [go_sem, Nat.reduceEqDiff, Nat.reduceAdd, Nat.reduceBEq, ↓reduceIte]
      refine ev_bslF (w := 1) (P := SlC) (f := fun _ => (B, m, cB)) rfl (by omega) (one_cell rfl rfl rfl) hd4 ?_
      intro g5 M5 hO5 hle5 hg5 hd5
      try simp only [go_sem, Nat.reduceEqDiff, Nat.reduceAdd, Nat.reduceBEq, ↓reduceIte]
      refine ev_appF (by decide) (hO4.top.leM hle5) (hO5.src (by decide)) rfl (by decide) (by omega) (by omega) hd5 ?_
      intro A' c' M6 hO6 hb6 hA6 hd6
      try simp only [go_sem, Nat.reduceEqDiff, Nat.reduceAdd, Nat.reduceBEq, ↓reduceIte]
      rw [w64 ((i : Int) + 1) (by omega) (by omega), show (i : Int) + 1 = ((i + 1 : Nat) : Int) by omega]
      have hO7 := hO4.push hB4 hap hle5 hO6 hb6 hA6
      refine k_next (n - (i + 1)) _ (by omega) ⟨i + 1, H4, M6, A', c', _, _, rfl, by omega, hM4, hMm4, hd6, hO7.congr (fun a ha => ?_), rfl⟩ sub_of
      try dsimp only
      by_cases e : a = i
      · subst e
        rw [if_pos rfl]
        exact hrow
      · rw [if_neg e]
        exact ⟨rfl, fun _ _ => rfl⟩
  · have hin : i = n := by omega
    subst hin
    try simp only [go_sem, Nat.reduceEqDiff, Nat.reduceAdd, Nat.reduceBEq, ↓reduceIte]
    exact ⟨_, _, _, _, rfl, hO2⟩

end Go.Proofs.YtccdhgjfcgfgoaaGreat.X
set_option linter.unusedVariables false
set_option linter.unusedSimpArgs false
namespace Go.Proofs.YtccdhgjfcgfgoaaGreat.X
open Go Go.RowKit Go.Proofs

theorem sgnI_num {q : Rat} : sgnI q.num ≠ 0 ↔ q ≠ 0 := by
  unfold sgnI
  constructor
  · intro h e
    rw [e] at h
    exact h rfl
  · intro h
    have : q.num ≠ 0 := fun e => h (Rat.num_eq_zero.1 e)
    split
    · decide
    · split
      · decide
      · omega

/-- two rows exchanged -/
def swpA {β : Type} (ra : Nat → β) (i k : Nat) : Nat → β := fun r => if r = i then ra k else if r = k then ra i else ra r
theorem swpA_inj {ra : Nat → Option Addr} {n i k : Nat} (hi : i < n) (hk : k < n) (h : ∀ a b, a < n → b < n → a ≠ b → ra a = none ∨ ra a ≠ ra b) : ∀ a b, a < n → b < n → a ≠ b → swpA ra i k a = none ∨ swpA ra i k a ≠ swpA ra i k b := by
  intro a b ha hb hab
  unfold swpA
  by_cases h1 : a = i
  · rw [if_pos h1]
    by_cases h2 : b = i
    · omega
    · rw [if_neg h2]
      by_cases h3 : b = k
      · rw [if_pos h3]; exact h k i hk hi (by omega)
      · rw [if_neg h3]; exact h k b hk hb (by omega)
  · rw [if_neg h1]
    by_cases h2 : a = k
    · rw [if_pos h2]
      by_cases h3 : b = i
      · rw [if_pos h3]; exact h i k hi hk (by omega)
      · rw [if_neg h3]
        by_cases h4 : b = k
        · omega
        · rw [if_neg h4]; exact h i b hi hb (by omega)
    · rw [if_neg h2]
      by_cases h3 : b = i
      · rw [if_pos h3]; exact h a k ha hk (by omega)
      · rw [if_neg h3]
        by_cases h4 : b = k
        · rw [if_pos h4]; exact h a i ha hi (by omega)
        · rw [if_neg h4]; exact h a b ha hb hab

theorem MatO.swap {w : Nat} {P : PH → List Value → Rat → Prop} {Tr Tm : TypeId} {H M M1 M2 : PH} {g n c m i k : Nat} {ra : Nat → Option Addr} {rc : Nat → Nat} {f : Nat → Nat → Rat} (h : MatO w P Tr Tm H M (some ⟨g, 0, none⟩) n c ra rc (rect m f)) (hi : i < n) (hk : k < n)
    (hO : OwnF 1 SlC Tm H M2 (some ⟨g, 0, none⟩) n (upF (upF (fun r => (ra r, m, rc r)) i (ra k, m, rc k)) k (ra i, m, rc i)) c) (hb1 : But M M1 (some ⟨g, 0, none⟩)) (hb2 : But M1 M2 (some ⟨g, 0, none⟩)) :
    MatO w P Tr Tm H M2 (some ⟨g, 0, none⟩) n c (swpA ra i k) (swpA rc i k) (rect m (Dt.swpR f i k)) := by
  have hrow : ∀ r, r < n → OwnF w P Tr H M2 (ra r) m (f r) (rc r) := fun r hr => ((h.row r hr).but hb1 (h.ne r hr)).but hb2 (h.ne r hr)
  have hcase : ∀ r, r < n → ∃ r', r' < n ∧ swpA ra i k r = ra r' ∧ swpA rc i k r = rc r' ∧ Dt.swpR f i k r = f r' := by
    intro r hr
    unfold swpA Dt.swpR
    by_cases h1 : r = i
    · exact ⟨k, hk, by rw [if_pos h1], by rw [if_pos h1], by funext s; rw [if_pos h1]⟩
    · by_cases h2 : r = k
      · exact ⟨i, hi, by rw [if_neg h1, if_pos h2], by rw [if_neg h1, if_pos h2], by funext s; rw [if_neg h1, if_pos h2]⟩
      · exact ⟨r, hr, by rw [if_neg h1, if_neg h2], by rw [if_neg h1, if_neg h2], by funext s; rw [if_neg h1, if_neg h2]⟩
  refine ⟨hO.congr fun r hr => ?_, fun r hr => ?_, fun r hr => ?_, swpA_inj hi hk h.inj⟩
  · unfold upF swpA
    by_cases h1 : r = k
    · subst h1
      rw [if_pos rfl]
      by_cases h2 : r = i
      · subst h2
        rw [if_pos rfl, if_pos rfl]
      · rw [if_neg h2, if_neg h2, if_pos rfl, if_pos rfl]
    · rw [if_neg h1]
      by_cases h2 : r = i
      · subst h2
        rw [if_pos rfl, if_pos rfl, if_pos rfl]
      · rw [if_neg h2, if_neg h2, if_neg h2, if_neg h1, if_neg h1]
  · obtain ⟨r', h1, h2, h3, h4⟩ := hcase r hr
    show OwnF w P Tr H M2 (swpA ra i k r) m (Dt.swpR f i k r) (swpA rc i k r)
    rw [h2, h3, h4]
    exact hrow r' h1
  · obtain ⟨r', h1, h2, _, _⟩ := hcase r hr
    rw [h2]
    exact h.ne r' h1

set_option maxHeartbeats 1000000 in
theorem pivot_ok (H M : PH) (g n c m k : Nat) (ra : Nat → Option Addr) (rc : Nat → Nat) (f : Nat → Nat → Rat) (hO : MatO 3 RatC 36 64 H M (some ⟨g, 0, none⟩) n c ra rc (rect m f)) (hd : PH.disj H M) (hk : k < m) (hkn : k < n) (hn : n ≤ 1000) (hm : m ≤ 1000) (hb : ∀ i, i < n → br (f i k) ≤ 4294967000) :
    Fn Tryz.prog 32 [.slice (some ⟨g, 0, none⟩) n c, .int .i64 (k : Int)] H M fun v H' M' => ∃ still is ra' rc' f', v = .tuple #[.bool still, .bool is] ∧ MatO 3 RatC 36 64 H' M' (some ⟨g, 0, none⟩) n c ra' rc' (rect m f') ∧
      ((is = false ∧ ∀ i, k ≤ i → i < n → f i k = 0) ∨ (is = true ∧ ∃ i, k ≤ i ∧ i < n ∧ f i k ≠ 0 ∧ still = decide (i = k) ∧ f' = Dt.swpR f i k)) := by
  refine of_mat_pivot (by simp) ?_
  try simp only [go_sem, Nat.reduceEqDiff, Nat.reduceAdd, Nat.reduceBEq, ↓reduceIte, p_mat_pivot]
  refine ev_loop (fun t s => ∃ (i : Nat) (H2 : PH), t = n - i ∧ k ≤ i ∧ i ≤ n ∧ PH.disj H2 M ∧ MatO 3 RatC 36 64 H2 M (some ⟨g, 0, none⟩) n c ra rc (rect m f) ∧ (∀ j, k ≤ j → j < i → f j k = 0) ∧
    s = ⟨[(6, .v (.int .i64 (i : Int))), (1, .v (.int .i64 (k : Int))), (0, .v (.slice (some ⟨g, 0, none⟩) n c))], [], H2, M⟩) (n - k) _ ⟨k, H, rfl, by omega, by omega, hd, hO, fun j h1 h2 => by omega, rfl⟩ sub_of ?_
  rintro t s ⟨i, H2, rfl, hki, hi, hd2, hO2, hz, rfl⟩
  try simp only [go_sem, Nat.reduceEqDiff, Nat.reduceAdd, Nat.reduceBEq, ↓reduceIte]
  refine ev_if (fun c1 => ?_) (fun c1 => ?_)
  · obtain ⟨b, hb2⟩ := hO2.base (show i < n by omega) (show 0 < m by omega)
    try simp only [go_sem, Nat.reduceEqDiff, Nat.reduceAdd, Nat.reduceBEq, ↓reduceIte]
    refine ev_ia rfl (by omega) (by omega) ?_
    rw [Int.toNat_natCast]
    try simp only [go_sem, Nat.reduceEqDiff, Nat.reduceAdd, Nat.reduceBEq, ↓reduceIte]
    refine ev_ldTop hO2 (by omega) ?_
    rw [hb2]
    try simp only [go_sem, Nat.reduceEqDiff, Nat.reduceAdd, Nat.reduceBEq, ↓reduceIte]
    refine ev_ia rfl (by omega) (by show (k : Int) < (m : Int); omega) ?_
    rw [Int.toNat_natCast]
    try simp only [go_sem, Nat.reduceEqDiff, Nat.reduceAdd, Nat.reduceBEq, ↓reduceIte]
    refine ev_ldEl hO2 (by omega) hb2 hk ?_
    intro us hq _
    obtain ⟨A5, l5, c5, b5, B5, m5, e5, hf⟩ := RatV.form hq
    have hq : RatV H2 (.agg us.toArray) (f i k) := hq
    rw [hf] at hq ⊢
    try simp only [go_sem, Nat.reduceEqDiff, Nat.reduceAdd, Nat.reduceBEq, ↓reduceIte]
    first | refine ev_call (rsgn_ok _ _ _ hq (hb i (by omega))) ?_ | refine ev_callP (rsgn_ok _ _ _ hq (hb i (by omega))) ?_
    rintro v_1 H_1 le_1 rfl _
    try simp only [go_sem, Nat.reduceEqDiff, Nat.reduceAdd, Nat.reduceBEq, ↓reduceIte]
    have hO2 := hO2.leH RatC.grows (by assumption)
    refine ev_if (fun c2 => ?_) (fun c2 => ?_)
    · try simp only [go_sem, Nat.reduceEqDiff, Nat.reduceAdd, Nat.reduceBEq, ↓reduceIte]
      refine ev_ia rfl (by omega) (by omega) ?_
      rw [Int.toNat_natCast]
      try simp only [go_sem, Nat.reduceEqDiff, Nat.reduceAdd, Nat.reduceBEq, ↓reduceIte]
      refine ev_ldTop hO2 hkn ?_
      try simp only [go_sem, Nat.reduceEqDiff, Nat.reduceAdd, Nat.reduceBEq, ↓reduceIte]
      refine ev_ia rfl (by omega) (by omega) ?_
      rw [Int.toNat_natCast]
      try simp only [go_sem, Nat.reduceEqDiff, Nat.reduceAdd, Nat.reduceBEq, ↓reduceIte]
      refine ev_ldTop hO2 (by omega) ?_
      try simp only [go_sem, Nat.reduceEqDiff, Nat.reduceAdd, Nat.reduceBEq, ↓reduceIte]
      refine ev_ia rfl (by omega) (by omega) ?_
      rw [Int.toNat_natCast]
      try simp only [go_sem, Nat.reduceEqDiff, Nat.reduceAdd, Nat.reduceBEq, ↓reduceIte]
      refine ev_stOF (x := (ra k, m, rc k)) hO2.top (by omega) (by assumption) rfl (by simp [cellsL, Value.oneCell']) rfl ?_
      intro M3 hO3 hb3 hd3
      try simp only [go_sem, Nat.reduceEqDiff, Nat.reduceAdd, Nat.reduceBEq, ↓reduceIte]
      refine ev_ia rfl (by omega) (by omega) ?_
      rw [Int.toNat_natCast]
      try simp only [go_sem, Nat.reduceEqDiff, Nat.reduceAdd, Nat.reduceBEq, ↓reduceIte]
      refine ev_stOF (x := (ra i, m, rc i)) hO3 (by omega) (hd3 _ (by assumption)) rfl (by simp [cellsL, Value.oneCell']) rfl ?_
      intro M4 hO4 hb4 hd4
      have hO5 := hO2.swap (show i < n by omega) hkn hO4 hb3 hb4
      try simp only [go_sem, Nat.reduceEqDiff, Nat.reduceAdd, Nat.reduceBEq, ↓reduceIte]
      refine ev_if (fun c3 => ?_) (fun c3 => ?_)
      · try simp only [go_sem, Nat.reduceEqDiff, Nat.reduceAdd, Nat.reduceBEq, ↓reduceIte]
        exact ⟨_, _, _, _, _, rfl, hO5, .inr ⟨rfl, i, hki, by omega, sgnI_num.1 c2, by rw [decide_eq_true (by omega)], rfl⟩⟩
      · try simp only [go_sem, Nat.reduceEqDiff, Nat.reduceAdd, Nat.reduceBEq, ↓reduceIte]
        exact ⟨_, _, _, _, _, rfl, hO5, .inr ⟨rfl, i, hki, by omega, sgnI_num.1 c2, by rw [decide_eq_false (by omega)], rfl⟩⟩
    · try simp only [go_sem, Nat.reduceEqDiff, Nat.reduceAdd, Nat.reduceBEq, ↓reduceIte]
      rw [w64 ((i : Int) + 1) (by omega) (by omega), show (i : Int) + 1 = ((i + 1 : Nat) : Int) by omega]
      refine k_next (n - (i + 1)) _ (by omega) ⟨i + 1, _, rfl, by omega, by omega, by assumption, hO2, fun j h1 h2 => ?_, rfl⟩ sub_of
      by_cases e : j = i
      · subst e
        exact Classical.not_not.1 fun h => c2 (sgnI_num.2 h)
      · exact hz j h1 (by omega)
  · have hin : i = n := by omega
    subst hin
    try simp only [go_sem, Nat.reduceEqDiff, Nat.reduceAdd, Nat.reduceBEq, ↓reduceIte]
    exact ⟨_, _, _, _, _, rfl, hO2, .inl ⟨rfl, hz⟩⟩

end Go.Proofs.YtccdhgjfcgfgoaaGreat.X
set_option linter.unusedVariables false
set_option linter.unusedSimpArgs false
namespace Go.Proofs.YtccdhgjfcgfgoaaGreat.X
open Go Go.RowKit Go.Proofs

/-- a row, so often, taken from another, from a column to another -/
def clr (f : Nat → Nat → Rat) (i k j : Nat) : Nat → Nat → Rat := fun r s => if r = i ∧ k ≤ s ∧ s < j then f i s - f i k / f k k * f k s else f r s

set_option maxHeartbeats 2000000 in
theorem clear_ok (H M : PH) (g n c m i k B : Nat) (ra : Nat → Option Addr) (rc : Nat → Nat) (f : Nat → Nat → Rat) (hO : MatO 3 RatC 36 64 H M (some ⟨g, 0, none⟩) n c ra rc (rect m f)) (hd : PH.disj H M) (hk : k < m) (hkn : k < n) (hi : i < n) (hik : i ≠ k) (hn : n ≤ 1000) (hm : m ≤ 1000)
    (hB : B ≤ 1000000000) (hbi : ∀ s, s < m → br (f i s) ≤ B) (hbk : ∀ s, s < m → br (f k s) ≤ B) (h0 : f k k ≠ 0) :
    Fn Tryz.prog 35 [.slice (some ⟨g, 0, none⟩) n c, .int .i64 (i : Int), .int .i64 (k : Int)] H M fun v H' M' => MatO 3 RatC 36 64 H' M' (some ⟨g, 0, none⟩) n c ra rc (rect m (clr f i k m)) := by
  obtain ⟨b1, hb1⟩ := hO.base hi (show 0 < m by omega)
  obtain ⟨b2, hb2⟩ := hO.base hkn (show 0 < m by omega)
  have hby := br_div (f i k) (f k k)
  have x1 := hbi k hk
  have x2 := hbk k hk
  refine of_mat_clear (by simp) ?_
  try simp only [go_sem, Nat.reduceEqDiff, Nat.reduceAdd, Nat.reduceBEq, ↓reduceIte, p_mat_clear]
  refine ev_cut (fun s => ∃ H' A5 l5 c5 t5 B5 m5 e5, MatO 3 RatC 36 64 H' M (some ⟨g, 0, none⟩) n c ra rc (rect m f) ∧ PH.disj H' M ∧ RatV H' (.agg #[.slice A5 l5 c5, .bool t5, .slice B5 m5 e5]) (f i k / f k k) ∧
    s = ⟨[(6, .ptr 6 0), (2, .v (.int .i64 (k : Int))), (1, .v (.int .i64 (i : Int))), (0, .v (.slice (some ⟨g, 0, none⟩) n c))], [(6, [.slice A5 l5 c5, .bool t5, .slice B5 m5 e5])], H', M⟩) ?_ ?_
  · try simp only [go_sem, Nat.reduceEqDiff, Nat.reduceAdd, Nat.reduceBEq, ↓reduceIte]
    refine ev_ia rfl (by omega) (by omega) ?_
    rw [Int.toNat_natCast]
    try simp only [go_sem, Nat.reduceEqDiff, Nat.reduceAdd, Nat.reduceBEq, ↓reduceIte]
    refine ev_ldTop hO hi ?_
    rw [hb1]
    try simp only [go_sem, Nat.reduceEqDiff, Nat.reduceAdd, Nat.reduceBEq, ↓reduceIte]
    refine ev_ia rfl (by omega) (by show (k : Int) < (m : Int); omega) ?_
    rw [Int.toNat_natCast]
    try simp only [go_sem, Nat.reduceEqDiff, Nat.reduceAdd, Nat.reduceBEq, ↓reduceIte]
    refine ev_ldEl hO hi hb1 hk ?_
    intro us hq _
    obtain ⟨A6, l6, c6, t6, B6, m6, e6, hf⟩ := RatV.form hq
    have hq : RatV H (.agg us.toArray) (f i k) := hq
    rw [hf] at hq ⊢
    clear hf
    try simp only [go_sem, Nat.reduceEqDiff, Nat.reduceAdd, Nat.reduceBEq, ↓reduceIte]
    refine ev_ia rfl (by omega) (by omega) ?_
    rw [Int.toNat_natCast]
    try simp only [go_sem, Nat.reduceEqDiff, Nat.reduceAdd, Nat.reduceBEq, ↓reduceIte]
    refine ev_ldTop hO hkn ?_
    rw [hb2]
    try simp only [go_sem, Nat.reduceEqDiff, Nat.reduceAdd, Nat.reduceBEq, ↓reduceIte]
    refine ev_ia rfl (by omega) (by show (k : Int) < (m : Int); omega) ?_
    rw [Int.toNat_natCast]
    try simp only [go_sem, Nat.reduceEqDiff, Nat.reduceAdd, Nat.reduceBEq, ↓reduceIte]
    refine ev_ldEl hO hkn hb2 hk ?_
    intro us hp _
    obtain ⟨A7, l7, c7, t7, B7, m7, e7, hf⟩ := RatV.form hp
    have hp : RatV H (.agg us.toArray) (f k k) := hp
    rw [hf] at hp ⊢
    clear hf
    try simp only [go_sem, Nat.reduceEqDiff, Nat.reduceAdd, Nat.reduceBEq, ↓reduceIte]
    repeat' (with_reducible refine And.intro ?_ ?_)
    all_goals
      first | refine ev_call (rdiv'_ok1 _ _ _ _ _ hq hp (by omega) h0) ?_ | refine ev_callP (rdiv'_ok1 _ _ _ _ _ hq hp (by omega) h0) ?_
      rintro v_1 H_1 le_1 ⟨v5, rfl, h5⟩ _
      try simp only [go_sem, Nat.reduceEqDiff, Nat.reduceAdd, Nat.reduceBEq, ↓reduceIte]
      have hO := hO.leH RatC.grows (by assumption)
      obtain ⟨A5, l5, c5, t5, B5, m5, e5, rfl⟩ := h5.form
      try simp only [go_sem, Nat.reduceEqDiff, Nat.reduceAdd, Nat.reduceBEq, ↓reduceIte]
      repeat' (with_reducible refine And.intro ?_ ?_)
      all_goals exact k_cut _ ⟨_, _, _, _, _, _, _, _, hO, by assumption, h5, rfl⟩ sub_of
  · rintro s ⟨H2, A5, l5, c5, t5, B5, m5, e5, hO, hd2, h5, rfl⟩
    try simp only [go_sem, Nat.reduceEqDiff, Nat.reduceAdd, Nat.reduceBEq, ↓reduceIte]
    have f0 : rect m f = rect m (clr f i k k) := by
      funext r
      refine Prod.ext rfl ?_
      funext s
      show f r s = clr f i k k r s
      unfold clr
      rw [if_neg (by omega)]
    refine ev_loop (fun t s => ∃ (j : Nat) (H3 M3 : PH), t = m - j ∧ k ≤ j ∧ j ≤ m ∧ PH.disj H3 M3 ∧ MatO 3 RatC 36 64 H3 M3 (some ⟨g, 0, none⟩) n c ra rc (rect m (clr f i k j)) ∧ RatV H3 (.agg #[.slice A5 l5 c5, .bool t5, .slice B5 m5 e5]) (f i k / f k k) ∧
      s = ⟨[(8, .v (.int .i64 (j : Int))), (6, .ptr 6 0), (2, .v (.int .i64 (k : Int))), (1, .v (.int .i64 (i : Int))), (0, .v (.slice (some ⟨g, 0, none⟩) n c))], [(6, [.slice A5 l5 c5, .bool t5, .slice B5 m5 e5])], H3, M3⟩) (m - k) _ ⟨k, H2, M, rfl, by omega, by omega, hd2, f0 ▸ hO, h5, rfl⟩ sub_of ?_
    rintro t s ⟨j, H3, M3, rfl, hkj, hj, hd3, hO3, h5, rfl⟩
    try simp only [go_sem, Nat.reduceEqDiff, Nat.reduceAdd, Nat.reduceBEq, ↓reduceIte]
    refine ev_ia rfl (by omega) (by omega) ?_
    rw [Int.toNat_natCast]
    try simp only [go_sem, Nat.reduceEqDiff, Nat.reduceAdd, Nat.reduceBEq, ↓reduceIte]
    refine ev_ldTop hO3 hi ?_
    rw [hb1]
    try simp only [go_sem, Nat.reduceEqDiff, Nat.reduceAdd, Nat.reduceBEq, ↓reduceIte]
    refine ev_if (fun c1 => ?_) (fun c1 => ?_)
    · replace c1 : j < m := by have c1' : (j : Int) < (m : Int) := c1; omega
      try simp only [go_sem, Nat.reduceEqDiff, Nat.reduceAdd, Nat.reduceBEq, ↓reduceIte]
      first | refine ev_call (rsgn_ok _ _ _ h5 (by omega)) ?_ | refine ev_callP (rsgn_ok _ _ _ h5 (by omega)) ?_
      rintro v_2 H_2 le_2 rfl _
      try simp only [go_sem, Nat.reduceEqDiff, Nat.reduceAdd, Nat.reduceBEq, ↓reduceIte]
      have hO3 := hO3.leH RatC.grows (by assumption)
      have h5 := h5.le (by assumption)
      refine ev_if (fun c2 => ?_) (fun c2 => ?_)
      · try simp only [go_sem, Nat.reduceEqDiff, Nat.reduceAdd, Nat.reduceBEq, ↓reduceIte]
        refine ev_ia rfl (by omega) (by omega) ?_
        rw [Int.toNat_natCast]
        try simp only [go_sem, Nat.reduceEqDiff, Nat.reduceAdd, Nat.reduceBEq, ↓reduceIte]
        refine ev_ldTop hO3 hi ?_
        rw [hb1]
        try simp only [go_sem, Nat.reduceEqDiff, Nat.reduceAdd, Nat.reduceBEq, ↓reduceIte]
        refine ev_ia rfl (by omega) (by omega) ?_
        rw [Int.toNat_natCast]
        try simp only [go_sem, Nat.reduceEqDiff, Nat.reduceAdd, Nat.reduceBEq, ↓reduceIte]
        refine ev_ldTop hO3 hi ?_
        rw [hb1]
        try simp only [go_sem, Nat.reduceEqDiff, Nat.reduceAdd, Nat.reduceBEq, ↓reduceIte]
        refine ev_ia rfl (by omega) (by show (j : Int) < (m : Int); omega) ?_
        rw [Int.toNat_natCast]
        try simp only [go_sem, Nat.reduceEqDiff, Nat.reduceAdd, Nat.reduceBEq, ↓reduceIte]
        refine ev_ldEl hO3 hi hb1 c1 ?_
        intro us hq _
        obtain ⟨A6, l6, c6, t6, B6, m6, e6, hf⟩ := RatV.form hq
        have hq : RatV H_2 (.agg us.toArray) (clr f i k j i j) := hq
        rw [show clr f i k j i j = f i j by unfold clr; rw [if_neg (by omega)]] at hq
        rw [hf] at hq ⊢
        clear hf
        try simp only [go_sem, Nat.reduceEqDiff, Nat.reduceAdd, Nat.reduceBEq, ↓reduceIte]
        refine ev_ia rfl (by omega) (by omega) ?_
        rw [Int.toNat_natCast]
        try simp only [go_sem, Nat.reduceEqDiff, Nat.reduceAdd, Nat.reduceBEq, ↓reduceIte]
        refine ev_ldTop hO3 hkn ?_
        rw [hb2]
        try simp only [go_sem, Nat.reduceEqDiff, Nat.reduceAdd, Nat.reduceBEq, ↓reduceIte]
        refine ev_ia rfl (by omega) (by show (j : Int) < (m : Int); omega) ?_
        rw [Int.toNat_natCast]
        try simp only [go_sem, Nat.reduceEqDiff, Nat.reduceAdd, Nat.reduceBEq, ↓reduceIte]
        refine ev_ldEl hO3 hkn hb2 c1 ?_
        intro us hp _
        obtain ⟨A7, l7, c7, t7, B7, m7, e7, hf⟩ := RatV.form hp
        have hp : RatV H_2 (.agg us.toArray) (clr f i k j k j) := hp
        rw [show clr f i k j k j = f k j by unfold clr; rw [if_neg (fun h => hik h.1.symm)]] at hp
        rw [hf] at hp ⊢
        clear hf
        have y1 := hbi j c1
        have y2 := hbk j c1
        have y3 := br_mul (f i k / f k k) (f k j)
        try simp only [go_sem, Nat.reduceEqDiff, Nat.reduceAdd, Nat.reduceBEq, ↓reduceIte]
        first | refine ev_call (rmul'_ok _ _ _ _ _ h5 hp (by omega)) ?_ | refine ev_callP (rmul'_ok _ _ _ _ _ h5 hp (by omega)) ?_
        rintro v_3 H_3 le_3 h6 _
        replace hq := hq.le le_3
        try simp only [go_sem, Nat.reduceEqDiff, Nat.reduceAdd, Nat.reduceBEq, ↓reduceIte]
        have hO3 := hO3.leH RatC.grows (by assumption)
        have h5 := h5.le (by assumption)
        first | refine ev_call (rsub'_ok _ _ _ _ _ hq h6 (by omega)) ?_ | refine ev_callP (rsub'_ok _ _ _ _ _ hq h6 (by omega)) ?_
        rintro v_4 H_4 le_4 h7 _
        try simp only [go_sem, Nat.reduceEqDiff, Nat.reduceAdd, Nat.reduceBEq, ↓reduceIte]
        have hO3 := hO3.leH RatC.grows (by assumption)
        have h5 := h5.le (by assumption)
        obtain ⟨A8, l8, c8, t8, B8, m8, e8, rfl⟩ := h7.form
        try simp only [go_sem, Nat.reduceEqDiff, Nat.reduceAdd, Nat.reduceBEq, ↓reduceIte]
        refine ev_ia rfl (by omega) (by show (j : Int) < (m : Int); omega) ?_
        rw [Int.toNat_natCast]
        try simp only [go_sem, Nat.reduceEqDiff, Nat.reduceAdd, Nat.reduceBEq, ↓reduceIte]
        refine ev_stEl (x := f i j - f i k / f k k * f k j) hO3 hi hb1 c1 (by assumption) rfl (by simp [cellsL, Value.oneCell']) h7 ?_
        intro M6 hO6 hd6
        try simp only [go_sem, Nat.reduceEqDiff, Nat.reduceAdd, Nat.reduceBEq, ↓reduceIte]
        rw [w64 ((j : Int) + 1) (by omega) (by omega), show (j : Int) + 1 = ((j + 1 : Nat) : Int) by omega]
        refine k_next (m - (j + 1)) _ (by omega) ⟨j + 1, _, M6, rfl, by omega, by omega, hd6 _ (by assumption), hO6.congr (fun r hr => ?_), h5, rfl⟩ sub_of
        unfold upM
        by_cases e : r = i
        · subst e
          rw [if_pos rfl]
          refine ⟨rfl, fun s hs => ?_⟩
          show upF (clr f r k j r) j (f r j - f r k / f k k * f k j) s = clr f r k (j + 1) r s
          unfold upF clr
          by_cases e2 : s = j
          · subst e2
            rw [if_pos rfl, if_pos ⟨rfl, hkj, by omega⟩]
          · rw [if_neg e2]
            by_cases e3 : k ≤ s ∧ s < j
            · rw [if_pos ⟨rfl, e3⟩, if_pos ⟨rfl, e3.1, by omega⟩]
            · rw [if_neg (fun h => e3 h.2), if_neg (fun h => e3 ⟨h.2.1, by omega⟩)]
        · rw [if_neg e]
          refine ⟨rfl, fun s hs => ?_⟩
          show clr f i k j r s = clr f i k (j + 1) r s
          unfold clr
          rw [if_neg (fun h => e h.1), if_neg (fun h => e h.1)]
      · have hz : f i k / f k k = 0 := Classical.not_not.1 fun h => c2 (sgnI_num.2 h)
        try simp only [go_sem, Nat.reduceEqDiff, Nat.reduceAdd, Nat.reduceBEq, ↓reduceIte]
        refine hO3.congr fun r hr => ⟨rfl, fun s hs => ?_⟩
        show clr f i k j r s = clr f i k m r s
        unfold clr
        rw [hz]
        by_cases e : r = i
        · subst e
          have z : f r s - 0 * f k s = f r s := by grind
          rw [z]
          split <;> split <;> rfl
        · rw [if_neg (fun h => e h.1), if_neg (fun h => e h.1)]
    · have hjm : j = m := by have c1' : ¬ (j : Int) < (m : Int) := c1; omega
      subst hjm
      try simp only [go_sem, Nat.reduceEqDiff, Nat.reduceAdd, Nat.reduceBEq, ↓reduceIte]
      exact hO3

end Go.Proofs.YtccdhgjfcgfgoaaGreat.X
set_option linter.unusedVariables false
set_option linter.unusedSimpArgs false
namespace Go.Proofs.YtccdhgjfcgfgoaaGreat.X
open Go Go.RowKit Go.Proofs

def mx (R : Nat → Rw Rat) : Nat → Nat → Rat := fun i k => (R i).2 k
/-- below the diagonal nothing, in the first columns -/
def Zer (n k : Nat) (g : Nat → Nat → Rat) : Prop := ∀ i j, i < n → j < k → j < i → g i j = 0
def prd (k : Nat) (g : Nat → Nat → Rat) : Rat := (List.range k).foldl (fun a j => a * g j j) 1
theorem prd_succ (k : Nat) (g : Nat → Nat → Rat) : prd (k + 1) g = prd k g * g k k := by
  unfold prd
  rw [List.range_succ, List.foldl_append]
  rfl
theorem prd_congr {k : Nat} {g h : Nat → Nat → Rat} (e : ∀ j, j < k → g j j = h j j) : prd k g = prd k h := by
  induction k with
  | zero => rfl
  | succ k ih => rw [prd_succ, prd_succ, ih (fun j hj => e j (by omega)), e k (by omega)]
/-- the rows from k to i cleared by row k -/
def elm (g : Nat → Nat → Rat) (k i : Nat) : Nat → Nat → Rat := Dt.elim g k k (fun r => decide (k < r ∧ r < i))
theorem elm_row {g : Nat → Nat → Rat} {k i r : Nat} (h : ¬ (k < r ∧ r < i)) : elm g k i r = g r := by
  funext s
  unfold elm Dt.elim
  rw [if_neg (fun h2 => h (of_decide_eq_true h2.1))]
theorem elm_row' {g : Nat → Nat → Rat} {k i r s : Nat} (h : k < r ∧ r < i) : elm g k i r s = g r s - g r k / g k k * g k s := by
  unfold elm Dt.elim
  rw [if_pos ⟨decide_eq_true h, by omega⟩]
theorem clr_elm {n k i : Nat} {g : Nat → Nat → Rat} (hz : Zer n k g) (hk : k < i) (hi : i < n) : ∀ r, r < n → ∀ s, s < n → clr (elm g k i) i k n r s = elm g k (i + 1) r s := by
  intro r hr s hs
  unfold clr
  have e1 : elm g k i i = g i := elm_row (by omega)
  have e2 : elm g k i k = g k := elm_row (by omega)
  rw [e1, e2]
  by_cases e : r = i
  · subst e
    rw [elm_row' (show k < r ∧ r < r + 1 by omega)]
    by_cases h : k ≤ s
    · rw [if_pos ⟨rfl, h, hs⟩]
    · rw [if_neg (by omega), e1, hz k s (by omega) (by omega) (by omega)]
      grind
  · rw [if_neg (fun h => e h.1)]
    by_cases h : k < r ∧ r < i
    · rw [elm_row' h, elm_row' (by omega)]
    · rw [elm_row h, elm_row (by omega)]
theorem zer_elm {n k : Nat} {g : Nat → Nat → Rat} (hz : Zer n k g) (h0 : g k k ≠ 0) : Zer n (k + 1) (elm g k n) := by
  intro i j hi hj hji
  by_cases h : k < i
  · by_cases e : j = k
    · subst e
      exact Dt.elim_zero h0 ⟨decide_eq_true ⟨h, hi⟩, by omega⟩
    · rw [elm_row' ⟨h, hi⟩, hz i j hi (by omega) hji, hz k j (by omega) (by omega) (by omega)]
      grind
  · rw [elm_row (by omega)]
    exact hz i j hi (by omega) hji
theorem zer_swp {n k i : Nat} {g : Nat → Nat → Rat} (hz : Zer n k g) (hki : k ≤ i) (hi : i < n) : Zer n k (Dt.swpR g i k) := by
  intro r j hr hj hjr
  unfold Dt.swpR
  split
  · exact hz k j (by omega) hj (by omega)
  · split
    · exact hz i j hi hj (by omega)
    · exact hz r j hr hj hjr
theorem swp_self (g : Nat → Nat → Rat) (k : Nat) : Dt.swpR g k k = g := by
  funext r s
  unfold Dt.swpR
  split
  · rename_i e; rw [e]
  · rfl
/-- what the determinant so far says -/
def Det1 (n k : Nat) (f g : Nat → Nat → Rat) (acc : Rat) : Prop := ∃ sg : Rat, Dt.det n f = sg * Dt.det n g ∧ acc = sg * prd k g
theorem Det1.swp {n k i : Nat} {f g : Nat → Nat → Rat} {acc : Rat} (h : Det1 n k f g acc) (hki : k ≤ i) (hi : i < n) : Det1 n k f (Dt.swpR g i k) (if i = k then acc else -acc) := by
  obtain ⟨sg, h1, h2⟩ := h
  by_cases e : i = k
  · subst e
    rw [if_pos rfl, swp_self]
    exact ⟨sg, h1, h2⟩
  · rw [if_neg e]
    refine ⟨-sg, ?_, ?_⟩
    · rw [(Dt.rowF_det n).swp g i k hi (by omega) e, h1]
      grind
    · rw [prd_congr (h := g) (fun j hj => by unfold Dt.swpR; rw [if_neg (by omega), if_neg (by omega)]), h2]
      grind
theorem Det1.next {n k : Nat} {f g : Nat → Nat → Rat} {acc : Rat} (h : Det1 n k f g acc) (hk : k < n) : Det1 n (k + 1) f (elm g k n) (acc * g k k) := by
  obtain ⟨sg, h1, h2⟩ := h
  refine ⟨sg, ?_, ?_⟩
  · unfold elm
    rw [(Dt.rowF_det n).elim g k k hk]
    exact h1
  · rw [prd_succ, prd_congr (g := elm g k n) (h := g) (fun j hj => by rw [elm_row (by omega)]), elm_row (r := k) (by omega), h2]
    grind
theorem Det1.done {n : Nat} {f g : Nat → Nat → Rat} {acc : Rat} (h : Det1 n n f g acc) (hz : Zer n n g) : acc = Dt.det n f := by
  obtain ⟨sg, h1, h2⟩ := h
  rw [h1, h2, Dt.det_upper n g (fun i j hi hj hji => hz i j hi hj hji)]
  rfl
theorem Det1.fail {n k : Nat} {f g : Nat → Nat → Rat} {acc : Rat} (h : Det1 n k f g acc) (hz : Zer n k g) (hk : k < n) (h0 : ∀ i, k ≤ i → i < n → g i k = 0) : Dt.det n f = 0 := by
  obtain ⟨sg, h1, _⟩ := h
  rw [h1, (Dt.rowF_det n).rank (n - (k + 1)) g k (k + 1) (by omega) (by omega) fun i h2 h3 j h4 => ?_]
  · grind
  · by_cases e : j = k
    · subst e; exact h0 i h2 h3
    · exact hz i j h3 (by omega) (by omega)
/-- no number is too long -/
def Bnd (n L : Nat) (g : Nat → Nat → Rat) : Prop := ∀ i s, i < n → s < n → br (g i s) ≤ L
theorem Bnd.swp {n L i k : Nat} {g : Nat → Nat → Rat} (h : Bnd n L g) (hi : i < n) (hk : k < n) : Bnd n L (Dt.swpR g i k) := by
  intro r s hr hs
  unfold Dt.swpR
  split
  · exact h k s hk hs
  · split
    · exact h i s hi hs
    · exact h r s hr hs
theorem Bnd.elm {n L k i : Nat} {g : Nat → Nat → Rat} (h : Bnd n L g) (h1 : 1 ≤ L) (hk : k < n) : Bnd n (L * 8) (elm g k i) := by
  intro r s hr hs
  have y1 := h r s hr hs
  by_cases e : k < r ∧ r < i
  · rw [elm_row' e]
    have y2 := h r k hr hk
    have y3 := h k k hk hk
    have y4 := h k s hk hs
    have y5 := br_div (g r k) (g k k)
    have y6 := br_mul (g r k / g k k) (g k s)
    have y7 := br_sub (g r s) (g r k / g k k * g k s)
    omega
  · rw [elm_row e]
    omega

theorem sqB_of {n : Nat} {R : Nat → Rw Rat} (h : sqB n R = true) : 1 ≤ n ∧ n ≤ 12 ∧ ∀ i, i < n → (R i).1 = n := by
  unfold sqB at h
  rw [Bool.and_eq_true, decide_eq_true_eq] at h
  obtain ⟨h1, h2, h3, h4, h5⟩ := evB_of h.1
  exact ⟨h1, h2, fun i hi => by rw [h5 i hi, h.2]⟩

set_option maxHeartbeats 2000000 in
theorem det_okB (H : PH) (A0 : Option Addr) (n c0 : Nat) (R : Nat → Rw Rat) (hM : MatH 3 RatC H A0 n R) (hn : n ≤ 9223372036854775807) (h5 : sqB n R = true → n ≤ 5) (hb : sqB n R = true → Bnd n 60000 (mx R)) :
    FnP Tryz.prog 8 [.slice A0 n c0] H fun v H' => ∃ v', v = .tuple #[v', .bool (sqB n R)] ∧ RatV H' v' (if sqB n R then Dt.det n (mx R) else 0) := by
  refine Fn.release (of_mat_Det (by simp) ?_)
  try simp only [go_sem, Nat.reduceEqDiff, Nat.reduceAdd, Nat.reduceBEq, ↓reduceIte, p_mat_Det]
  first | refine ev_call (square_ok _ A0 n c0 R hM hn) ?_ | refine ev_callP (square_ok _ A0 n c0 R hM hn) ?_
  rintro v_1 H_1 le_1 rfl _
  try simp only [go_sem, Nat.reduceEqDiff, Nat.reduceAdd, Nat.reduceBEq, ↓reduceIte]
  have hM := MatH.le RatC.grows hM (by assumption)
  cases hs : sqB n R with
  | false =>
    try simp only [go_sem, Nat.reduceEqDiff, Nat.reduceAdd, Nat.reduceBEq, ↓reduceIte, hs]
    exact fun _ => ⟨_, rfl, RatV.zero _⟩
  | true =>
    obtain ⟨n1, n2, hr⟩ := sqB_of hs
    have h5 := h5 hs
    have hb := hb hs
    rw [if_pos rfl]
    try simp only [go_sem, Nat.reduceEqDiff, Nat.reduceAdd, Nat.reduceBEq, ↓reduceIte, hs]
    refine ev_callM (copied_ok _ A0 none n c0 0 0 R (fun _ => (0, fun _ => 0)) hM ArrF.nil (by omega) (by omega) (fun i hi => by rw [hr i hi]; omega) (fun i hi => by omega)) ?_
    rintro v H2 M2 hle2 ⟨A, c, ra, rc, rfl, hO⟩ hd2
    obtain ⟨g, rfl⟩ := hO.top.base (Nat.lt_of_lt_of_le n1 hO.top.cap)
    have hO : MatO 3 RatC 36 64 H2 M2 (some ⟨g, 0, none⟩) n c ra rc (rect n (mx R)) := hO.congr fun i hi => by
      unfold cpR
      rw [if_neg (by omega)]
      exact ⟨hr i hi, fun k hk => rfl⟩
    clear hM
    try simp only [go_sem, Nat.reduceEqDiff, Nat.reduceAdd, Nat.reduceBEq, ↓reduceIte]
    first | refine ev_call (rof_ok _ 1 (by decide) (by decide)) ?_ | refine ev_callP (rof_ok _ 1 (by decide) (by decide)) ?_
    rintro v_2 H_2 le_2 h6 _
    try simp only [go_sem, Nat.reduceEqDiff, Nat.reduceAdd, Nat.reduceBEq, ↓reduceIte]
    have hO := hO.leH RatC.grows (by assumption)
    obtain ⟨A6, l6, c6, t6, B6, m6, e6, rfl⟩ := h6.form
    try simp only [go_sem, Nat.reduceEqDiff, Nat.reduceAdd, Nat.reduceBEq, ↓reduceIte]
    refine ev_loop (fun t s => ∃ (k : Nat) (H3 M3 : PH) (ra : Nat → Option Addr) (rc : Nat → Nat) (f : Nat → Nat → Rat) (acc : Rat) (A6 : Option Addr) (l6 c6 : Nat) (t6 : Bool) (B6 : Option Addr) (m6 e6 : Nat), t = n - k ∧ k ≤ n ∧ PH.disj H3 M3 ∧
      MatO 3 RatC 36 64 H3 M3 (some ⟨g, 0, none⟩) n c ra rc (rect n f) ∧ RatV H3 (.agg #[.slice A6 l6 c6, .bool t6, .slice B6 m6 e6]) acc ∧ Det1 n k (mx R) f acc ∧ Zer n k f ∧ Bnd n (60000 * 8 ^ k) f ∧ br acc ≤ 2 * (60000 * 8 ^ k) ∧
      s = ⟨[(18, .v (.int .i64 (k : Int))), (17, .v (.int .i64 (n : Int))), (4, .ptr 4 0), (2, .ptr 2 0), (0, .v (.slice (some ⟨g, 0, none⟩) n c))], [(4, [.slice A6 l6 c6, .bool t6, .slice B6 m6 e6]), (2, [.slice none 0 0, .bool false, .slice none 0 0])], H3, M3⟩) n _
      ⟨0, _, M2, ra, rc, mx R, 1, A6, l6, c6, t6, B6, m6, e6, rfl, by omega, by assumption, hO, h6, ⟨1, by grind, (by show (1 : Rat) = 1 * 1; grind)⟩, fun i j _ h => by omega, by rw [Nat.pow_zero]; exact hb, by decide, rfl⟩ sub_of ?_
    clear hO h6 hb hd2
    rintro t s ⟨k, H3, M3, ra, rc, f, acc, A6, l6, c6, t6, B6, m6, e6, rfl, hk, hd3, hO, h6, hdet, hz, hbd, hba, rfl⟩
    try simp only [go_sem, Nat.reduceEqDiff, Nat.reduceAdd, Nat.reduceBEq, ↓reduceIte]
    refine ev_if (fun c1 => ?_) (fun c1 => ?_)
    · have hkn : k < n := by omega
      have hp8 : 8 ^ k ≤ 8 ^ 4 := Nat.pow_le_pow_right (by decide) (by omega)
      have hp1 : 1 ≤ 8 ^ k := Nat.pos_of_ne_zero (fun h => by have := Nat.pow_pos (n := k) (show 0 < 8 by decide); omega)
      rw [show 8 ^ 4 = 4096 by decide] at hp8
      have hps : 60000 * 8 ^ (k + 1) = 60000 * 8 ^ k * 8 := by rw [Nat.pow_succ, Nat.mul_assoc]
      obtain ⟨L, hL⟩ : ∃ L, L = 60000 * 8 ^ k := ⟨_, rfl⟩
      have hL1 : 1 ≤ L ∧ L ≤ 245760000 := by omega
      rw [← hL] at hbd hba hps
      try simp only [go_sem, Nat.reduceEqDiff, Nat.reduceAdd, Nat.reduceBEq, ↓reduceIte]
      refine ev_callM (pivot_ok H3 M3 g n c n k ra rc f hO hd3 hkn hkn (by omega) (by omega) (fun i hi => by have := hbd i k hi hkn; omega)) ?_
      rintro v H4 M4 hle4 ⟨still, is, ra4, rc4, f4, rfl, hO4, hres⟩ hd4
      have h6 := h6.le hle4
      clear hO hd3
      try simp only [go_sem, Nat.reduceEqDiff, Nat.reduceAdd, Nat.reduceBEq, ↓reduceIte]
      rcases hres with ⟨rfl, hz0⟩ | ⟨rfl, i, hki, hi, hf0, rfl, rfl⟩
      · try simp only [go_sem, Nat.reduceEqDiff, Nat.reduceAdd, Nat.reduceBEq, ↓reduceIte]
        refine fun _ => ⟨_, rfl, ?_⟩
        rw [hdet.fail hz hkn hz0]
        exact RatV.zero _
      · have hdet4 := hdet.swp hki hi
        have hz4 := zer_swp hz hki hi
        have hbd4 := hbd.swp hi hkn
        have h0 : Dt.swpR f i k k k ≠ 0 := by
          unfold Dt.swpR
          by_cases e : k = i
          · rw [if_pos e, e]; rw [e] at hf0; exact hf0
          · rw [if_neg e, if_pos rfl]; exact hf0
        generalize Dt.swpR f i k = f4 at *
        try simp only [go_sem, Nat.reduceEqDiff, Nat.reduceAdd, Nat.reduceBEq, ↓reduceIte]
        by_cases e : i = k
        · rw [if_pos e] at hdet4
          rw [decide_eq_true e]
          have h64 := h6
          have hba4 := hba
          generalize hacc : acc = acc4 at *
          try simp only [go_sem, Nat.reduceEqDiff, Nat.reduceAdd, Nat.reduceBEq, ↓reduceIte]
          obtain ⟨b4, hb4⟩ := hO4.base hkn (show 0 < n by omega)
          refine ev_ia rfl (by omega) (by omega) ?_
          rw [Int.toNat_natCast]
          try simp only [go_sem, Nat.reduceEqDiff, Nat.reduceAdd, Nat.reduceBEq, ↓reduceIte]
          refine ev_ldTop hO4 hkn ?_
          rw [hb4]
          try simp only [go_sem, Nat.reduceEqDiff, Nat.reduceAdd, Nat.reduceBEq, ↓reduceIte]
          refine ev_ia rfl (by omega) (by show (k : Int) < (n : Int); omega) ?_
          rw [Int.toNat_natCast]
          try simp only [go_sem, Nat.reduceEqDiff, Nat.reduceAdd, Nat.reduceBEq, ↓reduceIte]
          refine ev_ldEl hO4 hkn hb4 hkn ?_
          intro us hp _
          obtain ⟨A7, l7, c7, t7, B7, m7, e7, hf⟩ := RatV.form hp
          have hp : RatV _ (.agg us.toArray) (f4 k k) := hp
          rw [hf] at hp ⊢
          clear hf
          have y1 := hbd4 k k hkn hkn
          have y2 := br_mul acc4 (f4 k k)
          try simp only [go_sem, Nat.reduceEqDiff, Nat.reduceAdd, Nat.reduceBEq, ↓reduceIte]
          first | refine ev_call (rmul'_ok _ _ _ _ _ h64 hp (by omega)) ?_ | refine ev_callP (rmul'_ok _ _ _ _ _ h64 hp (by omega)) ?_
          rintro v_3 H_3 le_3 h8 _
          try simp only [go_sem, Nat.reduceEqDiff, Nat.reduceAdd, Nat.reduceBEq, ↓reduceIte]
          have hO4 := hO4.leH RatC.grows (by assumption)
          obtain ⟨A8, l8, c8, t8, B8, m8, e8, rfl⟩ := h8.form
          try simp only [go_sem, Nat.reduceEqDiff, Nat.reduceAdd, Nat.reduceBEq, ↓reduceIte]
          rw [w64 ((k : Int) + 1) (by omega) (by omega), show (k : Int) + 1 = ((k + 1 : Nat) : Int) by omega]
          refine ev_loop (fun t s => ∃ (i : Nat) (H5 M5 : PH), t = n - i ∧ k < i ∧ i ≤ n ∧ PH.disj H5 M5 ∧ MatO 3 RatC 36 64 H5 M5 (some ⟨g, 0, none⟩) n c ra4 rc4 (rect n (elm f4 k i)) ∧ RatV H5 (.agg #[.slice A8 l8 c8, .bool t8, .slice B8 m8 e8]) (acc4 * f4 k k) ∧
            s = ⟨[(18, .v (.int .i64 (k : Int))), (17, .v (.int .i64 (n : Int))), (8, .v (.int .i64 (i : Int))), (5, .v (.int .i64 (k : Int))), (4, .ptr 4 0), (2, .ptr 2 0), (0, .v (.slice (some ⟨g, 0, none⟩) n c))], [(4, [.slice A8 l8 c8, .bool t8, .slice B8 m8 e8]), (2, [.slice none 0 0, .bool false, .slice none 0 0])], H5, M5⟩) (n - (k + 1)) _
            ⟨k + 1, _, M4, rfl, by omega, by omega, by assumption, hO4.congr (fun r hr => ⟨rfl, fun s hs => by show f4 r s = elm f4 k (k + 1) r s; rw [elm_row (by omega)]⟩), h8, rfl⟩ sub_of ?_
          clear hO4 h8
          rintro t s ⟨i5, H5, M5, rfl, hki5, hi5, hd5, hO5, h8, rfl⟩
          try simp only [go_sem, Nat.reduceEqDiff, Nat.reduceAdd, Nat.reduceBEq, ↓reduceIte]
          refine ev_if (fun c2 => ?_) (fun c2 => ?_)
          · try simp only [go_sem, Nat.reduceEqDiff, Nat.reduceAdd, Nat.reduceBEq, ↓reduceIte]
            have hrowi : elm f4 k i5 i5 = f4 i5 := elm_row (by omega)
            have hrowk : elm f4 k i5 k = f4 k := elm_row (by omega)
            refine ev_callM (clear_ok H5 M5 g n c n i5 k L ra4 rc4 (elm f4 k i5) hO5 hd5 hkn hkn (by omega) (by omega) (by omega) (by omega) (by omega) (fun s hs => by rw [hrowi]; exact hbd4 i5 s (by omega) hs) (fun s hs => by rw [hrowk]; exact hbd4 k s hkn hs) (by rw [hrowk]; exact h0)) ?_
            intro v H7 M7 hle7 hO7 hd7
            try simp only [go_sem, Nat.reduceEqDiff, Nat.reduceAdd, Nat.reduceBEq, ↓reduceIte]
            rw [w64 ((i5 : Int) + 1) (by omega) (by omega), show (i5 : Int) + 1 = ((i5 + 1 : Nat) : Int) by omega]
            exact k_next (n - (i5 + 1)) _ (by omega) ⟨i5 + 1, H7, M7, rfl, by omega, by omega, hd7, hO7.congr (fun r hr => ⟨rfl, fun s hs => clr_elm hz4 hki5 (by omega) r hr s hs⟩), h8.le hle7, rfl⟩ sub_of
          · have hin : i5 = n := by omega
            subst hin
            try simp only [go_sem, Nat.reduceEqDiff, Nat.reduceAdd, Nat.reduceBEq, ↓reduceIte]
            rw [w64 ((k : Int) + 1) (by omega) (by omega), show (k : Int) + 1 = ((k + 1 : Nat) : Int) by omega]
            exact k_next (i5 - (k + 1)) _ (by omega) ⟨k + 1, H5, M5, ra4, rc4, elm f4 k i5, _, _, _, _, _, _, _, _, rfl, by omega, hd5, hO5, h8, hdet4.next hkn, zer_elm hz4 h0, hps ▸ hbd4.elm (by omega) hkn, by omega, rfl⟩ sub_of
        · rw [if_neg e] at hdet4
          rw [decide_eq_false e]
          have hba4 : br (-acc) ≤ 2 * L := by rw [br_neg]; exact hba
          try simp only [go_sem, Nat.reduceEqDiff, Nat.reduceAdd, Nat.reduceBEq, ↓reduceIte]
          first | refine ev_call (rneg'_ok _ _ _ h6 (by omega)) ?_ | refine ev_callP (rneg'_ok _ _ _ h6 (by omega)) ?_
          rintro v_4 H_4 le_4 h64 _
          try simp only [go_sem, Nat.reduceEqDiff, Nat.reduceAdd, Nat.reduceBEq, ↓reduceIte]
          have hO4 := hO4.leH RatC.grows (by assumption)
          generalize hacc : -acc = acc4 at *
          obtain ⟨A9, l9, c9, t9, B9, m9, e9, rfl⟩ := h64.form
          try simp only [go_sem, Nat.reduceEqDiff, Nat.reduceAdd, Nat.reduceBEq, ↓reduceIte]
          obtain ⟨b4, hb4⟩ := hO4.base hkn (show 0 < n by omega)
          refine ev_ia rfl (by omega) (by omega) ?_
          rw [Int.toNat_natCast]
          try simp only [go_sem, Nat.reduceEqDiff, Nat.reduceAdd, Nat.reduceBEq, ↓reduceIte]
          refine ev_ldTop hO4 hkn ?_
          rw [hb4]
          try simp only [go_sem, Nat.reduceEqDiff, Nat.reduceAdd, Nat.reduceBEq, ↓reduceIte]
          refine ev_ia rfl (by omega) (by show (k : Int) < (n : Int); omega) ?_
          rw [Int.toNat_natCast]
          try simp only [go_sem, Nat.reduceEqDiff, Nat.reduceAdd, Nat.reduceBEq, ↓reduceIte]
          refine ev_ldEl hO4 hkn hb4 hkn ?_
          intro us hp _
          obtain ⟨A7, l7, c7, t7, B7, m7, e7, hf⟩ := RatV.form hp
          have hp : RatV _ (.agg us.toArray) (f4 k k) := hp
          rw [hf] at hp ⊢
          clear hf
          have y1 := hbd4 k k hkn hkn
          have y2 := br_mul acc4 (f4 k k)
          try simp only [go_sem, Nat.reduceEqDiff, Nat.reduceAdd, Nat.reduceBEq, ↓reduceIte]
          first | refine ev_call (rmul'_ok _ _ _ _ _ h64 hp (by omega)) ?_ | refine ev_callP (rmul'_ok _ _ _ _ _ h64 hp (by omega)) ?_
          rintro v_3 H_3 le_3 h8 _
          try simp only [go_sem, Nat.reduceEqDiff, Nat.reduceAdd, Nat.reduceBEq, ↓reduceIte]
          have hO4 := hO4.leH RatC.grows (by assumption)
          obtain ⟨A8, l8, c8, t8, B8, m8, e8, rfl⟩ := h8.form
          try simp only [go_sem, Nat.reduceEqDiff, Nat.reduceAdd, Nat.reduceBEq, ↓reduceIte]
          rw [w64 ((k : Int) + 1) (by omega) (by omega), show (k : Int) + 1 = ((k + 1 : Nat) : Int) by omega]
          refine ev_loop (fun t s => ∃ (i : Nat) (H5 M5 : PH), t = n - i ∧ k < i ∧ i ≤ n ∧ PH.disj H5 M5 ∧ MatO 3 RatC 36 64 H5 M5 (some ⟨g, 0, none⟩) n c ra4 rc4 (rect n (elm f4 k i)) ∧ RatV H5 (.agg #[.slice A8 l8 c8, .bool t8, .slice B8 m8 e8]) (acc4 * f4 k k) ∧
            s = ⟨[(18, .v (.int .i64 (k : Int))), (17, .v (.int .i64 (n : Int))), (8, .v (.int .i64 (i : Int))), (5, .v (.int .i64 (k : Int))), (4, .ptr 4 0), (2, .ptr 2 0), (0, .v (.slice (some ⟨g, 0, none⟩) n c))], [(4, [.slice A8 l8 c8, .bool t8, .slice B8 m8 e8]), (2, [.slice none 0 0, .bool false, .slice none 0 0])], H5, M5⟩) (n - (k + 1)) _
            ⟨k + 1, _, M4, rfl, by omega, by omega, by assumption, hO4.congr (fun r hr => ⟨rfl, fun s hs => by show f4 r s = elm f4 k (k + 1) r s; rw [elm_row (by omega)]⟩), h8, rfl⟩ sub_of ?_
          clear hO4 h8
          rintro t s ⟨i5, H5, M5, rfl, hki5, hi5, hd5, hO5, h8, rfl⟩
          try simp only [go_sem, Nat.reduceEqDiff, Nat.reduceAdd, Nat.reduceBEq, ↓reduceIte]
          refine ev_if (fun c2 => ?_) (fun c2 => ?_)
          · try simp only [go_sem, Nat.reduceEqDiff, Nat.reduceAdd, Nat.reduceBEq, ↓reduceIte]
            have hrowi : elm f4 k i5 i5 = f4 i5 := elm_row (by omega)
            have hrowk : elm f4 k i5 k = f4 k := elm_row (by omega)
            refine ev_callM (clear_ok H5 M5 g n c n i5 k L ra4 rc4 (elm f4 k i5) hO5 hd5 hkn hkn (by omega) (by omega) (by omega) (by omega) (by omega) (fun s hs => by rw [hrowi]; exact hbd4 i5 s (by omega) hs) (fun s hs => by rw [hrowk]; exact hbd4 k s hkn hs) (by rw [hrowk]; exact h0)) ?_
            intro v H7 M7 hle7 hO7 hd7
            try simp only [go_sem, Nat.reduceEqDiff, Nat.reduceAdd, Nat.reduceBEq, ↓reduceIte]
            rw [w64 ((i5 : Int) + 1) (by omega) (by omega), show (i5 : Int) + 1 = ((i5 + 1 : Nat) : Int) by omega]
            exact k_next (n - (i5 + 1)) _ (by omega) ⟨i5 + 1, H7, M7, rfl, by omega, by omega, hd7, hO7.congr (fun r hr => ⟨rfl, fun s hs => clr_elm hz4 hki5 (by omega) r hr s hs⟩), h8.le hle7, rfl⟩ sub_of
          · have hin : i5 = n := by omega
            subst hin
            try simp only [go_sem, Nat.reduceEqDiff, Nat.reduceAdd, Nat.reduceBEq, ↓reduceIte]
            rw [w64 ((k : Int) + 1) (by omega) (by omega), show (k : Int) + 1 = ((k + 1 : Nat) : Int) by omega]
            exact k_next (i5 - (k + 1)) _ (by omega) ⟨k + 1, H5, M5, ra4, rc4, elm f4 k i5, _, _, _, _, _, _, _, _, rfl, by omega, hd5, hO5, h8, hdet4.next hkn, zer_elm hz4 h0, hps ▸ hbd4.elm (by omega) hkn, by omega, rfl⟩ sub_of
    · have hkn : k = n := by omega
      subst hkn
      try simp only [go_sem, Nat.reduceEqDiff, Nat.reduceAdd, Nat.reduceBEq, ↓reduceIte]
      refine fun _ => ⟨_, rfl, ?_⟩
      rw [← hdet.done hz]
      exact h6.le (PH.le_join _ _)

theorem Bnd.up {n L L' : Nat} {A : Nat → Nat → Rat} (hA : Bnd n L A) (h : L ≤ L') : Bnd n L' A := fun i s hi hs => Nat.le_trans (hA i s hi hs) h
theorem det_ok (H : PH) (A0 : Option Addr) (n c0 : Nat) (R : Nat → Rw Rat) (hM : MatH 3 RatC H A0 n R) (hn : n ≤ 9223372036854775807) (h5 : sqB n R = true → n ≤ 5) (hb : sqB n R = true → Bnd n 4000 (mx R)) :
    FnP Tryz.prog 8 [.slice A0 n c0] H fun v H' => ∃ v', v = .tuple #[v', .bool (sqB n R)] ∧ RatV H' v' (if sqB n R then Dt.det n (mx R) else 0) :=
  det_okB H A0 n c0 R hM hn h5 (fun h => (hb h).up (by decide))

end Go.Proofs.YtccdhgjfcgfgoaaGreat.X
set_option linter.unusedVariables false
set_option linter.unusedSimpArgs false
namespace Go.Proofs.YtccdhgjfcgfgoaaGreat.X
open Go Go.RowKit Go.Proofs

end Go.Proofs.YtccdhgjfcgfgoaaGreat.X
set_option linter.unusedVariables false
set_option linter.unusedSimpArgs false
namespace Go.Proofs.YtccdhgjfcgfgoaaGreat.X
open Go Go.RowKit Go.Proofs

theorem br_sm {L : Nat} {f : Nat → Rat} : ∀ n, (∀ x, x < n → br (f x) ≤ L) → br (Dt.sm n f) ≤ n * (L + 2) + 1
  | 0, _ => by show br 0 ≤ _; have : br 0 = 1 := by decide
               omega
  | n + 1, h => by
    have ih := br_sm n (fun x hx => h x (by omega))
    have h1 := h n (by omega)
    have h2 := br_add (Dt.sm n f) (f n)
    show br (Dt.sm n f + f n) ≤ _
    rw [Nat.add_mul]
    omega
end Go.Proofs.YtccdhgjfcgfgoaaGreat.X
