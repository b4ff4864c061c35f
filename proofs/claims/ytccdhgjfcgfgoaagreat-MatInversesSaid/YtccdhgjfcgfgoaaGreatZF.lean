/- The reference's matrices: copies, minors, determinants. -/
import Derived.Test.YtccdhgjfcgfgoaaGreatZC
set_option linter.unusedVariables false
set_option linter.unusedSimpArgs false
namespace Go.Proofs.YtccdhgjfcgfgoaaGreat.X
open Go Go.RowKit Go.Proofs

theorem xsquare_ok (H : PH) (A : Option Addr) (n c : Nat) (R : Nat → Rw Rat) (hM : MX H A n R) (hn : n ≤ 9223372036854775807) : FnP Tryz.prog 36 [.slice A n c] H fun v _ => v = .bool (sqB n R) := by
  refine of_cinctureref1_square (by simp) ?_
  try simp only [go_sem, Nat.reduceEqDiff, Nat.reduceAdd, Nat.reduceBEq, ↓reduceIte, p_cinctureref1_square]
  first | refine ev_call (xright_ok _ A n c R hM hn) ?_ | refine ev_callP (xright_ok _ A n c R hM hn) ?_
  rintro v_1 H_1 le_1 rfl _
  replace hM := hM.le le_1
  try simp only [go_sem, Nat.reduceEqDiff, Nat.reduceAdd, Nat.reduceBEq, ↓reduceIte]
  unfold sqB
  cases he : evB n R with
  | false =>
    try simp only [go_sem, Nat.reduceEqDiff, Nat.reduceAdd, Nat.reduceBEq, ↓reduceIte, he]
    exact ⟨by trivial, by trivial⟩
  | true =>
    obtain ⟨n1, _⟩ := evB_of he
    obtain ⟨b, off, rfl⟩ := ArrF.base hM (by omega)
    try simp only [go_sem, Nat.reduceEqDiff, Nat.reduceAdd, Nat.reduceBEq, ↓reduceIte, he]
    refine ev_ia rfl (by omega) (by omega) ?_
    try simp only [go_sem, Nat.reduceEqDiff, Nat.reduceAdd, Nat.reduceBEq, ↓reduceIte]
    refine ev_ldRow0 hM (by omega) ?_
    intro A1 q1 ha1
    try simp only [go_sem, Nat.reduceEqDiff, Nat.reduceAdd, Nat.reduceBEq, ↓reduceIte]
    refine ev_if (fun c1 => ?_) (fun c1 => ?_)
    · try simp only [go_sem, Nat.reduceEqDiff, Nat.reduceAdd, Nat.reduceBEq, ↓reduceIte]
      refine ⟨by trivial, ?_⟩
      rw [decide_eq_true (show n = (R 0).1 by omega)]
      rfl
    · try simp only [go_sem, Nat.reduceEqDiff, Nat.reduceAdd, Nat.reduceBEq, ↓reduceIte]
      refine ⟨by trivial, ?_⟩
      rw [decide_eq_false (show ¬ n = (R 0).1 by omega)]
      rfl

theorem rowsR_ok (H : PH) (A0 : Option Addr) (n c0 m : Nat) (f : Nat → Nat → Rat) (hM : MatH 3 RRatC H A0 n (rect m f)) (hn : n ≤ 1000) (h1 : 1 ≤ m) (hm : m ≤ 1000) :
    Fn Tryz.prog 41 [.slice A0 n c0] H PH.no fun v H' M' => ∃ A c ra rc, v = .slice A n c ∧ MatO 3 RRatC 43 58 H' M' A n c ra rc (rect m f) := by
  refine of_cinctureref1_rows (by simp) ?_
  try simp only [go_sem, Nat.reduceEqDiff, Nat.reduceAdd, Nat.reduceBEq, ↓reduceIte, p_cinctureref1_rows]
  refine ev_loop (fun k s => ∃ (i : Nat) (M2 : PH) (A : Option Addr) (c : Nat) (ra : Nat → Option Addr) (rc : Nat → Nat), k = n - i ∧ i ≤ n ∧ PH.disj H M2 ∧
    MatO 3 RRatC 43 58 H M2 A i c ra rc (rect m f) ∧
    s = ⟨[(4, .v (.int .i64 (i : Int))), (3, .v (.slice A i c)), (0, .v (.slice A0 n c0))], [], H, M2⟩) n _ ⟨0, PH.no, none, 0, fun _ => none, fun _ => 0, rfl, by omega, PH.disj_no _, MatO.nil, rfl⟩ sub_of ?_
  rintro k s ⟨i, M2, A, c, ra, rc, rfl, hi, hd2, hO2, rfl⟩
  try simp only [go_sem, Nat.reduceEqDiff, Nat.reduceAdd, Nat.reduceBEq, ↓reduceIte]
  refine ev_if (fun c1 => ?_) (fun c1 => ?_)
  · obtain ⟨b, off, rfl⟩ := ArrF.base hM (by omega)
    try simp only [go_sem, Nat.reduceEqDiff, Nat.reduceAdd, Nat.reduceBEq, ↓reduceIte]
    refine ev_ia rfl (by omega) (by omega) ?_
    rw [Int.toNat_natCast]
    try simp only [go_sem, Nat.reduceEqDiff, Nat.reduceAdd, Nat.reduceBEq, ↓reduceIte]
    refine ev_ldRow hM (by omega) ?_
    intro A3 q3 ha3
    replace ha3 : ArrF 3 RRatC H A3 m (f i) := ha3
    try simp only [go_sem, Nat.reduceEqDiff, Nat.reduceAdd, Nat.reduceBEq, ↓reduceIte]
    refine ev_appF (w := 3) (P := RRatC) (f := f i) (by decide) OwnF.nil (ha3.src (by omega)) rfl (by omega) (by show 0 + m ≤ _; omega) (by show (0 + m) * _ ≤ _; omega) hd2 ?_
    intro B cB M3 hB hb3 hA3 hd3
    have hB : OwnF 3 RRatC 43 H M3 B m (f i) cB := by
      rw [Nat.zero_add] at hB
      exact hB.congr fun x hx => by unfold thenF; rw [if_neg (by omega)]; rfl
    have hap : Apart B A i ra := by
      rcases hA3 with rfl | h
      · exact Apart.none
      · exact hO2.apart h
    have hO4 := hO2.but hb3 Apart.none
    try simp only [go_sem, Nat.reduceEqDiff, Nat.reduceAdd, Nat.reduceBEq, ↓reduceIte]
    try rw [show (rect m f i).1 = m from rfl]
    try rw [Nat.zero_add]
    refine ev_bslF (w := 1) (P := SlC) (f := fun _ => (B, m, cB)) rfl (by omega) (one_cell rfl rfl rfl) hd3 ?_
    intro g5 M5 hO5 hle5 hg5 hd5
    try simp only [go_sem, Nat.reduceEqDiff, Nat.reduceAdd, Nat.reduceBEq, ↓reduceIte]
    refine ev_appF (by decide) (hO4.top.leM hle5) (hO5.src (by decide)) rfl (by decide) (by omega) (by omega) hd5 ?_
    intro A' c' M6 hO6 hb6 hA6 hd6
    try simp only [go_sem, Nat.reduceEqDiff, Nat.reduceAdd, Nat.reduceBEq, ↓reduceIte]
    rw [w64 ((i : Int) + 1) (by omega) (by omega), show (i : Int) + 1 = ((i + 1 : Nat) : Int) by omega]
    have hO7 := hO4.push hB hap hle5 hO6 hb6 hA6
    refine k_next (n - (i + 1)) _ (by omega) ⟨i + 1, M6, A', c', _, _, rfl, by omega, hd6, hO7.congr (fun a ha => ?_), rfl⟩ sub_of
    try dsimp only
    by_cases e : a = i
    · subst e
      rw [if_pos rfl]
      exact ⟨rfl, fun _ _ => rfl⟩
    · rw [if_neg e]
      exact ⟨rfl, fun _ _ => rfl⟩
  · have hin : i = n := by omega
    subst hin
    try simp only [go_sem, Nat.reduceEqDiff, Nat.reduceAdd, Nat.reduceBEq, ↓reduceIte]
    exact ⟨_, _, _, _, rfl, hO2⟩

theorem minorR_ok (H : PH) (A0 : Option Addr) (n c0 k : Nat) (f : Nat → Nat → Rat) (hM : MX H A0 n (rect n f)) (h2 : 2 ≤ n) (h12 : n ≤ 12) (hk : k < n) :
    FnP Tryz.prog 80 [.slice A0 n c0, .int .i64 (k : Int)] H fun v H' => ∃ A c, v = .slice A (n - 1) c ∧ MX H' A (n - 1) (rect (n - 1) (Dt.minor f k)) := by
  obtain ⟨b, off, rfl⟩ := ArrF.base hM (by omega)
  refine Fn.release (of_cinctureref1_minor (by simp) ?_)
  try simp only [go_sem, Nat.reduceEqDiff, Nat.reduceAdd, Nat.reduceBEq, ↓reduceIte, p_cinctureref1_minor]
  refine ev_loop (fun t s => ∃ (i : Nat) (M2 : PH) (A : Option Addr) (c : Nat) (ra : Nat → Option Addr) (rc : Nat → Nat), t = n - i ∧ i + 1 ≤ n ∧ PH.disj H M2 ∧
    MatO 3 RRatC 43 58 H M2 A i c ra rc (rect (n - 1) (Dt.minor f k)) ∧
    s = ⟨[(6, .v (.int .i64 ((i + 1 : Nat) : Int))), (5, .v (.slice A i c)), (1, .v (.int .i64 (k : Int))), (0, .v (.slice (some ⟨b, off, none⟩) n c0))], [], H, M2⟩) n _ ⟨0, PH.no, none, 0, fun _ => none, fun _ => 0, rfl, by omega, PH.disj_no _, MatO.nil, rfl⟩ sub_of ?_
  rintro t s ⟨i, M2, A, c, ra, rc, rfl, hi, hd2, hO2, rfl⟩
  try simp only [go_sem, Nat.reduceEqDiff, Nat.reduceAdd, Nat.reduceBEq, ↓reduceIte]
  refine ev_if (fun c1 => ?_) (fun c1 => ?_)
  · have hin : i + 1 < n := by omega
    try simp only [go_sem, Nat.reduceEqDiff, Nat.reduceAdd, Nat.reduceBEq, ↓reduceIte]
    refine ev_loop (fun t s => ∃ (j L : Nat) (M4 : PH) (B : Option Addr) (cB : Nat), t = n - j ∧ j ≤ n ∧ L = (if j ≤ k then j else j - 1) ∧ PH.disj H M4 ∧
      MatO 3 RRatC 43 58 H M4 A i c ra rc (rect (n - 1) (Dt.minor f k)) ∧ OwnF 3 RRatC 43 H M4 B L (Dt.minor f k i) cB ∧ Apart B A i ra ∧
      s = ⟨[(8, .v (.int .i64 (j : Int))), (7, .v (.slice B L cB)), (6, .v (.int .i64 ((i + 1 : Nat) : Int))), (5, .v (.slice A i c)), (1, .v (.int .i64 (k : Int))), (0, .v (.slice (some ⟨b, off, none⟩) n c0))], [], H, M4⟩) n _ ⟨0, 0, M2, none, 0, rfl, by omega, by rw [if_pos (by omega)], hd2, hO2, OwnF.nil, Apart.none, rfl⟩ sub_of ?_
    clear hd2 hO2
    rintro t s ⟨j, L, M4, B, cB, rfl, hj, hL, hd4, hO4, hB4, hap, rfl⟩
    try simp only [go_sem, Nat.reduceEqDiff, Nat.reduceAdd, Nat.reduceBEq, ↓reduceIte]
    refine ev_if (fun c2 => ?_) (fun c2 => ?_)
    · have hjn : j < n := by omega
      have hLj : L ≤ j := by rw [hL]; split <;> omega
      try simp only [go_sem, Nat.reduceEqDiff, Nat.reduceAdd, Nat.reduceBEq, ↓reduceIte]
      refine ev_if (fun c3 => ?_) (fun c3 => ?_)
      · have hjk : j ≠ k := by omega
        try simp only [go_sem, Nat.reduceEqDiff, Nat.reduceAdd, Nat.reduceBEq, ↓reduceIte]
        refine ev_ia rfl (by omega) (by omega) ?_
        rw [Int.toNat_natCast]
        try simp only [go_sem, Nat.reduceEqDiff, Nat.reduceAdd, Nat.reduceBEq, ↓reduceIte]
        refine ev_ldRow hM hin ?_
        intro A3 q3 ha3
        replace ha3 : ArrF 3 RRatC H A3 n (f (i + 1)) := ha3
        obtain ⟨b3, off3, rfl⟩ := ha3.base (by omega)
        try simp only [go_sem, Nat.reduceEqDiff, Nat.reduceAdd, Nat.reduceBEq, ↓reduceIte]
        refine ev_ia rfl (by omega) (by show (j : Int) < (n : Int); omega) ?_
        rw [Int.toNat_natCast]
        try simp only [go_sem, Nat.reduceEqDiff, Nat.reduceAdd, Nat.reduceBEq, ↓reduceIte]
        refine ev_ldF ha3 hjn ?_
        intro us hq _
        obtain ⟨b5, A5, l5, c5, B5, m5, e5, hf⟩ := RRat.form hq
        have hq : RRat H (.agg us.toArray) (f (i + 1) j) := hq
        rw [hf] at hq ⊢
        clear hf
        try simp only [go_sem, Nat.reduceEqDiff, Nat.reduceAdd, Nat.reduceBEq, ↓reduceIte]
        refine ev_bslF (w := 3) (P := RRatC) (f := fun _ => f (i + 1) j) rfl (by omega) (one_cells rfl rfl (by simp [Value.oneCell']) hq) hd4 ?_
        intro g5 M5 hO5 hle5 hg5 hd5
        try simp only [go_sem, Nat.reduceEqDiff, Nat.reduceAdd, Nat.reduceBEq, ↓reduceIte]
        refine ev_appF (by decide) (hB4.leM hle5) (hO5.src (by decide)) rfl (by decide) (by omega) (by omega) hd5 ?_
        intro B' cB' M6 hO6 hb6 hA6 hd6
        try simp only [go_sem, Nat.reduceEqDiff, Nat.reduceAdd, Nat.reduceBEq, ↓reduceIte]
        rw [w64 ((j : Int) + 1) (by omega) (by omega), show (j : Int) + 1 = ((j + 1 : Nat) : Int) by omega]
        have hap' : Apart B' A i ra := by
          rcases hA6 with rfl | h
          · exact hap
          · exact (hO4.leM hle5).apart h
        refine k_next (n - (j + 1)) _ (by omega) ⟨j + 1, L + 1, M6, B', cB', rfl, by omega, by rw [hL]; split <;> split <;> omega, hd6, (hO4.leM hle5).but hb6 hap, hO6.congr (fun x hx => ?_), hap', rfl⟩ sub_of
        unfold thenF
        by_cases e : x < L
        · rw [if_pos e]
        · rw [if_neg e]
          have : x = L := by omega
          subst this
          unfold Dt.minor
          by_cases hlt : j < k
          · rw [hL, if_pos (by omega), if_pos hlt]
          · rw [hL, if_neg (by omega), if_neg (by omega), show j - 1 + 1 = j by omega]
      · have hjk : j = k := by
          have := Classical.not_not.1 c3
          omega
        try simp only [go_sem, Nat.reduceEqDiff, Nat.reduceAdd, Nat.reduceBEq, ↓reduceIte]
        rw [w64 ((j : Int) + 1) (by omega) (by omega), show (j : Int) + 1 = ((j + 1 : Nat) : Int) by omega]
        exact k_next (n - (j + 1)) _ (by omega) ⟨j + 1, L, M4, B, cB, rfl, by omega, by rw [hL, if_pos (by omega), if_neg (by omega)]; omega, hd4, hO4, hB4, hap, rfl⟩ sub_of
    · have hj' : j = n := by omega
      have hL' : L = n - 1 := by rw [hL, if_neg (by omega)]; omega
      subst hL'
      clear hL
      try simp only [go_sem, Nat.reduceEqDiff, Nat.reduceAdd, Nat.reduceBEq, ↓reduceIte]
      refine ev_bslF (w := 1) (P := SlC) (f := fun _ => (B, n - 1, cB)) rfl (by omega) (one_cell rfl rfl rfl) hd4 ?_
      intro g5 M5 hO5 hle5 hg5 hd5
      try simp only [go_sem, Nat.reduceEqDiff, Nat.reduceAdd, Nat.reduceBEq, ↓reduceIte]
      refine ev_appF (by decide) (hO4.top.leM hle5) (hO5.src (by decide)) rfl (by decide) (by omega) (by omega) hd5 ?_
      intro A' c' M6 hO6 hb6 hA6 hd6
      try simp only [go_sem, Nat.reduceEqDiff, Nat.reduceAdd, Nat.reduceBEq, ↓reduceIte]
      rw [w64 (((i + 1 : Nat) : Int) + 1) (by omega) (by omega), show ((i + 1 : Nat) : Int) + 1 = ((i + 1 + 1 : Nat) : Int) by omega]
      have hO7 := hO4.push hB4 hap hle5 hO6 hb6 hA6
      refine k_next (n - (i + 1)) _ (by omega) ⟨i + 1, M6, A', c', _, _, rfl, by omega, hd6, hO7.congr (fun a ha => ?_), rfl⟩ sub_of
      try dsimp only
      by_cases e : a = i
      · subst e
        rw [if_pos rfl]
        exact ⟨rfl, fun _ _ => rfl⟩
      · rw [if_neg e]
        exact ⟨rfl, fun _ _ => rfl⟩
  · have hin : i = n - 1 := by omega
    subst hin
    try simp only [go_sem, Nat.reduceEqDiff, Nat.reduceAdd, Nat.reduceBEq, ↓reduceIte]
    exact fun hd => ⟨_, _, rfl, hO2.mat RRatC.grows hd⟩

/-- a number's upper part, of one's own -/
theorem ev_ldN {X : XT} {K : St → Prop} {d b g n c i k : Nat} {fr : List (Nat × SV)} {lh : List (Nat × List Value)} {H M : PH} {Tr Tm : TypeId} {ra : Nat → Option Addr} {rc : Nat → Nat} {R : Nat → Rw Rat} (h : MatO 3 RRatC Tr Tm H M (some ⟨g, 0, none⟩) n c ra rc R) (hi : i < n) (hb : ra i = some ⟨b, 0, none⟩) (hk : k < (R i).1)
    (k1 : ∀ t A l e, RInt H (.agg #[.bool t, .slice A l e]) ((R i).2 k).num → X ⟨(d, .v (.agg #[.bool t, .slice A l e])) :: fr, lh, H, M⟩ K) : EvLd true 2 (.pointer (some ⟨b, k * 3, none⟩)) d X ⟨fr, lh, H, M⟩ K := by
  have hr := h.row i hi
  rw [hb] at hr
  rcases hr with ⟨h, _⟩ | ⟨g', cs, h1, h2, h3, h4, h5, h6⟩
  · cases h
  · injection h1 with h1; injection h1 with e1 _; subst e1
    obtain ⟨us, g1, _, g3⟩ := h6 k hk
    obtain ⟨t, A, l, e, B, m, e', d', q1, q2, _⟩ := g3
    have hus : us = [.bool t, .slice A l e, .slice B m e'] := by
      injection q1 with q1
      exact congrArg Array.toList q1
    subst hus
    have g2 := takeN_drop g1
    have hl2 : takeN 2 (cs.toList.drop (k * 3)) = some [.bool t, .slice A l e] := by
      rw [takeN_mk (by omega)]
      congr 1
      have : (cs.toList.drop (k * 3)).take 2 = ((cs.toList.drop (k * 3)).take 3).take 2 := by
        rw [List.take_take]
        rfl
      rw [this, ← g2.1]
      rfl
    exact ⟨b, k * 3, cs, Tr, _, _, rfl, .inr h2, ldv_take hl2, k1 t A l e q2⟩

end Go.Proofs.YtccdhgjfcgfgoaaGreat.X
set_option linter.unusedVariables false
set_option linter.unusedSimpArgs false
namespace Go.Proofs.YtccdhgjfcgfgoaaGreat.X
open Go Go.RowKit Go.Proofs

set_option maxHeartbeats 4000000 in
theorem drows_ok (H : PH) (A0 : Option Addr) (n c0 : Nat) (f0 : Nat → Nat → Rat) (hM : MX H A0 n (rect n f0)) (n1 : 1 ≤ n) (h5 : n ≤ 5) (hb : Bnd n 4000 f0) :
    FnP Tryz.prog 79 [.slice A0 n c0] H fun v H' => RRat H' v (Dt.det n f0) := by
  refine Fn.release (of_cinctureref1_detRows (by simp) ?_)
  try simp only [go_sem, Nat.reduceEqDiff, Nat.reduceAdd, Nat.reduceBEq, ↓reduceIte, p_cinctureref1_detRows]
  refine ev_callM (rowsR_ok _ A0 n c0 n f0 hM (by omega) (by omega) (by omega)) ?_
  rintro v H2 M2 hle2 ⟨A, c, ra, rc, rfl, hO⟩ hd2
  obtain ⟨g, rfl⟩ := hO.top.base (Nat.lt_of_lt_of_le n1 hO.top.cap)
  clear hM
  try simp only [go_sem, Nat.reduceEqDiff, Nat.reduceAdd, Nat.reduceBEq, ↓reduceIte]
  first | refine ev_call (rratOf_ok _ 1 (by decide) (by decide)) ?_ | refine ev_callP (rratOf_ok _ 1 (by decide) (by decide)) ?_
  rintro v_1 H_1 le_1 h6 _
  try simp only [go_sem, Nat.reduceEqDiff, Nat.reduceAdd, Nat.reduceBEq, ↓reduceIte]
  have hO := hO.leH RRatC.grows (by assumption)
  obtain ⟨t6, A6, l6, c6, B6, m6, e6, rfl⟩ := h6.form
  try simp only [go_sem, Nat.reduceEqDiff, Nat.reduceAdd, Nat.reduceBEq, ↓reduceIte]
  refine ev_loop (fun t s => ∃ (k : Nat) (H3 M3 : PH) (ra : Nat → Option Addr) (rc : Nat → Nat) (f : Nat → Nat → Rat) (acc : Rat) (t6 : Bool) (A6 : Option Addr) (l6 c6 : Nat) (B6 : Option Addr) (m6 e6 : Nat), t = n - k ∧ k ≤ n ∧ PH.disj H3 M3 ∧
    MatO 3 RRatC 43 58 H3 M3 (some ⟨g, 0, none⟩) n c ra rc (rect n f) ∧ RRat H3 (.agg #[.bool t6, .slice A6 l6 c6, .slice B6 m6 e6]) acc ∧ Det1 n k f0 f acc ∧ Zer n k f ∧ Bnd n (4000 * 8 ^ k) f ∧ br acc ≤ 2 * (4000 * 8 ^ k) ∧
    s = ⟨[(5, .v (.int .i64 (k : Int))), (4, .ptr 4 0), (3, .v (.slice (some ⟨g, 0, none⟩) n c)), (2, .ptr 2 0)], [(4, [.bool t6, .slice A6 l6 c6, .slice B6 m6 e6]), (2, [.bool false, .slice none 0 0, .slice none 0 0])], H3, M3⟩) n _
    ⟨0, _, M2, ra, rc, f0, 1, t6, A6, l6, c6, B6, m6, e6, rfl, by omega, by assumption, hO, h6, ⟨1, by grind, (by show (1 : Rat) = 1 * 1; grind)⟩, fun i j _ h => by omega, by rw [Nat.pow_zero]; exact hb, by decide, rfl⟩ sub_of ?_
  clear hO h6 hb hd2
  rintro t s ⟨k, H3, M3, ra, rc, f, acc, t6, A6, l6, c6, B6, m6, e6, rfl, hk, hd3, hO, h6, hdet, hz, hbd, hba, rfl⟩
  try simp only [go_sem, Nat.reduceEqDiff, Nat.reduceAdd, Nat.reduceBEq, ↓reduceIte]
  refine ev_if (fun c1 => ?_) (fun c1 => ?_)
  · have hkn : k < n := by omega
    have hp8 : 8 ^ k ≤ 8 ^ 4 := Nat.pow_le_pow_right (by decide) (by omega)
    have hp1 : 1 ≤ 8 ^ k := Nat.pos_of_ne_zero (fun h => by have := Nat.pow_pos (n := k) (show 0 < 8 by decide); omega)
    rw [show 8 ^ 4 = 4096 by decide] at hp8
    have hps : 4000 * 8 ^ (k + 1) = 4000 * 8 ^ k * 8 := by rw [Nat.pow_succ, Nat.mul_assoc]
    obtain ⟨L, hL⟩ : ∃ L, L = 4000 * 8 ^ k := ⟨_, rfl⟩
    have hL1 : 1 ≤ L ∧ L ≤ 16384000 := by omega
    rw [← hL] at hbd hba hps
    try simp only [go_sem, Nat.reduceEqDiff, Nat.reduceAdd, Nat.reduceBEq, ↓reduceIte]
    refine ev_loop (fun t s => ∃ (a : Nat) (H4 : PH), t = n - a ∧ k ≤ a ∧ a ≤ n ∧ PH.disj H4 M3 ∧ MatO 3 RRatC 43 58 H4 M3 (some ⟨g, 0, none⟩) n c ra rc (rect n f) ∧ RRat H4 (.agg #[.bool t6, .slice A6 l6 c6, .slice B6 m6 e6]) acc ∧ (∀ i, k ≤ i → i < a → f i k = 0) ∧
      s = ⟨[(6, .v (.int .i64 (a : Int))), (5, .v (.int .i64 (k : Int))), (4, .ptr 4 0), (3, .v (.slice (some ⟨g, 0, none⟩) n c)), (2, .ptr 2 0)], [(4, [.bool t6, .slice A6 l6 c6, .slice B6 m6 e6]), (2, [.bool false, .slice none 0 0, .slice none 0 0])], H4, M3⟩) (n - k) _
      ⟨k, H3, rfl, by omega, by omega, hd3, hO, h6, fun i h1 h2 => by omega, rfl⟩ sub_of ?_
    clear hd3 hO h6
    rintro t s ⟨a, H4, rfl, hka, ha, hd4, hO4, h6, hz0, rfl⟩
    try simp only [go_sem, Nat.reduceEqDiff, Nat.reduceAdd, Nat.reduceBEq, ↓reduceIte]
    refine ev_if (fun c2 => ?_) (fun c2 => ?_)
    · have han : a < n := by omega
      obtain ⟨b4, hb4⟩ := hO4.base han (show 0 < n by omega)
      try simp only [go_sem, Nat.reduceEqDiff, Nat.reduceAdd, Nat.reduceBEq, ↓reduceIte]
      refine ev_ia rfl (by omega) (by omega) ?_
      rw [Int.toNat_natCast]
      try simp only [go_sem, Nat.reduceEqDiff, Nat.reduceAdd, Nat.reduceBEq, ↓reduceIte]
      refine ev_ldTop hO4 han ?_
      rw [hb4]
      try simp only [go_sem, Nat.reduceEqDiff, Nat.reduceAdd, Nat.reduceBEq, ↓reduceIte]
      refine ev_ia rfl (by omega) (by show (k : Int) < (n : Int); omega) ?_
      rw [Int.toNat_natCast]
      try simp only [go_sem, Nat.reduceEqDiff, Nat.reduceAdd, Nat.reduceBEq, ↓reduceIte]
      refine ev_ldN hO4 han hb4 hkn ?_
      intro t7 A7 l7 e7 hN
      try simp only [go_sem, Nat.reduceEqDiff, Nat.reduceAdd, Nat.reduceBEq, ↓reduceIte]
      first | refine ev_call (rsign_ok _ _ _ hN) ?_ | refine ev_callP (rsign_ok _ _ _ hN) ?_
      rintro v_2 H_2 le_2 rfl _
      try simp only [go_sem, Nat.reduceEqDiff, Nat.reduceAdd, Nat.reduceBEq, ↓reduceIte]
      have hO4 := hO4.leH RRatC.grows (by assumption)
      have h6 := h6.le (by assumption)
      refine ev_if (fun c3 => ?_) (fun c3 => ?_)
      · have h0 : f a k = 0 := Classical.not_not.1 fun h => sgnI_num.2 h c3
        try simp only [go_sem, Nat.reduceEqDiff, Nat.reduceAdd, Nat.reduceBEq, ↓reduceIte]
        rw [w64 ((a : Int) + 1) (by omega) (by omega), show (a : Int) + 1 = ((a + 1 : Nat) : Int) by omega]
        refine k_next (n - (a + 1)) _ (by omega) ⟨a + 1, _, rfl, by omega, by omega, by assumption, hO4, h6, fun i h1 h2 => ?_, rfl⟩ sub_of
        by_cases e : i = a
        · rw [e]; exact h0
        · exact hz0 i h1 (by omega)
      · have hf0 : f a k ≠ 0 := sgnI_num.1 c3
        have hd4 := hd4
        try simp only [go_sem, Nat.reduceEqDiff, Nat.reduceAdd, Nat.reduceBEq, ↓reduceIte]
        refine ev_neg (by omega) ?_
        try simp only [go_sem, Nat.reduceEqDiff, Nat.reduceAdd, Nat.reduceBEq, ↓reduceIte]
        have hdet4 := hdet.swp hka han
        have hz4 := zer_swp hz hka han
        have hbd4 := hbd.swp han hkn
        have h0 : Dt.swpR f a k k k ≠ 0 := by
          unfold Dt.swpR
          by_cases e : k = a
          · rw [if_pos e]; rw [← e] at hf0; exact hf0
          · rw [if_neg e, if_pos rfl]; exact hf0
        by_cases e : a = k
        · rw [if_pos e] at hdet4
          have hf4 : Dt.swpR f a k = f := by rw [e, swp_self]
          rw [hf4] at hdet4 hz4 hbd4 h0
          refine ev_neg (by omega) ?_
          have h64 := h6
          have hba4 := hba
          clear hdet hz hbd hz0 hf4 hf0
          generalize f = f4 at *
          generalize acc = acc4 at *
          generalize ra = ra4 at *
          generalize rc = rc4 at *
          try simp only [go_sem, Nat.reduceEqDiff, Nat.reduceAdd, Nat.reduceBEq, ↓reduceIte]
          obtain ⟨b5, hb5⟩ := hO4.base hkn (show 0 < n by omega)
          refine ev_ia rfl (by omega) (by omega) ?_
          rw [Int.toNat_natCast]
          try simp only [go_sem, Nat.reduceEqDiff, Nat.reduceAdd, Nat.reduceBEq, ↓reduceIte]
          refine ev_ldTop hO4 hkn ?_
          rw [hb5]
          try simp only [go_sem, Nat.reduceEqDiff, Nat.reduceAdd, Nat.reduceBEq, ↓reduceIte]
          refine ev_ia rfl (by omega) (by show (k : Int) < (n : Int); omega) ?_
          rw [Int.toNat_natCast]
          try simp only [go_sem, Nat.reduceEqDiff, Nat.reduceAdd, Nat.reduceBEq, ↓reduceIte]
          refine ev_ldEl hO4 hkn hb5 hkn ?_
          intro us hp _
          obtain ⟨t7, A7, l7, c7, B7, m7, e7, hf⟩ := RRat.form hp
          have hp : RRat _ (.agg us.toArray) (f4 k k) := hp
          rw [hf] at hp ⊢
          clear hf
          have y1 := hbd4 k k hkn hkn
          have y2 := br_mul acc4 (f4 k k)
          try simp only [go_sem, Nat.reduceEqDiff, Nat.reduceAdd, Nat.reduceBEq, ↓reduceIte]
          first | refine ev_call (rmulR_ok _ _ _ _ _ h64 hp (by omega)) ?_ | refine ev_callP (rmulR_ok _ _ _ _ _ h64 hp (by omega)) ?_
          rintro v_3 H_3 le_3 h8 _
          try simp only [go_sem, Nat.reduceEqDiff, Nat.reduceAdd, Nat.reduceBEq, ↓reduceIte]
          have hO4 := hO4.leH RRatC.grows (by assumption)
          obtain ⟨t8, A8, l8, c8, B8, m8, e8, rfl⟩ := h8.form
          try simp only [go_sem, Nat.reduceEqDiff, Nat.reduceAdd, Nat.reduceBEq, ↓reduceIte]
          rw [w64 ((k : Int) + 1) (by omega) (by omega), show (k : Int) + 1 = ((k + 1 : Nat) : Int) by omega]
          refine ev_loop (fun t s => ∃ (i : Nat) (H5 M5 : PH), t = n - i ∧ k < i ∧ i ≤ n ∧ PH.disj H5 M5 ∧ MatO 3 RRatC 43 58 H5 M5 (some ⟨g, 0, none⟩) n c ra4 rc4 (rect n (elm f4 k i)) ∧ RRat H5 (.agg #[.bool t8, .slice A8 l8 c8, .slice B8 m8 e8]) (acc4 * f4 k k) ∧
            s = ⟨[(7, .v (.int .i64 (i : Int))), (5, .v (.int .i64 (k : Int))), (4, .ptr 4 0), (3, .v (.slice (some ⟨g, 0, none⟩) n c)), (2, .ptr 2 0)], [(4, [.bool t8, .slice A8 l8 c8, .slice B8 m8 e8]), (2, [.bool false, .slice none 0 0, .slice none 0 0])], H5, M5⟩) (n - (k + 1)) _
            ⟨k + 1, _, _, rfl, by omega, by omega, by assumption, hO4.congr (fun r hr => ⟨rfl, fun s hs => by show f4 r s = elm f4 k (k + 1) r s; rw [elm_row (by omega)]⟩), h8, rfl⟩ sub_of ?_
          clear hO4 h8 h64
          rintro t s ⟨i5, H5, M5, rfl, hki5, hi5, hd5, hO5, h8, rfl⟩
          try simp only [go_sem, Nat.reduceEqDiff, Nat.reduceAdd, Nat.reduceBEq, ↓reduceIte]
          refine ev_if (fun c4 => ?_) (fun c4 => ?_)
          · have hin5 : i5 < n := by omega
            obtain ⟨bi, hbi⟩ := hO5.base hin5 (show 0 < n by omega)
            obtain ⟨bk, hbk⟩ := hO5.base hkn (show 0 < n by omega)
            have hFi : elm f4 k i5 i5 = f4 i5 := elm_row (by omega)
            have hFk : elm f4 k i5 k = f4 k := elm_row (by omega)
            have hF : ∀ r, r < n → ∀ s, s < n → clr (elm f4 k i5) i5 k n r s = elm f4 k (i5 + 1) r s := fun r hr s hs => clr_elm hz4 hki5 hin5 r hr s hs
            generalize elm f4 k i5 = F at *
            have x1 := hbd4 i5 k hin5 hkn
            have x2 := hbd4 k k hkn hkn
            have hby := br_div (f4 i5 k) (f4 k k)
            try simp only [go_sem, Nat.reduceEqDiff, Nat.reduceAdd, Nat.reduceBEq, ↓reduceIte]
            refine ev_cut (fun s => ∃ H' t9 A9 l9 c9 B9 m9 e9, MatO 3 RRatC 43 58 H' M5 (some ⟨g, 0, none⟩) n c ra4 rc4 (rect n F) ∧ PH.disj H' M5 ∧ RRat H' (.agg #[.bool t8, .slice A8 l8 c8, .slice B8 m8 e8]) (acc4 * f4 k k) ∧ RRat H' (.agg #[.bool t9, .slice A9 l9 c9, .slice B9 m9 e9]) (f4 i5 k / f4 k k) ∧
              s = ⟨[(8, .ptr 8 0), (7, .v (.int .i64 (i5 : Int))), (5, .v (.int .i64 (k : Int))), (4, .ptr 4 0), (3, .v (.slice (some ⟨g, 0, none⟩) n c)), (2, .ptr 2 0)], [(8, [.bool t9, .slice A9 l9 c9, .slice B9 m9 e9]), (4, [.bool t8, .slice A8 l8 c8, .slice B8 m8 e8]), (2, [.bool false, .slice none 0 0, .slice none 0 0])], H', M5⟩) ?_ ?_
            · try simp only [go_sem, Nat.reduceEqDiff, Nat.reduceAdd, Nat.reduceBEq, ↓reduceIte]
              refine ev_ia rfl (by omega) (by omega) ?_
              rw [Int.toNat_natCast]
              try simp only [go_sem, Nat.reduceEqDiff, Nat.reduceAdd, Nat.reduceBEq, ↓reduceIte]
              refine ev_ldTop hO5 hin5 ?_
              rw [hbi]
              try simp only [go_sem, Nat.reduceEqDiff, Nat.reduceAdd, Nat.reduceBEq, ↓reduceIte]
              refine ev_ia rfl (by omega) (by show (k : Int) < (n : Int); omega) ?_
              rw [Int.toNat_natCast]
              try simp only [go_sem, Nat.reduceEqDiff, Nat.reduceAdd, Nat.reduceBEq, ↓reduceIte]
              refine ev_ldEl hO5 hin5 hbi hkn ?_
              intro us hq _
              obtain ⟨t9, A9, l9, c9, B9, m9, e9, hf⟩ := RRat.form hq
              have hq : RRat H5 (.agg us.toArray) (F i5 k) := hq
              rw [hFi] at hq
              rw [hf] at hq ⊢
              clear hf
              try simp only [go_sem, Nat.reduceEqDiff, Nat.reduceAdd, Nat.reduceBEq, ↓reduceIte]
              refine ev_ia rfl (by omega) (by omega) ?_
              rw [Int.toNat_natCast]
              try simp only [go_sem, Nat.reduceEqDiff, Nat.reduceAdd, Nat.reduceBEq, ↓reduceIte]
              refine ev_ldTop hO5 hkn ?_
              rw [hbk]
              try simp only [go_sem, Nat.reduceEqDiff, Nat.reduceAdd, Nat.reduceBEq, ↓reduceIte]
              refine ev_ia rfl (by omega) (by show (k : Int) < (n : Int); omega) ?_
              rw [Int.toNat_natCast]
              try simp only [go_sem, Nat.reduceEqDiff, Nat.reduceAdd, Nat.reduceBEq, ↓reduceIte]
              refine ev_ldEl hO5 hkn hbk hkn ?_
              intro us hp _
              obtain ⟨t10, A10, l10, c10, B10, m10, e10, hf⟩ := RRat.form hp
              have hp : RRat H5 (.agg us.toArray) (F k k) := hp
              rw [hFk] at hp
              rw [hf] at hp ⊢
              clear hf
              try simp only [go_sem, Nat.reduceEqDiff, Nat.reduceAdd, Nat.reduceBEq, ↓reduceIte]
              repeat' (with_reducible refine And.intro ?_ ?_)
              all_goals
                first | refine ev_call (rdivR_ok _ _ _ _ _ hq hp (by omega) h0) ?_ | refine ev_callP (rdivR_ok _ _ _ _ _ hq hp (by omega) h0) ?_
                rintro v_4 H_4 le_4 h11 _
                replace h8 := h8.le le_4
                try simp only [go_sem, Nat.reduceEqDiff, Nat.reduceAdd, Nat.reduceBEq, ↓reduceIte]
                have hO5 := hO5.leH RRatC.grows (by assumption)
                obtain ⟨t11, A11, l11, c11, B11, m11, e11, rfl⟩ := h11.form
                try simp only [go_sem, Nat.reduceEqDiff, Nat.reduceAdd, Nat.reduceBEq, ↓reduceIte]
                repeat' (with_reducible refine And.intro ?_ ?_)
                all_goals exact k_cut _ ⟨_, _, _, _, _, _, _, _, hO5, by assumption, h8, h11, rfl⟩ sub_of
            · clear hO5 hd5 h8
              rintro s ⟨H6, t9, A9, l9, c9, B9, m9, e9, hO6, hd6, h8, h9, rfl⟩
              try simp only [go_sem, Nat.reduceEqDiff, Nat.reduceAdd, Nat.reduceBEq, ↓reduceIte]
              have f0 : rect n F = rect n (clr F i5 k k) := by
                funext r
                refine Prod.ext rfl ?_
                funext s
                show F r s = clr F i5 k k r s
                unfold clr
                rw [if_neg (by omega)]
              refine ev_loop (fun t s => ∃ (j : Nat) (H7 M7 : PH), t = n - j ∧ k ≤ j ∧ j ≤ n ∧ PH.disj H7 M7 ∧ MatO 3 RRatC 43 58 H7 M7 (some ⟨g, 0, none⟩) n c ra4 rc4 (rect n (clr F i5 k j)) ∧ RRat H7 (.agg #[.bool t8, .slice A8 l8 c8, .slice B8 m8 e8]) (acc4 * f4 k k) ∧ RRat H7 (.agg #[.bool t9, .slice A9 l9 c9, .slice B9 m9 e9]) (f4 i5 k / f4 k k) ∧
                s = ⟨[(9, .v (.int .i64 (j : Int))), (8, .ptr 8 0), (7, .v (.int .i64 (i5 : Int))), (5, .v (.int .i64 (k : Int))), (4, .ptr 4 0), (3, .v (.slice (some ⟨g, 0, none⟩) n c)), (2, .ptr 2 0)], [(8, [.bool t9, .slice A9 l9 c9, .slice B9 m9 e9]), (4, [.bool t8, .slice A8 l8 c8, .slice B8 m8 e8]), (2, [.bool false, .slice none 0 0, .slice none 0 0])], H7, M7⟩) (n - k) _
                ⟨k, H6, M5, rfl, by omega, by omega, hd6, f0 ▸ hO6, h8, h9, rfl⟩ sub_of ?_
              clear hO6 hd6 h8 h9 f0
              rintro t s ⟨j, H7, M7, rfl, hkj, hj, hd7, hO7, h8, h9, rfl⟩
              try simp only [go_sem, Nat.reduceEqDiff, Nat.reduceAdd, Nat.reduceBEq, ↓reduceIte]
              refine ev_if (fun c6 => ?_) (fun c6 => ?_)
              · have hjn : j < n := by omega
                try simp only [go_sem, Nat.reduceEqDiff, Nat.reduceAdd, Nat.reduceBEq, ↓reduceIte]
                refine ev_ia rfl (by omega) (by omega) ?_
                rw [Int.toNat_natCast]
                try simp only [go_sem, Nat.reduceEqDiff, Nat.reduceAdd, Nat.reduceBEq, ↓reduceIte]
                refine ev_ldTop hO7 hin5 ?_
                rw [hbi]
                try simp only [go_sem, Nat.reduceEqDiff, Nat.reduceAdd, Nat.reduceBEq, ↓reduceIte]
                refine ev_ia rfl (by omega) (by omega) ?_
                rw [Int.toNat_natCast]
                try simp only [go_sem, Nat.reduceEqDiff, Nat.reduceAdd, Nat.reduceBEq, ↓reduceIte]
                refine ev_ldTop hO7 hin5 ?_
                rw [hbi]
                try simp only [go_sem, Nat.reduceEqDiff, Nat.reduceAdd, Nat.reduceBEq, ↓reduceIte]
                refine ev_ia rfl (by omega) (by show (j : Int) < (n : Int); omega) ?_
                rw [Int.toNat_natCast]
                try simp only [go_sem, Nat.reduceEqDiff, Nat.reduceAdd, Nat.reduceBEq, ↓reduceIte]
                refine ev_ldEl hO7 hin5 hbi hjn ?_
                intro us hq _
                obtain ⟨t12, A12, l12, c12, B12, m12, e12, hf⟩ := RRat.form hq
                have hq : RRat H7 (.agg us.toArray) (clr F i5 k j i5 j) := hq
                rw [show clr F i5 k j i5 j = f4 i5 j by unfold clr; rw [if_neg (by omega), hFi]] at hq
                rw [hf] at hq ⊢
                clear hf
                try simp only [go_sem, Nat.reduceEqDiff, Nat.reduceAdd, Nat.reduceBEq, ↓reduceIte]
                refine ev_ia rfl (by omega) (by omega) ?_
                rw [Int.toNat_natCast]
                try simp only [go_sem, Nat.reduceEqDiff, Nat.reduceAdd, Nat.reduceBEq, ↓reduceIte]
                refine ev_ldTop hO7 hkn ?_
                rw [hbk]
                try simp only [go_sem, Nat.reduceEqDiff, Nat.reduceAdd, Nat.reduceBEq, ↓reduceIte]
                refine ev_ia rfl (by omega) (by show (j : Int) < (n : Int); omega) ?_
                rw [Int.toNat_natCast]
                try simp only [go_sem, Nat.reduceEqDiff, Nat.reduceAdd, Nat.reduceBEq, ↓reduceIte]
                refine ev_ldEl hO7 hkn hbk hjn ?_
                intro us hp _
                obtain ⟨t13, A13, l13, c13, B13, m13, e13, hf⟩ := RRat.form hp
                have hp : RRat H7 (.agg us.toArray) (clr F i5 k j k j) := hp
                rw [show clr F i5 k j k j = f4 k j by unfold clr; rw [if_neg (fun h => by omega), hFk]] at hp
                rw [hf] at hp ⊢
                clear hf
                have y1 := hbd4 i5 j hin5 hjn
                have y2 := hbd4 k j hkn hjn
                have y3 := br_mul (f4 i5 k / f4 k k) (f4 k j)
                try simp only [go_sem, Nat.reduceEqDiff, Nat.reduceAdd, Nat.reduceBEq, ↓reduceIte]
                first | refine ev_call (rmulR_ok _ _ _ _ _ h9 hp (by omega)) ?_ | refine ev_callP (rmulR_ok _ _ _ _ _ h9 hp (by omega)) ?_
                rintro v_5 H_5 le_5 h14 _
                replace hq := hq.le le_5
                replace h8 := h8.le le_5
                replace h9 := h9.le le_5
                try simp only [go_sem, Nat.reduceEqDiff, Nat.reduceAdd, Nat.reduceBEq, ↓reduceIte]
                have hO7 := hO7.leH RRatC.grows (by assumption)
                first | refine ev_call (rsubR_ok _ _ _ _ _ hq h14 (by omega)) ?_ | refine ev_callP (rsubR_ok _ _ _ _ _ hq h14 (by omega)) ?_
                rintro v_6 H_6 le_6 h15 _
                replace h8 := h8.le le_6
                replace h9 := h9.le le_6
                try simp only [go_sem, Nat.reduceEqDiff, Nat.reduceAdd, Nat.reduceBEq, ↓reduceIte]
                have hO7 := hO7.leH RRatC.grows (by assumption)
                obtain ⟨t15, A15, l15, c15, B15, m15, e15, rfl⟩ := h15.form
                try simp only [go_sem, Nat.reduceEqDiff, Nat.reduceAdd, Nat.reduceBEq, ↓reduceIte]
                refine ev_ia rfl (by omega) (by show (j : Int) < (n : Int); omega) ?_
                rw [Int.toNat_natCast]
                try simp only [go_sem, Nat.reduceEqDiff, Nat.reduceAdd, Nat.reduceBEq, ↓reduceIte]
                refine ev_stEl (x := f4 i5 j - f4 i5 k / f4 k k * f4 k j) hO7 hin5 hbi hjn (by assumption) rfl (by simp [cellsL, Value.oneCell']) h15 ?_
                intro M8 hO8 hd8
                try simp only [go_sem, Nat.reduceEqDiff, Nat.reduceAdd, Nat.reduceBEq, ↓reduceIte]
                rw [w64 ((j : Int) + 1) (by omega) (by omega), show (j : Int) + 1 = ((j + 1 : Nat) : Int) by omega]
                refine k_next (n - (j + 1)) _ (by omega) ⟨j + 1, _, M8, rfl, by omega, by omega, hd8 _ (by assumption), hO8.congr (fun r hr => ?_), h8, h9, rfl⟩ sub_of
                unfold upM
                by_cases e : r = i5
                · subst e
                  rw [if_pos rfl]
                  refine ⟨rfl, fun s hs => ?_⟩
                  show upF (clr F r k j r) j (f4 r j - f4 r k / f4 k k * f4 k j) s = clr F r k (j + 1) r s
                  unfold upF clr
                  by_cases e2 : s = j
                  · subst e2
                    rw [if_pos rfl, if_pos ⟨rfl, hkj, by omega⟩, hFi, hFk]
                  · rw [if_neg e2]
                    by_cases e3 : k ≤ s ∧ s < j
                    · rw [if_pos ⟨rfl, e3⟩, if_pos ⟨rfl, e3.1, by omega⟩]
                    · rw [if_neg (fun h => e3 h.2), if_neg (fun h => e3 ⟨h.2.1, by omega⟩)]
                · rw [if_neg e]
                  refine ⟨rfl, fun s hs => ?_⟩
                  show clr F i5 k j r s = clr F i5 k (j + 1) r s
                  unfold clr
                  rw [if_neg (fun h => e h.1), if_neg (fun h => e h.1)]
              · have hjn : j = n := by omega
                subst hjn
                try simp only [go_sem, Nat.reduceEqDiff, Nat.reduceAdd, Nat.reduceBEq, ↓reduceIte]
                rw [w64 ((i5 : Int) + 1) (by omega) (by omega), show (i5 : Int) + 1 = ((i5 + 1 : Nat) : Int) by omega]
                exact k_next (j - (i5 + 1)) _ (by omega) ⟨i5 + 1, H7, M7, rfl, by omega, by omega, hd7, hO7.congr (fun r hr => ⟨rfl, fun s hs => hF r hr s hs⟩), h8, rfl⟩ sub_of
          · have hin : i5 = n := by omega
            subst hin
            try simp only [go_sem, Nat.reduceEqDiff, Nat.reduceAdd, Nat.reduceBEq, ↓reduceIte]
            rw [w64 ((k : Int) + 1) (by omega) (by omega), show (k : Int) + 1 = ((k + 1 : Nat) : Int) by omega]
            exact k_next (i5 - (k + 1)) _ (by omega) ⟨k + 1, H5, M5, ra4, rc4, elm f4 k i5, _, _, _, _, _, _, _, _, rfl, by omega, hd5, hO5, h8, hdet4.next hkn, zer_elm hz4 h0, hps ▸ hbd4.elm (by omega) hkn, by omega, rfl⟩ sub_of
        · rw [if_neg e] at hdet4
          have hba4 : br (-acc) ≤ 2 * L := by rw [br_neg]; exact hba
          refine ev_pos (by omega) ?_
          try simp only [go_sem, Nat.reduceEqDiff, Nat.reduceAdd, Nat.reduceBEq, ↓reduceIte]
          refine ev_ia rfl (by omega) (by omega) ?_
          rw [Int.toNat_natCast]
          try simp only [go_sem, Nat.reduceEqDiff, Nat.reduceAdd, Nat.reduceBEq, ↓reduceIte]
          refine ev_ldTop hO4 hkn ?_
          try simp only [go_sem, Nat.reduceEqDiff, Nat.reduceAdd, Nat.reduceBEq, ↓reduceIte]
          refine ev_ia rfl (by omega) (by omega) ?_
          rw [Int.toNat_natCast]
          try simp only [go_sem, Nat.reduceEqDiff, Nat.reduceAdd, Nat.reduceBEq, ↓reduceIte]
          refine ev_ldTop hO4 han ?_
          try simp only [go_sem, Nat.reduceEqDiff, Nat.reduceAdd, Nat.reduceBEq, ↓reduceIte]
          refine ev_ia rfl (by omega) (by omega) ?_
          rw [Int.toNat_natCast]
          try simp only [go_sem, Nat.reduceEqDiff, Nat.reduceAdd, Nat.reduceBEq, ↓reduceIte]
          refine ev_stOF (x := (ra k, n, rc k)) hO4.top han (by assumption) rfl (by simp [cellsL, Value.oneCell']) rfl ?_
          intro M5 hT3 hb3 hd3
          try simp only [go_sem, Nat.reduceEqDiff, Nat.reduceAdd, Nat.reduceBEq, ↓reduceIte]
          refine ev_ia rfl (by omega) (by omega) ?_
          rw [Int.toNat_natCast]
          try simp only [go_sem, Nat.reduceEqDiff, Nat.reduceAdd, Nat.reduceBEq, ↓reduceIte]
          refine ev_stOF (x := (ra a, n, rc a)) hT3 hkn (hd3 _ (by assumption)) rfl (by simp [cellsL, Value.oneCell']) rfl ?_
          intro M6 hT4 hbt4 hd4'
          have hO4 := hO4.swap han hkn hT4 hb3 hbt4
          have hd9 := hd4' _ (hd3 _ (by assumption))
          clear hT3 hb3 hd3 hT4 hbt4 hd4'
          try simp only [go_sem, Nat.reduceEqDiff, Nat.reduceAdd, Nat.reduceBEq, ↓reduceIte]
          first | refine ev_call (rnegR_ok _ _ _ h6) ?_ | refine ev_callP (rnegR_ok _ _ _ h6) ?_
          rintro v_7 H_7 le_7 h64 _
          try simp only [go_sem, Nat.reduceEqDiff, Nat.reduceAdd, Nat.reduceBEq, ↓reduceIte]
          have hO4 := hO4.leH RRatC.grows (by assumption)
          clear hdet hz hbd hz0 hf0
          generalize Dt.swpR f a k = f4 at *
          generalize -acc = acc4 at *
          generalize swpA ra a k = ra4 at *
          generalize swpA rc a k = rc4 at *
          obtain ⟨t9, A9, l9, c9, B9, m9, e9, rfl⟩ := h64.form
          try simp only [go_sem, Nat.reduceEqDiff, Nat.reduceAdd, Nat.reduceBEq, ↓reduceIte]
          obtain ⟨b5, hb5⟩ := hO4.base hkn (show 0 < n by omega)
          refine ev_ia rfl (by omega) (by omega) ?_
          rw [Int.toNat_natCast]
          try simp only [go_sem, Nat.reduceEqDiff, Nat.reduceAdd, Nat.reduceBEq, ↓reduceIte]
          refine ev_ldTop hO4 hkn ?_
          rw [hb5]
          try simp only [go_sem, Nat.reduceEqDiff, Nat.reduceAdd, Nat.reduceBEq, ↓reduceIte]
          refine ev_ia rfl (by omega) (by show (k : Int) < (n : Int); omega) ?_
          rw [Int.toNat_natCast]
          try simp only [go_sem, Nat.reduceEqDiff, Nat.reduceAdd, Nat.reduceBEq, ↓reduceIte]
          refine ev_ldEl hO4 hkn hb5 hkn ?_
          intro us hp _
          obtain ⟨t7, A7, l7, c7, B7, m7, e7, hf⟩ := RRat.form hp
          have hp : RRat _ (.agg us.toArray) (f4 k k) := hp
          rw [hf] at hp ⊢
          clear hf
          have y1 := hbd4 k k hkn hkn
          have y2 := br_mul acc4 (f4 k k)
          try simp only [go_sem, Nat.reduceEqDiff, Nat.reduceAdd, Nat.reduceBEq, ↓reduceIte]
          first | refine ev_call (rmulR_ok _ _ _ _ _ h64 hp (by omega)) ?_ | refine ev_callP (rmulR_ok _ _ _ _ _ h64 hp (by omega)) ?_
          rintro v_3 H_3 le_3 h8 _
          try simp only [go_sem, Nat.reduceEqDiff, Nat.reduceAdd, Nat.reduceBEq, ↓reduceIte]
          have hO4 := hO4.leH RRatC.grows (by assumption)
          obtain ⟨t8, A8, l8, c8, B8, m8, e8, rfl⟩ := h8.form
          try simp only [go_sem, Nat.reduceEqDiff, Nat.reduceAdd, Nat.reduceBEq, ↓reduceIte]
          rw [w64 ((k : Int) + 1) (by omega) (by omega), show (k : Int) + 1 = ((k + 1 : Nat) : Int) by omega]
          refine ev_loop (fun t s => ∃ (i : Nat) (H5 M5 : PH), t = n - i ∧ k < i ∧ i ≤ n ∧ PH.disj H5 M5 ∧ MatO 3 RRatC 43 58 H5 M5 (some ⟨g, 0, none⟩) n c ra4 rc4 (rect n (elm f4 k i)) ∧ RRat H5 (.agg #[.bool t8, .slice A8 l8 c8, .slice B8 m8 e8]) (acc4 * f4 k k) ∧
            s = ⟨[(7, .v (.int .i64 (i : Int))), (5, .v (.int .i64 (k : Int))), (4, .ptr 4 0), (3, .v (.slice (some ⟨g, 0, none⟩) n c)), (2, .ptr 2 0)], [(4, [.bool t8, .slice A8 l8 c8, .slice B8 m8 e8]), (2, [.bool false, .slice none 0 0, .slice none 0 0])], H5, M5⟩) (n - (k + 1)) _
            ⟨k + 1, _, _, rfl, by omega, by omega, by assumption, hO4.congr (fun r hr => ⟨rfl, fun s hs => by show f4 r s = elm f4 k (k + 1) r s; rw [elm_row (by omega)]⟩), h8, rfl⟩ sub_of ?_
          clear hO4 h8 h64
          rintro t s ⟨i5, H5, M5, rfl, hki5, hi5, hd5, hO5, h8, rfl⟩
          try simp only [go_sem, Nat.reduceEqDiff, Nat.reduceAdd, Nat.reduceBEq, ↓reduceIte]
          refine ev_if (fun c4 => ?_) (fun c4 => ?_)
          · have hin5 : i5 < n := by omega
            obtain ⟨bi, hbi⟩ := hO5.base hin5 (show 0 < n by omega)
            obtain ⟨bk, hbk⟩ := hO5.base hkn (show 0 < n by omega)
            have hFi : elm f4 k i5 i5 = f4 i5 := elm_row (by omega)
            have hFk : elm f4 k i5 k = f4 k := elm_row (by omega)
            have hF : ∀ r, r < n → ∀ s, s < n → clr (elm f4 k i5) i5 k n r s = elm f4 k (i5 + 1) r s := fun r hr s hs => clr_elm hz4 hki5 hin5 r hr s hs
            generalize elm f4 k i5 = F at *
            have x1 := hbd4 i5 k hin5 hkn
            have x2 := hbd4 k k hkn hkn
            have hby := br_div (f4 i5 k) (f4 k k)
            try simp only [go_sem, Nat.reduceEqDiff, Nat.reduceAdd, Nat.reduceBEq, ↓reduceIte]
            refine ev_cut (fun s => ∃ H' t9 A9 l9 c9 B9 m9 e9, MatO 3 RRatC 43 58 H' M5 (some ⟨g, 0, none⟩) n c ra4 rc4 (rect n F) ∧ PH.disj H' M5 ∧ RRat H' (.agg #[.bool t8, .slice A8 l8 c8, .slice B8 m8 e8]) (acc4 * f4 k k) ∧ RRat H' (.agg #[.bool t9, .slice A9 l9 c9, .slice B9 m9 e9]) (f4 i5 k / f4 k k) ∧
              s = ⟨[(8, .ptr 8 0), (7, .v (.int .i64 (i5 : Int))), (5, .v (.int .i64 (k : Int))), (4, .ptr 4 0), (3, .v (.slice (some ⟨g, 0, none⟩) n c)), (2, .ptr 2 0)], [(8, [.bool t9, .slice A9 l9 c9, .slice B9 m9 e9]), (4, [.bool t8, .slice A8 l8 c8, .slice B8 m8 e8]), (2, [.bool false, .slice none 0 0, .slice none 0 0])], H', M5⟩) ?_ ?_
            · try simp only [go_sem, Nat.reduceEqDiff, Nat.reduceAdd, Nat.reduceBEq, ↓reduceIte]
              refine ev_ia rfl (by omega) (by omega) ?_
              rw [Int.toNat_natCast]
              try simp only [go_sem, Nat.reduceEqDiff, Nat.reduceAdd, Nat.reduceBEq, ↓reduceIte]
              refine ev_ldTop hO5 hin5 ?_
              rw [hbi]
              try simp only [go_sem, Nat.reduceEqDiff, Nat.reduceAdd, Nat.reduceBEq, ↓reduceIte]
              refine ev_ia rfl (by omega) (by show (k : Int) < (n : Int); omega) ?_
              rw [Int.toNat_natCast]
              try simp only [go_sem, Nat.reduceEqDiff, Nat.reduceAdd, Nat.reduceBEq, ↓reduceIte]
              refine ev_ldEl hO5 hin5 hbi hkn ?_
              intro us hq _
              obtain ⟨t9, A9, l9, c9, B9, m9, e9, hf⟩ := RRat.form hq
              have hq : RRat H5 (.agg us.toArray) (F i5 k) := hq
              rw [hFi] at hq
              rw [hf] at hq ⊢
              clear hf
              try simp only [go_sem, Nat.reduceEqDiff, Nat.reduceAdd, Nat.reduceBEq, ↓reduceIte]
              refine ev_ia rfl (by omega) (by omega) ?_
              rw [Int.toNat_natCast]
              try simp only [go_sem, Nat.reduceEqDiff, Nat.reduceAdd, Nat.reduceBEq, ↓reduceIte]
              refine ev_ldTop hO5 hkn ?_
              rw [hbk]
              try simp only [go_sem, Nat.reduceEqDiff, Nat.reduceAdd, Nat.reduceBEq, ↓reduceIte]
              refine ev_ia rfl (by omega) (by show (k : Int) < (n : Int); omega) ?_
              rw [Int.toNat_natCast]
              try simp only [go_sem, Nat.reduceEqDiff, Nat.reduceAdd, Nat.reduceBEq, ↓reduceIte]
              refine ev_ldEl hO5 hkn hbk hkn ?_
              intro us hp _
              obtain ⟨t10, A10, l10, c10, B10, m10, e10, hf⟩ := RRat.form hp
              have hp : RRat H5 (.agg us.toArray) (F k k) := hp
              rw [hFk] at hp
              rw [hf] at hp ⊢
              clear hf
              try simp only [go_sem, Nat.reduceEqDiff, Nat.reduceAdd, Nat.reduceBEq, ↓reduceIte]
              repeat' (with_reducible refine And.intro ?_ ?_)
              all_goals
                first | refine ev_call (rdivR_ok _ _ _ _ _ hq hp (by omega) h0) ?_ | refine ev_callP (rdivR_ok _ _ _ _ _ hq hp (by omega) h0) ?_
                rintro v_4 H_4 le_4 h11 _
                replace h8 := h8.le le_4
                try simp only [go_sem, Nat.reduceEqDiff, Nat.reduceAdd, Nat.reduceBEq, ↓reduceIte]
                have hO5 := hO5.leH RRatC.grows (by assumption)
                obtain ⟨t11, A11, l11, c11, B11, m11, e11, rfl⟩ := h11.form
                try simp only [go_sem, Nat.reduceEqDiff, Nat.reduceAdd, Nat.reduceBEq, ↓reduceIte]
                repeat' (with_reducible refine And.intro ?_ ?_)
                all_goals exact k_cut _ ⟨_, _, _, _, _, _, _, _, hO5, by assumption, h8, h11, rfl⟩ sub_of
            · clear hO5 hd5 h8
              rintro s ⟨H6, t9, A9, l9, c9, B9, m9, e9, hO6, hd6, h8, h9, rfl⟩
              try simp only [go_sem, Nat.reduceEqDiff, Nat.reduceAdd, Nat.reduceBEq, ↓reduceIte]
              have f0 : rect n F = rect n (clr F i5 k k) := by
                funext r
                refine Prod.ext rfl ?_
                funext s
                show F r s = clr F i5 k k r s
                unfold clr
                rw [if_neg (by omega)]
              refine ev_loop (fun t s => ∃ (j : Nat) (H7 M7 : PH), t = n - j ∧ k ≤ j ∧ j ≤ n ∧ PH.disj H7 M7 ∧ MatO 3 RRatC 43 58 H7 M7 (some ⟨g, 0, none⟩) n c ra4 rc4 (rect n (clr F i5 k j)) ∧ RRat H7 (.agg #[.bool t8, .slice A8 l8 c8, .slice B8 m8 e8]) (acc4 * f4 k k) ∧ RRat H7 (.agg #[.bool t9, .slice A9 l9 c9, .slice B9 m9 e9]) (f4 i5 k / f4 k k) ∧
                s = ⟨[(9, .v (.int .i64 (j : Int))), (8, .ptr 8 0), (7, .v (.int .i64 (i5 : Int))), (5, .v (.int .i64 (k : Int))), (4, .ptr 4 0), (3, .v (.slice (some ⟨g, 0, none⟩) n c)), (2, .ptr 2 0)], [(8, [.bool t9, .slice A9 l9 c9, .slice B9 m9 e9]), (4, [.bool t8, .slice A8 l8 c8, .slice B8 m8 e8]), (2, [.bool false, .slice none 0 0, .slice none 0 0])], H7, M7⟩) (n - k) _
                ⟨k, H6, M5, rfl, by omega, by omega, hd6, f0 ▸ hO6, h8, h9, rfl⟩ sub_of ?_
              clear hO6 hd6 h8 h9 f0
              rintro t s ⟨j, H7, M7, rfl, hkj, hj, hd7, hO7, h8, h9, rfl⟩
              try simp only [go_sem, Nat.reduceEqDiff, Nat.reduceAdd, Nat.reduceBEq, ↓reduceIte]
              refine ev_if (fun c6 => ?_) (fun c6 => ?_)
              · have hjn : j < n := by omega
                try simp only [go_sem, Nat.reduceEqDiff, Nat.reduceAdd, Nat.reduceBEq, ↓reduceIte]
                refine ev_ia rfl (by omega) (by omega) ?_
                rw [Int.toNat_natCast]
                try simp only [go_sem, Nat.reduceEqDiff, Nat.reduceAdd, Nat.reduceBEq, ↓reduceIte]
                refine ev_ldTop hO7 hin5 ?_
                rw [hbi]
                try simp only [go_sem, Nat.reduceEqDiff, Nat.reduceAdd, Nat.reduceBEq, ↓reduceIte]
                refine ev_ia rfl (by omega) (by omega) ?_
                rw [Int.toNat_natCast]
                try simp only [go_sem, Nat.reduceEqDiff, Nat.reduceAdd, Nat.reduceBEq, ↓reduceIte]
                refine ev_ldTop hO7 hin5 ?_
                rw [hbi]
                try simp only [go_sem, Nat.reduceEqDiff, Nat.reduceAdd, Nat.reduceBEq, ↓reduceIte]
                refine ev_ia rfl (by omega) (by show (j : Int) < (n : Int); omega) ?_
                rw [Int.toNat_natCast]
                try simp only [go_sem, Nat.reduceEqDiff, Nat.reduceAdd, Nat.reduceBEq, ↓reduceIte]
                refine ev_ldEl hO7 hin5 hbi hjn ?_
                intro us hq _
                obtain ⟨t12, A12, l12, c12, B12, m12, e12, hf⟩ := RRat.form hq
                have hq : RRat H7 (.agg us.toArray) (clr F i5 k j i5 j) := hq
                rw [show clr F i5 k j i5 j = f4 i5 j by unfold clr; rw [if_neg (by omega), hFi]] at hq
                rw [hf] at hq ⊢
                clear hf
                try simp only [go_sem, Nat.reduceEqDiff, Nat.reduceAdd, Nat.reduceBEq, ↓reduceIte]
                refine ev_ia rfl (by omega) (by omega) ?_
                rw [Int.toNat_natCast]
                try simp only [go_sem, Nat.reduceEqDiff, Nat.reduceAdd, Nat.reduceBEq, ↓reduceIte]
                refine ev_ldTop hO7 hkn ?_
                rw [hbk]
                try simp only [go_sem, Nat.reduceEqDiff, Nat.reduceAdd, Nat.reduceBEq, ↓reduceIte]
                refine ev_ia rfl (by omega) (by show (j : Int) < (n : Int); omega) ?_
                rw [Int.toNat_natCast]
                try simp only [go_sem, Nat.reduceEqDiff, Nat.reduceAdd, Nat.reduceBEq, ↓reduceIte]
                refine ev_ldEl hO7 hkn hbk hjn ?_
                intro us hp _
                obtain ⟨t13, A13, l13, c13, B13, m13, e13, hf⟩ := RRat.form hp
                have hp : RRat H7 (.agg us.toArray) (clr F i5 k j k j) := hp
                rw [show clr F i5 k j k j = f4 k j by unfold clr; rw [if_neg (fun h => by omega), hFk]] at hp
                rw [hf] at hp ⊢
                clear hf
                have y1 := hbd4 i5 j hin5 hjn
                have y2 := hbd4 k j hkn hjn
                have y3 := br_mul (f4 i5 k / f4 k k) (f4 k j)
                try simp only [go_sem, Nat.reduceEqDiff, Nat.reduceAdd, Nat.reduceBEq, ↓reduceIte]
                first | refine ev_call (rmulR_ok _ _ _ _ _ h9 hp (by omega)) ?_ | refine ev_callP (rmulR_ok _ _ _ _ _ h9 hp (by omega)) ?_
                rintro v_5 H_5 le_5 h14 _
                replace hq := hq.le le_5
                replace h8 := h8.le le_5
                replace h9 := h9.le le_5
                try simp only [go_sem, Nat.reduceEqDiff, Nat.reduceAdd, Nat.reduceBEq, ↓reduceIte]
                have hO7 := hO7.leH RRatC.grows (by assumption)
                first | refine ev_call (rsubR_ok _ _ _ _ _ hq h14 (by omega)) ?_ | refine ev_callP (rsubR_ok _ _ _ _ _ hq h14 (by omega)) ?_
                rintro v_6 H_6 le_6 h15 _
                replace h8 := h8.le le_6
                replace h9 := h9.le le_6
                try simp only [go_sem, Nat.reduceEqDiff, Nat.reduceAdd, Nat.reduceBEq, ↓reduceIte]
                have hO7 := hO7.leH RRatC.grows (by assumption)
                obtain ⟨t15, A15, l15, c15, B15, m15, e15, rfl⟩ := h15.form
                try simp only [go_sem, Nat.reduceEqDiff, Nat.reduceAdd, Nat.reduceBEq, ↓reduceIte]
                refine ev_ia rfl (by omega) (by show (j : Int) < (n : Int); omega) ?_
                rw [Int.toNat_natCast]
                try simp only [go_sem, Nat.reduceEqDiff, Nat.reduceAdd, Nat.reduceBEq, ↓reduceIte]
                refine ev_stEl (x := f4 i5 j - f4 i5 k / f4 k k * f4 k j) hO7 hin5 hbi hjn (by assumption) rfl (by simp [cellsL, Value.oneCell']) h15 ?_
                intro M8 hO8 hd8
                try simp only [go_sem, Nat.reduceEqDiff, Nat.reduceAdd, Nat.reduceBEq, ↓reduceIte]
                rw [w64 ((j : Int) + 1) (by omega) (by omega), show (j : Int) + 1 = ((j + 1 : Nat) : Int) by omega]
                refine k_next (n - (j + 1)) _ (by omega) ⟨j + 1, _, M8, rfl, by omega, by omega, hd8 _ (by assumption), hO8.congr (fun r hr => ?_), h8, h9, rfl⟩ sub_of
                unfold upM
                by_cases e : r = i5
                · subst e
                  rw [if_pos rfl]
                  refine ⟨rfl, fun s hs => ?_⟩
                  show upF (clr F r k j r) j (f4 r j - f4 r k / f4 k k * f4 k j) s = clr F r k (j + 1) r s
                  unfold upF clr
                  by_cases e2 : s = j
                  · subst e2
                    rw [if_pos rfl, if_pos ⟨rfl, hkj, by omega⟩, hFi, hFk]
                  · rw [if_neg e2]
                    by_cases e3 : k ≤ s ∧ s < j
                    · rw [if_pos ⟨rfl, e3⟩, if_pos ⟨rfl, e3.1, by omega⟩]
                    · rw [if_neg (fun h => e3 h.2), if_neg (fun h => e3 ⟨h.2.1, by omega⟩)]
                · rw [if_neg e]
                  refine ⟨rfl, fun s hs => ?_⟩
                  show clr F i5 k j r s = clr F i5 k (j + 1) r s
                  unfold clr
                  rw [if_neg (fun h => e h.1), if_neg (fun h => e h.1)]
              · have hjn : j = n := by omega
                subst hjn
                try simp only [go_sem, Nat.reduceEqDiff, Nat.reduceAdd, Nat.reduceBEq, ↓reduceIte]
                rw [w64 ((i5 : Int) + 1) (by omega) (by omega), show (i5 : Int) + 1 = ((i5 + 1 : Nat) : Int) by omega]
                exact k_next (j - (i5 + 1)) _ (by omega) ⟨i5 + 1, H7, M7, rfl, by omega, by omega, hd7, hO7.congr (fun r hr => ⟨rfl, fun s hs => hF r hr s hs⟩), h8, rfl⟩ sub_of
          · have hin : i5 = n := by omega
            subst hin
            try simp only [go_sem, Nat.reduceEqDiff, Nat.reduceAdd, Nat.reduceBEq, ↓reduceIte]
            rw [w64 ((k : Int) + 1) (by omega) (by omega), show (k : Int) + 1 = ((k + 1 : Nat) : Int) by omega]
            exact k_next (i5 - (k + 1)) _ (by omega) ⟨k + 1, H5, M5, ra4, rc4, elm f4 k i5, _, _, _, _, _, _, _, _, rfl, by omega, hd5, hO5, h8, hdet4.next hkn, zer_elm hz4 h0, hps ▸ hbd4.elm (by omega) hkn, by omega, rfl⟩ sub_of
    · have han : a = n := by omega
      subst han
      try simp only [go_sem, Nat.reduceEqDiff, Nat.reduceAdd, Nat.reduceBEq, ↓reduceIte]
      refine ev_pos (by trivial) ?_
      try simp only [go_sem, Nat.reduceEqDiff, Nat.reduceAdd, Nat.reduceBEq, ↓reduceIte]
      first | refine ev_call (rratOf_ok _ 0 (by decide) (by decide)) ?_ | refine ev_callP (rratOf_ok _ 0 (by decide) (by decide)) ?_
      rintro v_8 H_8 le_8 h7 _
      try simp only [go_sem, Nat.reduceEqDiff, Nat.reduceAdd, Nat.reduceBEq, ↓reduceIte]
      obtain ⟨t7, A7, l7, c7, B7, m7, e7, rfl⟩ := h7.form
      try simp only [go_sem, Nat.reduceEqDiff, Nat.reduceAdd, Nat.reduceBEq, ↓reduceIte]
      refine fun _ => ?_
      rw [hdet.fail hz hkn (fun i h1 h2 => hz0 i h1 h2)]
      exact h7.le (PH.le_join _ _)
  · have hkn : k = n := by omega
    subst hkn
    try simp only [go_sem, Nat.reduceEqDiff, Nat.reduceAdd, Nat.reduceBEq, ↓reduceIte]
    refine fun _ => ?_
    rw [← hdet.done hz]
    exact h6.le (PH.le_join _ _)

end Go.Proofs.YtccdhgjfcgfgoaaGreat.X
set_option linter.unusedVariables false
set_option linter.unusedSimpArgs false
namespace Go.Proofs.YtccdhgjfcgfgoaaGreat.X
open Go Go.RowKit Go.Proofs

theorem bnd_minor {n L k : Nat} {f : Nat → Nat → Rat} (h : Bnd (n + 1) L f) : Bnd n L (Dt.minor f k) := fun i s hi hs => by
  unfold Dt.minor
  exact h (i + 1) _ (by omega) (by split <;> omega)
theorem sgk_odd {k : Nat} (h : k % 2 = 1) : Dt.sgk k = -1 := by unfold Dt.sgk; rw [if_neg (by omega)]
theorem sgk_even {k : Nat} (h : ¬ k % 2 = 1) : Dt.sgk k = 1 := by unfold Dt.sgk; rw [if_pos (by omega)]

set_option maxHeartbeats 4000000 in
theorem xdet_ok : ∀ (n : Nat), 1 ≤ n → n ≤ 5 → ∀ (H : PH) (A0 : Option Addr) (c0 : Nat) (f : Nat → Nat → Rat), MX H A0 n (rect n f) → Bnd n 4000 f → FnP Tryz.prog 37 [.slice A0 n c0] H fun v H' => RRat H' v (Dt.det n f)
  | 0, h, _, _, _, _, _, _, _ => absurd h (by decide)
  | n + 1, _, h5, H, A0, c0, f, hM, hb => by
    obtain ⟨b, off, rfl⟩ := ArrF.base hM (by omega)
    refine of_cinctureref1_det (by simp) ?_
    try simp only [go_sem, Nat.reduceEqDiff, Nat.reduceAdd, Nat.reduceBEq, ↓reduceIte, p_cinctureref1_det]
    refine ev_if (fun c1 => ?_) (fun c1 => ?_)
    · have hn : n = 0 := by omega
      subst hn
      try simp only [go_sem, Nat.reduceEqDiff, Nat.reduceAdd, Nat.reduceBEq, ↓reduceIte]
      refine ev_ia rfl (by omega) (by omega) ?_
      try simp only [go_sem, Nat.reduceEqDiff, Nat.reduceAdd, Nat.reduceBEq, ↓reduceIte]
      refine ev_ldRow0 hM (by omega) ?_
      intro A3 q3 ha3
      replace ha3 : ArrF 3 RRatC H A3 1 (f 0) := ha3
      obtain ⟨b3, off3, rfl⟩ := ha3.base (by omega)
      try simp only [go_sem, Nat.reduceEqDiff, Nat.reduceAdd, Nat.reduceBEq, ↓reduceIte]
      refine ev_ia rfl (by omega) (by show (0 : Int) < ((0 + 1 : Nat) : Int); omega) ?_
      try simp only [go_sem, Nat.reduceEqDiff, Nat.reduceAdd, Nat.reduceBEq, ↓reduceIte]
      have hq0 : ∀ us, RRatC H us (f 0 0) → us.length = 3 → _ := fun us hq _ => hq
      rw [show off3 = off3 + 0 * 3 by omega]
      refine ev_ldF ha3 (by omega) ?_
      intro us hq _
      obtain ⟨b5, A5, l5, c5, B5, m5, e5, hf⟩ := RRat.form hq
      have hq : RRat H (.agg us.toArray) (f 0 0) := hq
      rw [hf] at hq ⊢
      clear hf
      try simp only [go_sem, Nat.reduceEqDiff, Nat.reduceAdd, Nat.reduceBEq, ↓reduceIte]
      refine ⟨by trivial, ?_⟩
      have : Dt.det 1 f = f 0 0 := by
        show 0 + Dt.sgk 0 * f 0 0 * 1 = f 0 0
        rw [sgk_even (by decide)]
        grind
      rw [this]
      exact hq
    · have h1 : 1 ≤ n := by omega
      try simp only [go_sem, Nat.reduceEqDiff, Nat.reduceAdd, Nat.reduceBEq, ↓reduceIte]
      refine ev_if (fun c2 => ?_) (fun c2 => ?_)
      · try simp only [go_sem, Nat.reduceEqDiff, Nat.reduceAdd, Nat.reduceBEq, ↓reduceIte]
        first | refine ev_call (drows_ok _ _ (n + 1) c0 f hM (by omega) h5 hb) ?_ | refine ev_callP (drows_ok _ _ (n + 1) c0 f hM (by omega) h5 hb) ?_
        rintro v_1 H_1 le_1 h6 _
        try simp only [go_sem, Nat.reduceEqDiff, Nat.reduceAdd, Nat.reduceBEq, ↓reduceIte]
        obtain ⟨t6, A6, l6, c6, B6, m6, e6, rfl⟩ := h6.form
        try simp only [go_sem, Nat.reduceEqDiff, Nat.reduceAdd, Nat.reduceBEq, ↓reduceIte]
        exact ⟨by trivial, h6⟩
      · try simp only [go_sem, Nat.reduceEqDiff, Nat.reduceAdd, Nat.reduceBEq, ↓reduceIte]
        first | refine ev_call (rratOf_ok _ 0 (by decide) (by decide)) ?_ | refine ev_callP (rratOf_ok _ 0 (by decide) (by decide)) ?_
        rintro v_2 H_2 le_2 h6 _
        replace hM := hM.le le_2
        try simp only [go_sem, Nat.reduceEqDiff, Nat.reduceAdd, Nat.reduceBEq, ↓reduceIte]
        obtain ⟨t6, A6, l6, c6, B6, m6, e6, rfl⟩ := h6.form
        try simp only [go_sem, Nat.reduceEqDiff, Nat.reduceAdd, Nat.reduceBEq, ↓reduceIte]
        let T : Nat → Rat := fun k => Dt.sgk k * f 0 k * Dt.det n (Dt.minor f k)
        refine ev_loop (fun t s => ∃ (k : Nat) (H3 : PH) (t6 : Bool) (A6 : Option Addr) (l6 c6 : Nat) (B6 : Option Addr) (m6 e6 : Nat), t = n + 1 - k ∧ k ≤ n + 1 ∧ MX H3 (some ⟨b, off, none⟩) (n + 1) (rect (n + 1) f) ∧ RRat H3 (.agg #[.bool t6, .slice A6 l6 c6, .slice B6 m6 e6]) (Dt.sm k T) ∧
          s = ⟨[(4, .v (.int .i64 (k : Int))), (3, .ptr 3 0), (2, .ptr 2 0), (0, .v (.slice (some ⟨b, off, none⟩) (n + 1) c0))], [(3, [.bool t6, .slice A6 l6 c6, .slice B6 m6 e6]), (2, [.bool false, .slice none 0 0, .slice none 0 0])], H3, PH.no⟩) (n + 1) _
          ⟨0, _, t6, A6, l6, c6, B6, m6, e6, rfl, by omega, hM, h6, rfl⟩ sub_of ?_
        clear hM h6
        rintro t s ⟨k, H3, t6, A6, l6, c6, B6, m6, e6, rfl, hk, hM, h6, rfl⟩
        try simp only [go_sem, Nat.reduceEqDiff, Nat.reduceAdd, Nat.reduceBEq, ↓reduceIte]
        refine ev_if (fun c3 => ?_) (fun c3 => ?_)
        · have hkn : k < n + 1 := by omega
          have bm : Bnd n 4000 (Dt.minor f k) := bnd_minor hb
          have d1 := br_det' (by omega) bm
          have d2 := hb 0 k (by omega) hkn
          have d3 := br_mul (f 0 k) (Dt.det n (Dt.minor f k))
          have d4 : br (Dt.sm k T) ≤ k * (2004010 + 2) + 1 := br_sm k (fun x hx => by
            have e1 := br_det' (by omega) (bnd_minor (k := x) hb)
            have e2 := hb 0 x (by omega) (by omega)
            have e3 := br_sgk x
            have e4 := br_mul (Dt.sgk x) (f 0 x)
            have e5 := br_mul (Dt.sgk x * f 0 x) (Dt.det n (Dt.minor f x))
            show br (Dt.sgk x * f 0 x * Dt.det n (Dt.minor f x)) ≤ _
            omega)
          have d5 : k * (2004010 + 2) ≤ 5 * (2004010 + 2) := Nat.mul_le_mul_right _ (by omega)
          try simp only [go_sem, Nat.reduceEqDiff, Nat.reduceAdd, Nat.reduceBEq, ↓reduceIte]
          refine ev_cut (fun s => ∃ H' t9 A9 l9 c9 B9 m9 e9, MX H' (some ⟨b, off, none⟩) (n + 1) (rect (n + 1) f) ∧ RRat H' (.agg #[.bool t6, .slice A6 l6 c6, .slice B6 m6 e6]) (Dt.sm k T) ∧ RRat H' (.agg #[.bool t9, .slice A9 l9 c9, .slice B9 m9 e9]) (f 0 k * Dt.det n (Dt.minor f k)) ∧
            s = ⟨[(5, .ptr 5 0), (4, .v (.int .i64 (k : Int))), (3, .ptr 3 0), (2, .ptr 2 0), (0, .v (.slice (some ⟨b, off, none⟩) (n + 1) c0))], [(5, [.bool t9, .slice A9 l9 c9, .slice B9 m9 e9]), (3, [.bool t6, .slice A6 l6 c6, .slice B6 m6 e6]), (2, [.bool false, .slice none 0 0, .slice none 0 0])], H', PH.no⟩) ?_ ?_
          · try simp only [go_sem, Nat.reduceEqDiff, Nat.reduceAdd, Nat.reduceBEq, ↓reduceIte]
            refine ev_ia rfl (by omega) (by omega) ?_
            try simp only [go_sem, Nat.reduceEqDiff, Nat.reduceAdd, Nat.reduceBEq, ↓reduceIte]
            refine ev_ldRow0 hM (by omega) ?_
            intro A3 q3 ha3
            replace ha3 : ArrF 3 RRatC H3 A3 (n + 1) (f 0) := ha3
            obtain ⟨b3, off3, rfl⟩ := ha3.base (by omega)
            try simp only [go_sem, Nat.reduceEqDiff, Nat.reduceAdd, Nat.reduceBEq, ↓reduceIte]
            refine ev_ia rfl (by omega) (by show (k : Int) < ((n + 1 : Nat) : Int); omega) ?_
            rw [Int.toNat_natCast]
            try simp only [go_sem, Nat.reduceEqDiff, Nat.reduceAdd, Nat.reduceBEq, ↓reduceIte]
            refine ev_ldF ha3 hkn ?_
            intro us hq _
            obtain ⟨b5, A5, l5, c5, B5, m5, e5, hf⟩ := RRat.form hq
            have hq : RRat H3 (.agg us.toArray) (f 0 k) := hq
            rw [hf] at hq ⊢
            clear hf ha3
            try simp only [go_sem, Nat.reduceEqDiff, Nat.reduceAdd, Nat.reduceBEq, ↓reduceIte]
            repeat' (with_reducible refine And.intro ?_ ?_)
            all_goals
              first | refine ev_call (minorR_ok _ _ (n + 1) c0 k f hM (by omega) (by omega) hkn) ?_ | refine ev_callP (minorR_ok _ _ (n + 1) c0 k f hM (by omega) (by omega) hkn) ?_
              rintro v_3 H_3 le_3 ⟨A7, c7, rfl, hm⟩ _
              replace hM := hM.le le_3
              replace h6 := h6.le le_3
              replace hq := hq.le le_3
              try simp only [go_sem, Nat.reduceEqDiff, Nat.reduceAdd, Nat.reduceBEq, ↓reduceIte]
              replace hm : MX _ A7 n (rect n (Dt.minor f k)) := hm
              repeat' (with_reducible refine And.intro ?_ ?_)
              all_goals
                first | refine ev_call (xdet_ok n h1 (by omega) _ A7 c7 _ hm bm) ?_ | refine ev_callP (xdet_ok n h1 (by omega) _ A7 c7 _ hm bm) ?_
                rintro v_4 H_4 le_4 h7 _
                replace hM := hM.le le_4
                replace h6 := h6.le le_4
                replace hq := hq.le le_4
                try simp only [go_sem, Nat.reduceEqDiff, Nat.reduceAdd, Nat.reduceBEq, ↓reduceIte]
                repeat' (with_reducible refine And.intro ?_ ?_)
                all_goals
                  first | refine ev_call (rmulR_ok _ _ _ _ _ hq h7 (by omega)) ?_ | refine ev_callP (rmulR_ok _ _ _ _ _ hq h7 (by omega)) ?_
                  rintro v_5 H_5 le_5 h8 _
                  replace hM := hM.le le_5
                  replace h6 := h6.le le_5
                  try simp only [go_sem, Nat.reduceEqDiff, Nat.reduceAdd, Nat.reduceBEq, ↓reduceIte]
                  obtain ⟨t9, A9, l9, c9, B9, m9, e9, rfl⟩ := h8.form
                  try simp only [go_sem, Nat.reduceEqDiff, Nat.reduceAdd, Nat.reduceBEq, ↓reduceIte]
                  repeat' (with_reducible refine And.intro ?_ ?_)
                  all_goals exact k_cut _ ⟨_, _, _, _, _, _, _, _, hM, h6, h8, rfl⟩ sub_of
          · clear hM h6
            rintro s ⟨H4, t9, A9, l9, c9, B9, m9, e9, hM, h6, h9, rfl⟩
            try simp only [go_sem, Nat.reduceEqDiff, Nat.reduceAdd, Nat.reduceBEq, ↓reduceIte]
            refine ev_rem (by omega) ?_
            have hrem : ((k : Int)).tmod 2 = ((k % 2 : Nat) : Int) := by rw [Int.tmod_eq_emod_of_nonneg (by omega)]; omega
            rw [hrem]
            try simp only [go_sem, Nat.reduceEqDiff, Nat.reduceAdd, Nat.reduceBEq, ↓reduceIte]
            refine ev_if (fun c4 => ?_) (fun c4 => ?_)
            · try simp only [go_sem, Nat.reduceEqDiff, Nat.reduceAdd, Nat.reduceBEq, ↓reduceIte]
              first | refine ev_call (rnegR_ok _ _ _ h9) ?_ | refine ev_callP (rnegR_ok _ _ _ h9) ?_
              rintro v_7 H_7 le_7 h9 _
              replace hM := hM.le le_7
              replace h6 := h6.le le_7
              try simp only [go_sem, Nat.reduceEqDiff, Nat.reduceAdd, Nat.reduceBEq, ↓reduceIte]
              obtain ⟨t11, A11, l11, c11, B11, m11, e11, rfl⟩ := h9.form
              have hsum : Dt.sm k T + -(f 0 k * Dt.det n (Dt.minor f k)) = Dt.sm (k + 1) T := by
                show _ = Dt.sm k T + Dt.sgk k * f 0 k * Dt.det n (Dt.minor f k)
                rw [sgk_odd (by omega)]
                grind
              have d6 := br_neg (f 0 k * Dt.det n (Dt.minor f k))
              try simp only [go_sem, Nat.reduceEqDiff, Nat.reduceAdd, Nat.reduceBEq, ↓reduceIte]
              first | refine ev_call (raddR_ok _ _ _ _ _ h6 h9 (by omega)) ?_ | refine ev_callP (raddR_ok _ _ _ _ _ h6 h9 (by omega)) ?_
              rintro v_6 H_6 le_6 h8 _
              replace hM := hM.le le_6
              try simp only [go_sem, Nat.reduceEqDiff, Nat.reduceAdd, Nat.reduceBEq, ↓reduceIte]
              obtain ⟨t10, A10, l10, c10, B10, m10, e10, rfl⟩ := h8.form
              try simp only [go_sem, Nat.reduceEqDiff, Nat.reduceAdd, Nat.reduceBEq, ↓reduceIte]
              rw [w64 ((k : Int) + 1) (by omega) (by omega), show (k : Int) + 1 = ((k + 1 : Nat) : Int) by omega]
              exact k_next (n + 1 - (k + 1)) _ (by omega) ⟨k + 1, _, _, _, _, _, _, _, _, rfl, by omega, hM, hsum ▸ h8, rfl⟩ sub_of
            · have hsum : Dt.sm k T + f 0 k * Dt.det n (Dt.minor f k) = Dt.sm (k + 1) T := by
                show _ = Dt.sm k T + Dt.sgk k * f 0 k * Dt.det n (Dt.minor f k)
                rw [sgk_even (by omega)]
                grind
              try simp only [go_sem, Nat.reduceEqDiff, Nat.reduceAdd, Nat.reduceBEq, ↓reduceIte]
              first | refine ev_call (raddR_ok _ _ _ _ _ h6 h9 (by omega)) ?_ | refine ev_callP (raddR_ok _ _ _ _ _ h6 h9 (by omega)) ?_
              rintro v_6 H_6 le_6 h8 _
              replace hM := hM.le le_6
              try simp only [go_sem, Nat.reduceEqDiff, Nat.reduceAdd, Nat.reduceBEq, ↓reduceIte]
              obtain ⟨t10, A10, l10, c10, B10, m10, e10, rfl⟩ := h8.form
              try simp only [go_sem, Nat.reduceEqDiff, Nat.reduceAdd, Nat.reduceBEq, ↓reduceIte]
              rw [w64 ((k : Int) + 1) (by omega) (by omega), show (k : Int) + 1 = ((k + 1 : Nat) : Int) by omega]
              exact k_next (n + 1 - (k + 1)) _ (by omega) ⟨k + 1, _, _, _, _, _, _, _, _, rfl, by omega, hM, hsum ▸ h8, rfl⟩ sub_of
        · have hk' : k = n + 1 := by omega
          subst hk'
          try simp only [go_sem, Nat.reduceEqDiff, Nat.reduceAdd, Nat.reduceBEq, ↓reduceIte]
          exact ⟨by trivial, h6⟩

theorem xDet_ok (H : PH) (A0 : Option Addr) (n c0 : Nat) (R : Nat → Rw Rat) (hM : MX H A0 n R) (h5 : n ≤ 5) (hb : sqB n R = true → Bnd n 4000 (mx R)) :
    FnP Tryz.prog 9 [.slice A0 n c0] H fun v H' => ∃ v', v = .tuple #[v', .bool (sqB n R)] ∧ RRat H' v' (if sqB n R then Dt.det n (mx R) else 0) := by
  refine of_cinctureref1_Det (by simp) ?_
  try simp only [go_sem, Nat.reduceEqDiff, Nat.reduceAdd, Nat.reduceBEq, ↓reduceIte, p_cinctureref1_Det]
  first | refine ev_call (xsquare_ok _ A0 n c0 R hM (by omega)) ?_ | refine ev_callP (xsquare_ok _ A0 n c0 R hM (by omega)) ?_
  rintro v_8 H_8 le_8 rfl _
  replace hM := hM.le le_8
  try simp only [go_sem, Nat.reduceEqDiff, Nat.reduceAdd, Nat.reduceBEq, ↓reduceIte]
  cases hs : sqB n R with
  | false =>
    try simp only [go_sem, Nat.reduceEqDiff, Nat.reduceAdd, Nat.reduceBEq, ↓reduceIte, hs]
    exact ⟨by trivial, _, rfl, RRat.zero _⟩
  | true =>
    obtain ⟨n1, n2, hr⟩ := sqB_of hs
    have hM' : MX _ A0 n (rect n (mx R)) := MatH.congr hM fun i hi => ⟨hr i hi, fun k hk => rfl⟩
    try simp only [go_sem, Nat.reduceEqDiff, Nat.reduceAdd, Nat.reduceBEq, ↓reduceIte, hs]
    first | refine ev_call (xdet_ok n n1 h5 _ A0 c0 (mx R) hM' (hb hs)) ?_ | refine ev_callP (xdet_ok n n1 h5 _ A0 c0 (mx R) hM' (hb hs)) ?_
    rintro v_9 H_9 le_9 h6 _
    try simp only [go_sem, Nat.reduceEqDiff, Nat.reduceAdd, Nat.reduceBEq, ↓reduceIte]
    obtain ⟨t6, A6, l6, c6, B6, m6, e6, rfl⟩ := h6.form
    try simp only [go_sem, Nat.reduceEqDiff, Nat.reduceAdd, Nat.reduceBEq, ↓reduceIte]
    exact ⟨by trivial, _, rfl, h6⟩

end Go.Proofs.YtccdhgjfcgfgoaaGreat.X
set_option linter.unusedVariables false
set_option linter.unusedSimpArgs false
namespace Go.Proofs.YtccdhgjfcgfgoaaGreat.X
open Go Go.RowKit Go.Proofs

theorem apart_flip {p q : Option Addr} (h : p = none ∨ p ≠ q) : q = none ∨ q ≠ p := by
  rcases h with h | h
  · cases q with
    | none => exact .inl rfl
    | some x => exact .inr (by rw [h]; simp)
  · exact .inr fun e => h e.symm
/-- all places of the one are apart from those of the other -/
def Sep (A : Option Addr) (ra : Nat → Option Addr) (B : Option Addr) (rb : Nat → Option Addr) (n : Nat) : Prop := Apart A B n rb ∧ ∀ i, i < n → Apart (ra i) B n rb
theorem Sep.flip {A B : Option Addr} {ra rb : Nat → Option Addr} {n : Nat} (h : Sep A ra B rb n) : Sep B rb A ra n :=
  ⟨⟨apart_flip h.1.1, fun i hi => apart_flip (h.2 i hi).1⟩, fun i hi => ⟨apart_flip (h.1.2 i hi), fun j hj => apart_flip ((h.2 j hj).2 i hi)⟩⟩
theorem Sep.swp {A B : Option Addr} {ra rb : Nat → Option Addr} {n i k : Nat} (h : Sep A ra B rb n) (hi : i < n) (hk : k < n) : Sep A (swpA ra i k) B rb n :=
  ⟨h.1, fun r hr => by
    unfold swpA
    split
    · exact h.2 k hk
    · split
      · exact h.2 i hi
      · exact h.2 r hr⟩

structure Two (Tr Tm : TypeId) (H M : PH) (g1 g2 n c1 c2 : Nat) (ra : Nat → Option Addr) (rc : Nat → Nat) (rb : Nat → Option Addr) (rd : Nat → Nat) (f g : Nat → Nat → Rat) : Prop where
  l : MatO 3 RRatC Tr Tm H M (some ⟨g1, 0, none⟩) n c1 ra rc (rect n f)
  o : MatO 3 RRatC Tr Tm H M (some ⟨g2, 0, none⟩) n c2 rb rd (rect n g)
  s : Sep (some ⟨g1, 0, none⟩) ra (some ⟨g2, 0, none⟩) rb n
  d : PH.disj H M

section
variable {Tr Tm : TypeId} {H H' M M1 M2 : PH} {g1 g2 n c1 c2 i k b : Nat} {ra : Nat → Option Addr} {rc : Nat → Nat} {rb : Nat → Option Addr} {rd : Nat → Nat} {f g f' g' : Nat → Nat → Rat}
theorem Two.flip (h : Two Tr Tm H M g1 g2 n c1 c2 ra rc rb rd f g) : Two Tr Tm H M g2 g1 n c2 c1 rb rd ra rc g f := ⟨h.o, h.l, h.s.flip, h.d⟩
theorem Two.leH (h : Two Tr Tm H M g1 g2 n c1 c2 ra rc rb rd f g) (hl : H.le H') (hd : PH.disj H' M) : Two Tr Tm H' M g1 g2 n c1 c2 ra rc rb rd f g := ⟨h.l.leH RRatC.grows hl, h.o.leH RRatC.grows hl, h.s, hd⟩
theorem Two.congr (h : Two Tr Tm H M g1 g2 n c1 c2 ra rc rb rd f g) (e1 : ∀ r, r < n → ∀ s, s < n → f r s = f' r s) (e2 : ∀ r, r < n → ∀ s, s < n → g r s = g' r s) : Two Tr Tm H M g1 g2 n c1 c2 ra rc rb rd f' g' :=
  ⟨h.l.congr fun r hr => ⟨rfl, fun s hs => e1 r hr s hs⟩, h.o.congr fun r hr => ⟨rfl, fun s hs => e2 r hr s hs⟩, h.s, h.d⟩
theorem Two.swp (h : Two Tr Tm H M g1 g2 n c1 c2 ra rc rb rd f g) (hi : i < n) (hk : k < n) (hO : OwnF 1 SlC Tm H M2 (some ⟨g1, 0, none⟩) n (upF (upF (fun r => (ra r, n, rc r)) i (ra k, n, rc k)) k (ra i, n, rc i)) c1) (hb1 : But M M1 (some ⟨g1, 0, none⟩)) (hb2 : But M1 M2 (some ⟨g1, 0, none⟩)) (hd : PH.disj H M2) :
    Two Tr Tm H M2 g1 g2 n c1 c2 (swpA ra i k) (swpA rc i k) rb rd (Dt.swpR f i k) g := ⟨h.l.swap hi hk hO hb1 hb2, (h.o.but hb1 h.s.1).but hb2 h.s.1, h.s.swp hi hk, hd⟩
/-- a value put at a place -/
def up2 (f : Nat → Nat → Rat) (i k : Nat) (x : Rat) : Nat → Nat → Rat := fun r s => if r = i ∧ s = k then x else f r s
theorem ev_stL {X : XT} {K : St → Prop} {fr : List (Nat × SV)} {lh : List (Nat × List Value)} {y : Value} {x : Rat} (h : Two Tr Tm H M g1 g2 n c1 c2 ra rc rb rd f g) (hi : i < n) (hb : ra i = some ⟨b, 0, none⟩) (hk : k < n) (hu : (cellsL y).length = 3) (h1 : ∀ u ∈ cellsL y, u.oneCell' = true) (hx : RRatC H (cellsL y) x)
    (k1 : ∀ M', Two Tr Tm H M' g1 g2 n c1 c2 ra rc rb rd (up2 f i k x) g → X ⟨fr, lh, H, M'⟩ K) : EvSt 3 (.pointer (some ⟨b, k * 3, none⟩)) y X ⟨fr, lh, H, M⟩ K := by
  have hr := h.l.row i hi
  rw [hb] at hr
  refine ev_stOF hr hk h.d hu h1 hx ?_
  intro M' hO hbut hd
  rw [← hb] at hO hbut
  refine k1 M' ⟨(h.l.set hi (by rw [hb]; simp) hO hbut).congr fun r hr => ?_, h.o.but hbut (h.s.2 i hi), h.s, hd _ h.d⟩
  unfold upM
  by_cases e : r = i
  · rw [if_pos e]
    refine ⟨rfl, fun s hs => ?_⟩
    show upF (f r) k x s = up2 f i k x r s
    unfold upF up2
    by_cases e2 : s = k
    · rw [if_pos e2, if_pos ⟨e, e2⟩]
    · rw [if_neg e2, if_neg (fun h => e2 h.2)]
  · rw [if_neg e]
    refine ⟨rfl, fun s hs => ?_⟩
    show f r s = up2 f i k x r s
    unfold up2
    rw [if_neg (fun h => e h.1)]
end

/-! ### plain: both sides turned together -/
def Pair2 (n : Nat) (M f g : Nat → Nat → Rat) : Prop := ∀ i, i < n → ∀ s, s < n → Dt.sm n (fun r => g i r * M r s) = f i s
theorem pair2_one (n : Nat) (M : Nat → Nat → Rat) : Pair2 n M M Dt.one := fun i hi s hs => Dt.one_mul' n M i hi s hs
theorem Pair2.swp {n i k : Nat} {M f g : Nat → Nat → Rat} (h : Pair2 n M f g) (hi : i < n) (hk : k < n) : Pair2 n M (Dt.swpR f i k) (Dt.swpR g i k) := by
  intro r hr s hs
  unfold Dt.swpR
  by_cases e : r = i
  · simp only [if_pos e]
    exact h k hk s hs
  · by_cases e2 : r = k
    · simp only [if_neg e, if_pos e2]
      exact h i hi s hs
    · simp only [if_neg e, if_neg e2]
      exact h r hr s hs
/-- a row's first j, times x -/
def scl1 (f : Nat → Nat → Rat) (k : Nat) (x : Rat) (j : Nat) : Nat → Nat → Rat := fun r s => if r = k ∧ s < j then f k s * x else f r s
theorem Pair2.scl {n k : Nat} {x : Rat} {M f g : Nat → Nat → Rat} (h : Pair2 n M f g) : Pair2 n M (scl1 f k x n) (scl1 g k x n) := by
  intro r hr s hs
  unfold scl1
  by_cases e : r = k
  · subst e
    rw [if_pos ⟨rfl, hs⟩, ← h r hr s hs, Rat.mul_comm, ← Dt.sm_mul]
    refine Dt.sm_congr fun t ht => ?_
    rw [if_pos ⟨rfl, ht⟩]
    grind
  · rw [if_neg (fun h => e h.1), ← h r hr s hs]
    refine Dt.sm_congr fun t ht => ?_
    rw [if_neg (fun h => e h.1)]
/-- row k, so often, taken from the rows ahead of i -/
def tk (f h : Nat → Nat → Rat) (k i : Nat) : Nat → Nat → Rat := fun r s => if r < i ∧ r ≠ k then h r s - f r k * h k s else h r s
theorem Pair2.tk {n k : Nat} {M f g : Nat → Nat → Rat} (h : Pair2 n M f g) (hk : k < n) : Pair2 n M (tk f f k n) (tk f g k n) := by
  intro r hr s hs
  unfold X.tk
  by_cases e : r < n ∧ r ≠ k
  · simp only [if_pos e]
    have h1 := h r hr s hs
    have h2 := h k hk s hs
    have := Dt.sm_lin n 1 (-(f r k)) (fun x => g r x * M x s) (fun x => g k x * M x s)
    rw [h1, h2] at this
    rw [Dt.sm_congr (g := fun x => 1 * (g r x * M x s) + -(f r k) * (g k x * M x s)) (fun x hx => by grind), this]
    grind
  · simp only [if_neg e]
    exact h r hr s hs
theorem tk_elim {n k : Nat} {f : Nat → Nat → Rat} (h : f k k = 1) : tk f f k n = Dt.elim f k k (fun r => decide (r < n)) := by
  funext r s
  unfold tk Dt.elim
  simp only [decide_eq_true_eq]
  by_cases e : r < n ∧ r ≠ k
  · rw [if_pos e, if_pos e, h]
    grind
  · rw [if_neg e, if_neg e]
/-- the first k columns are One's -/
def Zk (n k : Nat) (f : Nat → Nat → Rat) : Prop := Dt.Zj n k f ∧ ∀ j, j < k → f j j = 1
theorem Zk.swp {n i k : Nat} {f : Nat → Nat → Rat} (h : Zk n k f) (hki : k ≤ i) (hi : i < n) : Zk n k (Dt.swpR f i k) := ⟨h.1.swp hki hi, fun j hj => by
  unfold Dt.swpR
  rw [if_neg (by omega), if_neg (by omega)]
  exact h.2 j hj⟩
theorem Zk.scl {n k : Nat} {x : Rat} {f : Nat → Nat → Rat} (h : Zk n k f) (hk : k < n) : Zk n k (scl1 f k x n) := by
  refine ⟨fun j hj => ?_, fun j hj => ?_⟩
  · obtain ⟨h1, h2⟩ := h.1 j hj
    unfold scl1
    refine ⟨fun i hi hij => ?_, ?_⟩
    · split
      · rw [h1 k hk (by omega)]; grind
      · exact h1 i hi hij
    · rw [if_neg (by omega)]
      exact h2
  · unfold scl1
    rw [if_neg (by omega)]
    exact h.2 j hj
theorem Zk.next {n k : Nat} {f : Nat → Nat → Rat} (h : Zk n k f) (hk : k < n) (h0 : f k k = 1) : Zk n (k + 1) (tk f f k n) := by
  refine ⟨?_, fun j hj => ?_⟩
  · rw [tk_elim h0]
    exact h.1.next hk (by rw [h0]; decide +kernel)
  · unfold tk
    by_cases e : j = k
    · subst e
      rw [if_neg (fun h => h.2 rfl)]
      exact h0
    · rw [(h.1 j (by omega)).1 k hk (fun h => e h.symm), h.2 j (by omega)]
      split <;> grind
theorem Zk.done {n : Nat} {f g M : Nat → Nat → Rat} (h : Zk n n f) (hp : Pair2 n M f g) : Dt.Eq2 n (Dt.mul n g M) Dt.one := fun i hi s hs => by
  show Dt.sm n (fun r => g i r * M r s) = Dt.one i s
  rw [hp i hi s hs]
  unfold Dt.one
  by_cases e : i = s
  · subst e
    rw [if_pos rfl, h.2 i hi]
  · rw [if_neg e, (h.1 s hs).1 i hi e]
theorem det_scl {n k : Nat} {x : Rat} {f : Nat → Nat → Rat} (hk : k < n) : Dt.det n (scl1 f k x n) = x * Dt.det n f := by
  rw [← (Dt.rowF_det n).scl f k x hk]
  refine Dt.det_congr fun r hr s hs => ?_
  unfold scl1 Dt.sclR
  by_cases e : r = k
  · rw [if_pos ⟨e, hs⟩, if_pos e]; grind
  · rw [if_neg (fun h => e h.1), if_neg e]
theorem det_tk {n k : Nat} {f : Nat → Nat → Rat} (hk : k < n) (h0 : f k k = 1) : Dt.det n (tk f f k n) = Dt.det n f := by
  rw [tk_elim h0]
  exact (Dt.rowF_det n).elim f k k hk _
theorem bnd_scl {n k L : Nat} {x : Rat} {f : Nat → Nat → Rat} (h : Bnd n L f) (hk : k < n) (hx : br x ≤ L + 2) : Bnd n (2 * L + 3) (scl1 f k x n) := by
  intro r s hr hs
  have y1 := h r s hr hs
  have y2 := h k s hk hs
  unfold scl1
  split
  · have := br_mul (f k s) x
    omega
  · omega
theorem bnd_tk {n k L : Nat} {f h : Nat → Nat → Rat} (hf : Bnd n L f) (hh : Bnd n L h) (hk : k < n) : Bnd n (3 * L + 3) (tk f h k n) := by
  intro r s hr hs
  have y1 := hf r k hr hk
  have y2 := hh r s hr hs
  have y3 := hh k s hk hs
  unfold tk
  split
  · have := br_mul (f r k) (h k s)
    have := br_sub (h r s) (f r k * h k s)
    omega
  · omega

end Go.Proofs.YtccdhgjfcgfgoaaGreat.X
set_option linter.unusedVariables false
set_option linter.unusedSimpArgs false
namespace Go.Proofs.YtccdhgjfcgfgoaaGreat.X
open Go Go.RowKit Go.Proofs

theorem scl1_0 (f : Nat → Nat → Rat) (k : Nat) (x : Rat) (r s : Nat) : scl1 f k x 0 r s = f r s := by
  unfold scl1
  rw [if_neg (by omega)]
theorem scl1_at (f : Nat → Nat → Rat) (k : Nat) (x : Rat) (j : Nat) : scl1 f k x j k j = f k j := by
  unfold scl1
  rw [if_neg (by omega)]
theorem scl1_up (f : Nat → Nat → Rat) (k : Nat) (x : Rat) (j r s : Nat) : up2 (scl1 f k x j) k j (f k j * x) r s = scl1 f k x (j + 1) r s := by
  unfold up2 scl1
  by_cases e : r = k
  · by_cases e2 : s = j
    · subst e2
      rw [if_pos ⟨e, rfl⟩, if_pos ⟨e, by omega⟩]
    · rw [if_neg (fun h => e2 h.2)]
      by_cases e3 : s < j
      · rw [if_pos ⟨e, e3⟩, if_pos ⟨e, by omega⟩]
      · rw [if_neg (by omega), if_neg (by omega)]
  · rw [if_neg (fun h => e h.1), if_neg (fun h => e h.1), if_neg (fun h => e h.1)]
theorem tk_0 (f h : Nat → Nat → Rat) (k r s : Nat) : tk f h k 0 r s = h r s := by
  unfold tk
  rw [if_neg (by omega)]
theorem tk_at (f h : Nat → Nat → Rat) (k i s : Nat) : tk f h k i i s = h i s := by
  unfold tk
  rw [if_neg (by omega)]
theorem tk_k (f h : Nat → Nat → Rat) (k i s : Nat) : tk f h k i k s = h k s := by
  unfold tk
  rw [if_neg (fun h => h.2 rfl)]
theorem tk_skip (f h : Nat → Nat → Rat) (k r s : Nat) : tk f h k k r s = tk f h k (k + 1) r s := by
  unfold tk
  by_cases e : r < k
  · rw [if_pos (by omega), if_pos (by omega)]
  · rw [if_neg (by omega), if_neg (by omega)]
def tk1 (f h : Nat → Nat → Rat) (k i j : Nat) : Nat → Nat → Rat := fun r s => if r = i ∧ s < j then h i s - f i k * h k s else tk f h k i r s
theorem tk1_0 (f h : Nat → Nat → Rat) (k i r s : Nat) : tk1 f h k i 0 r s = tk f h k i r s := by
  unfold tk1
  rw [if_neg (by omega)]
theorem tk1_n (f h : Nat → Nat → Rat) (k i n r s : Nat) (hik : i ≠ k) (hs : s < n) : tk1 f h k i n r s = tk f h k (i + 1) r s := by
  unfold tk1
  by_cases e : r = i
  · subst e
    rw [if_pos ⟨rfl, hs⟩]
    unfold tk
    rw [if_pos ⟨by omega, hik⟩]
  · rw [if_neg (fun h => e h.1)]
    unfold tk
    by_cases e2 : r < i
    · by_cases e3 : r = k
      · rw [if_neg (fun h => h.2 e3), if_neg (fun h => h.2 e3)]
      · rw [if_pos ⟨e2, e3⟩, if_pos ⟨by omega, e3⟩]
    · rw [if_neg (by omega), if_neg (by omega)]
theorem tk1_at (f h : Nat → Nat → Rat) (k i j : Nat) : tk1 f h k i j i j = h i j := by
  unfold tk1
  rw [if_neg (by omega), tk_at]
theorem tk1_k (f h : Nat → Nat → Rat) (k i j s : Nat) (hik : i ≠ k) : tk1 f h k i j k s = h k s := by
  unfold tk1
  rw [if_neg (by omega), tk_k]
theorem tk1_up (f h : Nat → Nat → Rat) (k i j r s : Nat) : up2 (tk1 f h k i j) i j (h i j - f i k * h k j) r s = tk1 f h k i (j + 1) r s := by
  unfold up2 tk1
  by_cases e : r = i
  · by_cases e2 : s = j
    · subst e2
      rw [if_pos ⟨e, rfl⟩, if_pos ⟨e, by omega⟩]
    · rw [if_neg (fun h => e2 h.2)]
      by_cases e3 : s < j
      · rw [if_pos ⟨e, e3⟩, if_pos ⟨e, by omega⟩]
      · rw [if_neg (by omega), if_neg (by omega)]
  · rw [if_neg (fun h => e h.1), if_neg (fun h => e h.1), if_neg (fun h => e h.1)]

/-- what the reference's inverse is -/
def XInv (H : PH) (v : Value) (n : Nat) (R : Nat → Rw Rat) : Prop := (v = .tuple #[.slice none 0 0, .bool false] ∧ (sqB n R = true → Dt.det n (mx R) = 0)) ∨ (sqB n R = true ∧ ∃ A e X, v = .tuple #[.slice A n e, .bool true] ∧ MX H A n (rect n X) ∧ Dt.Eq2 n (Dt.mul n X (mx R)) Dt.one)

set_option maxHeartbeats 8000000 in
theorem xinv_ok (H : PH) (A0 : Option Addr) (n c0 : Nat) (R : Nat → Rw Rat) (hM : MX H A0 n R) (h5 : n ≤ 5) (hb : sqB n R = true → Bnd n 81 (mx R)) :
    FnP Tryz.prog 11 [.slice A0 n c0] H fun v H' => XInv H' v n R := by
  refine Fn.release (of_cinctureref1_Inverse (by simp) ?_)
  try simp only [go_sem, Nat.reduceEqDiff, Nat.reduceAdd, Nat.reduceBEq, ↓reduceIte, p_cinctureref1_Inverse]
  first | refine ev_call (xsquare_ok _ A0 n c0 R hM (by omega)) ?_ | refine ev_callP (xsquare_ok _ A0 n c0 R hM (by omega)) ?_
  rintro v_1 H_1 le_1 rfl _
  replace hM := hM.le le_1
  try simp only [go_sem, Nat.reduceEqDiff, Nat.reduceAdd, Nat.reduceBEq, ↓reduceIte]
  cases hs : sqB n R with
  | false =>
    try simp only [go_sem, Nat.reduceEqDiff, Nat.reduceAdd, Nat.reduceBEq, ↓reduceIte, hs]
    exact fun _ => .inl ⟨by trivial, fun h => by rw [hs] at h; cases h⟩
  | true =>
    obtain ⟨n1, n2, hr⟩ := sqB_of hs
    have hb := hb hs
    replace hM : MX _ A0 n (rect n (mx R)) := MatH.congr hM fun i hi => ⟨hr i hi, fun k hk => rfl⟩
    try simp only [go_sem, Nat.reduceEqDiff, Nat.reduceAdd, Nat.reduceBEq, ↓reduceIte, hs]
    first | refine ev_call (xdet_ok n n1 h5 _ A0 c0 (mx R) hM (hb.up (by decide))) ?_ | refine ev_callP (xdet_ok n n1 h5 _ A0 c0 (mx R) hM (hb.up (by decide))) ?_
    rintro v_2 H_2 le_2 h6 _
    replace hM := hM.le le_2
    try simp only [go_sem, Nat.reduceEqDiff, Nat.reduceAdd, Nat.reduceBEq, ↓reduceIte]
    obtain ⟨t6, A6, l6, c6, B6, m6, e6, d6, rfl, hN, _⟩ := h6
    try simp only [go_sem, Nat.reduceEqDiff, Nat.reduceAdd, Nat.reduceBEq, ↓reduceIte]
    first | refine ev_call (rsign_ok _ _ _ hN) ?_ | refine ev_callP (rsign_ok _ _ _ hN) ?_
    rintro v_3 H_3 le_3 rfl _
    replace hM := hM.le le_3
    try simp only [go_sem, Nat.reduceEqDiff, Nat.reduceAdd, Nat.reduceBEq, ↓reduceIte]
    refine ev_if (fun cs0 => ?_) (fun cs0 => ?_)
    · have hz : Dt.det n (mx R) = 0 := Classical.not_not.1 fun h => sgnI_num.2 h cs0
      try simp only [go_sem, Nat.reduceEqDiff, Nat.reduceAdd, Nat.reduceBEq, ↓reduceIte]
      exact fun _ => .inl ⟨by trivial, fun _ => hz⟩
    · have hdet : Dt.det n (mx R) ≠ 0 := sgnI_num.1 cs0
      clear hN cs0
      try simp only [go_sem, Nat.reduceEqDiff, Nat.reduceAdd, Nat.reduceBEq, ↓reduceIte]
      refine ev_callM (rowsR_ok _ A0 n c0 n (mx R) hM (by omega) n1 (by omega)) ?_
      rintro v H2 M2 hle2 ⟨A1, c1, ra, rc, rfl, hO⟩ hd2
      obtain ⟨g1, rfl⟩ := hO.top.base (Nat.lt_of_lt_of_le n1 hO.top.cap)
      clear hM
      try simp only [go_sem, Nat.reduceEqDiff, Nat.reduceAdd, Nat.reduceBEq, ↓reduceIte]
      refine ev_callN (refOneO_ok _ (n : Int)) ?_
      rintro v H3 M4 M3 hle3 ⟨A2, c2, rb, rd, rfl, hU⟩ hleM hleM4 hd3 hF
      rw [onN_of n1 n2] at hU ⊢
      obtain ⟨g2, rfl⟩ := hU.top.base (Nat.lt_of_lt_of_le n1 hU.top.cap)
      have hO2 := hO.leH RRatC.grows hle3
      have hT : Two 43 58 H3 M3 g1 g2 n c1 c2 ra rc rb rd (mx R) Dt.one :=
        ⟨hO2.leM hleM, hU.leM hleM4, Sep.flip ⟨hO2.apart (hU.top.new hF), fun i hi => hO2.apart ((hU.row i hi).new hF)⟩, hd3⟩
      clear hO hU hO2 hd2 hd3 hF hleM hleM4 hle3
      try simp only [go_sem, Nat.reduceEqDiff, Nat.reduceAdd, Nat.reduceBEq, ↓reduceIte]
      refine ev_loop (fun t s => ∃ (k : Nat) (H4 M4 : PH) (ra : Nat → Option Addr) (rc : Nat → Nat) (rb : Nat → Option Addr) (rd : Nat → Nat) (f g : Nat → Nat → Rat), t = n - k ∧ k ≤ n ∧ Two 43 58 H4 M4 g1 g2 n c1 c2 ra rc rb rd f g ∧ Pair2 n (mx R) f g ∧ Zk n k f ∧ Dt.det n f ≠ 0 ∧ Bnd n (81 * 16 ^ k) f ∧ Bnd n (81 * 16 ^ k) g ∧
        s = ⟨[(6, .v (.int .i64 (k : Int))), (5, .v (.slice (some ⟨g2, 0, none⟩) n c2)), (4, .v (.slice (some ⟨g1, 0, none⟩) n c1))], [], H4, M4⟩) n _
        ⟨0, H3, M3, ra, rc, rb, rd, mx R, Dt.one, rfl, by omega, hT, pair2_one n _, ⟨fun j h => by omega, fun j h => by omega⟩, hdet, by rw [Nat.pow_zero]; exact hb, by rw [Nat.pow_zero]; exact bnd_one n, rfl⟩ sub_of ?_
      clear hT hb hdet
      rintro t s ⟨k, H4, M4, ra, rc, rb, rd, f, g, rfl, hk, hT, hp, hz, hdet, hbf, hbg, rfl⟩
      try simp only [go_sem, Nat.reduceEqDiff, Nat.reduceAdd, Nat.reduceBEq, ↓reduceIte]
      refine ev_if (fun cc => ?_) (fun cc => ?_)
      · have hkn : k < n := by omega
        have hp8 : 16 ^ k ≤ 16 ^ 4 := Nat.pow_le_pow_right (by decide) (by omega)
        have hp1 : 1 ≤ 16 ^ k := Nat.pos_of_ne_zero (fun h => by have := Nat.pow_pos (n := k) (show 0 < 16 by decide); omega)
        rw [show 16 ^ 4 = 65536 by decide] at hp8
        have hps : 81 * 16 ^ (k + 1) = 81 * 16 ^ k * 16 := by rw [Nat.pow_succ, Nat.mul_assoc]
        obtain ⟨L, hL⟩ : ∃ L, L = 81 * 16 ^ k := ⟨_, rfl⟩
        have hL1 : 81 ≤ L ∧ L ≤ 5308416 := by omega
        rw [← hL] at hbf hbg hps
        try simp only [go_sem, Nat.reduceEqDiff, Nat.reduceAdd, Nat.reduceBEq, ↓reduceIte]
        refine ev_loop (fun t s => ∃ (a : Nat) (H5 : PH), t = n - a ∧ k ≤ a ∧ a < n ∧ Two 43 58 H5 M4 g1 g2 n c1 c2 ra rc rb rd f g ∧ (∀ i, k ≤ i → i < a → f i k = 0) ∧
          s = ⟨[(7, .v (.int .i64 (a : Int))), (6, .v (.int .i64 (k : Int))), (5, .v (.slice (some ⟨g2, 0, none⟩) n c2)), (4, .v (.slice (some ⟨g1, 0, none⟩) n c1))], [], H5, M4⟩) (n - k) _
          ⟨k, H4, rfl, by omega, hkn, hT, fun i h1 h2 => by omega, rfl⟩ sub_of ?_
        clear hT
        rintro t s ⟨a, H5, rfl, hka, han, hT, hz0, rfl⟩
        obtain ⟨b4, hb4⟩ := hT.l.base han (show 0 < n by omega)
        try simp only [go_sem, Nat.reduceEqDiff, Nat.reduceAdd, Nat.reduceBEq, ↓reduceIte]
        refine ev_ia rfl (by omega) (by omega) ?_
        rw [Int.toNat_natCast]
        try simp only [go_sem, Nat.reduceEqDiff, Nat.reduceAdd, Nat.reduceBEq, ↓reduceIte]
        refine ev_ldTop hT.l han ?_
        rw [hb4]
        try simp only [go_sem, Nat.reduceEqDiff, Nat.reduceAdd, Nat.reduceBEq, ↓reduceIte]
        refine ev_ia rfl (by omega) (by show (k : Int) < (n : Int); omega) ?_
        rw [Int.toNat_natCast]
        try simp only [go_sem, Nat.reduceEqDiff, Nat.reduceAdd, Nat.reduceBEq, ↓reduceIte]
        refine ev_ldN hT.l han hb4 hkn ?_
        intro t7 A7 l7 e7 hN
        try simp only [go_sem, Nat.reduceEqDiff, Nat.reduceAdd, Nat.reduceBEq, ↓reduceIte]
        first | refine ev_call (rsign_ok _ _ _ hN) ?_ | refine ev_callP (rsign_ok _ _ _ hN) ?_
        rintro v_4 H_4 le_4 rfl _
        try simp only [go_sem, Nat.reduceEqDiff, Nat.reduceAdd, Nat.reduceBEq, ↓reduceIte]
        replace hT := hT.leH (by assumption) (by assumption)
        refine ev_if (fun c3 => ?_) (fun c3 => ?_)
        · have h0 : f a k = 0 := Classical.not_not.1 fun h => sgnI_num.2 h c3
          have hz1 : ∀ i, k ≤ i → i < a + 1 → f i k = 0 := fun i h1 h2 => by
            by_cases e : i = a
            · rw [e]; exact h0
            · exact hz0 i h1 (by omega)
          have han1 : a + 1 < n := Classical.not_not.1 fun h => hdet (hz.1.fail hkn (fun i h1 h2 => hz1 i h1 (by omega)))
          try simp only [go_sem, Nat.reduceEqDiff, Nat.reduceAdd, Nat.reduceBEq, ↓reduceIte]
          rw [w64 ((a : Int) + 1) (by omega) (by omega), show (a : Int) + 1 = ((a + 1 : Nat) : Int) by omega]
          exact k_next (n - (a + 1)) _ (by omega) ⟨a + 1, _, rfl, by omega, han1, hT, hz1, rfl⟩ sub_of
        · have hf0 : f a k ≠ 0 := sgnI_num.1 c3
          clear hN hb4
          try simp only [go_sem, Nat.reduceEqDiff, Nat.reduceAdd, Nat.reduceBEq, ↓reduceIte]
          refine ev_ia rfl (by omega) (by omega) ?_
          rw [Int.toNat_natCast]
          try simp only [go_sem, Nat.reduceEqDiff, Nat.reduceAdd, Nat.reduceBEq, ↓reduceIte]
          refine ev_ldTop hT.l hkn ?_
          try simp only [go_sem, Nat.reduceEqDiff, Nat.reduceAdd, Nat.reduceBEq, ↓reduceIte]
          refine ev_ia rfl (by omega) (by omega) ?_
          rw [Int.toNat_natCast]
          try simp only [go_sem, Nat.reduceEqDiff, Nat.reduceAdd, Nat.reduceBEq, ↓reduceIte]
          refine ev_ldTop hT.l han ?_
          try simp only [go_sem, Nat.reduceEqDiff, Nat.reduceAdd, Nat.reduceBEq, ↓reduceIte]
          refine ev_ia rfl (by omega) (by omega) ?_
          rw [Int.toNat_natCast]
          try simp only [go_sem, Nat.reduceEqDiff, Nat.reduceAdd, Nat.reduceBEq, ↓reduceIte]
          refine ev_stOF (x := (ra k, n, rc k)) hT.l.top han hT.d rfl (by simp [cellsL, Value.oneCell']) rfl ?_
          intro M51 hT3 hb3 hd3
          try simp only [go_sem, Nat.reduceEqDiff, Nat.reduceAdd, Nat.reduceBEq, ↓reduceIte]
          refine ev_ia rfl (by omega) (by omega) ?_
          rw [Int.toNat_natCast]
          try simp only [go_sem, Nat.reduceEqDiff, Nat.reduceAdd, Nat.reduceBEq, ↓reduceIte]
          refine ev_stOF (x := (ra a, n, rc a)) hT3 hkn (hd3 _ hT.d) rfl (by simp [cellsL, Value.oneCell']) rfl ?_
          intro M52 hT4 hbt4 hd4'
          replace hT := hT.swp han hkn hT4 hb3 hbt4 (hd4' _ (hd3 _ hT.d))
          clear hT3 hb3 hd3 hT4 hbt4 hd4'
          try simp only [go_sem, Nat.reduceEqDiff, Nat.reduceAdd, Nat.reduceBEq, ↓reduceIte]
          refine ev_ia rfl (by omega) (by omega) ?_
          rw [Int.toNat_natCast]
          try simp only [go_sem, Nat.reduceEqDiff, Nat.reduceAdd, Nat.reduceBEq, ↓reduceIte]
          refine ev_ldTop hT.o hkn ?_
          try simp only [go_sem, Nat.reduceEqDiff, Nat.reduceAdd, Nat.reduceBEq, ↓reduceIte]
          refine ev_ia rfl (by omega) (by omega) ?_
          rw [Int.toNat_natCast]
          try simp only [go_sem, Nat.reduceEqDiff, Nat.reduceAdd, Nat.reduceBEq, ↓reduceIte]
          refine ev_ldTop hT.o han ?_
          try simp only [go_sem, Nat.reduceEqDiff, Nat.reduceAdd, Nat.reduceBEq, ↓reduceIte]
          refine ev_ia rfl (by omega) (by omega) ?_
          rw [Int.toNat_natCast]
          try simp only [go_sem, Nat.reduceEqDiff, Nat.reduceAdd, Nat.reduceBEq, ↓reduceIte]
          refine ev_stOF (x := (rb k, n, rd k)) hT.o.top han hT.d rfl (by simp [cellsL, Value.oneCell']) rfl ?_
          intro M61 hT3 hb3 hd3
          try simp only [go_sem, Nat.reduceEqDiff, Nat.reduceAdd, Nat.reduceBEq, ↓reduceIte]
          refine ev_ia rfl (by omega) (by omega) ?_
          rw [Int.toNat_natCast]
          try simp only [go_sem, Nat.reduceEqDiff, Nat.reduceAdd, Nat.reduceBEq, ↓reduceIte]
          refine ev_stOF (x := (rb a, n, rd a)) hT3 hkn (hd3 _ hT.d) rfl (by simp [cellsL, Value.oneCell']) rfl ?_
          intro M62 hT4 hbt4 hd4'
          replace hT := (hT.flip.swp han hkn hT4 hb3 hbt4 (hd4' _ (hd3 _ hT.d))).flip
          clear hT3 hb3 hd3 hT4 hbt4 hd4'
          try simp only [go_sem, Nat.reduceEqDiff, Nat.reduceAdd, Nat.reduceBEq, ↓reduceIte]
          have hp4 := hp.swp han hkn
          have hz4 := hz.swp hka han
          have hbf4 := hbf.swp han hkn
          have hbg4 := hbg.swp han hkn
          have h0 : Dt.swpR f a k k k ≠ 0 := by
            unfold Dt.swpR
            by_cases e : k = a
            · rw [if_pos e]; rw [← e] at hf0; exact hf0
            · rw [if_neg e, if_pos rfl]; exact hf0
          have hdet4 : Dt.det n (Dt.swpR f a k) ≠ 0 := by
            by_cases e : a = k
            · rw [e, swp_self]
              exact hdet
            · rw [(Dt.rowF_det n).swp f a k han hkn e]
              intro h
              exact hdet (by grind)
          clear hp hz hbf hbg hdet hz0 hf0 c3
          generalize Dt.swpR f a k = f4 at *
          generalize Dt.swpR g a k = h4 at *
          generalize swpA ra a k = ra4 at *
          generalize swpA rc a k = rc4 at *
          generalize swpA rb a k = rb4 at *
          generalize swpA rd a k = rd4 at *
          obtain ⟨bk, hbk⟩ := hT.l.base hkn (show 0 < n by omega)
          obtain ⟨ok, hok⟩ := hT.o.base hkn (show 0 < n by omega)
          obtain ⟨x, hx⟩ : ∃ x, x = ((1 : Int) : Rat) / f4 k k := ⟨_, rfl⟩
          have bx : br x ≤ L + 2 := by
            have y1 := hbf4 k k hkn hkn
            have y2 := br_div ((1 : Int) : Rat) (f4 k k)
            have y3 : br ((1 : Int) : Rat) = 1 := by decide +kernel
            rw [hx]
            omega
          refine ev_cut (fun s => ∃ H' t9 A9 l9 c9 B9 m9 e9, Two 43 58 H' M62 g1 g2 n c1 c2 ra4 rc4 rb4 rd4 f4 h4 ∧ RRat H' (.agg #[.bool t9, .slice A9 l9 c9, .slice B9 m9 e9]) x ∧
            s = ⟨[(8, .ptr 8 0), (6, .v (.int .i64 (k : Int))), (5, .v (.slice (some ⟨g2, 0, none⟩) n c2)), (4, .v (.slice (some ⟨g1, 0, none⟩) n c1))], [(8, [.bool t9, .slice A9 l9 c9, .slice B9 m9 e9])], H', M62⟩) ?_ ?_
          · try simp only [go_sem, Nat.reduceEqDiff, Nat.reduceAdd, Nat.reduceBEq, ↓reduceIte]
            refine ev_ia rfl (by omega) (by omega) ?_
            rw [Int.toNat_natCast]
            try simp only [go_sem, Nat.reduceEqDiff, Nat.reduceAdd, Nat.reduceBEq, ↓reduceIte]
            refine ev_ldTop hT.l hkn ?_
            rw [hbk]
            try simp only [go_sem, Nat.reduceEqDiff, Nat.reduceAdd, Nat.reduceBEq, ↓reduceIte]
            refine ev_ia rfl (by omega) (by show (k : Int) < (n : Int); omega) ?_
            rw [Int.toNat_natCast]
            try simp only [go_sem, Nat.reduceEqDiff, Nat.reduceAdd, Nat.reduceBEq, ↓reduceIte]
            refine ev_ldEl hT.l hkn hbk hkn ?_
            intro us hq _
            obtain ⟨t9, A9, l9, c9, B9, m9, e9, hf⟩ := RRat.form hq
            have hq : RRat _ (.agg us.toArray) (f4 k k) := hq
            rw [hf] at hq ⊢
            clear hf
            have y1 := hbf4 k k hkn hkn
            have y0 : br ((1 : Int) : Rat) = 1 := by decide +kernel
            try simp only [go_sem, Nat.reduceEqDiff, Nat.reduceAdd, Nat.reduceBEq, ↓reduceIte]
            repeat' (with_reducible refine And.intro ?_ ?_)
            all_goals
              first | refine ev_call (rratOf_ok _ 1 (by decide) (by decide)) ?_ | refine ev_callP (rratOf_ok _ 1 (by decide) (by decide)) ?_
              rintro v_5 H_5 le_5 h10 _
              replace hq := hq.le le_5
              try simp only [go_sem, Nat.reduceEqDiff, Nat.reduceAdd, Nat.reduceBEq, ↓reduceIte]
              replace hT := hT.leH (by assumption) (by assumption)
              repeat' (with_reducible refine And.intro ?_ ?_)
              all_goals
                first | refine ev_call (rdivR_ok _ _ _ _ _ h10 hq (by omega) h0) ?_ | refine ev_callP (rdivR_ok _ _ _ _ _ h10 hq (by omega) h0) ?_
                rintro v_6 H_6 le_6 h11 _
                try simp only [go_sem, Nat.reduceEqDiff, Nat.reduceAdd, Nat.reduceBEq, ↓reduceIte]
                replace hT := hT.leH (by assumption) (by assumption)
                rw [← hx] at h11
                obtain ⟨t11, A11, l11, c11, B11, m11, e11, rfl⟩ := h11.form
                try simp only [go_sem, Nat.reduceEqDiff, Nat.reduceAdd, Nat.reduceBEq, ↓reduceIte]
                repeat' (with_reducible refine And.intro ?_ ?_)
                all_goals exact k_cut _ ⟨_, _, _, _, _, _, _, _, hT, h11, rfl⟩ sub_of
          · clear hT
            rintro s ⟨H6, t9, A9, l9, c9, B9, m9, e9, hT, h9, rfl⟩
            try simp only [go_sem, Nat.reduceEqDiff, Nat.reduceAdd, Nat.reduceBEq, ↓reduceIte]
            refine ev_loop (fun t s => ∃ (j : Nat) (H7 M7 : PH), t = n - j ∧ j ≤ n ∧ Two 43 58 H7 M7 g1 g2 n c1 c2 ra4 rc4 rb4 rd4 (scl1 f4 k x j) (scl1 h4 k x j) ∧ RRat H7 (.agg #[.bool t9, .slice A9 l9 c9, .slice B9 m9 e9]) x ∧
              s = ⟨[(9, .v (.int .i64 (j : Int))), (8, .ptr 8 0), (6, .v (.int .i64 (k : Int))), (5, .v (.slice (some ⟨g2, 0, none⟩) n c2)), (4, .v (.slice (some ⟨g1, 0, none⟩) n c1))], [(8, [.bool t9, .slice A9 l9 c9, .slice B9 m9 e9])], H7, M7⟩) n _
              ⟨0, H6, M62, rfl, by omega, hT.congr (fun r _ s _ => (scl1_0 _ _ _ _ _).symm) (fun r _ s _ => (scl1_0 _ _ _ _ _).symm), h9, rfl⟩ sub_of ?_
            clear hT h9
            rintro t s ⟨j, H7, M7, rfl, hj, hT, h9, rfl⟩
            try simp only [go_sem, Nat.reduceEqDiff, Nat.reduceAdd, Nat.reduceBEq, ↓reduceIte]
            refine ev_if (fun c4 => ?_) (fun c4 => ?_)
            · have hjn : j < n := by omega
              have y1 := hbf4 k j hkn hjn
              have y2 := hbg4 k j hkn hjn
              try simp only [go_sem, Nat.reduceEqDiff, Nat.reduceAdd, Nat.reduceBEq, ↓reduceIte]
              refine ev_ia rfl (by omega) (by omega) ?_
              rw [Int.toNat_natCast]
              try simp only [go_sem, Nat.reduceEqDiff, Nat.reduceAdd, Nat.reduceBEq, ↓reduceIte]
              refine ev_ldTop hT.l hkn ?_
              rw [hbk]
              try simp only [go_sem, Nat.reduceEqDiff, Nat.reduceAdd, Nat.reduceBEq, ↓reduceIte]
              refine ev_ia rfl (by omega) (by omega) ?_
              rw [Int.toNat_natCast]
              try simp only [go_sem, Nat.reduceEqDiff, Nat.reduceAdd, Nat.reduceBEq, ↓reduceIte]
              refine ev_ldTop hT.l hkn ?_
              rw [hbk]
              try simp only [go_sem, Nat.reduceEqDiff, Nat.reduceAdd, Nat.reduceBEq, ↓reduceIte]
              refine ev_ia rfl (by omega) (by show (j : Int) < (n : Int); omega) ?_
              rw [Int.toNat_natCast]
              try simp only [go_sem, Nat.reduceEqDiff, Nat.reduceAdd, Nat.reduceBEq, ↓reduceIte]
              refine ev_ldEl hT.l hkn hbk hjn ?_
              intro us hq _
              obtain ⟨t12, A12, l12, c12, B12, m12, e12, hf⟩ := RRat.form hq
              have hq : RRat _ (.agg us.toArray) (scl1 f4 k x j k j) := hq
              rw [scl1_at] at hq
              rw [hf] at hq ⊢
              clear hf
              try simp only [go_sem, Nat.reduceEqDiff, Nat.reduceAdd, Nat.reduceBEq, ↓reduceIte]
              first | refine ev_call (rmulR_ok _ _ _ _ _ hq h9 (by omega)) ?_ | refine ev_callP (rmulR_ok _ _ _ _ _ hq h9 (by omega)) ?_
              rintro v_7 H_7 le_7 h14 _
              replace h9 := h9.le le_7
              try simp only [go_sem, Nat.reduceEqDiff, Nat.reduceAdd, Nat.reduceBEq, ↓reduceIte]
              replace hT := hT.leH (by assumption) (by assumption)
              obtain ⟨t15, A15, l15, c15, B15, m15, e15, rfl⟩ := h14.form
              try simp only [go_sem, Nat.reduceEqDiff, Nat.reduceAdd, Nat.reduceBEq, ↓reduceIte]
              refine ev_ia rfl (by omega) (by show (j : Int) < (n : Int); omega) ?_
              rw [Int.toNat_natCast]
              try simp only [go_sem, Nat.reduceEqDiff, Nat.reduceAdd, Nat.reduceBEq, ↓reduceIte]
              refine ev_stL (x := f4 k j * x) hT hkn hbk hjn rfl (by simp [cellsL, Value.oneCell']) h14 ?_
              intro Ml8 hT

              try simp only [go_sem, Nat.reduceEqDiff, Nat.reduceAdd, Nat.reduceBEq, ↓reduceIte]
              refine ev_ia rfl (by omega) (by omega) ?_
              rw [Int.toNat_natCast]
              try simp only [go_sem, Nat.reduceEqDiff, Nat.reduceAdd, Nat.reduceBEq, ↓reduceIte]
              refine ev_ldTop hT.o hkn ?_
              rw [hok]
              try simp only [go_sem, Nat.reduceEqDiff, Nat.reduceAdd, Nat.reduceBEq, ↓reduceIte]
              refine ev_ia rfl (by omega) (by omega) ?_
              rw [Int.toNat_natCast]
              try simp only [go_sem, Nat.reduceEqDiff, Nat.reduceAdd, Nat.reduceBEq, ↓reduceIte]
              refine ev_ldTop hT.o hkn ?_
              rw [hok]
              try simp only [go_sem, Nat.reduceEqDiff, Nat.reduceAdd, Nat.reduceBEq, ↓reduceIte]
              refine ev_ia rfl (by omega) (by show (j : Int) < (n : Int); omega) ?_
              rw [Int.toNat_natCast]
              try simp only [go_sem, Nat.reduceEqDiff, Nat.reduceAdd, Nat.reduceBEq, ↓reduceIte]
              refine ev_ldEl hT.o hkn hok hjn ?_
              intro us hq _
              obtain ⟨t12, A12, l12, c12, B12, m12, e12, hf⟩ := RRat.form hq
              have hq : RRat _ (.agg us.toArray) (scl1 h4 k x j k j) := hq
              rw [scl1_at] at hq
              rw [hf] at hq ⊢
              clear hf
              try simp only [go_sem, Nat.reduceEqDiff, Nat.reduceAdd, Nat.reduceBEq, ↓reduceIte]
              first | refine ev_call (rmulR_ok _ _ _ _ _ hq h9 (by omega)) ?_ | refine ev_callP (rmulR_ok _ _ _ _ _ hq h9 (by omega)) ?_
              rintro v_8 H_8 le_8 h14 _
              replace h9 := h9.le le_8
              try simp only [go_sem, Nat.reduceEqDiff, Nat.reduceAdd, Nat.reduceBEq, ↓reduceIte]
              replace hT := hT.leH (by assumption) (by assumption)
              obtain ⟨t15, A15, l15, c15, B15, m15, e15, rfl⟩ := h14.form
              try simp only [go_sem, Nat.reduceEqDiff, Nat.reduceAdd, Nat.reduceBEq, ↓reduceIte]
              refine ev_ia rfl (by omega) (by show (j : Int) < (n : Int); omega) ?_
              rw [Int.toNat_natCast]
              try simp only [go_sem, Nat.reduceEqDiff, Nat.reduceAdd, Nat.reduceBEq, ↓reduceIte]
              refine ev_stL (x := h4 k j * x) hT.flip hkn hok hjn rfl (by simp [cellsL, Value.oneCell']) h14 ?_
              intro Mo8 hT
              replace hT := hT.flip
              try simp only [go_sem, Nat.reduceEqDiff, Nat.reduceAdd, Nat.reduceBEq, ↓reduceIte]
              rw [w64 ((j : Int) + 1) (by omega) (by omega), show (j : Int) + 1 = ((j + 1 : Nat) : Int) by omega]
              exact k_next (n - (j + 1)) _ (by omega) ⟨j + 1, _, _, rfl, by omega, hT.congr (fun r _ s _ => scl1_up _ _ _ _ _ _) (fun r _ s _ => scl1_up _ _ _ _ _ _), h9, rfl⟩ sub_of
            · have hjn : j = n := by omega
              subst hjn
              clear h9
              have hp5 := hp4.scl (k := k) (x := x)
              have hz5 := hz4.scl (x := x) hkn
              have hbf5 := bnd_scl hbf4 hkn bx
              have hbg5 := bnd_scl hbg4 hkn bx
              have hdet5 : Dt.det j (scl1 f4 k x j) ≠ 0 := by
                rw [det_scl hkn]
                intro h
                rcases Rat.mul_eq_zero.1 h with h | h
                · rw [hx] at h
                  have : ((1 : Int) : Rat) = 0 := by
                    have h2 : f4 k k * (((1 : Int) : Rat) / f4 k k) = ((1 : Int) : Rat) := by grind
                    rw [← h2, h]
                    grind
                  revert this
                  decide +kernel
                · exact hdet4 h
              have h15 : scl1 f4 k x j k k = 1 := by
                unfold scl1
                rw [if_pos ⟨rfl, hkn⟩, hx]
                have : ((1 : Int) : Rat) = 1 := rfl
                rw [this]
                grind
              clear hp4 hz4 hbf4 hbg4 hdet4 h0
              generalize scl1 f4 k x j = f5 at *
              generalize scl1 h4 k x j = h5' at *
              clear hx bx
              try simp only [go_sem, Nat.reduceEqDiff, Nat.reduceAdd, Nat.reduceBEq, ↓reduceIte]
              refine ev_loop (fun t s => ∃ (i : Nat) (H8 M8 : PH), t = j - i ∧ i ≤ j ∧ Two 43 58 H8 M8 g1 g2 j c1 c2 ra4 rc4 rb4 rd4 (tk f5 f5 k i) (tk f5 h5' k i) ∧
                s = ⟨[(10, .v (.int .i64 (i : Int))), (6, .v (.int .i64 (k : Int))), (5, .v (.slice (some ⟨g2, 0, none⟩) j c2)), (4, .v (.slice (some ⟨g1, 0, none⟩) j c1))], [], H8, M8⟩) j _
                ⟨0, H7, M7, rfl, by omega, hT.congr (fun r _ s _ => (tk_0 _ _ _ _ _).symm) (fun r _ s _ => (tk_0 _ _ _ _ _).symm), rfl⟩ sub_of ?_
              clear hT
              rintro t s ⟨i, H8, M8, rfl, hi, hT, rfl⟩
              try simp only [go_sem, Nat.reduceEqDiff, Nat.reduceAdd, Nat.reduceBEq, ↓reduceIte]
              refine ev_if (fun c5 => ?_) (fun c5 => ?_)
              · have hin : i < j := by omega
                obtain ⟨bi, hbi⟩ := hT.l.base hin (show 0 < j by omega)
                obtain ⟨oi, hoi⟩ := hT.o.base hin (show 0 < j by omega)
                try simp only [go_sem, Nat.reduceEqDiff, Nat.reduceAdd, Nat.reduceBEq, ↓reduceIte]
                refine ev_ia rfl (by omega) (by omega) ?_
                rw [Int.toNat_natCast]
                try simp only [go_sem, Nat.reduceEqDiff, Nat.reduceAdd, Nat.reduceBEq, ↓reduceIte]
                refine ev_ldTop hT.l hin ?_
                rw [hbi]
                try simp only [go_sem, Nat.reduceEqDiff, Nat.reduceAdd, Nat.reduceBEq, ↓reduceIte]
                refine ev_ia rfl (by omega) (by show (k : Int) < (j : Int); omega) ?_
                rw [Int.toNat_natCast]
                try simp only [go_sem, Nat.reduceEqDiff, Nat.reduceAdd, Nat.reduceBEq, ↓reduceIte]
                refine ev_ldEl hT.l hin hbi hkn ?_
                intro us hy _
                obtain ⟨t9, A9, l9, c9, B9, m9, e9, hf⟩ := RRat.form hy
                have hy : RRat H8 (.agg us.toArray) (tk f5 f5 k i i k) := hy
                rw [tk_at] at hy
                rw [hf] at hy ⊢
                clear hf
                try simp only [go_sem, Nat.reduceEqDiff, Nat.reduceAdd, Nat.reduceBEq, ↓reduceIte]
                refine ev_loop (fun t s => ∃ (q : Nat) (H9 M9 : PH), t = j - q ∧ q ≤ j ∧ (i = k → q = 0) ∧ Two 43 58 H9 M9 g1 g2 j c1 c2 ra4 rc4 rb4 rd4 (tk1 f5 f5 k i q) (tk1 f5 h5' k i q) ∧ RRat H9 (.agg #[.bool t9, .slice A9 l9 c9, .slice B9 m9 e9]) (f5 i k) ∧
                  s = ⟨[(12, .v (.int .i64 (q : Int))), (11, .ptr 11 0), (10, .v (.int .i64 (i : Int))), (6, .v (.int .i64 (k : Int))), (5, .v (.slice (some ⟨g2, 0, none⟩) j c2)), (4, .v (.slice (some ⟨g1, 0, none⟩) j c1))], [(11, [.bool t9, .slice A9 l9 c9, .slice B9 m9 e9])], H9, M9⟩) j _
                  ⟨0, H8, M8, rfl, by omega, fun _ => rfl, hT.congr (fun r _ s _ => (tk1_0 _ _ _ _ _ _).symm) (fun r _ s _ => (tk1_0 _ _ _ _ _ _).symm), hy, rfl⟩ sub_of ?_
                clear hT hy
                rintro t s ⟨q, H9, M9, rfl, hq, hiq, hT, hy, rfl⟩
                try simp only [go_sem, Nat.reduceEqDiff, Nat.reduceAdd, Nat.reduceBEq, ↓reduceIte]
                refine ev_if (fun c6 => ?_) (fun c6 => ?_)
                · have hqj : q < j := by omega
                  try simp only [go_sem, Nat.reduceEqDiff, Nat.reduceAdd, Nat.reduceBEq, ↓reduceIte]
                  refine ev_if (fun c7 => ?_) (fun c7 => ?_)
                  · have hik : i ≠ k := by omega
                    have y1 := hbf5 i q hin hqj
                    have y2 := hbf5 k q hkn hqj
                    have y3 := hbf5 i k hin hkn
                    have y4 := hbg5 i q hin hqj
                    have y5 := hbg5 k q hkn hqj
                    have y6 := br_mul (f5 i k) (f5 k q)
                    have y7 := br_mul (f5 i k) (h5' k q)
                    try simp only [go_sem, Nat.reduceEqDiff, Nat.reduceAdd, Nat.reduceBEq, ↓reduceIte]
                    refine ev_ia rfl (by omega) (by omega) ?_
                    rw [Int.toNat_natCast]
                    try simp only [go_sem, Nat.reduceEqDiff, Nat.reduceAdd, Nat.reduceBEq, ↓reduceIte]
                    refine ev_ldTop hT.l hin ?_
                    rw [hbi]
                    try simp only [go_sem, Nat.reduceEqDiff, Nat.reduceAdd, Nat.reduceBEq, ↓reduceIte]
                    refine ev_ia rfl (by omega) (by omega) ?_
                    rw [Int.toNat_natCast]
                    try simp only [go_sem, Nat.reduceEqDiff, Nat.reduceAdd, Nat.reduceBEq, ↓reduceIte]
                    refine ev_ldTop hT.l hin ?_
                    rw [hbi]
                    try simp only [go_sem, Nat.reduceEqDiff, Nat.reduceAdd, Nat.reduceBEq, ↓reduceIte]
                    refine ev_ia rfl (by omega) (by show (q : Int) < (j : Int); omega) ?_
                    rw [Int.toNat_natCast]
                    try simp only [go_sem, Nat.reduceEqDiff, Nat.reduceAdd, Nat.reduceBEq, ↓reduceIte]
                    refine ev_ldEl hT.l hin hbi hqj ?_
                    intro us hu _
                    obtain ⟨t12, A12, l12, c12, B12, m12, e12, hf⟩ := RRat.form hu
                    have hu : RRat _ (.agg us.toArray) (tk1 f5 f5 k i q i q) := hu
                    rw [tk1_at] at hu
                    rw [hf] at hu ⊢
                    clear hf
                    try simp only [go_sem, Nat.reduceEqDiff, Nat.reduceAdd, Nat.reduceBEq, ↓reduceIte]
                    refine ev_ia rfl (by omega) (by omega) ?_
                    rw [Int.toNat_natCast]
                    try simp only [go_sem, Nat.reduceEqDiff, Nat.reduceAdd, Nat.reduceBEq, ↓reduceIte]
                    refine ev_ldTop hT.l hkn ?_
                    rw [hbk]
                    try simp only [go_sem, Nat.reduceEqDiff, Nat.reduceAdd, Nat.reduceBEq, ↓reduceIte]
                    refine ev_ia rfl (by omega) (by show (q : Int) < (j : Int); omega) ?_
                    rw [Int.toNat_natCast]
                    try simp only [go_sem, Nat.reduceEqDiff, Nat.reduceAdd, Nat.reduceBEq, ↓reduceIte]
                    refine ev_ldEl hT.l hkn hbk hqj ?_
                    intro us hw _
                    obtain ⟨t13, A13, l13, c13, B13, m13, e13, hf⟩ := RRat.form hw
                    have hw : RRat _ (.agg us.toArray) (tk1 f5 f5 k i q k q) := hw
                    rw [tk1_k _ _ _ _ _ _ hik] at hw
                    rw [hf] at hw ⊢
                    clear hf
                    try simp only [go_sem, Nat.reduceEqDiff, Nat.reduceAdd, Nat.reduceBEq, ↓reduceIte]
                    first | refine ev_call (rmulR_ok _ _ _ _ _ hy hw (by omega)) ?_ | refine ev_callP (rmulR_ok _ _ _ _ _ hy hw (by omega)) ?_
                    rintro v_9 H_9 le_9 h14 _
                    replace hy := hy.le le_9
                    replace hu := hu.le le_9
                    try simp only [go_sem, Nat.reduceEqDiff, Nat.reduceAdd, Nat.reduceBEq, ↓reduceIte]
                    replace hT := hT.leH (by assumption) (by assumption)
                    first | refine ev_call (rsubR_ok _ _ _ _ _ hu h14 (by omega)) ?_ | refine ev_callP (rsubR_ok _ _ _ _ _ hu h14 (by omega)) ?_
                    rintro v_10 H_10 le_10 h16 _
                    replace hy := hy.le le_10
                    try simp only [go_sem, Nat.reduceEqDiff, Nat.reduceAdd, Nat.reduceBEq, ↓reduceIte]
                    replace hT := hT.leH (by assumption) (by assumption)
                    obtain ⟨t15, A15, l15, c15, B15, m15, e15, rfl⟩ := h16.form
                    try simp only [go_sem, Nat.reduceEqDiff, Nat.reduceAdd, Nat.reduceBEq, ↓reduceIte]
                    refine ev_ia rfl (by omega) (by show (q : Int) < (j : Int); omega) ?_
                    rw [Int.toNat_natCast]
                    try simp only [go_sem, Nat.reduceEqDiff, Nat.reduceAdd, Nat.reduceBEq, ↓reduceIte]
                    refine ev_stL (x := f5 i q - f5 i k * f5 k q) hT hin hbi hqj rfl (by simp [cellsL, Value.oneCell']) h16 ?_
                    intro Ml9 hT

                    try simp only [go_sem, Nat.reduceEqDiff, Nat.reduceAdd, Nat.reduceBEq, ↓reduceIte]
                    refine ev_ia rfl (by omega) (by omega) ?_
                    rw [Int.toNat_natCast]
                    try simp only [go_sem, Nat.reduceEqDiff, Nat.reduceAdd, Nat.reduceBEq, ↓reduceIte]
                    refine ev_ldTop hT.o hin ?_
                    rw [hoi]
                    try simp only [go_sem, Nat.reduceEqDiff, Nat.reduceAdd, Nat.reduceBEq, ↓reduceIte]
                    refine ev_ia rfl (by omega) (by omega) ?_
                    rw [Int.toNat_natCast]
                    try simp only [go_sem, Nat.reduceEqDiff, Nat.reduceAdd, Nat.reduceBEq, ↓reduceIte]
                    refine ev_ldTop hT.o hin ?_
                    rw [hoi]
                    try simp only [go_sem, Nat.reduceEqDiff, Nat.reduceAdd, Nat.reduceBEq, ↓reduceIte]
                    refine ev_ia rfl (by omega) (by show (q : Int) < (j : Int); omega) ?_
                    rw [Int.toNat_natCast]
                    try simp only [go_sem, Nat.reduceEqDiff, Nat.reduceAdd, Nat.reduceBEq, ↓reduceIte]
                    refine ev_ldEl hT.o hin hoi hqj ?_
                    intro us hu _
                    obtain ⟨t12, A12, l12, c12, B12, m12, e12, hf⟩ := RRat.form hu
                    have hu : RRat _ (.agg us.toArray) (tk1 f5 h5' k i q i q) := hu
                    rw [tk1_at] at hu
                    rw [hf] at hu ⊢
                    clear hf
                    try simp only [go_sem, Nat.reduceEqDiff, Nat.reduceAdd, Nat.reduceBEq, ↓reduceIte]
                    refine ev_ia rfl (by omega) (by omega) ?_
                    rw [Int.toNat_natCast]
                    try simp only [go_sem, Nat.reduceEqDiff, Nat.reduceAdd, Nat.reduceBEq, ↓reduceIte]
                    refine ev_ldTop hT.o hkn ?_
                    rw [hok]
                    try simp only [go_sem, Nat.reduceEqDiff, Nat.reduceAdd, Nat.reduceBEq, ↓reduceIte]
                    refine ev_ia rfl (by omega) (by show (q : Int) < (j : Int); omega) ?_
                    rw [Int.toNat_natCast]
                    try simp only [go_sem, Nat.reduceEqDiff, Nat.reduceAdd, Nat.reduceBEq, ↓reduceIte]
                    refine ev_ldEl hT.o hkn hok hqj ?_
                    intro us hw _
                    obtain ⟨t13, A13, l13, c13, B13, m13, e13, hf⟩ := RRat.form hw
                    have hw : RRat _ (.agg us.toArray) (tk1 f5 h5' k i q k q) := hw
                    rw [tk1_k _ _ _ _ _ _ hik] at hw
                    rw [hf] at hw ⊢
                    clear hf
                    try simp only [go_sem, Nat.reduceEqDiff, Nat.reduceAdd, Nat.reduceBEq, ↓reduceIte]
                    first | refine ev_call (rmulR_ok _ _ _ _ _ hy hw (by omega)) ?_ | refine ev_callP (rmulR_ok _ _ _ _ _ hy hw (by omega)) ?_
                    rintro v_11 H_11 le_11 h14 _
                    replace hy := hy.le le_11
                    replace hu := hu.le le_11
                    try simp only [go_sem, Nat.reduceEqDiff, Nat.reduceAdd, Nat.reduceBEq, ↓reduceIte]
                    replace hT := hT.leH (by assumption) (by assumption)
                    first | refine ev_call (rsubR_ok _ _ _ _ _ hu h14 (by omega)) ?_ | refine ev_callP (rsubR_ok _ _ _ _ _ hu h14 (by omega)) ?_
                    rintro v_12 H_12 le_12 h16 _
                    replace hy := hy.le le_12
                    try simp only [go_sem, Nat.reduceEqDiff, Nat.reduceAdd, Nat.reduceBEq, ↓reduceIte]
                    replace hT := hT.leH (by assumption) (by assumption)
                    obtain ⟨t15, A15, l15, c15, B15, m15, e15, rfl⟩ := h16.form
                    try simp only [go_sem, Nat.reduceEqDiff, Nat.reduceAdd, Nat.reduceBEq, ↓reduceIte]
                    refine ev_ia rfl (by omega) (by show (q : Int) < (j : Int); omega) ?_
                    rw [Int.toNat_natCast]
                    try simp only [go_sem, Nat.reduceEqDiff, Nat.reduceAdd, Nat.reduceBEq, ↓reduceIte]
                    refine ev_stL (x := h5' i q - f5 i k * h5' k q) hT.flip hin hoi hqj rfl (by simp [cellsL, Value.oneCell']) h16 ?_
                    intro Mo9 hT
                    replace hT := hT.flip
                    try simp only [go_sem, Nat.reduceEqDiff, Nat.reduceAdd, Nat.reduceBEq, ↓reduceIte]
                    rw [w64 ((q : Int) + 1) (by omega) (by omega), show (q : Int) + 1 = ((q + 1 : Nat) : Int) by omega]
                    exact k_next (j - (q + 1)) _ (by omega) ⟨q + 1, _, _, rfl, by omega, fun h => absurd h hik, hT.congr (fun r _ s _ => tk1_up _ _ _ _ _ _ _) (fun r _ s _ => tk1_up _ _ _ _ _ _ _), hy, rfl⟩ sub_of
                  · have hik : i = k := by
                      have := Classical.not_not.1 c7
                      omega
                    have hq0 := hiq hik
                    subst hq0
                    subst hik
                    have hT' := hT.congr (f' := tk f5 f5 i (i + 1)) (g' := tk f5 h5' i (i + 1)) (fun r _ s _ => by rw [tk1_0, tk_skip]) (fun r _ s _ => by rw [tk1_0, tk_skip])
                    try simp only [go_sem, Nat.reduceEqDiff, Nat.reduceAdd, Nat.reduceBEq, ↓reduceIte]
                    rw [w64 ((i : Int) + 1) (by omega) (by omega), show (i : Int) + 1 = ((i + 1 : Nat) : Int) by omega]
                    exact k_next (j - (i + 1)) _ (by omega) ⟨i + 1, H9, M9, rfl, by omega, hT', rfl⟩ sub_of
                · have hqj : q = j := by omega
                  have hik : i ≠ k := fun h => by have := hiq h; omega
                  have hT' := hT.congr (f' := tk f5 f5 k (i + 1)) (g' := tk f5 h5' k (i + 1)) (fun r _ s hs => by rw [hqj]; exact tk1_n _ _ _ _ _ _ _ hik hs) (fun r _ s hs => by rw [hqj]; exact tk1_n _ _ _ _ _ _ _ hik hs)
                  try simp only [go_sem, Nat.reduceEqDiff, Nat.reduceAdd, Nat.reduceBEq, ↓reduceIte]
                  rw [w64 ((i : Int) + 1) (by omega) (by omega), show (i : Int) + 1 = ((i + 1 : Nat) : Int) by omega]
                  exact k_next (j - (i + 1)) _ (by omega) ⟨i + 1, H9, M9, rfl, by omega, hT', rfl⟩ sub_of
              · have hin : i = j := by omega
                subst hin
                try simp only [go_sem, Nat.reduceEqDiff, Nat.reduceAdd, Nat.reduceBEq, ↓reduceIte]
                rw [w64 ((k : Int) + 1) (by omega) (by omega), show (k : Int) + 1 = ((k + 1 : Nat) : Int) by omega]
                exact k_next (i - (k + 1)) _ (by omega) ⟨k + 1, H8, M8, ra4, rc4, rb4, rd4, tk f5 f5 k i, tk f5 h5' k i, rfl, by omega, hT, hp5.tk hkn, hz5.next hkn h15, by rw [det_tk hkn h15]; exact hdet5, (bnd_tk hbf5 hbf5 hkn).up (by omega), (bnd_tk hbf5 hbg5 hkn).up (by omega), rfl⟩ sub_of
      · have hkn : k = n := by omega
        subst hkn
        try simp only [go_sem, Nat.reduceEqDiff, Nat.reduceAdd, Nat.reduceBEq, ↓reduceIte]
        exact fun hd => .inr ⟨hs, _, _, g, rfl, hT.o.mat RRatC.grows hd, hz.done hp⟩

end Go.Proofs.YtccdhgjfcgfgoaaGreat.X
set_option linter.unusedVariables false
set_option linter.unusedSimpArgs false
namespace Go.Proofs.YtccdhgjfcgfgoaaGreat.X
open Go Go.RowKit Go.Proofs

theorem isNil_ok (H : PH) : FnP Tryz.prog 14 [.slice none 0 0, .slice none 0 0] H fun v _ => v = .bool true :=
  isM_ok H none none 0 0 0 (fun _ => (0, fun _ => 0)) ArrF.nil ArrF.nil (by decide) (fun i hi => by omega) (fun i hi => by omega)

set_option maxHeartbeats 4000000 in
theorem MatInverses_ok (H : PH) (A0 : Option Addr) (n c0 : Nat) (R : Nat → Rw ByteArray) (hA : MatH 1 StrC H A0 n R) (hn : n ≤ 9223372036854775807) (hr : ∀ i, i < n → (R i).1 ≤ 9223372036854775807) :
    FnP Tryz.prog 3 [.slice A0 n c0] H fun v _ => v = .bool true := by
  replace hA : MS H A0 n R := hA
  refine of_cincturelaw11_MatInverses (by simp) ?_
  try simp only [go_sem, Nat.reduceEqDiff, Nat.reduceAdd, Nat.reduceBEq, ↓reduceIte, p_cincturelaw11_MatInverses]
  first | refine ev_call (alive11_ok _) ?_ | refine ev_callP (alive11_ok _) ?_
  rintro v_1 H_1 le_1 rfl _
  replace hA := hA.le le_1
  try simp only [go_sem, Nat.reduceEqDiff, Nat.reduceAdd, Nat.reduceBEq, ↓reduceIte]
  first | refine ev_call (qraw2_ok _ A0 n c0 R hA hn hr) ?_ | refine ev_callP (qraw2_ok _ A0 n c0 R hA hn hr) ?_
  rintro v_2 H_2 le_2 ⟨A1, c1, A2, c2, rfl, hP, hX⟩ _
  try simp only [go_sem, Nat.reduceEqDiff, Nat.reduceAdd, Nat.reduceBEq, ↓reduceIte]
  have bP := @raw_bnd R (min n 5)
  generalize rawR R = P at *
  have hN5 : min n 5 ≤ 5 := by omega
  generalize min n 5 = N at *
  clear hA hr hn
  first | refine ev_call (det_ok _ A1 N c1 P hP (by omega) (fun _ => hN5) (fun h => (bP h).up (by decide))) ?_ | refine ev_callP (det_ok _ A1 N c1 P hP (by omega) (fun _ => hN5) (fun h => (bP h).up (by decide))) ?_
  rintro v_3 H_3 le_3 ⟨w1, rfl, v1⟩ _
  replace hP := hP.le le_3
  replace hX := hX.le le_3
  try simp only [go_sem, Nat.reduceEqDiff, Nat.reduceAdd, Nat.reduceBEq, ↓reduceIte]
  obtain ⟨D1, x1, y1, z1, E1, f1, g1, rfl⟩ := v1.form
  try simp only [go_sem, Nat.reduceEqDiff, Nat.reduceAdd, Nat.reduceBEq, ↓reduceIte]
  first | refine ev_call (xDet_ok _ A2 N c2 P hX hN5 (fun h => (bP h).up (by decide))) ?_ | refine ev_callP (xDet_ok _ A2 N c2 P hX hN5 (fun h => (bP h).up (by decide))) ?_
  rintro v_4 H_4 le_4 ⟨w2, rfl, v2⟩ _
  replace hP := hP.le le_4
  replace hX := hX.le le_4
  replace v1 := v1.le le_4
  try simp only [go_sem, Nat.reduceEqDiff, Nat.reduceAdd, Nat.reduceBEq, ↓reduceIte]
  obtain ⟨z2, D2, x2, y2, E2, f2, g2, rfl⟩ := v2.form
  try simp only [go_sem, Nat.reduceEqDiff, Nat.reduceAdd, Nat.reduceBEq, ↓reduceIte]
  refine ev_call (minv_ok _ A1 N c1 P hP (by omega) (fun _ => hN5) (fun h => (bP h).up (by decide))) ?_
  rintro v9 H9 le9 hI _
  replace hX := hX.le le9
  replace v1 := v1.le le9
  replace v2 := v2.le le9
  cases hs : sqB N P with
  | false =>
    rw [hs, if_neg (by simp)] at v1 v2
    rcases hI with ⟨rfl, _⟩ | ⟨h, _⟩
    · try simp only [go_sem, Nat.reduceEqDiff, Nat.reduceAdd, Nat.reduceBEq, ↓reduceIte]
      refine ev_call (xinv_ok _ A2 N c2 P hX hN5 bP) ?_
      rintro v10 H10 le10 hJ _
      replace v1 := v1.le le10
      rcases hJ with ⟨rfl, _⟩ | ⟨h, _⟩
      · try simp only [go_sem, Nat.reduceEqDiff, Nat.reduceAdd, Nat.reduceBEq, ↓reduceIte, hs]
        first | refine ev_call (rsgn_ok _ _ _ v1 (by decide +kernel)) ?_ | refine ev_callP (rsgn_ok _ _ _ v1 (by decide +kernel)) ?_
        rintro v_5 H_5 le_5 rfl _
        try simp only [go_sem, Nat.reduceEqDiff, Nat.reduceAdd, Nat.reduceBEq, ↓reduceIte]
        refine ev_pos (by trivial) ?_
        try simp only [go_sem, Nat.reduceEqDiff, Nat.reduceAdd, Nat.reduceBEq, ↓reduceIte]
        first | refine ev_call (isNil_ok _) ?_ | refine ev_callP (isNil_ok _) ?_
        rintro v_6 H_6 le_6 rfl _
        try simp only [go_sem, Nat.reduceEqDiff, Nat.reduceAdd, Nat.reduceBEq, ↓reduceIte]
        exact ⟨by trivial, by trivial⟩
      · rw [hs] at h; cases h
    · rw [hs] at h; cases h
  | true =>
    rw [hs, if_pos rfl] at v1 v2
    have bP := bP hs
    have d1 := br_det' hN5 (bP.up (show 81 ≤ 4000 by decide))
    rcases hI with ⟨rfl, h0⟩ | ⟨_, A5, e5, X, rfl, hX5, hI5⟩
    · have h0 := h0 hs
      try simp only [go_sem, Nat.reduceEqDiff, Nat.reduceAdd, Nat.reduceBEq, ↓reduceIte]
      refine ev_call (xinv_ok _ A2 N c2 P hX hN5 (fun _ => bP)) ?_
      rintro v10 H10 le10 hJ _
      replace v1 := v1.le le10
      replace v2 := v2.le le10
      rcases hJ with ⟨rfl, _⟩ | ⟨_, A6, e6, Y, rfl, hY6, hI6⟩
      · skip
        try simp only [go_sem, Nat.reduceEqDiff, Nat.reduceAdd, Nat.reduceBEq, ↓reduceIte, hs]
        first | refine ev_call (isQ_ok _ _ _ _ v1 v2 (by omega)) ?_ | refine ev_callP (isQ_ok _ _ _ _ v1 v2 (by omega)) ?_
        rintro v_7 H_7 le_7 rfl _
        try simp only [go_sem, Nat.reduceEqDiff, Nat.reduceAdd, Nat.reduceBEq, ↓reduceIte]
        first | refine ev_call (isNil_ok _) ?_ | refine ev_callP (isNil_ok _) ?_
        rintro v_8 H_8 le_8 rfl _
        try simp only [go_sem, Nat.reduceEqDiff, Nat.reduceAdd, Nat.reduceBEq, ↓reduceIte]
        exact ⟨by trivial, by trivial⟩
      · exact absurd h0 (Dt.inv_ne hI6)
    · replace hX5 : SM _ A5 N X := hX5
      try simp only [go_sem, Nat.reduceEqDiff, Nat.reduceAdd, Nat.reduceBEq, ↓reduceIte]
      refine ev_call (xinv_ok _ A2 N c2 P hX hN5 (fun _ => bP)) ?_
      rintro v10 H10 le10 hJ _
      replace v1 := v1.le le10
      replace v2 := v2.le le10
      replace hX5 := hX5.le le10
      rcases hJ with ⟨rfl, h0⟩ | ⟨_, A6, e6, Y, rfl, hY6, hI6⟩
      · exact absurd (h0 hs) (Dt.inv_ne hI5)
      · have hY : MX _ A6 N (rect N X) := MatH.congr hY6 fun i hi => ⟨rfl, fun k hk => Dt.inv_uniq hI6 hI5 i hi k hk⟩
        have bX := inv_bnd hN5 bP hI5
        try simp only [go_sem, Nat.reduceEqDiff, Nat.reduceAdd, Nat.reduceBEq, ↓reduceIte, hs]
        first | refine ev_call (isQ_ok _ _ _ _ v1 v2 (by omega)) ?_ | refine ev_callP (isQ_ok _ _ _ _ v1 v2 (by omega)) ?_
        rintro v_9 H_9 le_9 rfl _
        replace hX5 := hX5.le le_9
        replace hY := hY.le le_9
        try simp only [go_sem, Nat.reduceEqDiff, Nat.reduceAdd, Nat.reduceBEq, ↓reduceIte]
        first | refine ev_call (isM_ok _ A5 A6 N e5 e6 (rect N X) hX5 hY (by omega) (fun i hi => by show N ≤ 1000; omega) (fun i hi k hk => by have := bX i k hi hk; show br (X i k) ≤ _; omega)) ?_ | refine ev_callP (isM_ok _ A5 A6 N e5 e6 (rect N X) hX5 hY (by omega) (fun i hi => by show N ≤ 1000; omega) (fun i hi k hk => by have := bX i k hi hk; show br (X i k) ≤ _; omega)) ?_
        rintro v_10 H_10 le_10 rfl _
        try simp only [go_sem, Nat.reduceEqDiff, Nat.reduceAdd, Nat.reduceBEq, ↓reduceIte]
        exact ⟨by trivial, by trivial⟩

end Go.Proofs.YtccdhgjfcgfgoaaGreat.X
