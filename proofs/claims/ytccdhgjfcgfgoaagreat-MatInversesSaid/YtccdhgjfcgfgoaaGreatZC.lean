/- Package mat: the inverse. -/
import Derived.Test.YtccdhgjfcgfgoaaGreatZZ
import Derived.Test.YtccdhgjfcgfgoaaGreatZM
set_option linter.unusedVariables false
set_option linter.unusedSimpArgs false
namespace Go.Proofs.YtccdhgjfcgfgoaaGreat.X
open Go Go.RowKit Go.Proofs

section
variable {α : Type} {w : Nat} {P : PH → List Value → α → Prop} {Tr Tm : TypeId} {H H' M M' : PH} {A : Option Addr} {n c : Nat} {ra : Nat → Option Addr} {rc : Nat → Nat} {R : Nat → Rw α} {S : Nat → Prop}
theorem OwnF.inM {T : TypeId} {f : Nat → α} (h : OwnF w P T H M A n f c) : ∀ b, A = some ⟨b, 0, none⟩ → M b ≠ none := by
  intro b e
  rcases h.live with k | ⟨b', o, h1, h2⟩
  · rw [k] at e; cases e
  · rw [e] at h1; injection h1 with h1; injection h1 with h1 _; subst h1
    rw [h2]; simp
theorem MatO.give (hP : Grows P) (h : MatO w P Tr Tm H M A n c ra rc R) (hd : PH.disj H M) (hS : ∀ b, A = some ⟨b, 0, none⟩ → S b) (hSr : ∀ i, i < n → ∀ b, ra i = some ⟨b, 0, none⟩ → S b) : MatH w P (PH.gave S H M) A n R := by
  rcases h.top.give SlC.grows hd hS with e | ⟨b, off, cs, T, fz, h1, h2, h3⟩
  · exact .inl e
  · refine .inr ⟨b, off, cs, T, fz, h1, h2, fun i hi => ?_⟩
    obtain ⟨us, k1, k2, k3⟩ := h3 i hi
    exact ⟨us, k1, k2, _, _, k3, (h.row i hi).give hP hd (hSr i hi)⟩
theorem MatO.keep (h : MatO w P Tr Tm H M A n c ra rc R) (hS : ∀ b, A = some ⟨b, 0, none⟩ → ¬ S b) (hSr : ∀ i, i < n → ∀ b, ra i = some ⟨b, 0, none⟩ → ¬ S b) : MatO w P Tr Tm H (PH.kept S M) A n c ra rc R :=
  ⟨h.top.keep hS, fun i hi => (h.row i hi).keep (hSr i hi), h.ne, h.inj⟩
end

theorem ev_ldRowZ {α : Type} {w : Nat} {P : PH → List Value → α → Prop} {X : XT} {K : St → Prop} {d b n i : Nat} {fr : List (Nat × SV)} {lh : List (Nat × List Value)} {H M : PH} {R : Nat → Rw α} (h : MatH w P H (some ⟨b, 0, none⟩) n R) (hi : i < n) (k1 : ∀ A' c', ArrF w P H A' (R i).1 (R i).2 → X ⟨(d, .v (.slice A' (R i).1 c')) :: fr, lh, H, M⟩ K) :
    EvLd false 1 (.pointer (some ⟨b, i * 1, none⟩)) d X ⟨fr, lh, H, M⟩ K := by
  have := ev_ldRow h hi k1
  rwa [Nat.zero_add] at this

/-- both sides: a matrix, and One behind it -/
def both (n : Nat) (f : Nat → Nat → Rat) : Nat → Nat → Rat := fun i s => if s < n then f i s else Dt.one i (s - n)
def gj (f : Nat → Nat → Rat) (k i : Nat) : Nat → Nat → Rat := Dt.elim f k k (fun r => decide (r < i))
theorem gj_row {f : Nat → Nat → Rat} {k i r : Nat} (h : ¬ (r < i ∧ r ≠ k)) : gj f k i r = f r := by
  funext s
  unfold gj Dt.elim
  rw [if_neg (by rwa [decide_eq_true_eq])]
theorem gj_row' {f : Nat → Nat → Rat} {k i r s : Nat} (h : r < i ∧ r ≠ k) : gj f k i r s = f r s - f r k / f k k * f k s := by
  unfold gj Dt.elim
  rw [if_pos (by rwa [decide_eq_true_eq])]
theorem gj_clr {n k i : Nat} {f : Nat → Nat → Rat} (hz : Dt.Zj n k f) (hk : k < n) (hik : i ≠ k) : ∀ r s, s < n + n → clr (gj f k i) i k (n + n) r s = gj f k (i + 1) r s := by
  intro r s hs
  unfold clr
  have e1 : gj f k i i = f i := gj_row (by omega)
  have e2 : gj f k i k = f k := gj_row (by omega)
  by_cases e : r = i
  · subst e
    rw [gj_row' (i := r + 1) (by omega), e1, e2]
    by_cases h : k ≤ s
    · rw [if_pos ⟨rfl, h, hs⟩]
    · rw [if_neg (by omega), (hz s (by omega)).1 k hk (by omega)]
      grind
  · rw [if_neg (fun h => e h.1)]
    by_cases h : r < i ∧ r ≠ k
    · rw [gj_row' h, gj_row' (by omega)]
    · rw [gj_row h, gj_row (by omega)]
theorem gj_skip {f : Nat → Nat → Rat} {k r : Nat} : gj f k k r = gj f k (k + 1) r := by
  by_cases h : r < k
  · funext s
    rw [gj_row' (by omega), gj_row' (by omega)]
  · rw [gj_row (by omega), gj_row (by omega)]
def B2 (n m L : Nat) (f : Nat → Nat → Rat) : Prop := ∀ i s, i < n → s < m → br (f i s) ≤ L
theorem B2.swp {n m L i k : Nat} {f : Nat → Nat → Rat} (h : B2 n m L f) (hi : i < n) (hk : k < n) : B2 n m L (Dt.swpR f i k) := by
  intro r s hr hs
  unfold Dt.swpR
  split
  · exact h k s hk hs
  · split
    · exact h i s hi hs
    · exact h r s hr hs
theorem B2.gj {n m L k i : Nat} {f : Nat → Nat → Rat} (h : B2 n m L f) (h1 : 1 ≤ L) (hk : k < n) (hkm : k < m) : B2 n m (L * 8) (gj f k i) := by
  intro r s hr hs
  have y1 := h r s hr hs
  by_cases e : r < i ∧ r ≠ k
  · rw [gj_row' e]
    have y2 := h r k hr hkm
    have y3 := h k k hk hkm
    have y4 := h k s hk hs
    have y5 := br_div (f r k) (f k k)
    have y6 := br_mul (f r k / f k k) (f k s)
    have y7 := br_sub (f r s) (f r k / f k k * f k s)
    omega
  · rw [gj_row e]
    omega
theorem pair_both (n : Nat) (f : Nat → Nat → Rat) : Dt.Pair n f (both n f) := by
  intro i hi s hs
  have : both n f i s = f i s := if_pos hs
  rw [this, ← Dt.one_mul' n f i hi s hs]
  refine Dt.sm_congr fun r hr => ?_
  unfold both
  rw [if_neg (by omega), show n + r - n = r by omega]
def quo (n : Nat) (f : Nat → Nat → Rat) : Nat → Nat → Rat := fun i s => f i (n + s) / f i i
def quo1 (n : Nat) (f : Nat → Nat → Rat) (i j : Nat) : Nat → Nat → Rat := fun a b => if a < i ∨ (a = i ∧ b < j) then quo n f a b else 0

/-- what an inverse is -/
def InvV (H : PH) (v : Value) (n : Nat) (R : Nat → Rw Rat) : Prop := (v = .tuple #[.slice none 0 0, .bool false] ∧ (sqB n R = true → Dt.det n (mx R) = 0)) ∨ (sqB n R = true ∧ ∃ A e X, v = .tuple #[.slice A n e, .bool true] ∧ MatH 3 RatC H A n (rect n X) ∧ Dt.Eq2 n (Dt.mul n X (mx R)) Dt.one)

set_option maxHeartbeats 4000000 in
theorem minv_ok (H : PH) (A0 : Option Addr) (n c0 : Nat) (R : Nat → Rw Rat) (hM : MatH 3 RatC H A0 n R) (hn : n ≤ 9223372036854775807) (h5 : sqB n R = true → n ≤ 5) (hb : sqB n R = true → Bnd n 4000 (mx R)) :
    FnP Tryz.prog 10 [.slice A0 n c0] H fun v H' => InvV H' v n R := by
  refine Fn.release (of_mat_Inverse (by simp) ?_)
  try simp only [go_sem, Nat.reduceEqDiff, Nat.reduceAdd, Nat.reduceBEq, ↓reduceIte, p_mat_Inverse]
  first | refine ev_call (square_ok _ A0 n c0 R hM hn) ?_ | refine ev_callP (square_ok _ A0 n c0 R hM hn) ?_
  rintro v_1 H_1 le_1 rfl _
  try simp only [go_sem, Nat.reduceEqDiff, Nat.reduceAdd, Nat.reduceBEq, ↓reduceIte]
  have hM := MatH.le RatC.grows hM (by assumption)
  cases hs : sqB n R with
  | false =>
    try simp only [go_sem, Nat.reduceEqDiff, Nat.reduceAdd, Nat.reduceBEq, ↓reduceIte, hs]
    exact fun _ => .inl ⟨by trivial, fun h => by rw [hs] at h; cases h⟩
  | true =>
    obtain ⟨n1, n2, hr⟩ := sqB_of hs
    have h5 := h5 hs
    have hb := hb hs
    try simp only [go_sem, Nat.reduceEqDiff, Nat.reduceAdd, Nat.reduceBEq, ↓reduceIte, hs]
    first | refine ev_call (mone_ok _ (n : Int)) ?_ | refine ev_callP (mone_ok _ (n : Int)) ?_
    rintro v_2 H_2 le_2 ⟨A1, c1, rfl, h1⟩ _
    try simp only [go_sem, Nat.reduceEqDiff, Nat.reduceAdd, Nat.reduceBEq, ↓reduceIte]
    have hM := MatH.le RatC.grows hM (by assumption)
    rw [onN_of n1 n2] at h1
    rw [onN_of n1 n2]
    refine ev_callM (copied_ok _ A0 A1 n c0 n c1 R (rect n Dt.one) hM h1 (by omega) (by omega) (fun i hi => by rw [hr i hi]; omega) (fun i hi => by show 0 < n ∧ n ≤ 1000; omega)) ?_
    rintro v H2 M2 hle2 ⟨A, c, ra, rc, rfl, hO⟩ hd2
    obtain ⟨g, rfl⟩ := hO.top.base (Nat.lt_of_lt_of_le n1 hO.top.cap)
    have hO : MatO 3 RatC 36 64 H2 M2 (some ⟨g, 0, none⟩) n c ra rc (rect (n + n) (both n (mx R))) := hO.congr fun i hi => by
      unfold cpR
      rw [if_pos hi]
      refine ⟨by show (R i).1 + n = n + n; rw [hr i hi], fun k hk => ?_⟩
      show thenF (R i).1 (R i).2 (Dt.one i) k = both n (mx R) i k
      rw [hr i hi]
      rfl
    clear hM h1
    try simp only [go_sem, Nat.reduceEqDiff, Nat.reduceAdd, Nat.reduceBEq, ↓reduceIte]
    have hb0 : B2 n (n + n) 4000 (both n (mx R)) := fun i s hi hs => by
      unfold both
      split
      · exact hb i s hi (by assumption)
      · unfold Dt.one
        split <;> decide +kernel
    refine ev_loop (fun t s => ∃ (k : Nat) (H3 M3 : PH) (ra : Nat → Option Addr) (rc : Nat → Nat) (f : Nat → Nat → Rat), t = n - k ∧ k ≤ n ∧ PH.disj H3 M3 ∧
      MatO 3 RatC 36 64 H3 M3 (some ⟨g, 0, none⟩) n c ra rc (rect (n + n) f) ∧ Dt.Pair n (mx R) f ∧ Dt.Zj n k f ∧ (∃ sg, Dt.det n (mx R) = sg * Dt.det n f) ∧ B2 n (n + n) (4000 * 8 ^ k) f ∧
      s = ⟨[(23, .v (.int .i64 (k : Int))), (22, .v (.int .i64 (n : Int))), (4, .v (.int .i64 (n : Int))), (0, .v (.slice (some ⟨g, 0, none⟩) n c))], [], H3, M3⟩) n _
      ⟨0, _, M2, ra, rc, both n (mx R), rfl, by omega, hd2, hO, pair_both n (mx R), fun j h => by omega, ⟨1, by rw [Dt.det_congr (M := both n (mx R)) (N := mx R) (fun i hi s hs => if_pos hs)]; grind⟩, by rw [Nat.pow_zero]; exact hb0, rfl⟩ sub_of ?_
    clear hO hb hd2 hb0
    rintro t s ⟨k, H3, M3, ra, rc, f, rfl, hk, hd3, hO, hp, hz, ⟨sg, hsg⟩, hbd, rfl⟩
    try simp only [go_sem, Nat.reduceEqDiff, Nat.reduceAdd, Nat.reduceBEq, ↓reduceIte]
    refine ev_if (fun c1 => ?_) (fun c1 => ?_)
    · have hkn : k < n := by omega
      have hp8 : 8 ^ k ≤ 8 ^ 4 := Nat.pow_le_pow_right (by decide) (by omega)
      have hp1 : 1 ≤ 8 ^ k := Nat.pos_of_ne_zero (fun h => by have := Nat.pow_pos (n := k) (show 0 < 8 by decide); omega)
      rw [show 8 ^ 4 = 4096 by decide] at hp8
      have hps : 4000 * 8 ^ (k + 1) = 4000 * 8 ^ k * 8 := by rw [Nat.pow_succ, Nat.mul_assoc]
      obtain ⟨L, hL⟩ : ∃ L, L = 4000 * 8 ^ k := ⟨_, rfl⟩
      have hL1 : 1 ≤ L ∧ L ≤ 16384000 := by omega
      rw [← hL] at hbd hps
      try simp only [go_sem, Nat.reduceEqDiff, Nat.reduceAdd, Nat.reduceBEq, ↓reduceIte]
      refine ev_callM (pivot_ok H3 M3 g n c (n + n) k ra rc f hO hd3 (by omega) hkn (by omega) (by omega) (fun i hi => by have := hbd i k hi (by omega); omega)) ?_
      rintro v H4 M4 hle4 ⟨still, is, ra4, rc4, f4, rfl, hO4, hres⟩ hd4
      clear hO hd3
      try simp only [go_sem, Nat.reduceEqDiff, Nat.reduceAdd, Nat.reduceBEq, ↓reduceIte]
      rcases hres with ⟨rfl, hz0⟩ | ⟨rfl, i, hki, hi, hf0, -, rfl⟩
      · try simp only [go_sem, Nat.reduceEqDiff, Nat.reduceAdd, Nat.reduceBEq, ↓reduceIte]
        refine fun _ => .inl ⟨rfl, fun _ => ?_⟩
        rw [hsg, hz.fail hkn hz0]
        grind
      · have hp4 := hp.swp hi hkn
        have hz4 := hz.swp hki hi
        have hbd4 := hbd.swp hi hkn
        have h0 : Dt.swpR f i k k k ≠ 0 := by
          unfold Dt.swpR
          by_cases e : k = i
          · rw [if_pos e]; rw [← e] at hf0; exact hf0
          · rw [if_neg e, if_pos rfl]; exact hf0
        have hsg4 : ∃ sg, Dt.det n (mx R) = sg * Dt.det n (Dt.swpR f i k) := by
          by_cases e : i = k
          · rw [e, swp_self]
            exact ⟨sg, hsg⟩
          · refine ⟨-sg, ?_⟩
            rw [(Dt.rowF_det n).swp f i k hi hkn e, hsg]
            grind
        clear hp hz hbd hsg hf0
        generalize Dt.swpR f i k = f4 at *
        try simp only [go_sem, Nat.reduceEqDiff, Nat.reduceAdd, Nat.reduceBEq, ↓reduceIte]
        refine ev_loop (fun t s => ∃ (i : Nat) (H5 M5 : PH), t = n - i ∧ i ≤ n ∧ PH.disj H5 M5 ∧ MatO 3 RatC 36 64 H5 M5 (some ⟨g, 0, none⟩) n c ra4 rc4 (rect (n + n) (gj f4 k i)) ∧
          s = ⟨[(35, .v (.int .i64 (i : Int))), (34, .v (.int .i64 (n : Int))), (23, .v (.int .i64 (k : Int))), (22, .v (.int .i64 (n : Int))), (5, .v (.int .i64 (k : Int))), (4, .v (.int .i64 (n : Int))), (0, .v (.slice (some ⟨g, 0, none⟩) n c))], [], H5, M5⟩) n _
          ⟨0, H4, M4, rfl, by omega, hd4, hO4.congr (fun r hr => ⟨rfl, fun s hs => by show f4 r s = gj f4 k 0 r s; rw [gj_row (by omega)]⟩), rfl⟩ sub_of ?_
        clear hO4 hd4
        rintro t s ⟨i5, H5, M5, rfl, hi5, hd5, hO5, rfl⟩
        try simp only [go_sem, Nat.reduceEqDiff, Nat.reduceAdd, Nat.reduceBEq, ↓reduceIte]
        refine ev_if (fun c2 => ?_) (fun c2 => ?_)
        · try simp only [go_sem, Nat.reduceEqDiff, Nat.reduceAdd, Nat.reduceBEq, ↓reduceIte]
          refine ev_if (fun c3 => ?_) (fun c3 => ?_)
          · have hik : i5 ≠ k := by omega
            have hrowi : gj f4 k i5 i5 = f4 i5 := gj_row (by omega)
            have hrowk : gj f4 k i5 k = f4 k := gj_row (by omega)
            try simp only [go_sem, Nat.reduceEqDiff, Nat.reduceAdd, Nat.reduceBEq, ↓reduceIte]
            refine ev_callM (clear_ok H5 M5 g n c (n + n) i5 k L ra4 rc4 (gj f4 k i5) hO5 hd5 (by omega) hkn (by omega) hik (by omega) (by omega) (by omega) (fun s hs => by rw [hrowi]; exact hbd4 i5 s (by omega) hs) (fun s hs => by rw [hrowk]; exact hbd4 k s hkn hs) (by rw [hrowk]; exact h0)) ?_
            intro v H7 M7 hle7 hO7 hd7
            try simp only [go_sem, Nat.reduceEqDiff, Nat.reduceAdd, Nat.reduceBEq, ↓reduceIte]
            rw [w64 ((i5 : Int) + 1) (by omega) (by omega), show (i5 : Int) + 1 = ((i5 + 1 : Nat) : Int) by omega]
            exact k_next (n - (i5 + 1)) _ (by omega) ⟨i5 + 1, H7, M7, rfl, by omega, hd7, hO7.congr (fun r hr => ⟨rfl, fun s hs => gj_clr hz4 hkn hik r s hs⟩), rfl⟩ sub_of
          · have hik : i5 = k := by
              have := Classical.not_not.1 c3
              omega
            subst hik
            try simp only [go_sem, Nat.reduceEqDiff, Nat.reduceAdd, Nat.reduceBEq, ↓reduceIte]
            rw [w64 ((i5 : Int) + 1) (by omega) (by omega), show (i5 : Int) + 1 = ((i5 + 1 : Nat) : Int) by omega]
            exact k_next (n - (i5 + 1)) _ (by omega) ⟨i5 + 1, H5, M5, rfl, by omega, hd5, hO5.congr (fun r hr => ⟨rfl, fun s hs => congrFun gj_skip s⟩), rfl⟩ sub_of
        · have hin : i5 = n := by omega
          subst hin
          try simp only [go_sem, Nat.reduceEqDiff, Nat.reduceAdd, Nat.reduceBEq, ↓reduceIte]
          rw [w64 ((k : Int) + 1) (by omega) (by omega), show (k : Int) + 1 = ((k + 1 : Nat) : Int) by omega]
          exact k_next (i5 - (k + 1)) _ (by omega) ⟨k + 1, H5, M5, ra4, rc4, gj f4 k i5, rfl, by omega, hd5, hO5, hp4.elim hkn, hz4.next hkn h0, by unfold gj; rw [(Dt.rowF_det i5).elim f4 k k hkn]; exact hsg4, hps ▸ hbd4.gj (by omega) hkn (by omega), rfl⟩ sub_of
    · have hkn : k = n := by omega
      subst hkn
      have hinv := hp.done hz
      have hp8 : 8 ^ k ≤ 8 ^ 5 := Nat.pow_le_pow_right (by decide) (by omega)
      rw [show 8 ^ 5 = 32768 by decide] at hp8
      try simp only [go_sem, Nat.reduceEqDiff, Nat.reduceAdd, Nat.reduceBEq, ↓reduceIte]
      refine ev_callN (none_ok _ k k (by omega) (by omega)) ?_
      rintro v H5 M4 M5 hle5 ⟨g2, rb, rfl, hN⟩ hleM hleM4 hd5 hF
      let S : Nat → Prop := fun b => M3 b ≠ none
      have hG := ((hO.leH RatC.grows hle5).leM hleM).give (S := S) RatC.grows hd5 hO.top.inM (fun i hi => (hO.row i hi).inM)
      have nS : ∀ {Z : Option Addr}, (∀ b, Z = some ⟨b, 0, none⟩ → M4 b ≠ none) → ∀ b, Z = some ⟨b, 0, none⟩ → ¬ S b := fun h b e hS => by
        rcases hF b (h b e) with x | x
        · exact x rfl
        · exact hS x
      have hX := ((hN.leM hleM4).keep (S := S) (nS hN.top.inM) (fun i hi => nS (hN.row i hi).inM)).leH RatC.grows (PH.gave_le (H := H5) (M := M5) S)
      try simp only [go_sem, Nat.reduceEqDiff, Nat.reduceAdd, Nat.reduceBEq, ↓reduceIte]
      refine ev_loop (fun t s => ∃ (i : Nat) (H6 M6 : PH), t = k - i ∧ i ≤ k ∧ MatH 3 RatC H6 (some ⟨g, 0, none⟩) k (rect (k + k) f) ∧ PH.disj H6 M6 ∧
        MatO 3 RatC 36 64 H6 M6 (some ⟨g2, 0, none⟩) k k rb (fun _ => k) (rect k (quo1 k f i 0)) ∧
        s = ⟨[(52, .v (.int .i64 (i : Int))), (51, .v (.int .i64 (k : Int))), (50, .v (.slice (some ⟨g, 0, none⟩) k c)), (9, .v (.slice (some ⟨g2, 0, none⟩) k k)), (4, .v (.int .i64 (k : Int)))], [], H6, M6⟩) k _
        ⟨0, PH.gave S H5 M5, PH.kept S M5, rfl, by omega, hG, PH.gave_disj S hd5, hX.congr (fun a ha => ⟨rfl, fun b hb => by show 0 = quo1 k f 0 0 a b; unfold quo1; rw [if_neg (by omega)]⟩), rfl⟩ ⟨rfl, by simp only [go_sem, Nat.reduceEqDiff, Nat.reduceAdd, Nat.reduceBEq, ↓reduceIte, and_self, Option.some.injEq, SV.v.injEq, SV.ptr.injEq, Value.int.injEq, Value.bool.injEq, Value.slice.injEq, true_and, and_true] <;> (repeat' apply And.intro) <;> first | rfl | omega | (simp (disch := omega) only [w64, wu64, wu32, wu8] <;> omega), by simp only [go_sem, Nat.reduceEqDiff, Nat.reduceAdd, Nat.reduceBEq, ↓reduceIte, and_self, Option.some.injEq, SV.v.injEq, SV.ptr.injEq, Value.int.injEq, Value.bool.injEq, Value.slice.injEq, true_and, and_true] <;> (repeat' apply And.intro) <;> rfl, .inr (⟨PH.gave_le S, PH.gave_or S, PH.kept_le S, PH.gave_disj S hd5⟩)⟩ ?_
      clear hO hN hX hG nS hd3 hd5
      rintro t s ⟨i, H6, M6, rfl, hi, hM6, hd6, hO6, rfl⟩
      try simp only [go_sem, Nat.reduceEqDiff, Nat.reduceAdd, Nat.reduceBEq, ↓reduceIte]
      refine ev_if (fun c2 => ?_) (fun c2 => ?_)
      · try simp only [go_sem, Nat.reduceEqDiff, Nat.reduceAdd, Nat.reduceBEq, ↓reduceIte]
        refine ev_ia rfl (by omega) (by omega) ?_
        rw [Int.toNat_natCast]
        try simp only [go_sem, Nat.reduceEqDiff, Nat.reduceAdd, Nat.reduceBEq, ↓reduceIte]
        refine ev_ldRowZ hM6 (show i < k by omega) ?_
        intro A2 q2 ha2
        replace ha2 : ArrF 3 RatC H6 A2 (k + k) (f i) := ha2
        obtain ⟨b2, off2, rfl⟩ := ha2.base (by omega)
        try simp only [go_sem, Nat.reduceEqDiff, Nat.reduceAdd, Nat.reduceBEq, ↓reduceIte]
        refine ev_loop (fun t s => ∃ (j : Nat) (H7 M7 : PH), t = k - j ∧ j ≤ k ∧ MatH 3 RatC H7 (some ⟨g, 0, none⟩) k (rect (k + k) f) ∧ ArrF 3 RatC H7 (some ⟨b2, off2, none⟩) (k + k) (f i) ∧ PH.disj H7 M7 ∧
          MatO 3 RatC 36 64 H7 M7 (some ⟨g2, 0, none⟩) k k rb (fun _ => k) (rect k (quo1 k f i j)) ∧
          s = ⟨[(58, .v (.int .i64 (j : Int))), (57, .v (.int .i64 (k : Int))), (52, .v (.int .i64 (i : Int))), (51, .v (.int .i64 (k : Int))), (50, .v (.slice (some ⟨g, 0, none⟩) k c)), (11, .v (.slice (some ⟨b2, off2, none⟩) (k + k) q2)), (10, .v (.int .i64 (i : Int))), (9, .v (.slice (some ⟨g2, 0, none⟩) k k)), (4, .v (.int .i64 (k : Int)))], [], H7, M7⟩) k _
          ⟨0, H6, M6, rfl, by omega, hM6, ha2, hd6, hO6, rfl⟩ sub_of ?_
        clear hM6 ha2 hd6 hO6
        rintro t s ⟨j, H7, M7, rfl, hj, hM7, ha7, hd7, hO7, rfl⟩
        try simp only [go_sem, Nat.reduceEqDiff, Nat.reduceAdd, Nat.reduceBEq, ↓reduceIte]
        refine ev_if (fun c3 => ?_) (fun c3 => ?_)
        · have hjk : j < k := by omega
          have hik : i < k := by omega
          obtain ⟨b6, hb6⟩ := hO7.base hik (show 0 < k by omega)
          try simp only [go_sem, Nat.reduceEqDiff, Nat.reduceAdd, Nat.reduceBEq, ↓reduceIte]
          refine ev_ia rfl (by omega) (by omega) ?_
          rw [Int.toNat_natCast]
          try simp only [go_sem, Nat.reduceEqDiff, Nat.reduceAdd, Nat.reduceBEq, ↓reduceIte]
          refine ev_ldTop hO7 hik ?_
          rw [hb6]
          try simp only [go_sem, Nat.reduceEqDiff, Nat.reduceAdd, Nat.reduceBEq, ↓reduceIte]
          rw [w64 ((k : Int) + (j : Int)) (by omega) (by omega), show (k : Int) + (j : Int) = ((k + j : Nat) : Int) by omega]
          refine ev_ia rfl (by omega) (by omega) ?_
          rw [Int.toNat_natCast]
          try simp only [go_sem, Nat.reduceEqDiff, Nat.reduceAdd, Nat.reduceBEq, ↓reduceIte]
          refine ev_ldF ha7 (by omega) ?_
          intro us hp _
          obtain ⟨A5, l5, c5, b5, B5, m5, e5, hf⟩ := RatV.form hp
          have hp : RatV H7 (.agg us.toArray) (f i (k + j)) := hp
          rw [hf] at hp ⊢
          clear hf
          try simp only [go_sem, Nat.reduceEqDiff, Nat.reduceAdd, Nat.reduceBEq, ↓reduceIte]
          refine ev_ia rfl (by omega) (by omega) ?_
          rw [Int.toNat_natCast]
          try simp only [go_sem, Nat.reduceEqDiff, Nat.reduceAdd, Nat.reduceBEq, ↓reduceIte]
          refine ev_ldF ha7 (by omega) ?_
          intro us hq _
          obtain ⟨A8, l8, c8, b8, B8, m8, e8, hf⟩ := RatV.form hq
          have hq : RatV H7 (.agg us.toArray) (f i i) := hq
          rw [hf] at hq ⊢
          clear hf
          have y1 := hbd i (k + j) hik (by omega)
          have y2 := hbd i i hik (by omega)
          try simp only [go_sem, Nat.reduceEqDiff, Nat.reduceAdd, Nat.reduceBEq, ↓reduceIte]
          first | refine ev_call (rdiv'_ok1 _ _ _ _ _ hp hq (by omega) (hz i hik).2) ?_ | refine ev_callP (rdiv'_ok1 _ _ _ _ _ hp hq (by omega) (hz i hik).2) ?_
          rintro v_3 H_3 le_3 ⟨v9, rfl, h9⟩ _
          try simp only [go_sem, Nat.reduceEqDiff, Nat.reduceAdd, Nat.reduceBEq, ↓reduceIte]
          have hM7 := MatH.le RatC.grows hM7 (by assumption)
          have ha7 := ha7.le RatC.grows (by assumption)
          have hO7 := hO7.leH RatC.grows (by assumption)
          obtain ⟨A9, l9, c9, b9, B9, m9, e9, rfl⟩ := h9.form
          try simp only [go_sem, Nat.reduceEqDiff, Nat.reduceAdd, Nat.reduceBEq, ↓reduceIte]
          refine ev_ia rfl (by omega) (by show (j : Int) < (k : Int); omega) ?_
          rw [Int.toNat_natCast]
          try simp only [go_sem, Nat.reduceEqDiff, Nat.reduceAdd, Nat.reduceBEq, ↓reduceIte]
          refine ev_stEl (x := quo k f i j) hO7 hik hb6 hjk (by assumption) rfl (by simp [cellsL, Value.oneCell']) h9 ?_
          intro M8 hO8 hd8
          try simp only [go_sem, Nat.reduceEqDiff, Nat.reduceAdd, Nat.reduceBEq, ↓reduceIte]
          rw [w64 ((j : Int) + 1) (by omega) (by omega), show (j : Int) + 1 = ((j + 1 : Nat) : Int) by omega]
          refine k_next (k - (j + 1)) _ (by omega) ⟨j + 1, _, M8, rfl, by omega, hM7, ha7, hd8 _ (by assumption), hO8.congr (fun a ha => ?_), rfl⟩ sub_of
          unfold upM
          by_cases e : a = i
          · subst e
            rw [if_pos rfl]
            refine ⟨rfl, fun b hb => ?_⟩
            show upF (fun b => quo1 k f a j a b) j (quo k f a j) b = quo1 k f a (j + 1) a b
            unfold upF quo1
            by_cases e2 : b = j
            · subst e2
              rw [if_pos rfl, if_pos (by omega)]
            · rw [if_neg e2]
              try dsimp only
              by_cases e3 : b < j
              · rw [if_pos (by omega), if_pos (by omega)]
              · rw [if_neg (by omega), if_neg (by omega)]
          · rw [if_neg e]
            refine ⟨rfl, fun b hb => ?_⟩
            show quo1 k f i j a b = quo1 k f i (j + 1) a b
            unfold quo1
            by_cases e3 : a < i
            · rw [if_pos (by omega), if_pos (by omega)]
            · rw [if_neg (by omega), if_neg (by omega)]
        · have hj' : j = k := by omega
          subst hj'
          try simp only [go_sem, Nat.reduceEqDiff, Nat.reduceAdd, Nat.reduceBEq, ↓reduceIte]
          rw [w64 ((i : Int) + 1) (by omega) (by omega), show (i : Int) + 1 = ((i + 1 : Nat) : Int) by omega]
          refine k_next (j - (i + 1)) _ (by omega) ⟨i + 1, H7, M7, rfl, by omega, hM7, hd7, hO7.congr (fun a ha => ⟨rfl, fun b hb => ?_⟩), rfl⟩ sub_of
          have hb' : b < j := hb
          show quo1 j f i j a b = quo1 j f (i + 1) 0 a b
          unfold quo1
          by_cases e3 : a < i + 1
          · rw [if_pos (by omega), if_pos (by omega)]
          · rw [if_neg (by omega), if_neg (by omega)]
      · have hin : i = k := by omega
        subst hin
        try simp only [go_sem, Nat.reduceEqDiff, Nat.reduceAdd, Nat.reduceBEq, ↓reduceIte]
        refine fun hd => .inr ⟨hs, _, _, quo i f, rfl, (hO6.mat RatC.grows hd).congr fun a ha => ⟨rfl, fun b hb => ?_⟩, hinv⟩
        show quo1 i f i 0 a b = quo i f a b
        unfold quo1
        rw [if_pos (by omega)]

end Go.Proofs.YtccdhgjfcgfgoaaGreat.X
set_option linter.unusedVariables false
set_option linter.unusedSimpArgs false
namespace Go.Proofs.YtccdhgjfcgfgoaaGreat.X
open Go Go.RowKit Go.Proofs

theorem dB_81 : ∀ n, n < 6 → dB 81 n ≤ 28601 := by decide +kernel
theorem inv_bnd {n : Nat} {X M : Nat → Nat → Rat} (hn : n ≤ 5) (hb : Bnd n 81 M) (h : Dt.Eq2 n (Dt.mul n X M) Dt.one) : Bnd n 60000 X := by
  intro i j hi hj
  rw [Dt.inv_entry h hi hj]
  have h1 := br_det n (Dt.setR M j (Dt.one i)) (L := 81) (fun r s hr hs => by
    unfold Dt.setR
    split
    · unfold Dt.one
      split <;> decide +kernel
    · exact hb r s hr hs)
  have h2 := br_det n M hb
  have h3 := br_div (Dt.det n (Dt.setR M j (Dt.one i))) (Dt.det n M)
  have h4 := dB_81 n (by omega)
  omega
theorem bnd_one (n : Nat) : Bnd n 81 Dt.one := fun i s _ _ => by
  unfold Dt.one
  split <;> decide +kernel

end Go.Proofs.YtccdhgjfcgfgoaaGreat.X
set_option linter.unusedVariables false
set_option linter.unusedSimpArgs false
namespace Go.Proofs.YtccdhgjfcgfgoaaGreat.X
open Go Go.RowKit Go.Proofs

theorem New.of {M : PH} {g : Nat} (hg : M g = none) : New M (some ⟨g, 0, none⟩) := by
  intro b o hb e
  injection e with e; injection e with e _; subst e
  rw [hg] at hb; cases hb

theorem refOneO_ok (H : PH) (z : Int) : Fn Tryz.prog 16 [.int .i64 z] H PH.no fun v H' M' => ∃ A e ra rc, v = .slice A (onN z) e ∧ MatO 3 RRatC 43 58 H' M' A (onN z) e ra rc (rect (onN z) Dt.one) := by
  refine of_cinctureref1_One (by simp) ?_
  try simp only [go_sem, Nat.reduceEqDiff, Nat.reduceAdd, Nat.reduceBEq, ↓reduceIte, p_cinctureref1_One]
  have hz : (if (12 : Int) < (if z < 1 then (1 : Int) else z) then (12 : Int) else (if z < 1 then (1 : Int) else z)) = ((onN z : Nat) : Int) := by
    have := onN_bd z
    unfold onN
    split <;> split <;> omega
  have hN := onN_bd z
  try simp only [Bool.false_eq_true, ↓reduceIte]
  rw [hz]
  generalize onN z = N at *
  try simp only [go_sem, Nat.reduceEqDiff, Nat.reduceAdd, Nat.reduceBEq, ↓reduceIte]
  refine ev_loop (fun k s => ∃ (i : Nat) (H2 M2 : PH) (A : Option Addr) (c : Nat) (ra : Nat → Option Addr) (rc : Nat → Nat), k = N - i ∧ i ≤ N ∧ PH.disj H2 M2 ∧
    MatO 3 RRatC 43 58 H2 M2 A i c ra rc (rect N Dt.one) ∧
    s = ⟨[(4, .v (.int .i64 (i : Int))), (3, .v (.slice A i c)), (0, .v (.int .i64 (N : Int)))], [], H2, M2⟩) N _ ⟨0, H, PH.no, none, 0, fun _ => none, fun _ => 0, rfl, by omega, PH.disj_no _, MatO.nil, rfl⟩ sub_of ?_
  rintro k s ⟨i, H2, M2, A, c, ra, rc, rfl, hi, hd2, hO2, rfl⟩
  try simp only [go_sem, Nat.reduceEqDiff, Nat.reduceAdd, Nat.reduceBEq, ↓reduceIte]
  refine ev_if (fun c1 => ?_) (fun c1 => ?_)
  · try simp only [go_sem, Nat.reduceEqDiff, Nat.reduceAdd, Nat.reduceBEq, ↓reduceIte]
    refine ev_mkF (w := 3) (P := RRatC) (x0 := 0) rfl (by simp [Value.oneCell']) (RRat.zero H2) (by omega) (by omega) (by omega) hd2 ?_
    intro g M3 hB hle hg hd3
    rw [Int.toNat_natCast] at hB ⊢
    try simp only [go_sem, Nat.reduceEqDiff, Nat.reduceAdd, Nat.reduceBEq, ↓reduceIte]
    first | refine ev_call (rratOf_ok _ 1 (by decide) (by decide)) ?_ | refine ev_callP (rratOf_ok _ 1 (by decide) (by decide)) ?_
    rintro v_1 H_1 le_1 h6 _
    try simp only [go_sem, Nat.reduceEqDiff, Nat.reduceAdd, Nat.reduceBEq, ↓reduceIte]
    have hO3 := (hO2.leH RRatC.grows (by assumption)).leM hle
    have hB := hB.leH RRatC.grows (by assumption)
    have hap := (hO2.leH RRatC.grows (by assumption)).apart (New.of hg)
    obtain ⟨b9, A9, l9, c9, B9, m9, e9, rfl⟩ := h6.form
    try simp only [go_sem, Nat.reduceEqDiff, Nat.reduceAdd, Nat.reduceBEq, ↓reduceIte]
    refine ev_ia rfl (by omega) (by omega) ?_
    rw [Int.toNat_natCast]
    try simp only [go_sem, Nat.reduceEqDiff, Nat.reduceAdd, Nat.reduceBEq, ↓reduceIte]
    refine ev_stOF (x := (1 : Rat)) hB (by omega) (by assumption) rfl (by simp [cellsL, Value.oneCell']) h6 ?_
    intro M4 hB4 hb4 hd4
    have hO4 := hO3.but hb4 hap
    have hd4 := hd4 _ (by assumption)
    try simp only [go_sem, Nat.reduceEqDiff, Nat.reduceAdd, Nat.reduceBEq, ↓reduceIte]
    refine ev_bslF (w := 1) (P := SlC) (f := fun _ => ((some ⟨g, 0, none⟩ : Option Addr), N, N)) rfl (by omega) (one_cell rfl rfl rfl) hd4 ?_
    intro g5 M5 hO5 hle5 hg5 hd5
    try simp only [go_sem, Nat.reduceEqDiff, Nat.reduceAdd, Nat.reduceBEq, ↓reduceIte]
    refine ev_appF (by decide) (hO4.top.leM hle5) (hO5.src (by decide)) rfl (by decide) (by omega) (by omega) hd5 ?_
    intro A' c' M6 hO6 hb6 hA6 hd6
    try simp only [go_sem, Nat.reduceEqDiff, Nat.reduceAdd, Nat.reduceBEq, ↓reduceIte]
    rw [w64 ((i : Int) + 1) (by omega) (by omega), show (i : Int) + 1 = ((i + 1 : Nat) : Int) by omega]
    have hO7 := hO4.push hB4 hap hle5 hO6 hb6 hA6
    refine k_next (N - (i + 1)) _ (by omega) ⟨i + 1, _, M6, A', c', _, _, rfl, by omega, hd6, hO7.congr (fun a ha => ?_), rfl⟩ sub_of
    try dsimp only
    by_cases e : a = i
    · subst e
      rw [if_pos rfl]
      refine ⟨rfl, fun b hb => ?_⟩
      show upF (fun _ => 0) a 1 b = Dt.one a b
      unfold upF Dt.one
      by_cases e2 : b = a
      · rw [if_pos e2, if_pos e2.symm]
      · rw [if_neg e2, if_neg (fun h => e2 h.symm)]
    · rw [if_neg e]
      exact ⟨rfl, fun _ _ => rfl⟩
  · have hin : i = N := by omega
    subst hin
    try simp only [go_sem, Nat.reduceEqDiff, Nat.reduceAdd, Nat.reduceBEq, ↓reduceIte]
    exact ⟨_, _, _, _, rfl, hO2⟩
end Go.Proofs.YtccdhgjfcgfgoaaGreat.X
set_option linter.unusedVariables false
set_option linter.unusedSimpArgs false
namespace Go.Proofs.YtccdhgjfcgfgoaaGreat.X
open Go Go.RowKit Go.Proofs

/-- the reference's rows that stand -/
def MX (H : PH) (A : Option Addr) (n : Nat) (R : Nat → Rw Rat) : Prop := MatH 3 RRatC H A n R
theorem MX.le {H H' : PH} {A : Option Addr} {n : Nat} {R : Nat → Rw Rat} (h : MX H A n R) (hl : H.le H') : MX H' A n R := MatH.le RRatC.grows h hl
theorem qraw2_ok (H : PH) (A0 : Option Addr) (n c0 : Nat) (R : Nat → Rw ByteArray) (hM : MS H A0 n R) (hn : n ≤ 9223372036854775807) (hr : ∀ i, i < n → (R i).1 ≤ 9223372036854775807) :
    FnP Tryz.prog 7 [.slice A0 n c0] H fun v H' => ∃ A c B e, v = .tuple #[.slice A (min n 5) c, .slice B (min n 5) e] ∧ MR H' A (min n 5) (rawR R) ∧ MX H' B (min n 5) (rawR R) :=
  (raw_ok H A0 n c0 R hM hn hr).mono fun v H' _ ⟨A, c, B, e, h1, h2, h3⟩ => ⟨A, c, B, e, h1, h2, h3⟩
theorem xright_ok (H : PH) (A : Option Addr) (n c : Nat) (R : Nat → Rw Rat) (hM : MX H A n R) (hn : n ≤ 9223372036854775807) : FnP Tryz.prog 17 [.slice A n c] H fun v _ => v = .bool (evB n R) := rightR_ok H A n c R hM hn
end Go.Proofs.YtccdhgjfcgfgoaaGreat.X
