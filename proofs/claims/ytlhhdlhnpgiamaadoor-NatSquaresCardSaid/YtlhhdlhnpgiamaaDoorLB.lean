/- The laws of chapter 1: words, shifts, lengths, rings. -/
import Derived.Test.YtlhhdlhnpgiamaaDoorLA
set_option linter.unusedVariables false
set_option linter.unusedSimpArgs false
namespace Go.Proofs.YtlhhdlhnpgiamaaDoor.X
open Go Go.RowKit Go.Proofs

theorem u64_of_wf {a : Int} (h : (Lit.int .u64 a).wf = true) : 0 ≤ a ∧ a < 18446744073709551616 := by
  simp only [Lit.wf, IntKind.min, IntKind.max, IntKind.signed, IntKind.bits, Bool.and_eq_true, decide_eq_true_eq] at h
  simp at h; omega
theorem i64_of_wf {a : Int} (h : (Lit.int .i64 a).wf = true) : -9223372036854775808 ≤ a ∧ a < 9223372036854775808 := by
  simp only [Lit.wf, IntKind.min, IntKind.max, IntKind.signed, IntKind.bits, Bool.and_eq_true, decide_eq_true_eq] at h
  simp at h; omega

theorem bl_shl {x n k : Nat} (h : bl x ≤ n) : bl (x * 2 ^ k) ≤ n + k := by
  by_cases h0 : x = 0
  · subst h0; simp [bl_zero]
  · rw [bl_shift _ _ h0]; omega
theorem bl_div {x n k : Nat} (h : bl x ≤ n) : bl (x / k) ≤ n := Nat.le_trans (bl_mono (Nat.div_le_self _ _)) h
theorem pok_bl {a b : ByteArray} (h : pok a b = true) : bl (dv (bs a)) ≤ 800 ∧ bl (dv (bs b)) ≤ 800 := by
  simp only [pok, Bool.and_eq_true, decide_eq_true_eq] at h
  have key : ∀ c : ByteArray, decOk (bs c) = true → c.size ≤ 200 → bl (dv (bs c)) ≤ 800 := by
    intro c h1 h2
    simp only [decOk, Bool.and_eq_true, List.all_eq_true, decide_eq_true_eq] at h1
    have h3 := bl_dv (l := bs c) fun d hd => by have := h1.2.2 d hd; simp [isDig] at this; omega
    rw [bs_length] at h3
    omega
  exact ⟨key a h.1.1 h.2.1, key b h.1.2 h.2.2⟩
theorem RefV.form {H : PH} {v : Value} {x : Nat} (h : RefV H v x) : ∃ A l c, v = .slice A l c ∧ (l = 0 ↔ x = 0) := by
  obtain ⟨A, l, c, rfl, _, _, h4, h5⟩ := h
  refine ⟨A, l.length, c, rfl, ?_⟩
  rw [← h5, val_eq_zero h4]
  exact ⟨fun h => List.eq_nil_of_length_eq_zero h, fun h => by rw [h]; rfl⟩
theorem clip_max (n : Int) (h : n ≤ 3000) : clip n = n.toNat := by unfold clip; omega

theorem NatShifts_ok (H : PH) (hT : Tab H) (a : ByteArray) (n : Int) (w : (Lit.int .i64 n).wf = true) : FnP Tryd.prog 6 [.string a, .int .i64 n] H fun v _ => v = .bool true := by
  have hn := i64_of_wf w
  refine of_cincturelaw1_NatShifts (by simp) ?_
  simp only [go_sem, Nat.reduceEqDiff, Bool.false_eq_true, Nat.reduceBEq, ↓reduceIte, p_cincturelaw1_NatShifts]
  refine ev_call (alive_ok _ hT) ?_
  rintro v_1 H_1 le_1 rfl _
  replace hT := hT.le le_1
  simp only [go_sem, Nat.reduceEqDiff, Bool.false_eq_true, Nat.reduceBEq, ↓reduceIte]
  refine ev_call (pair_ok _ a ⟨#[48]⟩) ?_
  rintro v_2 H_2 le_2 ⟨va, vb, ra, rb, rfl, h1, h2, h3, h4⟩ _
  replace hT := hT.le le_2
  simp only [go_sem, Nat.reduceEqDiff, Bool.false_eq_true, Nat.reduceBEq, ↓reduceIte]
  obtain ⟨A, l, c, rfl⟩ := h1.form
  obtain ⟨B, m, e, rfl⟩ := h2.form
  cases hk : pok a ⟨#[48]⟩ with
  | false =>
    simp only [go_sem, Nat.reduceEqDiff, Bool.false_eq_true, Nat.reduceBEq, ↓reduceIte, hk]
    refine ev_call (alive_ok _ hT) ?_
    rintro v_3 H_3 le_3 rfl _
    simp only [go_sem, Nat.reduceEqDiff, Bool.false_eq_true, Nat.reduceBEq, ↓reduceIte]
    exact ⟨by trivial, by trivial⟩
  | true =>
    rw [hk, if_pos rfl] at h1 h3
    have hbl := (pok_bl hk).1
    generalize dv (bs a) = x at *
    simp only [go_sem, Nat.reduceEqDiff, Bool.false_eq_true, Nat.reduceBEq, ↓reduceIte, hk]
    refine ev_if (fun h => ?_) (fun h => ?_)
    · simp only [go_sem, Nat.reduceEqDiff, Bool.false_eq_true, Nat.reduceBEq, ↓reduceIte]
      refine ev_call (alive_ok _ hT) ?_
      rintro v_4 H_4 le_4 rfl _
      simp only [go_sem, Nat.reduceEqDiff, Bool.false_eq_true, Nat.reduceBEq, ↓reduceIte]
      exact ⟨by trivial, by trivial⟩
    · simp only [go_sem, Nat.reduceEqDiff, Bool.false_eq_true, Nat.reduceBEq, ↓reduceIte]
      rw [show (if n < 0 then 0 else n) = (n.toNat : Int) by split <;> omega]
      have hc := clip_max n (by omega)
      have hb2 : bl (x * 2 ^ n.toNat) ≤ 800 + n.toNat := bl_shl hbl
      have hb3 : bl (x / 2 ^ n.toNat) ≤ 800 := bl_div hbl
      refine ev_call (shl_ok _ _ x n h1 (by omega)) ?_
      rintro v_5 H_5 le_5 h5 _
      replace h1 := h1.le le_5
      replace h3 := h3.le le_5
      simp only [go_sem, Nat.reduceEqDiff, Bool.false_eq_true, Nat.reduceBEq, ↓reduceIte]
      rw [hc] at h5
      refine ev_call (text_ok _ _ _ h5 (by omega)) ?_
      rintro v_6 H_6 le_6 rfl _
      replace h1 := h1.le le_6
      replace h3 := h3.le le_6
      simp only [go_sem, Nat.reduceEqDiff, Bool.false_eq_true, Nat.reduceBEq, ↓reduceIte]
      refine ev_call (rshl_ok _ _ x n.toNat h3 (by omega) (by omega)) ?_
      rintro v_7 H_7 le_7 h6 _
      replace h1 := h1.le le_7
      replace h3 := h3.le le_7
      simp only [go_sem, Nat.reduceEqDiff, Bool.false_eq_true, Nat.reduceBEq, ↓reduceIte]
      refine ev_call (rtext_ok _ _ _ h6 (by omega)) ?_
      rintro v_8 H_8 le_8 rfl _
      replace h1 := h1.le le_8
      replace h3 := h3.le le_8
      simp only [go_sem, Nat.reduceEqDiff, Bool.false_eq_true, Nat.reduceBEq, ↓reduceIte]
      refine ev_pos (by trivial) ?_
      simp only [go_sem, Nat.reduceEqDiff, Bool.false_eq_true, Nat.reduceBEq, ↓reduceIte]
      refine ev_call (shr_ok _ _ x n h1 (by omega)) ?_
      rintro v_9 H_9 le_9 h7 _
      replace h1 := h1.le le_9
      replace h3 := h3.le le_9
      simp only [go_sem, Nat.reduceEqDiff, Bool.false_eq_true, Nat.reduceBEq, ↓reduceIte]
      rw [hc] at h7
      refine ev_call (text_ok _ _ _ h7 (by omega)) ?_
      rintro v_10 H_10 le_10 rfl _
      replace h1 := h1.le le_10
      replace h3 := h3.le le_10
      simp only [go_sem, Nat.reduceEqDiff, Bool.false_eq_true, Nat.reduceBEq, ↓reduceIte]
      refine ev_call (rshr_ok _ _ x n.toNat h3 (by omega) (by omega)) ?_
      rintro v_11 H_11 le_11 h8 _
      replace h1 := h1.le le_11
      replace h3 := h3.le le_11
      simp only [go_sem, Nat.reduceEqDiff, Bool.false_eq_true, Nat.reduceBEq, ↓reduceIte]
      refine ev_call (rtext_ok _ _ _ h8 (by omega)) ?_
      rintro v_12 H_12 le_12 rfl _
      replace h1 := h1.le le_12
      replace h3 := h3.le le_12
      simp only [go_sem, Nat.reduceEqDiff, Bool.false_eq_true, Nat.reduceBEq, ↓reduceIte]
      refine ev_pos (by trivial) ?_
      simp only [go_sem, Nat.reduceEqDiff, Bool.false_eq_true, Nat.reduceBEq, ↓reduceIte]
      exact ⟨by trivial, by trivial⟩

theorem bl_prod {x y : Nat} (hx : x ≠ 0) (hy : y ≠ 0) : bl (x * y) = bl x + bl y ∨ bl (x * y) + 1 = bl x + bl y := by
  have h1 := bl_mul x y
  have h2 := two_pow_le_bl hx
  have h3 := two_pow_le_bl hy
  have h4 := bl_pos hx
  have h5 := bl_pos hy
  have h6 := Nat.mul_le_mul h2 h3
  rw [← Nat.pow_add] at h6
  have h7 := lt_bl_iff.2 h6
  omega
theorem btx_length (x : Nat) : (btx x).length = (bl x + 7) / 8 := by simp [btx, dg_length]
theorem ofB_size (l : List Nat) : (ofB l).size = l.length := by
  show (l.map UInt8.ofNat).toArray.size = _
  simp

theorem NatLengths_ok (H : PH) (hT : Tab H) (a b : ByteArray) : FnP Tryd.prog 7 [.string a, .string b] H fun v _ => v = .bool true := by
  refine of_cincturelaw1_NatLengths (by simp) ?_
  simp only [go_sem, Nat.reduceEqDiff, Bool.false_eq_true, Nat.reduceBEq, ↓reduceIte, p_cincturelaw1_NatLengths]
  refine ev_call (alive_ok _ hT) ?_
  rintro v_13 H_13 le_13 rfl _
  replace hT := hT.le le_13
  simp only [go_sem, Nat.reduceEqDiff, Bool.false_eq_true, Nat.reduceBEq, ↓reduceIte]
  refine ev_call (pair_ok _ a b) ?_
  rintro v_14 H_14 le_14 ⟨va, vb, ra, rb, rfl, h1, h2, h3, h4⟩ _
  replace hT := hT.le le_14
  simp only [go_sem, Nat.reduceEqDiff, Bool.false_eq_true, Nat.reduceBEq, ↓reduceIte]
  obtain ⟨A, l, c, rfl⟩ := h1.form
  obtain ⟨B, m, e, rfl⟩ := h2.form
  obtain ⟨A', l', c', rfl, hl'⟩ := h3.form
  obtain ⟨B', m', e', rfl, hm'⟩ := h4.form
  cases hk : pok a b with
  | false =>
    simp only [go_sem, Nat.reduceEqDiff, Bool.false_eq_true, Nat.reduceBEq, ↓reduceIte, hk]
    exact ⟨by trivial, by trivial⟩
  | true =>
    rw [hk, if_pos rfl] at h1 h2 h3 h4 hl' hm'
    obtain ⟨hbx, hby⟩ := pok_bl hk
    generalize dv (bs a) = x at *
    generalize dv (bs b) = y at *
    simp only [go_sem, Nat.reduceEqDiff, Bool.false_eq_true, Nat.reduceBEq, ↓reduceIte, hk]
    refine ev_if (fun h => ?_) (fun h => ?_)
    · simp only [go_sem, Nat.reduceEqDiff, Bool.false_eq_true, Nat.reduceBEq, ↓reduceIte]
      exact ⟨by trivial, by trivial⟩
    · simp only [go_sem, Nat.reduceEqDiff, Bool.false_eq_true, Nat.reduceBEq, ↓reduceIte]
      refine ev_if (fun h0 => ?_) (fun h0 => ?_)
      · simp only [go_sem, Nat.reduceEqDiff, Bool.false_eq_true, Nat.reduceBEq, ↓reduceIte]
        exact ⟨by trivial, by trivial⟩
      · have hx0 : x ≠ 0 := fun e => h (by rw [hl'.2 e]; rfl)
        have hy0 : y ≠ 0 := fun e => h0 (by rw [hm'.2 e]; rfl)
        have hpr := bl_prod hx0 hy0
        have htz := tz_prod x y hx0 hy0
        have t1 := tz_lt_bl hx0
        have t2 := tz_lt_bl hy0
        simp only [go_sem, Nat.reduceEqDiff, Bool.false_eq_true, Nat.reduceBEq, ↓reduceIte]
        refine ev_call (mul_ok _ _ _ x y h1 h2 (by omega) (by omega)) ?_
        rintro v_15 H_15 le_15 h5 _
        replace h1 := h1.le le_15
        replace h2 := h2.le le_15
        replace hT := hT.le le_15
        simp only [go_sem, Nat.reduceEqDiff, Bool.false_eq_true, Nat.reduceBEq, ↓reduceIte]
        obtain ⟨C, k, g, rfl⟩ := h5.form
        generalize x * y = z at *
        simp only [go_sem, Nat.reduceEqDiff, Bool.false_eq_true, Nat.reduceBEq, ↓reduceIte]
        refine ev_callP (nbits_ok _ _ x h1 (by omega)) ?_
        rintro v_16 H_16 le_16 rfl _
        replace h1 := h1.le le_16
        replace h2 := h2.le le_16
        replace h5 := h5.le le_16
        replace hT := hT.le le_16
        simp only [go_sem, Nat.reduceEqDiff, Bool.false_eq_true, Nat.reduceBEq, ↓reduceIte]
        refine ev_callP (nbits_ok _ _ y h2 (by omega)) ?_
        rintro v_17 H_17 le_17 rfl _
        replace h1 := h1.le le_17
        replace h2 := h2.le le_17
        replace h5 := h5.le le_17
        replace hT := hT.le le_17
        simp only [go_sem, Nat.reduceEqDiff, Bool.false_eq_true, Nat.reduceBEq, ↓reduceIte]
        simp (disch := omega) only [nA64, nS64, nM64, nC64, nA64l, nS64l, nM64l, nM64r, nR64l, nL64l, nAu64, nMu64, nMu64r, nSu64, nAu64l, nLu64l, nCu64, nCu32, nCu8, nAu32, nLu32l, nSu8l, toNat_cast]
        refine ev_callP (nbits_ok _ _ z h5 (by omega)) ?_
        rintro v_18 H_18 le_18 rfl _
        replace h1 := h1.le le_18
        replace h2 := h2.le le_18
        replace h5 := h5.le le_18
        replace hT := hT.le le_18
        simp only [go_sem, Nat.reduceEqDiff, Bool.false_eq_true, Nat.reduceBEq, ↓reduceIte]
        refine ev_if (fun h6 => ?_) (fun h6 => ?_)
        · simp only [go_sem, Nat.reduceEqDiff, Bool.false_eq_true, Nat.reduceBEq, ↓reduceIte]
          refine ev_callP (bytes_ok _ _ z h5 (by omega)) ?_
          rintro v_19 H_19 le_19 rfl _
          replace h1 := h1.le le_19
          replace h2 := h2.le le_19
          replace h5 := h5.le le_19
          replace hT := hT.le le_19
          simp only [go_sem, Nat.reduceEqDiff, Bool.false_eq_true, Nat.reduceBEq, ↓reduceIte]
          refine ev_callP (nbits_ok _ _ z h5 (by omega)) ?_
          rintro v_20 H_20 le_20 rfl _
          replace h1 := h1.le le_20
          replace h2 := h2.le le_20
          replace h5 := h5.le le_20
          replace hT := hT.le le_20
          simp only [go_sem, Nat.reduceEqDiff, Bool.false_eq_true, Nat.reduceBEq, ↓reduceIte]
          simp (disch := omega) only [nA64, nS64, nM64, nC64, nA64l, nS64l, nM64l, nM64r, nR64l, nL64l, nAu64, nMu64, nMu64r, nSu64, nAu64l, nLu64l, nCu64, nCu32, nCu8, nAu32, nLu32l, nSu8l, toNat_cast]
          refine quo_nat (a := bl z + 7) (m := 8) rfl (by decide) (by simp (disch := omega) only [w64, wu64, wu32, wu8]) ?_
          simp only [go_sem, Nat.reduceEqDiff, Bool.false_eq_true, Nat.reduceBEq, ↓reduceIte]
          refine ev_pos (by rw [ofB_size, btx_length]) ?_
          simp only [go_sem, Nat.reduceEqDiff, Bool.false_eq_true, Nat.reduceBEq, ↓reduceIte]
          refine ev_callP (zeros_ok _ hT _ z h5 (by omega)) ?_
          rintro v_21 H_21 le_21 rfl _
          replace h1 := h1.le le_21
          replace h2 := h2.le le_21
          replace h5 := h5.le le_21
          replace hT := hT.le le_21
          simp only [go_sem, Nat.reduceEqDiff, Bool.false_eq_true, Nat.reduceBEq, ↓reduceIte]
          refine ev_callP (zeros_ok _ hT _ x h1 (by omega)) ?_
          rintro v_22 H_22 le_22 rfl _
          replace h1 := h1.le le_22
          replace h2 := h2.le le_22
          replace h5 := h5.le le_22
          replace hT := hT.le le_22
          simp only [go_sem, Nat.reduceEqDiff, Bool.false_eq_true, Nat.reduceBEq, ↓reduceIte]
          refine ev_callP (zeros_ok _ hT _ y h2 (by omega)) ?_
          rintro v_23 H_23 le_23 rfl _
          replace h1 := h1.le le_23
          replace h2 := h2.le le_23
          replace h5 := h5.le le_23
          replace hT := hT.le le_23
          simp only [go_sem, Nat.reduceEqDiff, Bool.false_eq_true, Nat.reduceBEq, ↓reduceIte]
          simp (disch := omega) only [nA64, nS64, nM64, nC64, nA64l, nS64l, nM64l, nM64r, nR64l, nL64l, nAu64, nMu64, nMu64r, nSu64, nAu64l, nLu64l, nCu64, nCu32, nCu8, nAu32, nLu32l, nSu8l, toNat_cast]
          refine ev_pos (by rw [htz]) ?_
          simp only [go_sem, Nat.reduceEqDiff, Bool.false_eq_true, Nat.reduceBEq, ↓reduceIte]
          exact ⟨by trivial, by trivial⟩
        · simp only [go_sem, Nat.reduceEqDiff, Bool.false_eq_true, Nat.reduceBEq, ↓reduceIte]
          simp (disch := omega) only [nA64, nS64, nM64, nC64, nA64l, nS64l, nM64l, nM64r, nR64l, nL64l, nAu64, nMu64, nMu64r, nSu64, nAu64l, nLu64l, nCu64, nCu32, nCu8, nAu32, nLu32l, nSu8l, toNat_cast]
          refine ev_callP (nbits_ok _ _ z h5 (by omega)) ?_
          rintro v_24 H_24 le_24 rfl _
          replace h1 := h1.le le_24
          replace h2 := h2.le le_24
          replace h5 := h5.le le_24
          replace hT := hT.le le_24
          simp only [go_sem, Nat.reduceEqDiff, Bool.false_eq_true, Nat.reduceBEq, ↓reduceIte]
          refine ev_pos (by omega) ?_
          simp only [go_sem, Nat.reduceEqDiff, Bool.false_eq_true, Nat.reduceBEq, ↓reduceIte]
          refine ev_callP (bytes_ok _ _ z h5 (by omega)) ?_
          rintro v_19 H_19 le_19 rfl _
          replace h1 := h1.le le_19
          replace h2 := h2.le le_19
          replace h5 := h5.le le_19
          replace hT := hT.le le_19
          simp only [go_sem, Nat.reduceEqDiff, Bool.false_eq_true, Nat.reduceBEq, ↓reduceIte]
          refine ev_callP (nbits_ok _ _ z h5 (by omega)) ?_
          rintro v_20 H_20 le_20 rfl _
          replace h1 := h1.le le_20
          replace h2 := h2.le le_20
          replace h5 := h5.le le_20
          replace hT := hT.le le_20
          simp only [go_sem, Nat.reduceEqDiff, Bool.false_eq_true, Nat.reduceBEq, ↓reduceIte]
          simp (disch := omega) only [nA64, nS64, nM64, nC64, nA64l, nS64l, nM64l, nM64r, nR64l, nL64l, nAu64, nMu64, nMu64r, nSu64, nAu64l, nLu64l, nCu64, nCu32, nCu8, nAu32, nLu32l, nSu8l, toNat_cast]
          refine quo_nat (a := bl z + 7) (m := 8) rfl (by decide) (by simp (disch := omega) only [w64, wu64, wu32, wu8]) ?_
          simp only [go_sem, Nat.reduceEqDiff, Bool.false_eq_true, Nat.reduceBEq, ↓reduceIte]
          refine ev_pos (by rw [ofB_size, btx_length]) ?_
          simp only [go_sem, Nat.reduceEqDiff, Bool.false_eq_true, Nat.reduceBEq, ↓reduceIte]
          refine ev_callP (zeros_ok _ hT _ z h5 (by omega)) ?_
          rintro v_21 H_21 le_21 rfl _
          replace h1 := h1.le le_21
          replace h2 := h2.le le_21
          replace h5 := h5.le le_21
          replace hT := hT.le le_21
          simp only [go_sem, Nat.reduceEqDiff, Bool.false_eq_true, Nat.reduceBEq, ↓reduceIte]
          refine ev_callP (zeros_ok _ hT _ x h1 (by omega)) ?_
          rintro v_22 H_22 le_22 rfl _
          replace h1 := h1.le le_22
          replace h2 := h2.le le_22
          replace h5 := h5.le le_22
          replace hT := hT.le le_22
          simp only [go_sem, Nat.reduceEqDiff, Bool.false_eq_true, Nat.reduceBEq, ↓reduceIte]
          refine ev_callP (zeros_ok _ hT _ y h2 (by omega)) ?_
          rintro v_23 H_23 le_23 rfl _
          replace h1 := h1.le le_23
          replace h2 := h2.le le_23
          replace h5 := h5.le le_23
          replace hT := hT.le le_23
          simp only [go_sem, Nat.reduceEqDiff, Bool.false_eq_true, Nat.reduceBEq, ↓reduceIte]
          simp (disch := omega) only [nA64, nS64, nM64, nC64, nA64l, nS64l, nM64l, nM64r, nR64l, nL64l, nAu64, nMu64, nMu64r, nSu64, nAu64l, nLu64l, nCu64, nCu32, nCu8, nAu32, nLu32l, nSu8l, toNat_cast]
          refine ev_pos (by rw [htz]) ?_
          simp only [go_sem, Nat.reduceEqDiff, Bool.false_eq_true, Nat.reduceBEq, ↓reduceIte]
          exact ⟨by trivial, by trivial⟩

theorem cmpN_self (x : Nat) : cmpN x x = 0 := by unfold cmpN; simp

theorem NatRings_ok (H : PH) (hT : Tab H) (a b c : ByteArray) : FnP Tryd.prog 8 [.string a, .string b, .string c] H fun v _ => v = .bool true := by
  refine of_cincturelaw1_NatRings (by simp) ?_
  simp only [go_sem, Nat.reduceEqDiff, Bool.false_eq_true, Nat.reduceBEq, ↓reduceIte, p_cincturelaw1_NatRings]
  refine ev_call (alive_ok _ hT) ?_
  rintro v_25 H_25 le_25 rfl _
  replace hT := hT.le le_25
  simp only [go_sem, Nat.reduceEqDiff, Bool.false_eq_true, Nat.reduceBEq, ↓reduceIte]
  refine ev_call (pair_ok _ a b) ?_
  rintro v_26 H_26 le_26 ⟨va, vb, ra, rb, rfl, h1, h2, h3, h4⟩ _
  simp only [go_sem, Nat.reduceEqDiff, Bool.false_eq_true, Nat.reduceBEq, ↓reduceIte]
  obtain ⟨A, l, c1, rfl⟩ := h1.form
  obtain ⟨B, m, e, rfl⟩ := h2.form
  simp only [go_sem, Nat.reduceEqDiff, Bool.false_eq_true, Nat.reduceBEq, ↓reduceIte]
  refine ev_call (pair_ok _ c ⟨#[48]⟩) ?_
  rintro v_27 H_27 le_27 ⟨vc, vd, rc, rd, rfl, h5, h6, h7, h8⟩ _
  replace h1 := h1.le le_27
  replace h2 := h2.le le_27
  simp only [go_sem, Nat.reduceEqDiff, Bool.false_eq_true, Nat.reduceBEq, ↓reduceIte]
  obtain ⟨C, k, g, rfl⟩ := h5.form
  obtain ⟨D, k', g', rfl⟩ := h6.form
  cases hk : pok a b with
  | false =>
    simp only [go_sem, Nat.reduceEqDiff, Bool.false_eq_true, Nat.reduceBEq, ↓reduceIte, hk]
    exact ⟨by trivial, by trivial⟩
  | true =>
    cases hk2 : pok c ⟨#[48]⟩ with
    | false =>
      simp only [go_sem, Nat.reduceEqDiff, Bool.false_eq_true, Nat.reduceBEq, ↓reduceIte, hk, hk2]
      exact ⟨by trivial, by trivial⟩
    | true =>
      rw [hk, if_pos rfl] at h1 h2
      rw [hk2, if_pos rfl] at h5
      obtain ⟨hbx, hby⟩ := pok_bl hk
      have hbz := (pok_bl hk2).1
      generalize dv (bs a) = x at *
      generalize dv (bs b) = y at *
      generalize dv (bs c) = z at *
      have s1 := bl_add x y
      have s2 := bl_add y z
      have m1 := bl_mul x y
      have m2 := bl_mul z x
      have m3 := bl_mul z y
      have m4 := bl_mul (x + y) z
      have s3 := bl_add (z * x) (z * y)
      have s4 := bl_add (x + y) z
      have s5 := bl_add z y
      have s6 := bl_add x (z + y)
      have m5 := bl_mul (x * y) z
      have m6 := bl_mul x (z * y)
      simp only [go_sem, Nat.reduceEqDiff, Bool.false_eq_true, Nat.reduceBEq, ↓reduceIte, hk, hk2]
      refine ev_callP (add_ok _ _ _ x y h1 h2 (by omega) (by omega)) ?_
      rintro v_28 H_28 le_28 g1 _
      replace h1 := h1.le le_28
      replace h2 := h2.le le_28
      replace h5 := h5.le le_28
      simp only [go_sem, Nat.reduceEqDiff, Bool.false_eq_true, Nat.reduceBEq, ↓reduceIte]
      refine ev_callP (mul_ok _ _ _ _ z g1 h5 (by omega) (by omega)) ?_
      rintro v_29 H_29 le_29 g2 _
      replace h1 := h1.le le_29
      replace h2 := h2.le le_29
      replace h5 := h5.le le_29
      simp only [go_sem, Nat.reduceEqDiff, Bool.false_eq_true, Nat.reduceBEq, ↓reduceIte]
      refine ev_callP (mul_ok _ _ _ z x h5 h1 (by omega) (by omega)) ?_
      rintro v_30 H_30 le_30 g3 _
      replace h1 := h1.le le_30
      replace h2 := h2.le le_30
      replace h5 := h5.le le_30
      replace g2 := g2.le le_30
      simp only [go_sem, Nat.reduceEqDiff, Bool.false_eq_true, Nat.reduceBEq, ↓reduceIte]
      refine ev_callP (mul_ok _ _ _ z y h5 h2 (by omega) (by omega)) ?_
      rintro v_31 H_31 le_31 g4 _
      replace h1 := h1.le le_31
      replace h2 := h2.le le_31
      replace h5 := h5.le le_31
      replace g2 := g2.le le_31
      replace g3 := g3.le le_31
      simp only [go_sem, Nat.reduceEqDiff, Bool.false_eq_true, Nat.reduceBEq, ↓reduceIte]
      refine ev_callP (add_ok _ _ _ _ _ g3 g4 (by omega) (by omega)) ?_
      rintro v_32 H_32 le_32 g5 _
      replace h1 := h1.le le_32
      replace h2 := h2.le le_32
      replace h5 := h5.le le_32
      replace g2 := g2.le le_32
      simp only [go_sem, Nat.reduceEqDiff, Bool.false_eq_true, Nat.reduceBEq, ↓reduceIte]
      refine ev_callP (cmp_ok _ _ _ _ _ g2 g5 (by omega) (by omega)) ?_
      rintro v_33 H_33 le_33 rfl _
      replace h1 := h1.le le_33
      replace h2 := h2.le le_33
      replace h5 := h5.le le_33
      simp only [go_sem, Nat.reduceEqDiff, Bool.false_eq_true, Nat.reduceBEq, ↓reduceIte]
      refine ev_pos (by rw [show (x + y) * z = z * x + z * y by rw [Nat.mul_comm, Nat.mul_add]]; exact cmpN_self _) ?_
      simp only [go_sem, Nat.reduceEqDiff, Bool.false_eq_true, Nat.reduceBEq, ↓reduceIte]
      refine ev_callP (add_ok _ _ _ x y h1 h2 (by omega) (by omega)) ?_
      rintro v_34 H_34 le_34 g1 _
      replace h1 := h1.le le_34
      replace h2 := h2.le le_34
      replace h5 := h5.le le_34
      simp only [go_sem, Nat.reduceEqDiff, Bool.false_eq_true, Nat.reduceBEq, ↓reduceIte]
      refine ev_callP (add_ok _ _ _ _ z g1 h5 (by omega) (by omega)) ?_
      rintro v_35 H_35 le_35 g2 _
      replace h1 := h1.le le_35
      replace h2 := h2.le le_35
      replace h5 := h5.le le_35
      simp only [go_sem, Nat.reduceEqDiff, Bool.false_eq_true, Nat.reduceBEq, ↓reduceIte]
      refine ev_callP (add_ok _ _ _ z y h5 h2 (by omega) (by omega)) ?_
      rintro v_36 H_36 le_36 g3 _
      replace h1 := h1.le le_36
      replace h2 := h2.le le_36
      replace h5 := h5.le le_36
      replace g2 := g2.le le_36
      simp only [go_sem, Nat.reduceEqDiff, Bool.false_eq_true, Nat.reduceBEq, ↓reduceIte]
      refine ev_callP (add_ok _ _ _ x _ h1 g3 (by omega) (by omega)) ?_
      rintro v_37 H_37 le_37 g4 _
      replace h1 := h1.le le_37
      replace h2 := h2.le le_37
      replace h5 := h5.le le_37
      replace g2 := g2.le le_37
      simp only [go_sem, Nat.reduceEqDiff, Bool.false_eq_true, Nat.reduceBEq, ↓reduceIte]
      refine ev_callP (cmp_ok _ _ _ _ _ g2 g4 (by omega) (by omega)) ?_
      rintro v_38 H_38 le_38 rfl _
      replace h1 := h1.le le_38
      replace h2 := h2.le le_38
      replace h5 := h5.le le_38
      simp only [go_sem, Nat.reduceEqDiff, Bool.false_eq_true, Nat.reduceBEq, ↓reduceIte]
      refine ev_pos (by rw [show (x + y) + z = x + (z + y) by omega]; exact cmpN_self _) ?_
      simp only [go_sem, Nat.reduceEqDiff, Bool.false_eq_true, Nat.reduceBEq, ↓reduceIte]
      refine ev_callP (mul_ok _ _ _ x y h1 h2 (by omega) (by omega)) ?_
      rintro v_39 H_39 le_39 g1 _
      replace h1 := h1.le le_39
      replace h2 := h2.le le_39
      replace h5 := h5.le le_39
      simp only [go_sem, Nat.reduceEqDiff, Bool.false_eq_true, Nat.reduceBEq, ↓reduceIte]
      refine ev_callP (mul_ok _ _ _ _ z g1 h5 (by omega) (by omega)) ?_
      rintro v_40 H_40 le_40 g2 _
      replace h1 := h1.le le_40
      replace h2 := h2.le le_40
      replace h5 := h5.le le_40
      simp only [go_sem, Nat.reduceEqDiff, Bool.false_eq_true, Nat.reduceBEq, ↓reduceIte]
      refine ev_callP (mul_ok _ _ _ z y h5 h2 (by omega) (by omega)) ?_
      rintro v_41 H_41 le_41 g3 _
      replace h1 := h1.le le_41
      replace h2 := h2.le le_41
      replace h5 := h5.le le_41
      replace g2 := g2.le le_41
      simp only [go_sem, Nat.reduceEqDiff, Bool.false_eq_true, Nat.reduceBEq, ↓reduceIte]
      refine ev_callP (mul_ok _ _ _ x _ h1 g3 (by omega) (by omega)) ?_
      rintro v_42 H_42 le_42 g4 _
      replace h1 := h1.le le_42
      replace h2 := h2.le le_42
      replace h5 := h5.le le_42
      replace g2 := g2.le le_42
      simp only [go_sem, Nat.reduceEqDiff, Bool.false_eq_true, Nat.reduceBEq, ↓reduceIte]
      refine ev_callP (cmp_ok _ _ _ _ _ g2 g4 (by omega) (by omega)) ?_
      rintro v_43 H_43 le_43 rfl _
      replace h1 := h1.le le_43
      replace h2 := h2.le le_43
      replace h5 := h5.le le_43
      simp only [go_sem, Nat.reduceEqDiff, Bool.false_eq_true, Nat.reduceBEq, ↓reduceIte]
      refine ev_pos (by rw [show (x * y) * z = x * (z * y) by rw [Nat.mul_comm z y, Nat.mul_assoc]]; exact cmpN_self _) ?_
      simp only [go_sem, Nat.reduceEqDiff, Bool.false_eq_true, Nat.reduceBEq, ↓reduceIte]
      exact ⟨by trivial, by trivial⟩

end Go.Proofs.YtlhhdlhnpgiamaaDoor.X
