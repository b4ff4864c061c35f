/- The laws of chapter 1: words, sums, squares. -/
import Derived.Test.YtlhhdlhnpgiamaaDoorLB
set_option linter.unusedVariables false
set_option linter.unusedSimpArgs false
namespace Go.Proofs.YtlhhdlhnpgiamaaDoor.X
open Go Go.RowKit Go.Proofs

theorem bne_tt : (true != true) = false := of_eq_true (eq_self _)
theorem bne_tf : (true != false) = true := of_eq_true (eq_self _)
theorem bne_ft : (false != true) = true := of_eq_true (eq_self _)
theorem bne_ff : (false != false) = false := of_eq_true (eq_self _)
theorem beq_tt : (true == true) = true := of_eq_true (eq_self _)
theorem beq_tf : (true == false) = false := of_eq_true (eq_self _)
theorem beq_ft : (false == true) = false := of_eq_true (eq_self _)
theorem beq_ff : (false == false) = true := of_eq_true (eq_self _)
attribute [go_sem] bne_tt bne_tf bne_ft bne_ff beq_tt beq_tf beq_ft beq_ff

theorem sub_okT (H : PH) (va vb : Value) (x y : Nat) (ha : NatV H va x) (hb : NatV H vb y) (hbx : bl x ≤ 4294967296) (hby : bl y ≤ 4294967296) (h : y ≤ x) : FnP Tryd.prog 37 [va, vb] H fun v H' => ∃ v', v = .tuple #[v', .bool true] ∧ NatV H' v' (x - y) :=
  (sub_ok H va vb x y ha hb hbx hby).mono fun v H' _ hR => by rw [decide_eq_true h] at hR; exact hR
theorem sub_okF (H : PH) (va vb : Value) (x y : Nat) (ha : NatV H va x) (hb : NatV H vb y) (hbx : bl x ≤ 4294967296) (hby : bl y ≤ 4294967296) (h : ¬ y ≤ x) : FnP Tryd.prog 37 [va, vb] H fun v H' => ∃ v', v = .tuple #[v', .bool false] ∧ NatV H' v' 0 :=
  (sub_ok H va vb x y ha hb hbx hby).mono fun v H' _ hR => by rw [decide_eq_false h, Nat.sub_eq_zero_of_le (by omega)] at hR; exact hR

theorem NatWords_ok (H : PH) (hT : Tab H) (v : Int) (wv : (Lit.int .u64 v).wf = true) (n : Int) (wn : (Lit.int .i64 n).wf = true) : FnP Tryd.prog 5 [.int .u64 v, .int .i64 n] H fun v _ => v = .bool true := by
  obtain ⟨hv0, hv1⟩ := u64_of_wf wv
  obtain ⟨x, rfl⟩ := Int.eq_ofNat_of_zero_le hv0
  clear wv wn hv0
  have hbx : bl x ≤ 64 := bl_le_iff.2 (by omega)
  refine of_cincturelaw1_NatWords (by simp) ?_
  simp only [go_sem, Nat.reduceEqDiff, Bool.false_eq_true, Nat.reduceBEq, ↓reduceIte, p_cincturelaw1_NatWords]
  refine ev_call (of_ok _ x (by omega)) ?_
  rintro v_1 H_1 le_1 h1 _
  replace hT := hT.le le_1
  simp only [go_sem, Nat.reduceEqDiff, Bool.false_eq_true, Nat.reduceBEq, ↓reduceIte]
  obtain ⟨A, l, c, rfl⟩ := h1.form
  simp only [go_sem, Nat.reduceEqDiff, Bool.false_eq_true, Nat.reduceBEq, ↓reduceIte]
  refine ev_loop (fun n' s => ∃ (k y : Nat), n' = y ∧ k + bl y = bl x ∧ y < 18446744073709551616 ∧ s = ⟨[(7, .v (.int .u64 (y : Nat))), (6, .v (.int .i64 (k : Nat))), (5, .ptr 5 0), (1, .v (.int .i64 n)), (0, .v (.int .u64 (x : Nat)))], [(5, [.slice A l c])], H_1, PH.no⟩)
    _ _ ⟨0, x, rfl, by omega, by omega, rfl⟩ ⟨rfl, by simp only [go_sem, Nat.reduceEqDiff, Bool.false_eq_true, Nat.reduceBEq, ↓reduceIte, and_self, Option.some.injEq, SV.v.injEq, SV.ptr.injEq, Value.int.injEq, Value.bool.injEq, Value.slice.injEq, true_and, and_true] <;> (repeat' apply And.intro) <;> first | rfl | omega | (simp (disch := omega) only [w64, wu64, wu32, wu8] <;> omega), by simp only [go_sem, Nat.reduceEqDiff, Bool.false_eq_true, Nat.reduceBEq, ↓reduceIte, and_self, Option.some.injEq, SV.v.injEq, SV.ptr.injEq, Value.int.injEq, Value.bool.injEq, Value.slice.injEq, true_and, and_true] <;> (repeat' apply And.intro) <;> rfl, rfl, PH.le.refl _⟩ ?_
  rintro y s ⟨k, _, rfl, hk, hy, rfl⟩
  simp only [go_sem, Nat.reduceEqDiff, Bool.false_eq_true, Nat.reduceBEq, ↓reduceIte]
  refine ev_if (fun h2 => ?_) (fun h2 => ?_)
  · have hbl := bl_half (x := y) (by omega)
    simp only [go_sem, Nat.reduceEqDiff, Bool.false_eq_true, Nat.reduceBEq, ↓reduceIte]
    simp (disch := omega) only [nA64, nS64, nM64, nC64, nA64l, nS64l, nM64l, nM64r, nR64l, nL64l, nAu64, nMu64, nMu64r, nSu64, nAu64l, nLu64l, nCu64, nCu32, nCu8, nAu32, nLu32l, nSu8l, toNat_cast]
    refine shr_nat (n := 1) rfl (by decide) ?_
    simp only [go_sem, Nat.reduceEqDiff, Bool.false_eq_true, Nat.reduceBEq, ↓reduceIte]
    refine k_next (y / 2) _ (by omega) ⟨k + 1, y / 2, rfl, by omega, by omega, rfl⟩ ⟨rfl, by simp only [go_sem, Nat.reduceEqDiff, Bool.false_eq_true, Nat.reduceBEq, ↓reduceIte, and_self, Option.some.injEq, SV.v.injEq, SV.ptr.injEq, Value.int.injEq, Value.bool.injEq, Value.slice.injEq, true_and, and_true] <;> (repeat' apply And.intro) <;> first | rfl | omega | (simp (disch := omega) only [w64, wu64, wu32, wu8] <;> omega), by simp only [go_sem, Nat.reduceEqDiff, Bool.false_eq_true, Nat.reduceBEq, ↓reduceIte, and_self, Option.some.injEq, SV.v.injEq, SV.ptr.injEq, Value.int.injEq, Value.bool.injEq, Value.slice.injEq, true_and, and_true] <;> (repeat' apply And.intro) <;> rfl, rfl, PH.le.refl _⟩
  · have h0 : y = 0 := by omega
    subst h0
    rw [bl_zero, Nat.add_zero] at hk
    subst hk
    simp only [go_sem, Nat.reduceEqDiff, Bool.false_eq_true, Nat.reduceBEq, ↓reduceIte]
    refine ev_if (fun h3 => ?_) (fun h3 => ?_)
    · simp only [go_sem, Nat.reduceEqDiff, Bool.false_eq_true, Nat.reduceBEq, ↓reduceIte]
      obtain ⟨N, hN, hN2⟩ : ∃ N : Nat, (64 : Int) = N ∧ N ≤ 500 := ⟨64, rfl, by decide⟩
      rw [hN]
      have hcl : clip (N : Int) = N := clip_nat N (by omega)
      have hb2 : bl (x * 2 ^ N) ≤ 64 + N := bl_shl hbx
      have hback : x * 2 ^ N / 2 ^ N = x := Nat.mul_div_cancel _ (Nat.two_pow_pos _)
      refine ev_call (shl_ok _ _ x (N : Int) h1 (by omega)) ?_
      rintro v_2 H_2 le_2 h5 _
      replace h1 := h1.le le_2
      replace hT := hT.le le_2
      simp only [go_sem, Nat.reduceEqDiff, Bool.false_eq_true, Nat.reduceBEq, ↓reduceIte]
      rw [hcl] at h5
      refine ev_call (shr_ok _ _ _ (N : Int) h5 (by omega)) ?_
      rintro v_3 H_3 le_3 h6 _
      replace h1 := h1.le le_3
      replace hT := hT.le le_3
      simp only [go_sem, Nat.reduceEqDiff, Bool.false_eq_true, Nat.reduceBEq, ↓reduceIte]
      rw [hcl, hback] at h6
      obtain ⟨B, m, e, rfl⟩ := h6.form
      simp only [go_sem, Nat.reduceEqDiff, Bool.false_eq_true, Nat.reduceBEq, ↓reduceIte]
      refine ev_callP (alive_ok _ hT) ?_
      rintro v_4 H_4 le_4 rfl _
      replace h1 := h1.le le_4
      replace h6 := h6.le le_4
      replace hT := hT.le le_4
      simp only [go_sem, Nat.reduceEqDiff, Bool.false_eq_true, Nat.reduceBEq, ↓reduceIte]
      refine ev_callP (low_ok _ _ x h1 (by omega)) ?_
      rintro v_5 H_5 le_5 rfl _
      replace h1 := h1.le le_5
      replace h6 := h6.le le_5
      replace hT := hT.le le_5
      simp only [go_sem, Nat.reduceEqDiff, Bool.false_eq_true, Nat.reduceBEq, ↓reduceIte]
      rw [Nat.mod_eq_of_lt (show x < 18446744073709551616 by omega)]
      refine ev_pos rfl ?_
      simp only [go_sem, Nat.reduceEqDiff, Bool.false_eq_true, Nat.reduceBEq, ↓reduceIte]
      refine ev_callP (nbits_ok _ _ x h1 (by omega)) ?_
      rintro v_6 H_6 le_6 rfl _
      replace h1 := h1.le le_6
      replace h6 := h6.le le_6
      replace hT := hT.le le_6
      simp only [go_sem, Nat.reduceEqDiff, Bool.false_eq_true, Nat.reduceBEq, ↓reduceIte]
      refine ev_pos (by trivial) ?_
      simp only [go_sem, Nat.reduceEqDiff, Bool.false_eq_true, Nat.reduceBEq, ↓reduceIte]
      refine ev_callP (cmp_ok _ _ _ x x h1 h6 (by omega) (by omega)) ?_
      rintro v_7 H_7 le_7 rfl _
      replace h1 := h1.le le_7
      replace hT := hT.le le_7
      simp only [go_sem, Nat.reduceEqDiff, Bool.false_eq_true, Nat.reduceBEq, ↓reduceIte]
      refine ev_pos (cmpN_self _) ?_
      simp only [go_sem, Nat.reduceEqDiff, Bool.false_eq_true, Nat.reduceBEq, ↓reduceIte]
      refine ev_if (fun h7 => ?_) (fun h7 => ?_)
      · simp only [go_sem, Nat.reduceEqDiff, Bool.false_eq_true, Nat.reduceBEq, ↓reduceIte]
        exact ⟨by trivial, by trivial⟩
      · have hx0 : x ≠ 0 := by omega
        have htz := tz_shift x N hx0
        have t1 := tz_lt_bl hx0
        simp only [go_sem, Nat.reduceEqDiff, Bool.false_eq_true, Nat.reduceBEq, ↓reduceIte]
        refine ev_callP (shl_ok _ _ x (N : Int) h1 (by omega)) ?_
        rintro v_8 H_8 le_8 h8 _
        replace h1 := h1.le le_8
        replace hT := hT.le le_8
        simp only [go_sem, Nat.reduceEqDiff, Bool.false_eq_true, Nat.reduceBEq, ↓reduceIte]
        rw [hcl] at h8
        refine ev_callP (zeros_ok _ hT _ _ h8 (by omega)) ?_
        rintro v_9 H_9 le_9 rfl _
        replace h1 := h1.le le_9
        replace hT := hT.le le_9
        simp only [go_sem, Nat.reduceEqDiff, Bool.false_eq_true, Nat.reduceBEq, ↓reduceIte]
        refine ev_callP (zeros_ok _ hT _ x h1 (by omega)) ?_
        rintro v_10 H_10 le_10 rfl _
        replace h1 := h1.le le_10
        replace hT := hT.le le_10
        simp only [go_sem, Nat.reduceEqDiff, Bool.false_eq_true, Nat.reduceBEq, ↓reduceIte]
        simp (disch := omega) only [nA64, nS64, nM64, nC64, nA64l, nS64l, nM64l, nM64r, nR64l, nL64l, nAu64, nMu64, nMu64r, nSu64, nAu64l, nLu64l, nCu64, nCu32, nCu8, nAu32, nLu32l, nSu8l, toNat_cast]
        refine ev_pos (by rw [htz]; omega) ?_
        simp only [go_sem, Nat.reduceEqDiff, Bool.false_eq_true, Nat.reduceBEq, ↓reduceIte]
        exact ⟨by trivial, by trivial⟩
    · simp only [go_sem, Nat.reduceEqDiff, Bool.false_eq_true, Nat.reduceBEq, ↓reduceIte]
      refine ev_if (fun h4 => ?_) (fun h4 => ?_)
      · simp only [go_sem, Nat.reduceEqDiff, Bool.false_eq_true, Nat.reduceBEq, ↓reduceIte]
        obtain ⟨N, hN, hN2⟩ : ∃ N : Nat, (64 : Int) = N ∧ N ≤ 500 := ⟨64, rfl, by decide⟩
        rw [hN]
        have hcl : clip (N : Int) = N := clip_nat N (by omega)
        have hb2 : bl (x * 2 ^ N) ≤ 64 + N := bl_shl hbx
        have hback : x * 2 ^ N / 2 ^ N = x := Nat.mul_div_cancel _ (Nat.two_pow_pos _)
        refine ev_call (shl_ok _ _ x (N : Int) h1 (by omega)) ?_
        rintro v_2 H_2 le_2 h5 _
        replace h1 := h1.le le_2
        replace hT := hT.le le_2
        simp only [go_sem, Nat.reduceEqDiff, Bool.false_eq_true, Nat.reduceBEq, ↓reduceIte]
        rw [hcl] at h5
        refine ev_call (shr_ok _ _ _ (N : Int) h5 (by omega)) ?_
        rintro v_3 H_3 le_3 h6 _
        replace h1 := h1.le le_3
        replace hT := hT.le le_3
        simp only [go_sem, Nat.reduceEqDiff, Bool.false_eq_true, Nat.reduceBEq, ↓reduceIte]
        rw [hcl, hback] at h6
        obtain ⟨B, m, e, rfl⟩ := h6.form
        simp only [go_sem, Nat.reduceEqDiff, Bool.false_eq_true, Nat.reduceBEq, ↓reduceIte]
        refine ev_callP (alive_ok _ hT) ?_
        rintro v_4 H_4 le_4 rfl _
        replace h1 := h1.le le_4
        replace h6 := h6.le le_4
        replace hT := hT.le le_4
        simp only [go_sem, Nat.reduceEqDiff, Bool.false_eq_true, Nat.reduceBEq, ↓reduceIte]
        refine ev_callP (low_ok _ _ x h1 (by omega)) ?_
        rintro v_5 H_5 le_5 rfl _
        replace h1 := h1.le le_5
        replace h6 := h6.le le_5
        replace hT := hT.le le_5
        simp only [go_sem, Nat.reduceEqDiff, Bool.false_eq_true, Nat.reduceBEq, ↓reduceIte]
        rw [Nat.mod_eq_of_lt (show x < 18446744073709551616 by omega)]
        refine ev_pos rfl ?_
        simp only [go_sem, Nat.reduceEqDiff, Bool.false_eq_true, Nat.reduceBEq, ↓reduceIte]
        refine ev_callP (nbits_ok _ _ x h1 (by omega)) ?_
        rintro v_6 H_6 le_6 rfl _
        replace h1 := h1.le le_6
        replace h6 := h6.le le_6
        replace hT := hT.le le_6
        simp only [go_sem, Nat.reduceEqDiff, Bool.false_eq_true, Nat.reduceBEq, ↓reduceIte]
        refine ev_pos (by trivial) ?_
        simp only [go_sem, Nat.reduceEqDiff, Bool.false_eq_true, Nat.reduceBEq, ↓reduceIte]
        refine ev_callP (cmp_ok _ _ _ x x h1 h6 (by omega) (by omega)) ?_
        rintro v_7 H_7 le_7 rfl _
        replace h1 := h1.le le_7
        replace hT := hT.le le_7
        simp only [go_sem, Nat.reduceEqDiff, Bool.false_eq_true, Nat.reduceBEq, ↓reduceIte]
        refine ev_pos (cmpN_self _) ?_
        simp only [go_sem, Nat.reduceEqDiff, Bool.false_eq_true, Nat.reduceBEq, ↓reduceIte]
        refine ev_if (fun h7 => ?_) (fun h7 => ?_)
        · simp only [go_sem, Nat.reduceEqDiff, Bool.false_eq_true, Nat.reduceBEq, ↓reduceIte]
          exact ⟨by trivial, by trivial⟩
        · have hx0 : x ≠ 0 := by omega
          have htz := tz_shift x N hx0
          have t1 := tz_lt_bl hx0
          simp only [go_sem, Nat.reduceEqDiff, Bool.false_eq_true, Nat.reduceBEq, ↓reduceIte]
          refine ev_callP (shl_ok _ _ x (N : Int) h1 (by omega)) ?_
          rintro v_8 H_8 le_8 h8 _
          replace h1 := h1.le le_8
          replace hT := hT.le le_8
          simp only [go_sem, Nat.reduceEqDiff, Bool.false_eq_true, Nat.reduceBEq, ↓reduceIte]
          rw [hcl] at h8
          refine ev_callP (zeros_ok _ hT _ _ h8 (by omega)) ?_
          rintro v_9 H_9 le_9 rfl _
          replace h1 := h1.le le_9
          replace hT := hT.le le_9
          simp only [go_sem, Nat.reduceEqDiff, Bool.false_eq_true, Nat.reduceBEq, ↓reduceIte]
          refine ev_callP (zeros_ok _ hT _ x h1 (by omega)) ?_
          rintro v_10 H_10 le_10 rfl _
          replace h1 := h1.le le_10
          replace hT := hT.le le_10
          simp only [go_sem, Nat.reduceEqDiff, Bool.false_eq_true, Nat.reduceBEq, ↓reduceIte]
          simp (disch := omega) only [nA64, nS64, nM64, nC64, nA64l, nS64l, nM64l, nM64r, nR64l, nL64l, nAu64, nMu64, nMu64r, nSu64, nAu64l, nLu64l, nCu64, nCu32, nCu8, nAu32, nLu32l, nSu8l, toNat_cast]
          refine ev_pos (by rw [htz]; omega) ?_
          simp only [go_sem, Nat.reduceEqDiff, Bool.false_eq_true, Nat.reduceBEq, ↓reduceIte]
          exact ⟨by trivial, by trivial⟩
      · simp only [go_sem, Nat.reduceEqDiff, Bool.false_eq_true, Nat.reduceBEq, ↓reduceIte]
        obtain ⟨N, rfl⟩ := Int.eq_ofNat_of_zero_le (show 0 ≤ n by omega)
        have hN2 : N ≤ 500 := by omega
        have hcl : clip (N : Int) = N := clip_nat N (by omega)
        have hb2 : bl (x * 2 ^ N) ≤ 64 + N := bl_shl hbx
        have hback : x * 2 ^ N / 2 ^ N = x := Nat.mul_div_cancel _ (Nat.two_pow_pos _)
        refine ev_call (shl_ok _ _ x (N : Int) h1 (by omega)) ?_
        rintro v_2 H_2 le_2 h5 _
        replace h1 := h1.le le_2
        replace hT := hT.le le_2
        simp only [go_sem, Nat.reduceEqDiff, Bool.false_eq_true, Nat.reduceBEq, ↓reduceIte]
        rw [hcl] at h5
        refine ev_call (shr_ok _ _ _ (N : Int) h5 (by omega)) ?_
        rintro v_3 H_3 le_3 h6 _
        replace h1 := h1.le le_3
        replace hT := hT.le le_3
        simp only [go_sem, Nat.reduceEqDiff, Bool.false_eq_true, Nat.reduceBEq, ↓reduceIte]
        rw [hcl, hback] at h6
        obtain ⟨B, m, e, rfl⟩ := h6.form
        simp only [go_sem, Nat.reduceEqDiff, Bool.false_eq_true, Nat.reduceBEq, ↓reduceIte]
        refine ev_callP (alive_ok _ hT) ?_
        rintro v_4 H_4 le_4 rfl _
        replace h1 := h1.le le_4
        replace h6 := h6.le le_4
        replace hT := hT.le le_4
        simp only [go_sem, Nat.reduceEqDiff, Bool.false_eq_true, Nat.reduceBEq, ↓reduceIte]
        refine ev_callP (low_ok _ _ x h1 (by omega)) ?_
        rintro v_5 H_5 le_5 rfl _
        replace h1 := h1.le le_5
        replace h6 := h6.le le_5
        replace hT := hT.le le_5
        simp only [go_sem, Nat.reduceEqDiff, Bool.false_eq_true, Nat.reduceBEq, ↓reduceIte]
        rw [Nat.mod_eq_of_lt (show x < 18446744073709551616 by omega)]
        refine ev_pos rfl ?_
        simp only [go_sem, Nat.reduceEqDiff, Bool.false_eq_true, Nat.reduceBEq, ↓reduceIte]
        refine ev_callP (nbits_ok _ _ x h1 (by omega)) ?_
        rintro v_6 H_6 le_6 rfl _
        replace h1 := h1.le le_6
        replace h6 := h6.le le_6
        replace hT := hT.le le_6
        simp only [go_sem, Nat.reduceEqDiff, Bool.false_eq_true, Nat.reduceBEq, ↓reduceIte]
        refine ev_pos (by trivial) ?_
        simp only [go_sem, Nat.reduceEqDiff, Bool.false_eq_true, Nat.reduceBEq, ↓reduceIte]
        refine ev_callP (cmp_ok _ _ _ x x h1 h6 (by omega) (by omega)) ?_
        rintro v_7 H_7 le_7 rfl _
        replace h1 := h1.le le_7
        replace hT := hT.le le_7
        simp only [go_sem, Nat.reduceEqDiff, Bool.false_eq_true, Nat.reduceBEq, ↓reduceIte]
        refine ev_pos (cmpN_self _) ?_
        simp only [go_sem, Nat.reduceEqDiff, Bool.false_eq_true, Nat.reduceBEq, ↓reduceIte]
        refine ev_if (fun h7 => ?_) (fun h7 => ?_)
        · simp only [go_sem, Nat.reduceEqDiff, Bool.false_eq_true, Nat.reduceBEq, ↓reduceIte]
          exact ⟨by trivial, by trivial⟩
        · have hx0 : x ≠ 0 := by omega
          have htz := tz_shift x N hx0
          have t1 := tz_lt_bl hx0
          simp only [go_sem, Nat.reduceEqDiff, Bool.false_eq_true, Nat.reduceBEq, ↓reduceIte]
          refine ev_callP (shl_ok _ _ x (N : Int) h1 (by omega)) ?_
          rintro v_8 H_8 le_8 h8 _
          replace h1 := h1.le le_8
          replace hT := hT.le le_8
          simp only [go_sem, Nat.reduceEqDiff, Bool.false_eq_true, Nat.reduceBEq, ↓reduceIte]
          rw [hcl] at h8
          refine ev_callP (zeros_ok _ hT _ _ h8 (by omega)) ?_
          rintro v_9 H_9 le_9 rfl _
          replace h1 := h1.le le_9
          replace hT := hT.le le_9
          simp only [go_sem, Nat.reduceEqDiff, Bool.false_eq_true, Nat.reduceBEq, ↓reduceIte]
          refine ev_callP (zeros_ok _ hT _ x h1 (by omega)) ?_
          rintro v_10 H_10 le_10 rfl _
          replace h1 := h1.le le_10
          replace hT := hT.le le_10
          simp only [go_sem, Nat.reduceEqDiff, Bool.false_eq_true, Nat.reduceBEq, ↓reduceIte]
          simp (disch := omega) only [nA64, nS64, nM64, nC64, nA64l, nS64l, nM64l, nM64r, nR64l, nL64l, nAu64, nMu64, nMu64r, nSu64, nAu64l, nLu64l, nCu64, nCu32, nCu8, nAu32, nLu32l, nSu8l, toNat_cast]
          refine ev_pos (by rw [htz]; omega) ?_
          simp only [go_sem, Nat.reduceEqDiff, Bool.false_eq_true, Nat.reduceBEq, ↓reduceIte]
          exact ⟨by trivial, by trivial⟩

theorem NatAdds_ok (H : PH) (hT : Tab H) (a b : ByteArray) : FnP Tryd.prog 9 [.string a, .string b] H fun v _ => v = .bool true := by
  refine of_cincturelaw1_NatAdds (by simp) ?_
  simp only [go_sem, Nat.reduceEqDiff, Bool.false_eq_true, Nat.reduceBEq, ↓reduceIte, p_cincturelaw1_NatAdds]
  refine ev_call (alive_ok _ hT) ?_
  rintro v_11 H_11 le_11 rfl _
  replace hT := hT.le le_11
  simp only [go_sem, Nat.reduceEqDiff, Bool.false_eq_true, Nat.reduceBEq, ↓reduceIte]
  refine ev_call (pair_ok _ a b) ?_
  rintro v_12 H_12 le_12 ⟨va, vb, ra, rb, rfl, h1, h2, h3, h4⟩ _
  replace hT := hT.le le_12
  simp only [go_sem, Nat.reduceEqDiff, Bool.false_eq_true, Nat.reduceBEq, ↓reduceIte]
  obtain ⟨A, l, c, rfl⟩ := h1.form
  obtain ⟨B, m, e, rfl⟩ := h2.form
  cases hk : pok a b with
  | false =>
    simp only [go_sem, Nat.reduceEqDiff, Bool.false_eq_true, Nat.reduceBEq, ↓reduceIte, hk]
    exact ⟨by trivial, by trivial⟩
  | true =>
    rw [hk, if_pos rfl] at h1 h2 h3 h4
    obtain ⟨hbx, hby⟩ := pok_bl hk
    generalize dv (bs a) = x at *
    generalize dv (bs b) = y at *
    have hs := bl_add x y
    have hm := bl_mul x y
    have hd := bl_mono (Nat.sub_le x y)
    simp only [go_sem, Nat.reduceEqDiff, Bool.false_eq_true, Nat.reduceBEq, ↓reduceIte, hk]
    by_cases hle : y ≤ x
    · skip
      refine ev_call (sub_okT _ _ _ x y h1 h2 (by omega) (by omega) hle) ?_
      rintro v_23 H_23 le_23 ⟨vs, rfl, g0⟩ _
      replace h1 := h1.le le_23
      replace h2 := h2.le le_23
      replace h3 := h3.le le_23
      replace h4 := h4.le le_23
      simp only [go_sem, Nat.reduceEqDiff, Bool.false_eq_true, Nat.reduceBEq, ↓reduceIte]
      obtain ⟨C, k, g, rfl⟩ := g0.form
      simp only [go_sem, Nat.reduceEqDiff, Bool.false_eq_true, Nat.reduceBEq, ↓reduceIte]
      refine ev_call (rcmp_ok _ _ _ x y h3 h4 (by omega) (by omega)) ?_
      rintro v_24 H_24 le_24 rfl _
      replace h1 := h1.le le_24
      replace h2 := h2.le le_24
      replace h3 := h3.le le_24
      replace h4 := h4.le le_24
      replace g0 := g0.le le_24
      simp only [go_sem, Nat.reduceEqDiff, Bool.false_eq_true, Nat.reduceBEq, ↓reduceIte]
      refine ev_pos (by unfold cmpN; split <;> (try split) <;> omega) ?_
      simp only [go_sem, Nat.reduceEqDiff, Bool.false_eq_true, Nat.reduceBEq, ↓reduceIte]
      refine ev_call (cmp_ok _ _ _ x y h1 h2 (by omega) (by omega)) ?_
      rintro v_21 H_21 le_21 rfl _
      replace h1 := h1.le le_21
      replace h2 := h2.le le_21
      replace h3 := h3.le le_21
      replace h4 := h4.le le_21
      replace g0 := g0.le le_21
      simp only [go_sem, Nat.reduceEqDiff, Bool.false_eq_true, Nat.reduceBEq, ↓reduceIte]
      refine ev_call (rcmp_ok _ _ _ x y h3 h4 (by omega) (by omega)) ?_
      rintro v_22 H_22 le_22 rfl _
      replace h1 := h1.le le_22
      replace h2 := h2.le le_22
      replace h3 := h3.le le_22
      replace h4 := h4.le le_22
      replace g0 := g0.le le_22
      simp only [go_sem, Nat.reduceEqDiff, Bool.false_eq_true, Nat.reduceBEq, ↓reduceIte]
      refine ev_neg (by simp) ?_
      simp only [go_sem, Nat.reduceEqDiff, Bool.false_eq_true, Nat.reduceBEq, ↓reduceIte]
      refine ev_call (text_ok _ _ _ g0 (by omega)) ?_
      rintro v_25 H_25 le_25 rfl _
      replace h1 := h1.le le_25
      replace h2 := h2.le le_25
      replace h3 := h3.le le_25
      replace h4 := h4.le le_25
      simp only [go_sem, Nat.reduceEqDiff, Bool.false_eq_true, Nat.reduceBEq, ↓reduceIte]
      refine ev_call (rsub_ok _ _ _ x y h3 h4 (by omega) hle) ?_
      rintro v_26 H_26 le_26 g5 _
      replace h1 := h1.le le_26
      replace h2 := h2.le le_26
      replace h3 := h3.le le_26
      replace h4 := h4.le le_26
      simp only [go_sem, Nat.reduceEqDiff, Bool.false_eq_true, Nat.reduceBEq, ↓reduceIte]
      refine ev_call (rtext_ok _ _ _ g5 (by omega)) ?_
      rintro v_27 H_27 le_27 rfl _
      replace h1 := h1.le le_27
      replace h2 := h2.le le_27
      replace h3 := h3.le le_27
      replace h4 := h4.le le_27
      simp only [go_sem, Nat.reduceEqDiff, Bool.false_eq_true, Nat.reduceBEq, ↓reduceIte]
      refine ev_neg (by simp) ?_
      simp only [go_sem, Nat.reduceEqDiff, Bool.false_eq_true, Nat.reduceBEq, ↓reduceIte]
      refine ev_call (add_ok _ _ _ x y h1 h2 (by omega) (by omega)) ?_
      rintro v_13 H_13 le_13 g1 _
      replace h1 := h1.le le_13
      replace h2 := h2.le le_13
      replace h3 := h3.le le_13
      replace h4 := h4.le le_13
      simp only [go_sem, Nat.reduceEqDiff, Bool.false_eq_true, Nat.reduceBEq, ↓reduceIte]
      refine ev_call (text_ok _ _ _ g1 (by omega)) ?_
      rintro v_14 H_14 le_14 rfl _
      replace h1 := h1.le le_14
      replace h2 := h2.le le_14
      replace h3 := h3.le le_14
      replace h4 := h4.le le_14
      simp only [go_sem, Nat.reduceEqDiff, Bool.false_eq_true, Nat.reduceBEq, ↓reduceIte]
      refine ev_call (radd_ok _ _ _ x y h3 h4 (by omega) (by omega)) ?_
      rintro v_15 H_15 le_15 g2 _
      replace h1 := h1.le le_15
      replace h2 := h2.le le_15
      replace h3 := h3.le le_15
      replace h4 := h4.le le_15
      simp only [go_sem, Nat.reduceEqDiff, Bool.false_eq_true, Nat.reduceBEq, ↓reduceIte]
      refine ev_call (rtext_ok _ _ _ g2 (by omega)) ?_
      rintro v_16 H_16 le_16 rfl _
      replace h1 := h1.le le_16
      replace h2 := h2.le le_16
      replace h3 := h3.le le_16
      replace h4 := h4.le le_16
      simp only [go_sem, Nat.reduceEqDiff, Bool.false_eq_true, Nat.reduceBEq, ↓reduceIte]
      refine ev_pos (by trivial) ?_
      simp only [go_sem, Nat.reduceEqDiff, Bool.false_eq_true, Nat.reduceBEq, ↓reduceIte]
      refine ev_call (mul_ok _ _ _ x y h1 h2 (by omega) (by omega)) ?_
      rintro v_17 H_17 le_17 g3 _
      replace h1 := h1.le le_17
      replace h2 := h2.le le_17
      replace h3 := h3.le le_17
      replace h4 := h4.le le_17
      simp only [go_sem, Nat.reduceEqDiff, Bool.false_eq_true, Nat.reduceBEq, ↓reduceIte]
      refine ev_call (text_ok _ _ _ g3 (by omega)) ?_
      rintro v_18 H_18 le_18 rfl _
      replace h1 := h1.le le_18
      replace h2 := h2.le le_18
      replace h3 := h3.le le_18
      replace h4 := h4.le le_18
      simp only [go_sem, Nat.reduceEqDiff, Bool.false_eq_true, Nat.reduceBEq, ↓reduceIte]
      refine ev_call (rmul_ok _ _ _ x y h3 h4 (by omega) (by omega)) ?_
      rintro v_19 H_19 le_19 g4 _
      replace h1 := h1.le le_19
      replace h2 := h2.le le_19
      replace h3 := h3.le le_19
      replace h4 := h4.le le_19
      simp only [go_sem, Nat.reduceEqDiff, Bool.false_eq_true, Nat.reduceBEq, ↓reduceIte]
      refine ev_call (rtext_ok _ _ _ g4 (by omega)) ?_
      rintro v_20 H_20 le_20 rfl _
      replace h1 := h1.le le_20
      replace h2 := h2.le le_20
      replace h3 := h3.le le_20
      replace h4 := h4.le le_20
      simp only [go_sem, Nat.reduceEqDiff, Bool.false_eq_true, Nat.reduceBEq, ↓reduceIte]
      refine ev_pos (by trivial) ?_
      simp only [go_sem, Nat.reduceEqDiff, Bool.false_eq_true, Nat.reduceBEq, ↓reduceIte]
      exact ⟨by trivial, by trivial⟩
    · skip
      refine ev_call (sub_okF _ _ _ x y h1 h2 (by omega) (by omega) hle) ?_
      rintro v_28 H_28 le_28 ⟨vs, rfl, g0⟩ _
      replace h1 := h1.le le_28
      replace h2 := h2.le le_28
      replace h3 := h3.le le_28
      replace h4 := h4.le le_28
      simp only [go_sem, Nat.reduceEqDiff, Bool.false_eq_true, Nat.reduceBEq, ↓reduceIte]
      obtain ⟨C, k, g, rfl⟩ := g0.form
      simp only [go_sem, Nat.reduceEqDiff, Bool.false_eq_true, Nat.reduceBEq, ↓reduceIte]
      refine ev_call (rcmp_ok _ _ _ x y h3 h4 (by omega) (by omega)) ?_
      rintro v_29 H_29 le_29 rfl _
      replace h1 := h1.le le_29
      replace h2 := h2.le le_29
      replace h3 := h3.le le_29
      replace h4 := h4.le le_29
      replace g0 := g0.le le_29
      simp only [go_sem, Nat.reduceEqDiff, Bool.false_eq_true, Nat.reduceBEq, ↓reduceIte]
      refine ev_neg (by unfold cmpN; rw [if_pos (by omega)]; decide) ?_
      simp only [go_sem, Nat.reduceEqDiff, Bool.false_eq_true, Nat.reduceBEq, ↓reduceIte]
      refine ev_call (cmp_ok _ _ _ x y h1 h2 (by omega) (by omega)) ?_
      rintro v_21 H_21 le_21 rfl _
      replace h1 := h1.le le_21
      replace h2 := h2.le le_21
      replace h3 := h3.le le_21
      replace h4 := h4.le le_21
      replace g0 := g0.le le_21
      simp only [go_sem, Nat.reduceEqDiff, Bool.false_eq_true, Nat.reduceBEq, ↓reduceIte]
      refine ev_call (rcmp_ok _ _ _ x y h3 h4 (by omega) (by omega)) ?_
      rintro v_22 H_22 le_22 rfl _
      replace h1 := h1.le le_22
      replace h2 := h2.le le_22
      replace h3 := h3.le le_22
      replace h4 := h4.le le_22
      replace g0 := g0.le le_22
      simp only [go_sem, Nat.reduceEqDiff, Bool.false_eq_true, Nat.reduceBEq, ↓reduceIte]
      refine ev_neg (by simp) ?_
      simp only [go_sem, Nat.reduceEqDiff, Bool.false_eq_true, Nat.reduceBEq, ↓reduceIte]
      refine ev_call (text_ok _ _ _ g0 (by decide)) ?_
      rintro v_30 H_30 le_30 rfl _
      replace h1 := h1.le le_30
      replace h2 := h2.le le_30
      replace h3 := h3.le le_30
      replace h4 := h4.le le_30
      simp only [go_sem, Nat.reduceEqDiff, Bool.false_eq_true, Nat.reduceBEq, ↓reduceIte]
      refine ev_neg (by rw [ofB_zero]; simp) ?_
      simp only [go_sem, Nat.reduceEqDiff, Bool.false_eq_true, Nat.reduceBEq, ↓reduceIte]
      refine ev_call (add_ok _ _ _ x y h1 h2 (by omega) (by omega)) ?_
      rintro v_13 H_13 le_13 g1 _
      replace h1 := h1.le le_13
      replace h2 := h2.le le_13
      replace h3 := h3.le le_13
      replace h4 := h4.le le_13
      simp only [go_sem, Nat.reduceEqDiff, Bool.false_eq_true, Nat.reduceBEq, ↓reduceIte]
      refine ev_call (text_ok _ _ _ g1 (by omega)) ?_
      rintro v_14 H_14 le_14 rfl _
      replace h1 := h1.le le_14
      replace h2 := h2.le le_14
      replace h3 := h3.le le_14
      replace h4 := h4.le le_14
      simp only [go_sem, Nat.reduceEqDiff, Bool.false_eq_true, Nat.reduceBEq, ↓reduceIte]
      refine ev_call (radd_ok _ _ _ x y h3 h4 (by omega) (by omega)) ?_
      rintro v_15 H_15 le_15 g2 _
      replace h1 := h1.le le_15
      replace h2 := h2.le le_15
      replace h3 := h3.le le_15
      replace h4 := h4.le le_15
      simp only [go_sem, Nat.reduceEqDiff, Bool.false_eq_true, Nat.reduceBEq, ↓reduceIte]
      refine ev_call (rtext_ok _ _ _ g2 (by omega)) ?_
      rintro v_16 H_16 le_16 rfl _
      replace h1 := h1.le le_16
      replace h2 := h2.le le_16
      replace h3 := h3.le le_16
      replace h4 := h4.le le_16
      simp only [go_sem, Nat.reduceEqDiff, Bool.false_eq_true, Nat.reduceBEq, ↓reduceIte]
      refine ev_pos (by trivial) ?_
      simp only [go_sem, Nat.reduceEqDiff, Bool.false_eq_true, Nat.reduceBEq, ↓reduceIte]
      refine ev_call (mul_ok _ _ _ x y h1 h2 (by omega) (by omega)) ?_
      rintro v_17 H_17 le_17 g3 _
      replace h1 := h1.le le_17
      replace h2 := h2.le le_17
      replace h3 := h3.le le_17
      replace h4 := h4.le le_17
      simp only [go_sem, Nat.reduceEqDiff, Bool.false_eq_true, Nat.reduceBEq, ↓reduceIte]
      refine ev_call (text_ok _ _ _ g3 (by omega)) ?_
      rintro v_18 H_18 le_18 rfl _
      replace h1 := h1.le le_18
      replace h2 := h2.le le_18
      replace h3 := h3.le le_18
      replace h4 := h4.le le_18
      simp only [go_sem, Nat.reduceEqDiff, Bool.false_eq_true, Nat.reduceBEq, ↓reduceIte]
      refine ev_call (rmul_ok _ _ _ x y h3 h4 (by omega) (by omega)) ?_
      rintro v_19 H_19 le_19 g4 _
      replace h1 := h1.le le_19
      replace h2 := h2.le le_19
      replace h3 := h3.le le_19
      replace h4 := h4.le le_19
      simp only [go_sem, Nat.reduceEqDiff, Bool.false_eq_true, Nat.reduceBEq, ↓reduceIte]
      refine ev_call (rtext_ok _ _ _ g4 (by omega)) ?_
      rintro v_20 H_20 le_20 rfl _
      replace h1 := h1.le le_20
      replace h2 := h2.le le_20
      replace h3 := h3.le le_20
      replace h4 := h4.le le_20
      simp only [go_sem, Nat.reduceEqDiff, Bool.false_eq_true, Nat.reduceBEq, ↓reduceIte]
      refine ev_pos (by trivial) ?_
      simp only [go_sem, Nat.reduceEqDiff, Bool.false_eq_true, Nat.reduceBEq, ↓reduceIte]
      exact ⟨by trivial, by trivial⟩

theorem square_id (y : Nat) (h : 1 ≤ y) : y * y - 1 = (y - 1) * (y + 1) := by
  obtain ⟨z, rfl⟩ : ∃ z, y = z + 1 := ⟨y - 1, by omega⟩
  simp only [Nat.add_sub_cancel, Nat.add_mul, Nat.mul_add, Nat.mul_one, Nat.one_mul]
  omega

theorem NatSquares_ok (H : PH) (hT : Tab H) (a : ByteArray) (n : Int) (wn : (Lit.int .i64 n).wf = true) : FnP Tryd.prog 10 [.string a, .int .i64 n] H fun v _ => v = .bool true := by
  refine of_cincturelaw1_NatSquares (by simp) ?_
  simp only [go_sem, Nat.reduceEqDiff, Bool.false_eq_true, Nat.reduceBEq, ↓reduceIte, p_cincturelaw1_NatSquares]
  refine ev_call (alive_ok _ hT) ?_
  rintro v_31 H_31 le_31 rfl _
  replace hT := hT.le le_31
  simp only [go_sem, Nat.reduceEqDiff, Bool.false_eq_true, Nat.reduceBEq, ↓reduceIte]
  refine ev_call (pair_ok _ a ⟨#[48]⟩) ?_
  rintro v_32 H_32 le_32 ⟨va, vb, ra, rb, rfl, h1, h2, h3, h4⟩ _
  replace hT := hT.le le_32
  simp only [go_sem, Nat.reduceEqDiff, Bool.false_eq_true, Nat.reduceBEq, ↓reduceIte]
  obtain ⟨A, l, c, rfl⟩ := h1.form
  obtain ⟨B, m, e, rfl⟩ := h2.form
  obtain ⟨A', l', c', rfl, hl'⟩ := h3.form
  cases hk : pok a ⟨#[48]⟩ with
  | false =>
    simp only [go_sem, Nat.reduceEqDiff, Bool.false_eq_true, Nat.reduceBEq, ↓reduceIte, hk]
    exact ⟨by trivial, by trivial⟩
  | true =>
    rw [hk, if_pos rfl] at h1 h3 hl'
    have hbx := (pok_bl hk).1
    generalize dv (bs a) = x at *
    simp only [go_sem, Nat.reduceEqDiff, Bool.false_eq_true, Nat.reduceBEq, ↓reduceIte, hk]
    refine ev_if (fun h => ?_) (fun h => ?_)
    · simp only [go_sem, Nat.reduceEqDiff, Bool.false_eq_true, Nat.reduceBEq, ↓reduceIte]
      exact ⟨by trivial, by trivial⟩
    · have hx0 : x ≠ 0 := fun e => h (by rw [hl'.2 e]; rfl)
      simp only [go_sem, Nat.reduceEqDiff, Bool.false_eq_true, Nat.reduceBEq, ↓reduceIte]
      refine ev_if (fun h5 => ?_) (fun h5 => ?_)
      · simp only [go_sem, Nat.reduceEqDiff, Bool.false_eq_true, Nat.reduceBEq, ↓reduceIte]
        exact ⟨by trivial, by trivial⟩
      · simp only [go_sem, Nat.reduceEqDiff, Bool.false_eq_true, Nat.reduceBEq, ↓reduceIte]
        refine ev_if (fun h6 => ?_) (fun h6 => ?_)
        · simp only [go_sem, Nat.reduceEqDiff, Bool.false_eq_true, Nat.reduceBEq, ↓reduceIte]
          exact ⟨by trivial, by trivial⟩
        · obtain ⟨N, rfl⟩ := Int.eq_ofNat_of_zero_le (show 0 ≤ n by omega)
          have hcl : clip (N : Int) = N := clip_nat N (by omega)
          have hb2 : bl (x * 2 ^ N) ≤ 800 + N := bl_shl hbx
          have hb3 := bl_add (x * 2 ^ N) x
          simp only [go_sem, Nat.reduceEqDiff, Bool.false_eq_true, Nat.reduceBEq, ↓reduceIte]
          refine ev_callP (shl_ok _ _ x (N : Int) h1 (by omega)) ?_
          rintro v_33 H_33 le_33 h5 _
          replace h1 := h1.le le_33
          simp only [go_sem, Nat.reduceEqDiff, Bool.false_eq_true, Nat.reduceBEq, ↓reduceIte]
          rw [hcl] at h5
          refine ev_callP (add_ok _ _ _ _ x h5 h1 (by omega) (by omega)) ?_
          rintro v_34 H_34 le_34 g1 _
          simp only [go_sem, Nat.reduceEqDiff, Bool.false_eq_true, Nat.reduceBEq, ↓reduceIte]
          obtain ⟨C, k, g, rfl⟩ := g1.form
          have hy1 : 1 ≤ x * 2 ^ N + x := by omega
          have hby : bl (x * 2 ^ N + x) ≤ 3000 := by omega
          generalize x * 2 ^ N + x = y at *
          clear hb2 hb3 hbx h5 h1
          have hb4 := bl_mul y y
          have hb5 := bl_add y 1
          have hb6 := bl_mono (Nat.sub_le y 1)
          have hb7 := bl_mul (y - 1) (y + 1)
          have hb8 := bl_mono (Nat.sub_le (y * y) 1)
          have one : bl 1 = 1 := rfl
          have hyy : 1 ≤ y * y := Nat.mul_le_mul hy1 hy1
          simp only [go_sem, Nat.reduceEqDiff, Bool.false_eq_true, Nat.reduceBEq, ↓reduceIte]
          refine ev_call (of_ok _ 1 (by decide)) ?_
          rintro v_35 H_35 le_35 g2 _
          replace g1 := g1.le le_35
          simp only [go_sem, Nat.reduceEqDiff, Bool.false_eq_true, Nat.reduceBEq, ↓reduceIte]
          obtain ⟨D, k2, e2, rfl⟩ := g2.form
          simp only [go_sem, Nat.reduceEqDiff, Bool.false_eq_true, Nat.reduceBEq, ↓reduceIte]
          refine ev_call (sub_okT _ _ _ y 1 g1 g2 (by omega) (by omega) hy1) ?_
          rintro v_36 H_36 le_36 ⟨vs, rfl, g3⟩ _
          replace g1 := g1.le le_36
          replace g2 := g2.le le_36
          simp only [go_sem, Nat.reduceEqDiff, Bool.false_eq_true, Nat.reduceBEq, ↓reduceIte]
          obtain ⟨E, k3, e3, rfl⟩ := g3.form
          simp only [go_sem, Nat.reduceEqDiff, Bool.false_eq_true, Nat.reduceBEq, ↓reduceIte]
          refine ⟨?_, ?_⟩
          · skip
            refine ev_callP (mul_ok _ _ _ y y g1 g1 (by omega) (by omega)) ?_
            rintro v_41 H_41 le_41 g4 _
            replace g1 := g1.le le_41
            replace g2 := g2.le le_41
            replace g3 := g3.le le_41
            simp only [go_sem, Nat.reduceEqDiff, Bool.false_eq_true, Nat.reduceBEq, ↓reduceIte]
            refine ⟨?_, ?_⟩
            · skip
              refine ev_callP (sub_okT _ _ _ (y * y) 1 g4 g2 (by omega) (by omega) hyy) ?_
              rintro v_37 H_37 le_37 ⟨vt, rfl, g5⟩ _
              replace g1 := g1.le le_37
              replace g2 := g2.le le_37
              replace g3 := g3.le le_37
              simp only [go_sem, Nat.reduceEqDiff, Bool.false_eq_true, Nat.reduceBEq, ↓reduceIte]
              obtain ⟨F, k4, e4, rfl⟩ := g5.form
              simp only [go_sem, Nat.reduceEqDiff, Bool.false_eq_true, Nat.reduceBEq, ↓reduceIte]
              refine ev_callP (add_ok _ _ _ y 1 g1 g2 (by omega) (by omega)) ?_
              rintro v_38 H_38 le_38 g6 _
              replace g3 := g3.le le_38
              replace g5 := g5.le le_38
              simp only [go_sem, Nat.reduceEqDiff, Bool.false_eq_true, Nat.reduceBEq, ↓reduceIte]
              refine ev_callP (mul_ok _ _ _ (y - 1) (y + 1) g3 g6 (by omega) (by omega)) ?_
              rintro v_39 H_39 le_39 g7 _
              replace g5 := g5.le le_39
              simp only [go_sem, Nat.reduceEqDiff, Bool.false_eq_true, Nat.reduceBEq, ↓reduceIte]
              refine ev_callP (cmp_ok _ _ _ _ _ g5 g7 (by omega) (by omega)) ?_
              rintro v_40 H_40 le_40 rfl _
              simp only [go_sem, Nat.reduceEqDiff, Bool.false_eq_true, Nat.reduceBEq, ↓reduceIte]
              refine ev_pos (by rw [square_id y hy1]; exact cmpN_self _) ?_
              simp only [go_sem, Nat.reduceEqDiff, Bool.false_eq_true, Nat.reduceBEq, ↓reduceIte]
              exact ⟨by trivial, by trivial⟩
            · skip
              refine ev_callP (sub_okT _ _ _ (y * y) 1 g4 g2 (by omega) (by omega) hyy) ?_
              rintro v_37 H_37 le_37 ⟨vt, rfl, g5⟩ _
              replace g1 := g1.le le_37
              replace g2 := g2.le le_37
              replace g3 := g3.le le_37
              simp only [go_sem, Nat.reduceEqDiff, Bool.false_eq_true, Nat.reduceBEq, ↓reduceIte]
              obtain ⟨F, k4, e4, rfl⟩ := g5.form
              simp only [go_sem, Nat.reduceEqDiff, Bool.false_eq_true, Nat.reduceBEq, ↓reduceIte]
              refine ev_callP (add_ok _ _ _ y 1 g1 g2 (by omega) (by omega)) ?_
              rintro v_38 H_38 le_38 g6 _
              replace g3 := g3.le le_38
              replace g5 := g5.le le_38
              simp only [go_sem, Nat.reduceEqDiff, Bool.false_eq_true, Nat.reduceBEq, ↓reduceIte]
              refine ev_callP (mul_ok _ _ _ (y - 1) (y + 1) g3 g6 (by omega) (by omega)) ?_
              rintro v_39 H_39 le_39 g7 _
              replace g5 := g5.le le_39
              simp only [go_sem, Nat.reduceEqDiff, Bool.false_eq_true, Nat.reduceBEq, ↓reduceIte]
              refine ev_callP (cmp_ok _ _ _ _ _ g5 g7 (by omega) (by omega)) ?_
              rintro v_40 H_40 le_40 rfl _
              simp only [go_sem, Nat.reduceEqDiff, Bool.false_eq_true, Nat.reduceBEq, ↓reduceIte]
              refine ev_pos (by rw [square_id y hy1]; exact cmpN_self _) ?_
              simp only [go_sem, Nat.reduceEqDiff, Bool.false_eq_true, Nat.reduceBEq, ↓reduceIte]
              exact ⟨by trivial, by trivial⟩
          · skip
            refine ev_callP (mul_ok _ _ _ y y g1 g1 (by omega) (by omega)) ?_
            rintro v_42 H_42 le_42 g4 _
            replace g1 := g1.le le_42
            replace g2 := g2.le le_42
            replace g3 := g3.le le_42
            simp only [go_sem, Nat.reduceEqDiff, Bool.false_eq_true, Nat.reduceBEq, ↓reduceIte]
            refine ev_callP (sub_okT _ _ _ (y * y) 1 g4 g2 (by omega) (by omega) hyy) ?_
            rintro v_37 H_37 le_37 ⟨vt, rfl, g5⟩ _
            replace g1 := g1.le le_37
            replace g2 := g2.le le_37
            replace g3 := g3.le le_37
            simp only [go_sem, Nat.reduceEqDiff, Bool.false_eq_true, Nat.reduceBEq, ↓reduceIte]
            obtain ⟨F, k4, e4, rfl⟩ := g5.form
            simp only [go_sem, Nat.reduceEqDiff, Bool.false_eq_true, Nat.reduceBEq, ↓reduceIte]
            refine ev_callP (add_ok _ _ _ y 1 g1 g2 (by omega) (by omega)) ?_
            rintro v_38 H_38 le_38 g6 _
            replace g3 := g3.le le_38
            replace g5 := g5.le le_38
            simp only [go_sem, Nat.reduceEqDiff, Bool.false_eq_true, Nat.reduceBEq, ↓reduceIte]
            refine ev_callP (mul_ok _ _ _ (y - 1) (y + 1) g3 g6 (by omega) (by omega)) ?_
            rintro v_39 H_39 le_39 g7 _
            replace g5 := g5.le le_39
            simp only [go_sem, Nat.reduceEqDiff, Bool.false_eq_true, Nat.reduceBEq, ↓reduceIte]
            refine ev_callP (cmp_ok _ _ _ _ _ g5 g7 (by omega) (by omega)) ?_
            rintro v_40 H_40 le_40 rfl _
            simp only [go_sem, Nat.reduceEqDiff, Bool.false_eq_true, Nat.reduceBEq, ↓reduceIte]
            refine ev_pos (by rw [square_id y hy1]; exact cmpN_self _) ?_
            simp only [go_sem, Nat.reduceEqDiff, Bool.false_eq_true, Nat.reduceBEq, ↓reduceIte]
            exact ⟨by trivial, by trivial⟩

end Go.Proofs.YtlhhdlhnpgiamaaDoor.X
