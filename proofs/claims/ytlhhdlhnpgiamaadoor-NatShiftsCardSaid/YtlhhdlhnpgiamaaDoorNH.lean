/- Package nat: reading decimal text. -/
import Derived.Test.YtlhhdlhnpgiamaaDoorNG
set_option linter.unusedVariables false
set_option linter.unusedSimpArgs false
namespace Go.Proofs.YtlhhdlhnpgiamaaDoor.X
open Go Go.RowKit Go.Proofs

theorem grow_ok (H M : PH) (A : Option Addr) (l : List Nat) (c by_ d : Nat) (hO : Own .u32 60 M A l c) (hn : Norm l) (hl : l.length ≤ 1000000000) (hb0 : 0 < by_) (hb : by_ < 4294967296) (hd0 : d < 4294967296) (hdj : PH.disj H M) :
    Fn Tryd.prog 51 [.slice A l.length c, .int .u32 (by_ : Nat), .int .u32 (d : Nat)] H M fun v H' M' => PH.disj H' M' ∧ ∃ A' l' c', v = .slice A' l'.length c' ∧ Own .u32 60 M' A' l' c' ∧ Norm l' ∧ val l' = val l * by_ + d ∧ But M M' A := by
  refine of_nat_grow (by simp) ?_
  simp only [go_sem, Nat.reduceEqDiff, Bool.false_eq_true, Nat.reduceBEq, ↓reduceIte, p_nat_grow]
  simp (disch := omega) only [nA64, nS64, nM64, nC64, nA64l, nS64l, nM64l, nM64r, nR64l, nL64l, nAu64, nMu64, nMu64r, nSu64, nAu64l, nLu64l, nCu64, nCu32, nCu8, nAu32, nLu32l, nSu8l, toNat_cast]
  refine ev_loop (fun n s => ∃ i o q M1, i ≤ l.length ∧ n = l.length - i ∧ o.length = l.length ∧ Lim o ∧ q < 4294967296 ∧ val (o.take i) + 4294967296 ^ i * q = val (l.take i) * by_ + d ∧ (∀ j, i ≤ j → o.getD j 0 = l.getD j 0) ∧ Own .u32 60 M1 A o c ∧ PH.disj H M1 ∧ But M M1 A ∧
    s = ⟨[(14, .v (.int .i64 (i : Nat))), (13, .v (.int .i64 (l.length : Nat))), (12, .v (.slice A l.length c)), (7, .v (.int .u64 (q : Nat))), (1, .v (.int .u32 (by_ : Nat))), (0, .v (.slice A l.length c))], [], H, M1⟩)
    l.length _ ⟨0, l, d, M, by omega, by omega, rfl, hn.1, by omega, by simp [val], fun j _ => rfl, hO, hdj, But.refl _ _, rfl⟩ ⟨rfl, by simp only [go_sem, Nat.reduceEqDiff, Bool.false_eq_true, Nat.reduceBEq, ↓reduceIte, and_self, Option.some.injEq, SV.v.injEq, SV.ptr.injEq, Value.int.injEq, Value.bool.injEq, Value.slice.injEq, true_and, and_true] <;> (repeat' apply And.intro) <;> first | rfl | omega | (simp (disch := omega) only [w64, wu64, wu32, wu8] <;> omega), by simp only [go_sem, Nat.reduceEqDiff, Bool.false_eq_true, Nat.reduceBEq, ↓reduceIte, and_self, Option.some.injEq, SV.v.injEq, SV.ptr.injEq, Value.int.injEq, Value.bool.injEq, Value.slice.injEq, true_and, and_true] <;> (repeat' apply And.intro) <;> rfl, rfl, PH.le.refl _⟩ ?_
  clear hO hdj
  rintro n s ⟨i, o, q, M1, hi, rfl, ho, hlo, hq, hv, he, hO, hdj, hBut, rfl⟩
  simp only [go_sem, Nat.reduceEqDiff, Bool.false_eq_true, Nat.reduceBEq, ↓reduceIte]
  refine ev_if (fun h2 => ?_) (fun h2 => ?_)
  · obtain ⟨g, rfl⟩ := hO.base (by have := hO.le_cap; omega)
    simp only [go_sem, Nat.reduceEqDiff, Bool.false_eq_true, Nat.reduceBEq, ↓reduceIte]
    refine ev_iaN i rfl (by omega) rfl ?_
    simp only [go_sem, Nat.reduceEqDiff, Bool.false_eq_true, Nat.reduceBEq, ↓reduceIte]
    refine ev_ldO hO (by omega) ?_
    have hx := hlo.getD i
    have hb2 := mul_bound (z := 0) hq hx hb (by decide)
    rw [Nat.add_zero] at hb2
    simp only [go_sem, Nat.reduceEqDiff, Bool.false_eq_true, Nat.reduceBEq, ↓reduceIte]
    simp (disch := omega) only [nA64, nS64, nM64, nC64, nA64l, nS64l, nM64l, nM64r, nR64l, nL64l, nAu64, nMu64, nMu64r, nSu64, nAu64l, nLu64l, nCu64, nCu32, nCu8, nAu32, nLu32l, nSu8l, toNat_cast]
    generalize ht : q + o.getD i 0 * by_ = t
    have ht2 : t < 18446744073709551616 := by omega
    refine ev_iaN i rfl (by omega) rfl ?_
    simp only [go_sem, Nat.reduceEqDiff, Bool.false_eq_true, Nat.reduceBEq, ↓reduceIte]
    rw [u32mod]
    refine ev_stO hO (by omega) ?_
    intro M' hO' hB' hd'
    simp only [go_sem, Nat.reduceEqDiff, Bool.false_eq_true, Nat.reduceBEq, ↓reduceIte]
    refine shr_nat (n := 32) rfl (by decide) ?_
    simp only [go_sem, Nat.reduceEqDiff, Bool.false_eq_true, Nat.reduceBEq, ↓reduceIte]
    refine k_next (l.length - (i + 1)) _ (by omega) ⟨i + 1, _, t / 4294967296, M', by omega, rfl, by simp; omega, hlo.set (by omega), by omega, ?_, fun j hj => ?_, hO', hd' _ hdj, hBut.trans hB', rfl⟩ ⟨rfl, by simp only [go_sem, Nat.reduceEqDiff, Bool.false_eq_true, Nat.reduceBEq, ↓reduceIte, and_self, Option.some.injEq, SV.v.injEq, SV.ptr.injEq, Value.int.injEq, Value.bool.injEq, Value.slice.injEq, true_and, and_true] <;> (repeat' apply And.intro) <;> first | rfl | omega | (simp (disch := omega) only [w64, wu64, wu32, wu8] <;> omega), by simp only [go_sem, Nat.reduceEqDiff, Bool.false_eq_true, Nat.reduceBEq, ↓reduceIte, and_self, Option.some.injEq, SV.v.injEq, SV.ptr.injEq, Value.int.injEq, Value.bool.injEq, Value.slice.injEq, true_and, and_true] <;> (repeat' apply And.intro) <;> rfl, rfl, PH.le.refl _⟩
    · have el := val_take_succ l i (by omega)
      rw [val_take_set o i _ (by omega), el, Nat.pow_succ, Nat.mul_assoc, Nat.add_assoc, ← Nat.mul_add, show t % 4294967296 + 4294967296 * (t / 4294967296) = t by omega, ← ht, he i (Nat.le_refl _), Nat.mul_add, Nat.add_mul, Nat.mul_assoc]
      omega
    · rw [← he j (by omega)]
      simp only [List.getD]
      rw [List.getElem?_set_ne (by omega)]
  · have hil : i = l.length := by omega
    subst hil
    rw [List.take_length, List.take_of_length_le (by omega)] at hv
    have hnorm : q = 0 → Norm o := fun h0 => norm_of_val hlo fun hne => by
      rw [h0, Nat.mul_zero, Nat.add_zero] at hv
      have h3 := val_pos hn (fun e => hne (List.eq_nil_of_length_eq_zero (by rw [ho, e]; rfl)))
      have h4 : val l ≤ val l * by_ := Nat.le_mul_of_pos_right _ hb0
      rw [ho]; omega
    simp only [go_sem, Nat.reduceEqDiff, Bool.false_eq_true, Nat.reduceBEq, ↓reduceIte]
    refine ev_if (fun h3 => ?_) (fun h3 => ?_)
    · simp only [go_sem, Nat.reduceEqDiff, Bool.false_eq_true, Nat.reduceBEq, ↓reduceIte]
      simp (disch := omega) only [nA64, nS64, nM64, nC64, nA64l, nS64l, nM64l, nM64r, nR64l, nL64l, nAu64, nMu64, nMu64r, nSu64, nAu64l, nLu64l, nCu64, nCu32, nCu8, nAu32, nLu32l, nSu8l, toNat_cast]
      refine ev_bslO (k := .u32) (l := [q]) rfl rfl (by simp) hdj ?_
      intro g M2 hO2 hle2 hg2 hd2
      simp only [go_sem, Nat.reduceEqDiff, Bool.false_eq_true, Nat.reduceBEq, ↓reduceIte]
      refine ev_appO (hO.le hle2) (m := [q]) (hO2.sl hd2) (by omega) rfl (by simp) (by simp; omega) (by simp; omega) hd2 ?_
      intro A' c' M' hO' hBut' _ hd'
      simp only [go_sem, Nat.reduceEqDiff, Bool.false_eq_true, Nat.reduceBEq, ↓reduceIte]
      refine ⟨hd', A', o ++ [q], c', by simp, hO', norm_snoc hlo hq (by omega), ?_, fun b ob hb hne => hBut' b ob (hle2 b ob (hBut b ob hb hne)) hne⟩
      rw [val_append, ho]
      simp only [val, Nat.mul_zero, Nat.add_zero]
      exact hv
    · have h0 : q = 0 := by omega
      simp only [go_sem, Nat.reduceEqDiff, Bool.false_eq_true, Nat.reduceBEq, ↓reduceIte]
      refine ⟨hdj, A, o, c, by rw [ho], hO, hnorm h0, ?_, hBut⟩
      rw [h0] at hv
      omega

end Go.Proofs.YtlhhdlhnpgiamaaDoor.X
