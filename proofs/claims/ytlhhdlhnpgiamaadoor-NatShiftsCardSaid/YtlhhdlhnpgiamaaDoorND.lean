/- Package nat: multiplying. -/
import Derived.Test.YtlhhdlhnpgiamaaDoorNC
set_option linter.unusedVariables false
set_option linter.unusedSimpArgs false
namespace Go.Proofs.YtlhhdlhnpgiamaaDoor.X
open Go Go.RowKit Go.Proofs

theorem mul_bound {c x y z : Nat} (hc : c < 4294967296) (hx : x < 4294967296) (hy : y < 4294967296) (hz : z < 4294967296) : x * y ≤ 18446744065119617025 ∧ x * y + z ≤ 18446744069414584320 ∧ c + (x * y + z) ≤ 18446744073709551615 := by
  have : x * y ≤ 4294967295 * 4294967295 := Nat.mul_le_mul (by omega) (by omega)
  omega

theorem mul_ok (H : PH) (va vb : Value) (x y : Nat) (ha : NatV H va x) (hb : NatV H vb y) (hbx : bl x ≤ 4294967296) (hby : bl y ≤ 4294967296) : FnP Tryd.prog 35 [va, vb] H fun v H' => NatV H' v (x * y) := by
  obtain ⟨A, l, c, rfl, hc, hS, hn, rfl⟩ := ha
  obtain ⟨B, m, e, rfl, he, hT, hm, rfl⟩ := hb
  have hlen : l.length ≤ 200000000 := by have := len_le_bl hn; omega
  have hlen2 : m.length ≤ 200000000 := by have := len_le_bl hm; omega
  clear hbx hby hc he
  refine of_nat_Mul (by simp) ?_
  simp only [go_sem, Nat.reduceEqDiff, Bool.false_eq_true, Nat.reduceBEq, ↓reduceIte, p_nat_Mul]
  rw [w64n (l.length + m.length) (by omega) (by omega)]
  refine ev_mkO (by omega) (by omega) (by omega) (PH.disj_no _) ?_
  intro g M hO _ _ hd
  simp only [go_sem, Nat.reduceEqDiff, Bool.false_eq_true, Nat.reduceBEq, ↓reduceIte]
  rw [show (((l.length + m.length : Nat) : Int)).toNat = l.length + m.length from rfl] at hO ⊢
  refine ev_loop (fun n s => ∃ i o M, i ≤ l.length ∧ n = l.length - i ∧ o.length = l.length + m.length ∧ Lim o ∧ val o = val (l.take i) * val m ∧ Own .u32 60 M (some ⟨g, 0, none⟩) o (l.length + m.length) ∧ PH.disj H M ∧
    s = ⟨[(22, .v (.int .i64 (i : Nat))), (21, .v (.int .i64 (l.length : Nat))), (20, .v (.slice A l.length c)), (5, .v (.slice (some ⟨g, 0, none⟩) (l.length + m.length) (l.length + m.length))), (4, .ptr 4 0), (3, .ptr 3 0)], [(4, [.slice none 0 0]), (3, [.slice B m.length e])], H, M⟩)
    l.length _ ⟨0, _, M, by omega, by omega, by simp, Lim.replicate _, by simp [val, val_replicate], hO, hd, rfl⟩ ⟨rfl, by simp only [go_sem, Nat.reduceEqDiff, Bool.false_eq_true, Nat.reduceBEq, ↓reduceIte, and_self, Option.some.injEq, SV.v.injEq, SV.ptr.injEq, Value.int.injEq, Value.bool.injEq, Value.slice.injEq, true_and, and_true] <;> (repeat' apply And.intro) <;> first | rfl | omega | (simp (disch := omega) only [w64, wu64, wu32, wu8] <;> omega), by simp only [go_sem, Nat.reduceEqDiff, Bool.false_eq_true, Nat.reduceBEq, ↓reduceIte, and_self, Option.some.injEq, SV.v.injEq, SV.ptr.injEq, Value.int.injEq, Value.bool.injEq, Value.slice.injEq, true_and, and_true] <;> (repeat' apply And.intro) <;> rfl, rfl, PH.le.refl _⟩ ?_
  clear hO hd
  rintro n s ⟨i, o, M, hi, rfl, ho, hlo, hv, hO, hd, rfl⟩
  simp only [go_sem, Nat.reduceEqDiff, Bool.false_eq_true, Nat.reduceBEq, ↓reduceIte]
  refine ev_if (fun h2 => ?_) (fun h2 => ?_)
  · obtain ⟨b, off, rfl⟩ := hS.base (by omega)
    simp only [go_sem, Nat.reduceEqDiff, Bool.false_eq_true, Nat.reduceBEq, ↓reduceIte]
    refine ev_iaN i rfl (by omega) rfl ?_
    simp only [go_sem, Nat.reduceEqDiff, Bool.false_eq_true, Nat.reduceBEq, ↓reduceIte]
    refine ev_ldS hS rfl (by omega) ?_
    have hx := hn.1.getD i
    have el := val_take_succ l i (by omega)
    simp only [go_sem, Nat.reduceEqDiff, Bool.false_eq_true, Nat.reduceBEq, ↓reduceIte]
    have hlt : val (l.take i) * val m < 4294967296 ^ (i + m.length) := by
      have h1 := val_lt (hn.1.take i)
      have h2 := val_lt hm.1
      rw [List.length_take, Nat.min_eq_left hi] at h1
      rw [Nat.pow_add]
      exact Nat.mul_lt_mul'' h1 h2
    refine ev_loop (fun n s => ∃ k p q M, k ≤ m.length ∧ n = m.length - k ∧ p.length = l.length + m.length ∧ Lim p ∧ q < 4294967296 ∧ p.getD (i + m.length) 0 = 0 ∧ val p + 4294967296 ^ (i + k) * q = val (l.take i) * val m + 4294967296 ^ i * (l.getD i 0 * val (m.take k)) ∧ Own .u32 60 M (some ⟨g, 0, none⟩) p (l.length + m.length) ∧ PH.disj H M ∧
      s = ⟨[(30, .v (.int .i64 (k : Nat))), (29, .v (.int .i64 (m.length : Nat))), (28, .v (.slice B m.length e)), (22, .v (.int .i64 (i : Nat))), (21, .v (.int .i64 (l.length : Nat))), (20, .v (.slice (some ⟨b, off, none⟩) l.length c)), (8, .v (.int .u64 (q : Nat))), (7, .v (.int .u32 (l.getD i 0 : Nat))), (6, .v (.int .i64 (i : Nat))),
        (5, .v (.slice (some ⟨g, 0, none⟩) (l.length + m.length) (l.length + m.length))), (4, .ptr 4 0), (3, .ptr 3 0)], [(4, [.slice none 0 0]), (3, [.slice B m.length e])], H, M⟩)
      m.length _ ⟨0, o, 0, M, by omega, by omega, ho, hlo, by omega, getD_zero (n := i + m.length) (by rw [hv]; exact hlt) (Nat.le_refl _), by rw [hv]; simp [val], hO, hd, rfl⟩ ⟨rfl, by simp only [go_sem, Nat.reduceEqDiff, Bool.false_eq_true, Nat.reduceBEq, ↓reduceIte, and_self, Option.some.injEq, SV.v.injEq, SV.ptr.injEq, Value.int.injEq, Value.bool.injEq, Value.slice.injEq, true_and, and_true] <;> (repeat' apply And.intro) <;> first | rfl | omega | (simp (disch := omega) only [w64, wu64, wu32, wu8] <;> omega), by simp only [go_sem, Nat.reduceEqDiff, Bool.false_eq_true, Nat.reduceBEq, ↓reduceIte, and_self, Option.some.injEq, SV.v.injEq, SV.ptr.injEq, Value.int.injEq, Value.bool.injEq, Value.slice.injEq, true_and, and_true] <;> (repeat' apply And.intro) <;> rfl, rfl, PH.le.refl _⟩ ?_
    clear hO hd hlo hv ho
    rintro n s ⟨k, p, q, M, hk, rfl, hp, hlp, hq, hp0, hv, hO, hd, rfl⟩
    simp only [go_sem, Nat.reduceEqDiff, Bool.false_eq_true, Nat.reduceBEq, ↓reduceIte]
    refine ev_if (fun h3 => ?_) (fun h3 => ?_)
    · simp only [go_sem, Nat.reduceEqDiff, Bool.false_eq_true, Nat.reduceBEq, ↓reduceIte]
      obtain ⟨b2, off2, rfl⟩ := hT.base (by omega)
      refine ev_iaN k rfl (by omega) rfl ?_
      simp only [go_sem, Nat.reduceEqDiff, Bool.false_eq_true, Nat.reduceBEq, ↓reduceIte]
      refine ev_ldS hT rfl (by omega) ?_
      simp only [go_sem, Nat.reduceEqDiff, Bool.false_eq_true, Nat.reduceBEq, ↓reduceIte]
      have hy := hm.1.getD k
      have hz := hlp.getD (i + k)
      have em := val_take_succ m k (by omega)
      have hb := mul_bound hq hx hy hz
      simp (disch := omega) only [nA64, nS64, nM64, nC64, nA64l, nS64l, nM64l, nM64r, nR64l, nL64l, nAu64, nMu64, nMu64r, nSu64, nAu64l, nLu64l, nCu64, nCu32, nCu8, nAu32, nLu32l, nSu8l, toNat_cast]
      refine ev_iaN (i + k) rfl (by omega) rfl ?_
      simp only [go_sem, Nat.reduceEqDiff, Bool.false_eq_true, Nat.reduceBEq, ↓reduceIte]
      refine ev_ldO hO (by omega) ?_
      simp only [go_sem, Nat.reduceEqDiff, Bool.false_eq_true, Nat.reduceBEq, ↓reduceIte]
      simp (disch := omega) only [nA64, nS64, nM64, nC64, nA64l, nS64l, nM64l, nM64r, nR64l, nL64l, nAu64, nMu64, nMu64r, nSu64, nAu64l, nLu64l, nCu64, nCu32, nCu8, nAu32, nLu32l, nSu8l, toNat_cast]
      generalize hw : q + (l.getD i 0 * m.getD k 0 + p.getD (i + k) 0) = w at *
      refine ev_iaN (i + k) rfl (by omega) rfl ?_
      simp only [go_sem, Nat.reduceEqDiff, Bool.false_eq_true, Nat.reduceBEq, ↓reduceIte]
      rw [u32mod]
      refine ev_stO hO (by omega) ?_
      intro M' hO' _ hd'
      simp only [go_sem, Nat.reduceEqDiff, Bool.false_eq_true, Nat.reduceBEq, ↓reduceIte]
      refine shr_nat (n := 32) rfl (by decide) ?_
      simp only [go_sem, Nat.reduceEqDiff, Bool.false_eq_true, Nat.reduceBEq, ↓reduceIte]
      refine k_next (m.length - (k + 1)) _ (by omega) ⟨k + 1, _, w / 4294967296, M', by omega, rfl, by simp; omega, hlp.set (by omega), by omega, ?_, ?_, hO', hd' _ hd, rfl⟩ ⟨rfl, by simp only [go_sem, Nat.reduceEqDiff, Bool.false_eq_true, Nat.reduceBEq, ↓reduceIte, and_self, Option.some.injEq, SV.v.injEq, SV.ptr.injEq, Value.int.injEq, Value.bool.injEq, Value.slice.injEq, true_and, and_true] <;> (repeat' apply And.intro) <;> first | rfl | omega | (simp (disch := omega) only [w64, wu64, wu32, wu8] <;> omega), by simp only [go_sem, Nat.reduceEqDiff, Bool.false_eq_true, Nat.reduceBEq, ↓reduceIte, and_self, Option.some.injEq, SV.v.injEq, SV.ptr.injEq, Value.int.injEq, Value.bool.injEq, Value.slice.injEq, true_and, and_true] <;> (repeat' apply And.intro) <;> rfl, rfl, PH.le.refl _⟩
      · rw [List.getD, List.getElem?_set_ne (by omega)]; exact hp0
      · have e1 := val_set p (i + k) (w % 4294967296) (by omega)
        rw [em, ← Nat.add_assoc i k 1, Nat.pow_succ, Nat.mul_assoc]
        have e2 : 4294967296 ^ (i + k) * w = 4294967296 ^ (i + k) * (w % 4294967296) + 4294967296 ^ (i + k) * (4294967296 * (w / 4294967296)) := by rw [← Nat.mul_add]; congr 1; omega
        have e3 : 4294967296 ^ (i + k) * w = 4294967296 ^ (i + k) * q + 4294967296 ^ (i + k) * (l.getD i 0 * m.getD k 0) + 4294967296 ^ (i + k) * p.getD (i + k) 0 := by rw [← Nat.mul_add, ← Nat.mul_add]; congr 1; omega
        have e4 : 4294967296 ^ i * (l.getD i 0 * (val (m.take k) + 4294967296 ^ k * m.getD k 0)) = 4294967296 ^ i * (l.getD i 0 * val (m.take k)) + 4294967296 ^ (i + k) * (l.getD i 0 * m.getD k 0) := by
          rw [Nat.mul_add, Nat.mul_add, Nat.pow_add]
          congr 1
          simp only [Nat.mul_assoc, Nat.mul_left_comm]
        rw [e4]
        omega
    · have hkm : k = m.length := by omega
      subst hkm
      simp only [go_sem, Nat.reduceEqDiff, Bool.false_eq_true, Nat.reduceBEq, ↓reduceIte]
      rw [w64n (i + m.length) (by omega) (by omega)]
      refine ev_iaN (i + m.length) rfl (by omega) rfl ?_
      simp only [go_sem, Nat.reduceEqDiff, Bool.false_eq_true, Nat.reduceBEq, ↓reduceIte]
      rw [u32mod, Nat.mod_eq_of_lt hq]
      refine ev_stO hO (by omega) ?_
      intro M' hO' _ hd'
      simp only [go_sem, Nat.reduceEqDiff, Bool.false_eq_true, Nat.reduceBEq, ↓reduceIte]
      refine k_next (l.length - (i + 1)) _ (by omega) ⟨i + 1, _, M', by omega, rfl, by simp; omega, hlp.set hq, ?_, hO', hd' _ hd, rfl⟩ ⟨rfl, by simp only [go_sem, Nat.reduceEqDiff, Bool.false_eq_true, Nat.reduceBEq, ↓reduceIte, and_self, Option.some.injEq, SV.v.injEq, SV.ptr.injEq, Value.int.injEq, Value.bool.injEq, Value.slice.injEq, true_and, and_true] <;> (repeat' apply And.intro) <;> first | rfl | omega | (simp (disch := omega) only [w64, wu64, wu32, wu8] <;> omega), by simp only [go_sem, Nat.reduceEqDiff, Bool.false_eq_true, Nat.reduceBEq, ↓reduceIte, and_self, Option.some.injEq, SV.v.injEq, SV.ptr.injEq, Value.int.injEq, Value.bool.injEq, Value.slice.injEq, true_and, and_true] <;> (repeat' apply And.intro) <;> rfl, rfl, PH.le.refl _⟩
      have e1 := val_set p (i + m.length) q (by omega)
      rw [hp0, Nat.mul_zero, Nat.add_zero] at e1
      rw [e1, hv, List.take_length, el, Nat.add_mul, Nat.mul_assoc]
  · have hil : i = l.length := by omega
    subst hil
    simp only [go_sem, Nat.reduceEqDiff, Bool.false_eq_true, Nat.reduceBEq, ↓reduceIte]
    refine ev_cutA hO (by omega) hlo (by omega) hd ?_
    intro v H' hl hN
    have hN2 := hN
    obtain ⟨A', l', c', rfl, _⟩ := hN2
    simp only [go_sem, Nat.reduceEqDiff, Bool.false_eq_true, Nat.reduceBEq, ↓reduceIte]
    rw [hv, List.take_length] at hN
    exact ⟨by trivial, hN⟩

end Go.Proofs.YtlhhdlhnpgiamaaDoor.X
