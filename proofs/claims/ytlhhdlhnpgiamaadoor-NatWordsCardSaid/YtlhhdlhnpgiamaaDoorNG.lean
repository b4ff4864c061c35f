/- Package nat: subtracting; growing. -/
import Derived.Test.YtlhhdlhnpgiamaaDoorRD
set_option linter.unusedVariables false
set_option linter.unusedSimpArgs false
namespace Go.Proofs.YtlhhdlhnpgiamaaDoor.X
open Go Go.RowKit Go.Proofs

theorem sub_wrap1 {x q : Nat} (hq : q ≤ 1) (hx : x < 4294967296) : IntKind.u64.wrap ((x : Int) - (q : Int)) = ((18446744073709551616 + x - q) % 18446744073709551616 : Nat) := by rw [wu64_mod]; omega
theorem sub_wrap2 {x q y : Nat} (hq : q ≤ 1) (hx : x < 4294967296) (hy : y < 4294967296) : IntKind.u64.wrap ((((18446744073709551616 + x - q) % 18446744073709551616 : Nat) : Int) - (y : Int)) = ((18446744073709551616 + x - q - y) % 18446744073709551616 : Nat) := by rw [wu64_mod]; omega

theorem sub_ok (H : PH) (va vb : Value) (x y : Nat) (ha : NatV H va x) (hb : NatV H vb y) (hbx : bl x ≤ 4294967296) (hby : bl y ≤ 4294967296) : FnP Tryd.prog 37 [va, vb] H fun v H' => ∃ v', v = .tuple #[v', .bool (decide (y ≤ x))] ∧ NatV H' v' (x - y) := by
  have hcmp := cmp_ok H va vb x y ha hb hbx hby
  obtain ⟨A, l, c, rfl, hc, hS, hn, rfl⟩ := ha
  obtain ⟨B, m, e, rfl, he, hT, hm, rfl⟩ := hb
  have hlen : l.length ≤ 200000000 := by have := len_le_bl hn; omega
  have hlen2 : m.length ≤ 200000000 := by have := len_le_bl hm; omega
  clear hbx hby hc he
  refine of_nat_Sub (by simp) ?_
  simp only [go_sem, Nat.reduceEqDiff, Bool.false_eq_true, Nat.reduceBEq, ↓reduceIte, p_nat_Sub]
  refine ev_call hcmp ?_
  rintro v H' hle rfl hd
  replace hS := hS.le hle
  replace hT := hT.le hle
  clear hcmp hle hd
  simp only [go_sem, Nat.reduceEqDiff, Bool.false_eq_true, Nat.reduceBEq, ↓reduceIte]
  refine ev_if (fun h => ?_) (fun h => ?_)
  · have hlt : val l < val m := by
      unfold cmpN at h
      split at h
      · assumption
      · split at h <;> omega
    simp only [go_sem, Nat.reduceEqDiff, Bool.false_eq_true, Nat.reduceBEq, ↓reduceIte]
    refine ⟨by trivial, _, by rw [decide_eq_false (by omega)], ?_⟩
    rw [Nat.sub_eq_zero_of_le (by omega)]
    exact NatV.zero _ _
  · have hge : val m ≤ val l := by
      unfold cmpN at h
      split at h <;> omega
    simp only [go_sem, Nat.reduceEqDiff, Bool.false_eq_true, Nat.reduceBEq, ↓reduceIte]
    refine ev_mkO (by omega) (by omega) (by omega) (PH.disj_no _) ?_
    intro g M hO _ _ hd
    simp only [go_sem, Nat.reduceEqDiff, Bool.false_eq_true, Nat.reduceBEq, ↓reduceIte]
    rw [toNat_cast] at hO ⊢
    refine ev_loop (fun n s => ∃ i o q M, i ≤ l.length ∧ n = l.length - i ∧ o.length = l.length ∧ Lim o ∧ q ≤ 1 ∧ val (l.take i) + 4294967296 ^ i * q = val (o.take i) + val (m.take i) ∧ Own .u32 60 M (some ⟨g, 0, none⟩) o l.length ∧ PH.disj H' M ∧
      s = ⟨[(22, .v (.int .i64 (i : Nat))), (21, .v (.int .i64 (l.length : Nat))), (20, .v (.slice A l.length c)), (7, .v (.int .u64 (q : Nat))), (6, .v (.slice (some ⟨g, 0, none⟩) l.length l.length)), (4, .ptr 4 0), (3, .ptr 3 0)], [(4, [.slice none 0 0]), (3, [.slice B m.length e])], H', M⟩)
      l.length _ ⟨0, _, 0, M, by omega, by omega, by simp, Lim.replicate _, by omega, by simp [val], hO, hd, rfl⟩ ⟨rfl, by simp only [go_sem, Nat.reduceEqDiff, Bool.false_eq_true, Nat.reduceBEq, ↓reduceIte, and_self, Option.some.injEq, SV.v.injEq, SV.ptr.injEq, Value.int.injEq, Value.bool.injEq, Value.slice.injEq, true_and, and_true] <;> (repeat' apply And.intro) <;> first | rfl | omega | (simp (disch := omega) only [w64, wu64, wu32, wu8] <;> omega), by simp only [go_sem, Nat.reduceEqDiff, Bool.false_eq_true, Nat.reduceBEq, ↓reduceIte, and_self, Option.some.injEq, SV.v.injEq, SV.ptr.injEq, Value.int.injEq, Value.bool.injEq, Value.slice.injEq, true_and, and_true] <;> (repeat' apply And.intro) <;> rfl, rfl, PH.le.refl _⟩ ?_
    clear hO hd
    rintro n s ⟨i, o, q, M, hi, rfl, ho, hlo, hq, hv, hO, hd, rfl⟩
    simp only [go_sem, Nat.reduceEqDiff, Bool.false_eq_true, Nat.reduceBEq, ↓reduceIte]
    refine ev_if (fun h2 => ?_) (fun h2 => ?_)
    · obtain ⟨b, off, rfl⟩ := hS.base (by omega)
      simp only [go_sem, Nat.reduceEqDiff, Bool.false_eq_true, Nat.reduceBEq, ↓reduceIte]
      refine ev_iaN i rfl (by omega) rfl ?_
      simp only [go_sem, Nat.reduceEqDiff, Bool.false_eq_true, Nat.reduceBEq, ↓reduceIte]
      refine ev_ldS hS rfl (by omega) ?_
      have hx := hn.1.getD i
      have hy := hm.1.getD i
      have el := val_take_succ l i (by omega)
      have em := val_take_ge m i
      simp only [go_sem, Nat.reduceEqDiff, Bool.false_eq_true, Nat.reduceBEq, ↓reduceIte]
      simp (disch := omega) only [nA64, nS64, nM64, nC64, nA64l, nS64l, nM64l, nM64r, nR64l, nL64l, nAu64, nMu64, nMu64r, nSu64, nAu64l, nLu64l, nCu64, nCu32, nCu8, nAu32, nLu32l, nSu8l, toNat_cast]
      rw [sub_wrap1 hq hx]
      have step : ∀ z, z = (18446744073709551616 + l.getD i 0 - q - m.getD i 0) % 18446744073709551616 → z / 2 ^ 63 ≤ 1 ∧ val (l.take (i + 1)) + 4294967296 ^ (i + 1) * (z / 2 ^ 63) = val ((o.set i (z % 4294967296)).take (i + 1)) + val (m.take (i + 1)) := by
        intro z hz
        have h4 : z / 2 ^ 63 ≤ 1 := by omega
        refine ⟨h4, ?_⟩
        rw [val_take_set o i _ (by omega), el, em, Nat.pow_succ, Nat.mul_assoc]
        have h5 : l.getD i 0 + 4294967296 * (z / 2 ^ 63) = q + z % 4294967296 + m.getD i 0 := by omega
        have h6 : 4294967296 ^ i * (l.getD i 0 + 4294967296 * (z / 2 ^ 63)) = 4294967296 ^ i * (q + z % 4294967296 + m.getD i 0) := by rw [h5]
        rw [Nat.mul_add, Nat.mul_add, Nat.mul_add] at h6
        omega
      refine ev_if (fun h3 => ?_) (fun h3 => ?_)
      · simp only [go_sem, Nat.reduceEqDiff, Bool.false_eq_true, Nat.reduceBEq, ↓reduceIte]
        obtain ⟨b2, off2, rfl⟩ := hT.base (by omega)
        refine ev_iaN i rfl (by omega) rfl ?_
        simp only [go_sem, Nat.reduceEqDiff, Bool.false_eq_true, Nat.reduceBEq, ↓reduceIte]
        refine ev_ldS hT rfl (by omega) ?_
        simp only [go_sem, Nat.reduceEqDiff, Bool.false_eq_true, Nat.reduceBEq, ↓reduceIte]
        simp (disch := omega) only [nA64, nS64, nM64, nC64, nA64l, nS64l, nM64l, nM64r, nR64l, nL64l, nAu64, nMu64, nMu64r, nSu64, nAu64l, nLu64l, nCu64, nCu32, nCu8, nAu32, nLu32l, nSu8l, toNat_cast]
        rw [sub_wrap2 hq hx hy]
        refine ev_iaN i rfl (by omega) rfl ?_
        simp only [go_sem, Nat.reduceEqDiff, Bool.false_eq_true, Nat.reduceBEq, ↓reduceIte]
        rw [u32mod]
        refine ev_stO hO (by omega) ?_
        intro M' hO' _ hd'
        simp only [go_sem, Nat.reduceEqDiff, Bool.false_eq_true, Nat.reduceBEq, ↓reduceIte]
        refine shr_nat (n := 63) rfl (by decide) ?_
        simp only [go_sem, Nat.reduceEqDiff, Bool.false_eq_true, Nat.reduceBEq, ↓reduceIte]
        obtain ⟨z1, z2⟩ := step _ rfl
        refine k_next (l.length - (i + 1)) _ (by omega) ⟨i + 1, _, _, M', by omega, rfl, by simp; omega, hlo.set (by omega), z1, z2, hO', hd' _ hd, rfl⟩ ⟨rfl, by simp only [go_sem, Nat.reduceEqDiff, Bool.false_eq_true, Nat.reduceBEq, ↓reduceIte, and_self, Option.some.injEq, SV.v.injEq, SV.ptr.injEq, Value.int.injEq, Value.bool.injEq, Value.slice.injEq, true_and, and_true] <;> (repeat' apply And.intro) <;> first | rfl | omega | (simp (disch := omega) only [w64, wu64, wu32, wu8] <;> omega), by simp only [go_sem, Nat.reduceEqDiff, Bool.false_eq_true, Nat.reduceBEq, ↓reduceIte, and_self, Option.some.injEq, SV.v.injEq, SV.ptr.injEq, Value.int.injEq, Value.bool.injEq, Value.slice.injEq, true_and, and_true] <;> (repeat' apply And.intro) <;> rfl, rfl, PH.le.refl _⟩
      · simp only [go_sem, Nat.reduceEqDiff, Bool.false_eq_true, Nat.reduceBEq, ↓reduceIte]
        have hz : m.getD i 0 = 0 := getD_big (by omega)
        rw [show (18446744073709551616 + l.getD i 0 - q) % 18446744073709551616 = (18446744073709551616 + l.getD i 0 - q - m.getD i 0) % 18446744073709551616 by rw [hz]; rfl]
        refine ev_iaN i rfl (by omega) rfl ?_
        simp only [go_sem, Nat.reduceEqDiff, Bool.false_eq_true, Nat.reduceBEq, ↓reduceIte]
        rw [u32mod]
        refine ev_stO hO (by omega) ?_
        intro M' hO' _ hd'
        simp only [go_sem, Nat.reduceEqDiff, Bool.false_eq_true, Nat.reduceBEq, ↓reduceIte]
        refine shr_nat (n := 63) rfl (by decide) ?_
        simp only [go_sem, Nat.reduceEqDiff, Bool.false_eq_true, Nat.reduceBEq, ↓reduceIte]
        obtain ⟨z1, z2⟩ := step _ rfl
        refine k_next (l.length - (i + 1)) _ (by omega) ⟨i + 1, _, _, M', by omega, rfl, by simp; omega, hlo.set (by omega), z1, z2, hO', hd' _ hd, rfl⟩ ⟨rfl, by simp only [go_sem, Nat.reduceEqDiff, Bool.false_eq_true, Nat.reduceBEq, ↓reduceIte, and_self, Option.some.injEq, SV.v.injEq, SV.ptr.injEq, Value.int.injEq, Value.bool.injEq, Value.slice.injEq, true_and, and_true] <;> (repeat' apply And.intro) <;> first | rfl | omega | (simp (disch := omega) only [w64, wu64, wu32, wu8] <;> omega), by simp only [go_sem, Nat.reduceEqDiff, Bool.false_eq_true, Nat.reduceBEq, ↓reduceIte, and_self, Option.some.injEq, SV.v.injEq, SV.ptr.injEq, Value.int.injEq, Value.bool.injEq, Value.slice.injEq, true_and, and_true] <;> (repeat' apply And.intro) <;> rfl, rfl, PH.le.refl _⟩
    · have hil : i = l.length := by omega
      subst hil
      simp only [go_sem, Nat.reduceEqDiff, Bool.false_eq_true, Nat.reduceBEq, ↓reduceIte]
      refine ev_cutA hO (by omega) hlo (by omega) hd ?_
      intro v H2 hl hN
      have hN2 := hN
      obtain ⟨A', l', c', rfl, _⟩ := hN2
      simp only [go_sem, Nat.reduceEqDiff, Bool.false_eq_true, Nat.reduceBEq, ↓reduceIte]
      refine ⟨by trivial, _, by rw [decide_eq_true hge], ?_⟩
      have hml : m.length ≤ l.length := by
        refine len_of_lt hm (Nat.lt_of_le_of_lt hge (val_lt hn.1))
      rw [List.take_length, List.take_of_length_le (by omega), List.take_of_length_le hml] at hv
      have hq0 : q = 0 := by
        rcases Nat.eq_zero_or_pos q with h0 | h0
        · exact h0
        · have h1 : q = 1 := by omega
          have h2 := val_lt hlo
          rw [ho] at h2
          subst h1
          omega
      rw [hq0, Nat.mul_zero, Nat.add_zero] at hv
      rw [show val l - val m = val o by omega]
      exact hN

theorem But.trans {M M1 M2 : PH} {A : Option Addr} (h : But M M1 A) (k : But M1 M2 A) : But M M2 A := fun b o hb hne => k b o (h b o hb hne) hne
theorem But.refl (M : PH) (A : Option Addr) : But M M A := fun _ _ hb _ => hb

theorem clone_own (H : PH) (A : Option Addr) (l : List Nat) (c : Nat) (hS : Sl .u32 H A l) (hl : l.length ≤ 1000000000) (hc : l.length ≤ c) : Fn Tryd.prog 48 [.slice A l.length c] H PH.no fun v H' M' => PH.disj H' M' ∧ ∃ A' c', v = .slice A' l.length c' ∧ Own .u32 60 M' A' l c' := by
  refine of_slices_Clone_uint32_uint32 (by simp) ?_
  cases A with
  | none =>
    have h0 : l = [] := by
      rcases hS with h | ⟨b, off, cs, T, fz, h, _⟩
      · exact h
      · cases h
    subst h0
    simp only [go_sem, Nat.reduceEqDiff, Bool.false_eq_true, Nat.reduceBEq, ↓reduceIte, p_slices_Clone_uint32_uint32]
    exact ⟨PH.disj_no _, none, 0, rfl, Own.nil _ _ _⟩
  | some p =>
    simp only [go_sem, Nat.reduceEqDiff, Bool.false_eq_true, Nat.reduceBEq, ↓reduceIte, p_slices_Clone_uint32_uint32]
    refine ev_bslO (k := .u32) (l := []) rfl rfl (by simp) (PH.disj_no _) ?_
    intro g M hO hle hg hd
    simp only [go_sem, Nat.reduceEqDiff, Bool.false_eq_true, Nat.reduceBEq, ↓reduceIte]
    by_cases h0 : l = []
    · subst h0
      refine .inl ⟨rfl, Nat.le_refl _, ?_⟩
      simp only [go_sem, Nat.reduceEqDiff, Bool.false_eq_true, Nat.reduceBEq, ↓reduceIte]
      exact ⟨hd, _, _, rfl, hO⟩
    · refine ev_appO hO (m := l) (hS.le (PH.le_join _ _)) rfl rfl h0 (by simp; omega) (by simp; omega) hd ?_
      intro A' c' M' hO' _ _ hd'
      simp only [go_sem, Nat.reduceEqDiff, Bool.false_eq_true, Nat.reduceBEq, ↓reduceIte]
      refine ⟨hd', A', c', ?_, hO'⟩
      simp

theorem norm_of_val {l : List Nat} (h : Lim l) (hv : l ≠ [] → 4294967296 ^ (l.length - 1) ≤ val l) : Norm l := by
  refine ⟨h, fun hne h0 => ?_⟩
  have h1 := hv hne
  have e := List.dropLast_concat_getLast hne
  have h2 : val l = val l.dropLast + 4294967296 ^ l.dropLast.length * (l.getLast hne) := by
    conv => lhs; rw [← e]
    rw [val_append]; simp [val]
  rw [h0, Nat.mul_zero, Nat.add_zero] at h2
  have h3 := val_lt (l := l.dropLast) (by rw [List.dropLast_eq_take]; exact h.take _)
  rw [List.length_dropLast] at h3
  omega

end Go.Proofs.YtlhhdlhnpgiamaaDoor.X
