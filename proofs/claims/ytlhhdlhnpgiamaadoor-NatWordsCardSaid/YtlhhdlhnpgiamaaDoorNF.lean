/- Package nat: shifting down. -/
import Derived.Test.YtlhhdlhnpgiamaaDoorNE
set_option linter.unusedVariables false
set_option linter.unusedSimpArgs false
namespace Go.Proofs.YtlhhdlhnpgiamaaDoor.X
open Go Go.RowKit Go.Proofs

theorem shl_ok (H : PH) (va : Value) (x : Nat) (n : Int) (ha : NatV H va x) (hbx : bl x ≤ 4294967296) : FnP Tryd.prog 30 [va, .int .i64 n] H fun v H' => NatV H' v (x * 2 ^ clip n) :=
  Fn.release ((shl_own H va x n ha hbx).mono fun v H' M' hl hd hR hd' => hR.2.nat hd')

theorem shr_step (V s i x : Nat) (o : List Nat) (hs : s < 32) (hx : x < 4294967296) (hV : V < 4294967296 ^ (i + 1)) (ho : val o = V / 2 ^ s) (hlo : Lim o) (hl : i + 1 < o.length) :
    o.getD (i + 1) 0 = 0 ∧ (o.getD i 0 ||| x * 2 ^ (32 - s) % 4294967296) = o.getD i 0 + x * 2 ^ (32 - s) % 4294967296 ∧ o.getD i 0 + x * 2 ^ (32 - s) % 4294967296 < 4294967296 ∧ x * 2 ^ (32 - s) < 18446744073709551616 ∧
    val ((o.set (i + 1) (x / 2 ^ s)).set i (o.getD i 0 + x * 2 ^ (32 - s) % 4294967296)) = (V + 4294967296 ^ (i + 1) * x) / 2 ^ s := by
  have h32 : (4294967296 : Nat) = 2 ^ (32 - s) * 2 ^ s := by rw [← Nat.pow_add, show 32 - s + s = 32 by omega]
  have hp := Nat.two_pow_pos s
  have hlt : val o < 4294967296 ^ i * 2 ^ (32 - s) := by
    rw [ho, Nat.div_lt_iff_lt_mul hp, Nat.mul_assoc, ← h32, ← Nat.pow_succ]
    exact hV
  have h1 : o.getD i 0 < 2 ^ (32 - s) := getD_lt hlt
  have h2 : o.getD (i + 1) 0 = 0 := by
    refine getD_zero (n := i + 1) (Nat.lt_of_lt_of_le hlt ?_) (Nat.le_refl _)
    rw [Nat.pow_succ]
    exact Nat.mul_le_mul_left _ (Nat.pow_le_pow_right (by decide : 0 < 2) (show 32 - s ≤ 32 by omega))
  have h3 : x * 2 ^ (32 - s) % 4294967296 = x % 2 ^ s * 2 ^ (32 - s) := by
    conv => lhs; rw [h32, Nat.mul_comm (2 ^ (32 - s)) (2 ^ s)]
    rw [Nat.mul_mod_mul_right]
  have hq : x % 2 ^ s < 2 ^ s := Nat.mod_lt _ hp
  have h4 : o.getD i 0 + x * 2 ^ (32 - s) % 4294967296 < 4294967296 := by
    rw [h3]
    have := Nat.mul_le_mul_right (2 ^ (32 - s)) (Nat.succ_le_of_lt hq)
    rw [Nat.mul_comm (2 ^ s) (2 ^ (32 - s)), ← h32, Nat.succ_mul] at this
    omega
  refine ⟨h2, by rw [h3]; exact or_add _ _ _ h1, h4, ?_, ?_⟩
  · have h5 : 2 ^ (32 - s) ≤ 2 ^ 32 := Nat.pow_le_pow_right (by decide) (by omega)
    have := Nat.mul_le_mul (Nat.le_of_lt_succ hx : x ≤ 4294967295) h5
    omega
  · have e1 := val_set o (i + 1) (x / 2 ^ s) hl
    have e2 := val_set (o.set (i + 1) (x / 2 ^ s)) i (o.getD i 0 + x * 2 ^ (32 - s) % 4294967296) (by simp; omega)
    rw [show (o.set (i + 1) (x / 2 ^ s)).getD i 0 = o.getD i 0 by simp only [List.getD]; rw [List.getElem?_set_ne (by omega)]] at e2
    rw [h2, Nat.mul_zero, Nat.add_zero] at e1
    rw [Nat.mul_add, h3] at e2
    have e3 : 4294967296 ^ (i + 1) * x = 2 ^ s * (4294967296 ^ i * (2 ^ (32 - s) * x)) := by
      rw [Nat.pow_succ]
      conv => lhs; rw [show 4294967296 ^ i * 4294967296 = 4294967296 ^ i * (2 ^ (32 - s) * 2 ^ s) by rw [← h32]]
      simp only [Nat.mul_assoc, Nat.mul_left_comm]
    rw [e3, Nat.add_mul_div_left _ _ hp, ← ho]
    have e4 : 4294967296 ^ i * (2 ^ (32 - s) * x) = 4294967296 ^ (i + 1) * (x / 2 ^ s) + 4294967296 ^ i * (x % 2 ^ s * 2 ^ (32 - s)) := by
      have : 4294967296 ^ (i + 1) * (x / 2 ^ s) = 4294967296 ^ i * (2 ^ (32 - s) * (2 ^ s * (x / 2 ^ s))) := by
        rw [Nat.pow_succ]
        conv => lhs; rw [show 4294967296 ^ i * 4294967296 = 4294967296 ^ i * (2 ^ (32 - s) * 2 ^ s) by rw [← h32]]
        simp only [Nat.mul_assoc]
      rw [this, ← Nat.mul_add, Nat.mul_comm (x % 2 ^ s), ← Nat.mul_add, Nat.div_add_mod]
    rw [h3]
    omega

theorem Sl.drop {k : IntKind} {H : PH} {b off : Nat} {l : List Nat} (h : Sl k H (some ⟨b, off, none⟩) l) (n : Nat) : Sl k H (some ⟨b, off + n, none⟩) (l.drop n) := by
  by_cases hn : l.length ≤ n
  · left; exact List.drop_eq_nil_of_le hn
  rcases h with h | ⟨b', off', cs, T, fz, h1, h2, h3, h4⟩
  · left; rw [h]; simp
  · injection h1 with h1; injection h1 with e1 e2; subst e1; subst e2
    refine .inr ⟨b, off + n, cs, T, fz, rfl, h2, ?_, ?_⟩
    · simp only [List.length_drop]; omega
    · rw [List.length_drop, ← List.drop_drop, ← List.drop_take, h4]; simp [nums, List.map_drop]

theorem val_drop (l : List Nat) (w : Nat) (hl : Lim l) (h : w ≤ l.length) : val (l.drop w) = val l / 2 ^ (32 * w) := by
  have e := val_take_drop l w h
  have hlt := val_lt (hl.take w)
  rw [List.length_take, Nat.min_eq_left h] at hlt
  rw [← pow32, e, Nat.add_mul_div_left _ _ (Nat.pow_pos (by decide)), Nat.div_eq_of_lt hlt, Nat.zero_add]

theorem shr_ok (H : PH) (va : Value) (x : Nat) (n : Int) (ha : NatV H va x) (hbx : bl x ≤ 4294967296) : FnP Tryd.prog 29 [va, .int .i64 n] H fun v H' => NatV H' v (x / 2 ^ clip n) := by
  obtain ⟨A, l, c, rfl, hc, hS, hn, rfl⟩ := ha
  have hlen : l.length ≤ 200000000 := by have := len_le_bl hn; omega
  have hcl := clip_le n
  have hlt0 := val_lt hn.1
  clear hbx
  refine of_nat_Shr (by simp) ?_
  simp only [go_sem, Nat.reduceEqDiff, Bool.false_eq_true, Nat.reduceBEq, ↓reduceIte, p_nat_Shr]
  rw [clip_eq n]
  generalize clip n = k at hcl ⊢
  refine quo_nat (m := 32) rfl (by decide) (w64 _ (by omega) (by omega)) ?_
  simp only [go_sem, Nat.reduceEqDiff, Bool.false_eq_true, Nat.reduceBEq, ↓reduceIte]
  refine ev_if (fun h => ?_) (fun h => ?_)
  · simp only [go_sem, Nat.reduceEqDiff, Bool.false_eq_true, Nat.reduceBEq, ↓reduceIte]
    refine ⟨by trivial, ?_⟩
    rw [Nat.div_eq_of_lt]
    · exact NatV.zero _ _
    · refine Nat.lt_of_lt_of_le hlt0 ?_
      rw [pow32]
      exact Nat.pow_le_pow_right (by decide) (by omega)
  · simp only [go_sem, Nat.reduceEqDiff, Bool.false_eq_true, Nat.reduceBEq, ↓reduceIte]
    obtain ⟨b, off, rfl⟩ := hS.base (by omega)
    refine quo_nat (m := 32) rfl (by decide) (w64 _ (by omega) (by omega)) ?_
    simp only [go_sem, Nat.reduceEqDiff, Bool.false_eq_true, Nat.reduceBEq, ↓reduceIte]
    refine ⟨hc, ev_sllN (k / 32) l.length rfl rfl (by omega) (by omega) hc ?_⟩
    simp only [go_sem, Nat.reduceEqDiff, Bool.false_eq_true, Nat.reduceBEq, ↓reduceIte]
    rw [Nat.mul_one]
    have hD := hS.drop (k / 32)
    have hvd := val_drop l (k / 32) hn.1 (by omega)
    have hld : (l.drop (k / 32)).length = l.length - k / 32 := List.length_drop
    have hlim := hn.1.drop (k / 32)
    generalize l.drop (k / 32) = m at hD hvd hld hlim
    generalize off + k / 32 = off2 at hD ⊢
    generalize hc2 : c - k / 32 = c2
    rw [← hld]
    have hm1 : m.length ≤ 200000000 := by omega
    have hm0 : 0 < m.length := by omega
    have hgoal : val l / 2 ^ k = val m / 2 ^ (k % 32) := by
      rw [hvd, Nat.div_div_eq_div_mul, ← Nat.pow_add]
      congr 2; omega
    rw [hgoal]
    clear hS hn hlen hlt0 hvd hld hgoal h hc hc2
    generalize hks : k % 32 = s
    have hs : s < 32 := by omega
    refine ev_mkO (by omega) (by omega) (by omega) (PH.disj_no _) ?_
    intro g M hO _ _ hd
    simp only [go_sem, Nat.reduceEqDiff, Bool.false_eq_true, Nat.reduceBEq, ↓reduceIte]
    rw [toNat_cast] at hO ⊢
    refine ev_loop (fun n s' => ∃ i o M, i ≤ m.length ∧ n = m.length - i ∧ o.length = m.length ∧ Lim o ∧ val o = val (m.take i) / 2 ^ s ∧ Own .u32 60 M (some ⟨g, 0, none⟩) o m.length ∧ PH.disj H M ∧
      s' = ⟨[(29, .v (.int .i64 (i : Nat))), (28, .v (.int .i64 (m.length : Nat))), (27, .v (.slice (some ⟨b, off2, none⟩) m.length c2)), (1, .v (.int .i64 (k : Nat))), (6, .v (.slice (some ⟨g, 0, none⟩) m.length m.length)), (4, .ptr 4 0)], [(4, [.slice none 0 0])], H, M⟩)
      m.length _ ⟨0, _, M, by omega, by omega, by simp, Lim.replicate _, by simp [val, val_replicate], hO, hd, rfl⟩ ⟨rfl, by simp only [go_sem, Nat.reduceEqDiff, Bool.false_eq_true, Nat.reduceBEq, ↓reduceIte, and_self, Option.some.injEq, SV.v.injEq, SV.ptr.injEq, Value.int.injEq, Value.bool.injEq, Value.slice.injEq, true_and, and_true] <;> (repeat' apply And.intro) <;> first | rfl | omega | (simp (disch := omega) only [w64, wu64, wu32, wu8] <;> omega), by simp only [go_sem, Nat.reduceEqDiff, Bool.false_eq_true, Nat.reduceBEq, ↓reduceIte, and_self, Option.some.injEq, SV.v.injEq, SV.ptr.injEq, Value.int.injEq, Value.bool.injEq, Value.slice.injEq, true_and, and_true] <;> (repeat' apply And.intro) <;> rfl, rfl, PH.le.refl _⟩ ?_
    clear hO hd
    rintro n s' ⟨i, o, M, hi, rfl, ho, hlo, hv, hO, hd, rfl⟩
    simp only [go_sem, Nat.reduceEqDiff, Bool.false_eq_true, Nat.reduceBEq, ↓reduceIte]
    refine ev_if (fun h2 => ?_) (fun h2 => ?_)
    · simp only [go_sem, Nat.reduceEqDiff, Bool.false_eq_true, Nat.reduceBEq, ↓reduceIte]
      refine ev_iaN i rfl (by omega) rfl ?_
      simp only [go_sem, Nat.reduceEqDiff, Bool.false_eq_true, Nat.reduceBEq, ↓reduceIte]
      refine ev_ldS hD rfl (by omega) ?_
      have hx := hlim.getD i
      have el := val_take_succ m i (by omega)
      have hlt := val_lt (hlim.take i)
      rw [List.length_take, Nat.min_eq_left hi] at hlt
      simp only [go_sem, Nat.reduceEqDiff, Bool.false_eq_true, Nat.reduceBEq, ↓reduceIte]
      refine rem_nat (m := 32) rfl (by decide) ?_
      rw [hks]
      simp only [go_sem, Nat.reduceEqDiff, Bool.false_eq_true, Nat.reduceBEq, ↓reduceIte]
      refine shr_nat (n := s) rfl (by show s ≤ 32; omega) ?_
      simp only [go_sem, Nat.reduceEqDiff, Bool.false_eq_true, Nat.reduceBEq, ↓reduceIte]
      refine ev_iaN i rfl (by omega) rfl ?_
      simp only [go_sem, Nat.reduceEqDiff, Bool.false_eq_true, Nat.reduceBEq, ↓reduceIte]
      have hxs : m.getD i 0 / 2 ^ s < 4294967296 := Nat.lt_of_le_of_lt (Nat.div_le_self _ _) hx
      refine ev_stO hO (by omega) ?_
      intro M' hO' _ hd'
      simp only [go_sem, Nat.reduceEqDiff, Bool.false_eq_true, Nat.reduceBEq, ↓reduceIte]
      refine ev_if (fun h3 => ?_) (fun h3 => ?_)
      · simp only [go_sem, Nat.reduceEqDiff, Bool.false_eq_true, Nat.reduceBEq, ↓reduceIte]
        simp (disch := omega) only [nA64, nS64, nM64, nC64, nA64l, nS64l, nM64l, nM64r, nR64l, nL64l, nAu64, nMu64, nMu64r, nSu64, nAu64l, nLu64l, nCu64, nCu32, nCu8, nAu32, nLu32l, nSu8l, toNat_cast]
        refine ev_iaN (i - 1) rfl (by omega) rfl ?_
        simp only [go_sem, Nat.reduceEqDiff, Bool.false_eq_true, Nat.reduceBEq, ↓reduceIte]
        refine ev_ldO hO' (by simp; omega) ?_
        simp only [go_sem, Nat.reduceEqDiff, Bool.false_eq_true, Nat.reduceBEq, ↓reduceIte]
        refine rem_nat (m := 32) rfl (by decide) ?_
        rw [hks]
        simp only [go_sem, Nat.reduceEqDiff, Bool.false_eq_true, Nat.reduceBEq, ↓reduceIte]
        simp (disch := omega) only [nA64, nS64, nM64, nC64, nA64l, nS64l, nM64l, nM64r, nR64l, nL64l, nAu64, nMu64, nMu64r, nSu64, nAu64l, nLu64l, nCu64, nCu32, nCu8, nAu32, nLu32l, nSu8l, toNat_cast]
        obtain ⟨z1, z2, z3, z4, z5⟩ := shr_step (val (m.take i)) s (i - 1) (m.getD i 0) o hs hx (by rw [show i - 1 + 1 = i by omega]; exact hlt) hv hlo (by omega)
        rw [show i - 1 + 1 = i by omega] at z1 z5
        refine shl_nat (n := 32 - s) (y := m.getD i 0 * 2 ^ (32 - s)) rfl (by show 32 - s ≤ 64; omega) (nCu64 (by omega)) ?_
        simp only [go_sem, Nat.reduceEqDiff, Bool.false_eq_true, Nat.reduceBEq, ↓reduceIte]
        rw [u32mod, show (o.set i (m.getD i 0 / 2 ^ s)).getD (i - 1) 0 = o.getD (i - 1) 0 by simp only [List.getD]; rw [List.getElem?_set_ne (by omega)], or32 (hlo.getD _) (Nat.mod_lt _ (by decide)), z2]
        refine ev_iaN (i - 1) rfl (by omega) rfl ?_
        simp only [go_sem, Nat.reduceEqDiff, Bool.false_eq_true, Nat.reduceBEq, ↓reduceIte]
        refine ev_stO hO' (by simp; omega) ?_
        intro M2 hO2 _ hd2
        simp only [go_sem, Nat.reduceEqDiff, Bool.false_eq_true, Nat.reduceBEq, ↓reduceIte]
        refine k_next (m.length - (i + 1)) _ (by omega) ⟨i + 1, _, M2, by omega, rfl, by simp; omega, (hlo.set hxs).set z3, ?_, hO2, hd2 _ (hd' _ hd), rfl⟩ ⟨rfl, by simp only [go_sem, Nat.reduceEqDiff, Bool.false_eq_true, Nat.reduceBEq, ↓reduceIte, and_self, Option.some.injEq, SV.v.injEq, SV.ptr.injEq, Value.int.injEq, Value.bool.injEq, Value.slice.injEq, true_and, and_true] <;> (repeat' apply And.intro) <;> first | rfl | omega | (simp (disch := omega) only [w64, wu64, wu32, wu8] <;> omega), by simp only [go_sem, Nat.reduceEqDiff, Bool.false_eq_true, Nat.reduceBEq, ↓reduceIte, and_self, Option.some.injEq, SV.v.injEq, SV.ptr.injEq, Value.int.injEq, Value.bool.injEq, Value.slice.injEq, true_and, and_true] <;> (repeat' apply And.intro) <;> rfl, rfl, PH.le.refl _⟩
        rw [el]
        exact z5
      · simp only [go_sem, Nat.reduceEqDiff, Bool.false_eq_true, Nat.reduceBEq, ↓reduceIte]
        have hi0 : i = 0 := by omega
        subst hi0
        refine k_next (m.length - (0 + 1)) _ (by omega) ⟨0 + 1, _, M', by omega, rfl, by simp; omega, hlo.set hxs, ?_, hO', hd' _ hd, rfl⟩ ⟨rfl, by simp only [go_sem, Nat.reduceEqDiff, Bool.false_eq_true, Nat.reduceBEq, ↓reduceIte, and_self, Option.some.injEq, SV.v.injEq, SV.ptr.injEq, Value.int.injEq, Value.bool.injEq, Value.slice.injEq, true_and, and_true] <;> (repeat' apply And.intro) <;> first | rfl | omega | (simp (disch := omega) only [w64, wu64, wu32, wu8] <;> omega), by simp only [go_sem, Nat.reduceEqDiff, Bool.false_eq_true, Nat.reduceBEq, ↓reduceIte, and_self, Option.some.injEq, SV.v.injEq, SV.ptr.injEq, Value.int.injEq, Value.bool.injEq, Value.slice.injEq, true_and, and_true] <;> (repeat' apply And.intro) <;> rfl, rfl, PH.le.refl _⟩
        have e1 := val_set o 0 (m.getD 0 0 / 2 ^ s) (by omega)
        have e2 : o.getD 0 0 = 0 := getD_zero (n := 0) (by rw [hv]; simp [val]) (by omega)
        rw [e2] at e1
        rw [el]
        simp only [List.take_zero, val, Nat.zero_div, Nat.pow_zero, Nat.one_mul, Nat.zero_add] at hv e1 ⊢
        omega
    · have hil : i = m.length := by omega
      subst hil
      simp only [go_sem, Nat.reduceEqDiff, Bool.false_eq_true, Nat.reduceBEq, ↓reduceIte]
      refine ev_cutA hO (by omega) hlo (by omega) hd ?_
      intro v H' hl hN
      have hN2 := hN
      obtain ⟨A', l', c', rfl, _⟩ := hN2
      simp only [go_sem, Nat.reduceEqDiff, Bool.false_eq_true, Nat.reduceBEq, ↓reduceIte]
      rw [hv, List.take_length] at hN
      exact ⟨by trivial, hN⟩

end Go.Proofs.YtlhhdlhnpgiamaaDoor.X
