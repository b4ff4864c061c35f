/- Package nat and what it calls: the small functions. -/
import Derived.Test.YtlhhdlhnpgiamaaDoorPA
import Derived.Test.YtlhhdlhnpgiamaaDoorXJ
import Derived.Test.YtlhhdlhnpgiamaaDoorMA
set_option linter.unusedVariables false
set_option linter.unusedSimpArgs false
namespace Go.Proofs.YtlhhdlhnpgiamaaDoor.X
open Go Go.RowKit Go.Proofs

/-- a number of package nat -/
def NatV (H : PH) (v : Value) (x : Nat) : Prop := ∃ A l c, v = .agg #[.slice A l.length c] ∧ l.length ≤ c ∧ Sl .u32 H A l ∧ Norm l ∧ val l = x
theorem NatV.le {H H' : PH} {v : Value} {x : Nat} (h : NatV H v x) (hl : H.le H') : NatV H' v x := by
  obtain ⟨A, l, c, h1, h2, h3, h4⟩ := h
  exact ⟨A, l, c, h1, h2, h3.le hl, h4⟩
theorem NatV.zero (H : PH) (c : Nat) : NatV H (.agg #[.slice none 0 c]) 0 := ⟨none, [], c, rfl, Nat.zero_le _, .inl rfl, .nil, rfl⟩

theorem FnP.mk {P : Program} {f : Nat} {vs : List Value} {H : PH} {R : Value → PH → Prop} (h : Fn P f vs H PH.no fun v H' M' => M' = PH.no ∧ R v H') : FnP P f vs H R := h

theorem tab8 : ∀ x < 256, bAt k0_bits_Len32 x = bl x := by decide +kernel

theorem bl_shr16 (x : Nat) (h : 65536 ≤ x) (h2 : x < 4294967296) : bl x = bl (x / 65536) + 16 := by
  have h0 : x / 65536 ≠ 0 := by omega
  have h1 := two_pow_le_bl h0
  have h3 := lt_two_pow_bl (x / 65536)
  obtain ⟨m, hm⟩ : ∃ m, bl (x / 65536) = m + 1 := ⟨bl (x / 65536) - 1, by have := bl_pos h0; omega⟩
  rw [hm] at h1 h3 ⊢
  simp only [Nat.add_sub_cancel] at h1
  rw [show m + 1 + 16 = (m + 16) + 1 by omega]
  refine bl_eq ?_ ?_
  · rw [Nat.pow_add]; omega
  · rw [show m + 16 + 1 = (m + 1) + 16 by omega, Nat.pow_add]; omega
theorem bl_shr8 (x : Nat) (h : 256 ≤ x) : bl x = bl (x / 256) + 8 := by
  have h0 : x / 256 ≠ 0 := by omega
  have h1 := two_pow_le_bl h0
  have h3 := lt_two_pow_bl (x / 256)
  obtain ⟨m, hm⟩ : ∃ m, bl (x / 256) = m + 1 := ⟨bl (x / 256) - 1, by have := bl_pos h0; omega⟩
  rw [hm] at h1 h3 ⊢
  simp only [Nat.add_sub_cancel] at h1
  rw [show m + 1 + 8 = (m + 8) + 1 by omega]
  refine bl_eq ?_ ?_
  · rw [Nat.pow_add]; omega
  · rw [show m + 8 + 1 = (m + 1) + 8 by omega, Nat.pow_add]; omega

theorem shr_nat {k : IntKind} {a n : Nat} {d : Nat} {X : XT} {s : St} {K : St → Prop} {b : Int} (hb : b = (n : Nat)) (hn : n ≤ k.bits) (k1 : X (s.put d (.v (.int k ((a / 2 ^ n : Nat) : Int)))) K) : EvShr k (a : Int) b d X s K := by
  subst hb
  refine ev_shr (Int.natCast_nonneg _) (by omega) ?_
  have : (a : Int).fdiv (2 ^ ((n : Int)).toNat) = ((a / 2 ^ n : Nat) : Int) := by
    rw [Int.fdiv_eq_ediv_of_nonneg _ (Int.le_of_lt (Int.pow_pos (by decide)))]
    simp
  rw [this]; exact k1

theorem shl_nat {k : IntKind} {a n y : Nat} {d : Nat} {X : XT} {s : St} {K : St → Prop} {b : Int} (hb : b = (n : Nat)) (hn : n ≤ k.bits) (hy : k.wrap ((a * 2 ^ n : Nat) : Int) = (y : Nat)) (k1 : X (s.put d (.v (.int k (y : Int)))) K) : EvShl k (a : Int) b d X s K := by
  subst hb
  refine ev_shl (Int.natCast_nonneg _) (by omega) ?_
  have : (a : Int) * 2 ^ ((n : Int)).toNat = ((a * 2 ^ n : Nat) : Int) := by simp
  rw [this, hy]; exact k1

theorem w64n {e : Int} (y : Nat) (h : e = y) (h1 : y ≤ 9223372036854775807) : IntKind.i64.wrap e = (y : Nat) := by rw [h]; exact w64 _ (by omega) (by omega)
theorem wu64n {e : Int} (y : Nat) (h : e = y) (h1 : y ≤ 18446744073709551615) : IntKind.u64.wrap e = (y : Nat) := by rw [h]; exact wu64 _ (by omega) (by omega)
theorem wu32n {e : Int} (y : Nat) (h : e = y) (h1 : y ≤ 4294967295) : IntKind.u32.wrap e = (y : Nat) := by rw [h]; exact wu32 _ (by omega) (by omega)
theorem wu8n {e : Int} (y : Nat) (h : e = y) (h1 : y ≤ 255) : IntKind.u8.wrap e = (y : Nat) := by rw [h]; exact wu8 _ (by omega) (by omega)
/-! numbers that fit, as natural numbers: the set of 'simp (disch := omega) only [nA64, nS64, nM64, nC64, nA64l, nS64l, nM64l, nM64r, nR64l, nL64l, nAu64, nMu64, nMu64r, nSu64, nAu64l, nLu64l, nCu64, nCu32, nCu8, nAu32, nLu32l, nSu8l, toNat_cast]' -/
theorem ofNat_int (n : Nat) : (OfNat.ofNat n : Int) = ((OfNat.ofNat n : Nat) : Int) := rfl
theorem nA64 {a b : Nat} (h : a + b ≤ 9223372036854775807) : IntKind.i64.wrap ((a : Int) + (b : Int)) = ((a + b : Nat) : Int) := w64n _ (by omega) h
theorem nS64 {a b : Nat} (h : b ≤ a) (h2 : a ≤ 9223372036854775807) : IntKind.i64.wrap ((a : Int) - (b : Int)) = ((a - b : Nat) : Int) := w64n _ (by omega) (by omega)
theorem nM64 {a b : Nat} (h : a * b ≤ 9223372036854775807) : IntKind.i64.wrap ((a : Int) * (b : Int)) = ((a * b : Nat) : Int) := w64n _ (by rw [Int.natCast_mul]) h
theorem nC64 {a : Nat} (h : a ≤ 9223372036854775807) : IntKind.i64.wrap (a : Int) = (a : Int) := w64n _ rfl h
theorem nA64l {a n : Nat} (h : a + OfNat.ofNat n ≤ 9223372036854775807) : IntKind.i64.wrap ((a : Int) + (no_index (OfNat.ofNat n : Int))) = ((a + OfNat.ofNat n : Nat) : Int) := w64n _ (by rw [ofNat_int]; omega) h
theorem nS64l {a n : Nat} (h : OfNat.ofNat n ≤ a) (h2 : a ≤ 9223372036854775807) : IntKind.i64.wrap ((a : Int) - (no_index (OfNat.ofNat n : Int))) = ((a - OfNat.ofNat n : Nat) : Int) := w64n _ (by rw [ofNat_int]; omega) (Nat.le_trans (Nat.sub_le _ _) h2)
theorem nM64l {a n : Nat} (h : OfNat.ofNat n * a ≤ 9223372036854775807) : IntKind.i64.wrap ((no_index (OfNat.ofNat n : Int)) * (a : Int)) = ((OfNat.ofNat n * a : Nat) : Int) := w64n _ (by rw [Int.natCast_mul]; rfl) h
theorem nM64r {a n : Nat} (h : a * OfNat.ofNat n ≤ 9223372036854775807) : IntKind.i64.wrap ((a : Int) * (no_index (OfNat.ofNat n : Int))) = ((a * OfNat.ofNat n : Nat) : Int) := w64n _ (by rw [Int.natCast_mul]; rfl) h
theorem nR64l {a n : Nat} (h : a ≤ OfNat.ofNat n) (h2 : OfNat.ofNat n ≤ 9223372036854775807) : IntKind.i64.wrap ((no_index (OfNat.ofNat n : Int)) - (a : Int)) = ((OfNat.ofNat n - a : Nat) : Int) := w64n _ (by rw [ofNat_int]; omega) (Nat.le_trans (Nat.sub_le _ _) h2)
theorem nL64l {a n : Nat} (h : OfNat.ofNat n + a ≤ 9223372036854775807) : IntKind.i64.wrap ((no_index (OfNat.ofNat n : Int)) + (a : Int)) = ((OfNat.ofNat n + a : Nat) : Int) := w64n _ (by rw [ofNat_int]; omega) h
theorem nAu64 {a b : Nat} (h : a + b ≤ 18446744073709551615) : IntKind.u64.wrap ((a : Int) + (b : Int)) = ((a + b : Nat) : Int) := wu64n _ (by omega) h
theorem nMu64 {a b : Nat} (h : a * b ≤ 18446744073709551615) : IntKind.u64.wrap ((a : Int) * (b : Int)) = ((a * b : Nat) : Int) := wu64n _ (by rw [Int.natCast_mul]) h
theorem nMu64r {a n : Nat} (h : a * OfNat.ofNat n ≤ 18446744073709551615) : IntKind.u64.wrap ((a : Int) * (no_index (OfNat.ofNat n : Int))) = ((a * OfNat.ofNat n : Nat) : Int) := wu64n _ (by rw [Int.natCast_mul]; rfl) h
theorem nSu64 {a b : Nat} (h : b ≤ a) (h2 : a ≤ 18446744073709551615) : IntKind.u64.wrap ((a : Int) - (b : Int)) = ((a - b : Nat) : Int) := wu64n _ (by omega) (by omega)
theorem nAu64l {a n : Nat} (h : a + OfNat.ofNat n ≤ 18446744073709551615) : IntKind.u64.wrap ((a : Int) + (no_index (OfNat.ofNat n : Int))) = ((a + OfNat.ofNat n : Nat) : Int) := wu64n _ (by rw [ofNat_int]; omega) h
theorem nLu64l {a n : Nat} (h : OfNat.ofNat n + a ≤ 18446744073709551615) : IntKind.u64.wrap ((no_index (OfNat.ofNat n : Int)) + (a : Int)) = ((OfNat.ofNat n + a : Nat) : Int) := wu64n _ (by rw [ofNat_int]; omega) h
theorem nCu64 {a : Nat} (h : a ≤ 18446744073709551615) : IntKind.u64.wrap (a : Int) = (a : Int) := wu64n _ rfl h
theorem nCu32 {a : Nat} (h : a ≤ 4294967295) : IntKind.u32.wrap (a : Int) = (a : Int) := wu32n _ rfl h
theorem nCu8 {a : Nat} (h : a ≤ 255) : IntKind.u8.wrap (a : Int) = (a : Int) := wu8n _ rfl h
theorem nAu32 {a b : Nat} (h : a + b ≤ 4294967295) : IntKind.u32.wrap ((a : Int) + (b : Int)) = ((a + b : Nat) : Int) := wu32n _ (by omega) h
theorem nLu32l {a n : Nat} (h : OfNat.ofNat n + a ≤ 4294967295) : IntKind.u32.wrap ((no_index (OfNat.ofNat n : Int)) + (a : Int)) = ((OfNat.ofNat n + a : Nat) : Int) := wu32n _ (by rw [ofNat_int]; omega) h
theorem nSu8l {a n : Nat} (h : OfNat.ofNat n ≤ a) (h2 : a ≤ 255) : IntKind.u8.wrap ((a : Int) - (no_index (OfNat.ofNat n : Int))) = ((a - OfNat.ofNat n : Nat) : Int) := wu8n _ (by rw [ofNat_int]; omega) (Nat.le_trans (Nat.sub_le _ _) h2)
theorem toNat_cast (n : Nat) : ((n : Int)).toNat = n := rfl
theorem u32mod {x : Nat} : IntKind.u32.wrap (x : Int) = ((x % 4294967296 : Nat) : Int) := by rw [wu32_mod]; omega
theorem u8mod {x : Nat} : IntKind.u8.wrap (x : Int) = ((x % 256 : Nat) : Int) := by simp [IntKind.wrap, IntKind.bits, IntKind.signed]

theorem ev_iaN {sz : Nat} {A : Option Addr} {n : Nat} {j : Int} {b off d : Nat} {X : XT} {s : St} {K : St → Prop} (i : Nat) (hj : j = (i : Nat)) (hi : i < n) (hA : A = some ⟨b, off, none⟩) (k1 : X (s.put d (.v (.pointer (some ⟨b, off + i * sz, none⟩)))) K) : EvIa sz A n j d X s K :=
  ev_ia hA (by omega) (by omega) (by rw [hj]; exact k1)
theorem ev_slhN {A : Option Addr} {c : Nat} {hi : Int} {d : Nat} {X : XT} {s : St} {K : St → Prop} (n : Nat) (hj : hi = (n : Nat)) (hn : n ≤ c) (k1 : X (s.put d (.v (.slice A n c))) K) : EvSlh A c hi d X s K :=
  ev_slh (by omega) (by omega) (by rw [hj]; exact k1)

theorem k0_size : k0_bits_Len32.size = 256 := by decide +kernel
theorem ev_tab {y d : Nat} {X : XT} {s : St} {K : St → Prop} (hy : y < 256) (k1 : X (s.put d (.v (.int .u8 (bl y : Nat)))) K) : EvIx k0_bits_Len32 (IntKind.u8.wrap (y : Int)) d X s K := by
  rw [u8mod, Nat.mod_eq_of_lt hy]
  refine ev_ix (by omega) (by rw [k0_size]; omega) ?_
  rw [show ((y : Nat) : Int).toNat = y from rfl, tab8 y hy]
  exact k1

theorem len32_ok (H : PH) (x : Nat) (hx : x < 4294967296) : FnP Tryd.prog 52 [.int .u32 (x : Int)] H fun v _ => v = .int .i64 (bl x : Nat) := by
  have hb : bl x ≤ 32 := bl_le_iff.2 hx
  refine of_bits_Len32 (by simp) ?_
  simp only [go_sem, Nat.reduceEqDiff, Bool.false_eq_true, Nat.reduceBEq, ↓reduceIte, p_bits_Len32]
  refine ev_if (fun h => ?_) (fun h => ?_)
  · simp only [go_sem, Nat.reduceEqDiff, Bool.false_eq_true, Nat.reduceBEq, ↓reduceIte]
    have h16 := bl_shr16 x (by omega) hx
    refine shr_nat (n := 16) rfl (by decide) ?_
    simp only [go_sem, Nat.reduceEqDiff, Bool.false_eq_true, Nat.reduceBEq, ↓reduceIte]
    refine ev_if (fun h2 => ?_) (fun h2 => ?_)
    · simp only [go_sem, Nat.reduceEqDiff, Bool.false_eq_true, Nat.reduceBEq, ↓reduceIte]
      have h8 := bl_shr8 (x / 65536) (by omega)
      refine shr_nat (n := 8) rfl (by decide) ?_
      simp only [go_sem, Nat.reduceEqDiff, Bool.false_eq_true, Nat.reduceBEq, ↓reduceIte]
      refine ev_tab (by omega) ?_
      simp only [go_sem, Nat.reduceEqDiff, Bool.false_eq_true, Nat.reduceBEq, ↓reduceIte]
      refine ⟨trivial, congrArg (Value.int .i64) ?_⟩
      simp only [Nat.reducePow]
      simp (disch := omega) only [w64]
      omega
    · simp only [go_sem, Nat.reduceEqDiff, Bool.false_eq_true, Nat.reduceBEq, ↓reduceIte]
      refine ev_tab (by omega) ?_
      simp only [go_sem, Nat.reduceEqDiff, Bool.false_eq_true, Nat.reduceBEq, ↓reduceIte]
      refine ⟨trivial, congrArg (Value.int .i64) ?_⟩
      simp only [Nat.reducePow]
      simp (disch := omega) only [w64]
      omega
  · simp only [go_sem, Nat.reduceEqDiff, Bool.false_eq_true, Nat.reduceBEq, ↓reduceIte]
    refine ev_if (fun h2 => ?_) (fun h2 => ?_)
    · simp only [go_sem, Nat.reduceEqDiff, Bool.false_eq_true, Nat.reduceBEq, ↓reduceIte]
      have h8 := bl_shr8 x (by omega)
      refine shr_nat (n := 8) rfl (by decide) ?_
      simp only [go_sem, Nat.reduceEqDiff, Bool.false_eq_true, Nat.reduceBEq, ↓reduceIte]
      refine ev_tab (by omega) ?_
      simp only [go_sem, Nat.reduceEqDiff, Bool.false_eq_true, Nat.reduceBEq, ↓reduceIte]
      refine ⟨trivial, congrArg (Value.int .i64) ?_⟩
      simp only [Nat.reducePow]
      simp (disch := omega) only [w64]
      omega
    · simp only [go_sem, Nat.reduceEqDiff, Bool.false_eq_true, Nat.reduceBEq, ↓reduceIte]
      refine ev_tab (by omega) ?_
      simp only [go_sem, Nat.reduceEqDiff, Bool.false_eq_true, Nat.reduceBEq, ↓reduceIte]
      refine ⟨trivial, congrArg (Value.int .i64) ?_⟩
      simp (disch := omega) only [w64]
      omega

theorem getD_bl {l : List Nat} (hn : Norm l) (hne : l ≠ []) : bl (val l) = 32 * (l.length - 1) + bl (l.getD (l.length - 1) 0) := by
  have hpos : 0 < l.length := List.length_pos_iff.2 hne
  have h1 := val_take_succ l (l.length - 1) (by omega)
  rw [show l.length - 1 + 1 = l.length by omega, List.take_length] at h1
  have hlim := val_lt (hn.1.take (l.length - 1))
  rw [List.length_take, Nat.min_eq_left (by omega)] at hlim
  have hx : l.getD (l.length - 1) 0 ≠ 0 := by
    have := hn.2 hne
    rw [List.getLast_eq_getElem] at this
    rwa [List.getD, List.getElem?_eq_getElem (by omega)]
  generalize l.getD (l.length - 1) 0 = x at *
  have h2 := two_pow_le_bl hx
  have h3 := lt_two_pow_bl x
  have h4 := bl_pos hx
  obtain ⟨m, hm⟩ : ∃ m, bl x = m + 1 := ⟨bl x - 1, by omega⟩
  rw [hm] at h2 h3 ⊢
  simp only [Nat.add_sub_cancel] at h2
  rw [show 32 * (l.length - 1) + (m + 1) = (32 * (l.length - 1) + m) + 1 by omega]
  rw [pow32] at h1 hlim
  refine bl_eq ?_ ?_
  · rw [Nat.pow_add, h1]
    have := Nat.mul_le_mul_left (2 ^ (32 * (l.length - 1))) h2
    omega
  · rw [show 32 * (l.length - 1) + m + 1 = 32 * (l.length - 1) + (m + 1) by omega, Nat.pow_add, h1]
    have := Nat.mul_le_mul_left (2 ^ (32 * (l.length - 1))) (Nat.succ_le_of_lt h3)
    rw [Nat.mul_succ] at this
    omega

theorem bits_ok (H : PH) (A : Option Addr) (l : List Nat) (c : Nat) (hS : Sl .u32 H A l) (hn : Norm l) (hl : l.length ≤ 1000000000) : FnP Tryd.prog 22 [.agg #[.slice A l.length c]] H fun v _ => v = .int .i64 (bl (val l) : Nat) := by
  refine of_nat_Nat_Bits (by simp) ?_
  simp only [go_sem, Nat.reduceEqDiff, Bool.false_eq_true, Nat.reduceBEq, ↓reduceIte, p_nat_Nat_Bits]
  refine ev_if (fun h => ?_) (fun h => ?_)
  · simp only [go_sem, Nat.reduceEqDiff, Bool.false_eq_true, Nat.reduceBEq, ↓reduceIte]
    have : l = [] := List.eq_nil_of_length_eq_zero (by omega)
    subst this
    exact ⟨trivial, rfl⟩
  · simp only [go_sem, Nat.reduceEqDiff, Bool.false_eq_true, Nat.reduceBEq, ↓reduceIte]
    obtain ⟨b, off, rfl⟩ := hS.base (by omega)
    refine ev_iaN (l.length - 1) (by simp (disch := omega) only [w64, wu64, wu32, wu8]; omega) (by omega) rfl ?_
    simp only [go_sem, Nat.reduceEqDiff, Bool.false_eq_true, Nat.reduceBEq, ↓reduceIte]
    refine ev_ldS hS rfl (by omega) ?_
    simp only [go_sem, Nat.reduceEqDiff, Bool.false_eq_true, Nat.reduceBEq, ↓reduceIte]
    refine ev_callP (len32_ok _ _ (hn.1.getD _)) ?_
    rintro v H' hle rfl hd
    simp only [go_sem, Nat.reduceEqDiff, Bool.false_eq_true, Nat.reduceBEq, ↓reduceIte]
    refine ⟨trivial, congrArg (Value.int .i64) ?_⟩
    have e := getD_bl hn (fun h0 => h (by rw [h0]; rfl))
    have e2 : bl (l.getD (l.length - 1) 0) ≤ 32 := bl_le_iff.2 (hn.1.getD _)
    generalize bl (l.getD (l.length - 1) 0) = y at *
    simp (disch := omega) only [w64, wu64, wu32, wu8]
    omega

/-- a loop that has been left -/
theorem cut_ok (H : PH) (A : Option Addr) (l : List Nat) (n c : Nat) (hl' : n = l.length) (hc : n ≤ c) (hS : Sl .u32 H A l) (hl : Lim l) (hb : n ≤ 1000000000) :
    FnP Tryd.prog 46 [.slice A n c] H fun v _ => ∃ m, m ≤ l.length ∧ v = .agg #[.slice A m c] ∧ Norm (l.take m) ∧ val (l.take m) = val l := by
  subst hl'
  refine of_nat_cut (by simp) ?_
  simp only [go_sem, Nat.reduceEqDiff, Bool.false_eq_true, Nat.reduceBEq, ↓reduceIte, p_nat_cut]
  refine ev_loop (fun n s => n ≤ l.length ∧ val (l.take n) = val l ∧ s = ⟨[(0, .v (.slice A n c)), (2, .ptr 2 0)], [(2, [.slice none 0 0])], H, PH.no⟩) l.length _ ⟨Nat.le_refl _, by simp, rfl⟩ ⟨rfl, by simp only [go_sem, Nat.reduceEqDiff, Bool.false_eq_true, Nat.reduceBEq, ↓reduceIte, and_self, Option.some.injEq, SV.v.injEq, SV.ptr.injEq, Value.int.injEq, Value.bool.injEq, Value.slice.injEq, true_and, and_true] <;> (repeat' apply And.intro) <;> first | rfl | omega | (simp (disch := omega) only [w64, wu64, wu32, wu8] <;> omega), by simp only [go_sem, Nat.reduceEqDiff, Bool.false_eq_true, Nat.reduceBEq, ↓reduceIte, and_self, Option.some.injEq, SV.v.injEq, SV.ptr.injEq, Value.int.injEq, Value.bool.injEq, Value.slice.injEq, true_and, and_true] <;> (repeat' apply And.intro) <;> rfl, rfl, PH.le.refl _⟩ ?_
  rintro n s ⟨hn, hv, rfl⟩
  have fin : (n = 0 ∨ l.getD (n - 1) 0 ≠ 0) → ∃ m, m ≤ l.length ∧ (Value.agg #[Value.slice A n c]) = Value.agg #[Value.slice A m c] ∧ Norm (l.take m) ∧ val (l.take m) = val l := fun h => ⟨n, hn, rfl, norm_take_of hl hn h, hv⟩
  simp only [go_sem, Nat.reduceEqDiff, Bool.false_eq_true, Nat.reduceBEq, ↓reduceIte]
  refine ev_if (fun h => ?_) (fun h => ?_)
  · obtain ⟨b, off, rfl⟩ := hS.base (by omega)
    simp only [go_sem, Nat.reduceEqDiff, Bool.false_eq_true, Nat.reduceBEq, ↓reduceIte]
    refine ev_iaN (n - 1) (by simp (disch := omega) only [w64, wu64, wu32, wu8]; omega) (by omega) rfl ?_
    simp only [go_sem, Nat.reduceEqDiff, Bool.false_eq_true, Nat.reduceBEq, ↓reduceIte]
    refine ev_ldS hS rfl (by omega) ?_
    simp only [go_sem, Nat.reduceEqDiff, Bool.false_eq_true, Nat.reduceBEq, ↓reduceIte]
    refine ev_if (fun h2 => ?_) (fun h2 => ?_)
    · simp only [go_sem, Nat.reduceEqDiff, Bool.false_eq_true, Nat.reduceBEq, ↓reduceIte]
      refine ev_slhN (n - 1) (by simp (disch := omega) only [w64, wu64, wu32, wu8]; omega) (by omega) ?_
      simp only [go_sem, Nat.reduceEqDiff, Bool.false_eq_true, Nat.reduceBEq, ↓reduceIte]
      refine k_next (n - 1) _ (by omega) ⟨by omega, ?_, rfl⟩ ⟨rfl, by simp only [go_sem, Nat.reduceEqDiff, Bool.false_eq_true, Nat.reduceBEq, ↓reduceIte, and_self, Option.some.injEq, SV.v.injEq, SV.ptr.injEq, Value.int.injEq, Value.bool.injEq, Value.slice.injEq, true_and, and_true] <;> (repeat' apply And.intro) <;> first | rfl | omega | (simp (disch := omega) only [w64, wu64, wu32, wu8] <;> omega), by simp only [go_sem, Nat.reduceEqDiff, Bool.false_eq_true, Nat.reduceBEq, ↓reduceIte, and_self, Option.some.injEq, SV.v.injEq, SV.ptr.injEq, Value.int.injEq, Value.bool.injEq, Value.slice.injEq, true_and, and_true] <;> (repeat' apply And.intro) <;> rfl, rfl, PH.le.refl _⟩
      have e := val_take_succ l (n - 1) (by omega)
      rw [show n - 1 + 1 = n by omega, show l.getD (n - 1) 0 = 0 by omega] at e
      omega
    · simp only [go_sem, Nat.reduceEqDiff, Bool.false_eq_true, Nat.reduceBEq, ↓reduceIte]
      exact ⟨by trivial, fin (.inr (by omega))⟩
  · simp only [go_sem, Nat.reduceEqDiff, Bool.false_eq_true, Nat.reduceBEq, ↓reduceIte]
    exact ⟨by trivial, fin (.inl (by omega))⟩

end Go.Proofs.YtlhhdlhnpgiamaaDoor.X
