/- Package nat and what it calls: the small functions. -/
import Derived.Test.YtccdhgjfcgfgoaaGreatZP
import Derived.Test.YtccdhgjfcgfgoaaGreatZY
set_option linter.unusedVariables false
set_option linter.unusedSimpArgs false
namespace Go.Proofs.YtccdhgjfcgfgoaaGreat.X
open Go Go.RowKit Go.Proofs

/-- a number of package nat -/
def NatV (H : PH) (v : Value) (x : Nat) : Prop := ∃ A l c, v = .agg #[.slice A l.length c] ∧ l.length ≤ c ∧ Sl .u32 H A l ∧ Norm l ∧ val l = x
theorem NatV.le {H H' : PH} {v : Value} {x : Nat} (h : NatV H v x) (hl : H.le H') : NatV H' v x := by
  obtain ⟨A, l, c, h1, h2, h3, h4⟩ := h
  exact ⟨A, l, c, h1, h2, h3.le hl, h4⟩
theorem NatV.zero (H : PH) (c : Nat) : NatV H (.agg #[.slice none 0 c]) 0 := ⟨none, [], c, rfl, Nat.zero_le _, .inl rfl, .nil, rfl⟩

theorem FnP.mk {P : Program} {f : Nat} {vs : List Value} {H : PH} {R : Value → PH → Prop} (h : Fn P f vs H PH.no fun v H' M' => M' = PH.no ∧ R v H') : FnP P f vs H R := h

theorem tab8 : ∀ x < 256, bAt k0_bits_Len32 x = bl x := by decide +kernel

theorem bl_shr16 (x : Nat) (h : 65536 ≤ x) (h2 : x < 4294967296) : bl x = bl (x / 65536) + 16 := by
  have h0 : x / 65536 ≠ 0 := by omega
  have h1 := two_pow_le_bl h0
  have h3 := lt_two_pow_bl (x / 65536)
  obtain ⟨m, hm⟩ : ∃ m, bl (x / 65536) = m + 1 := ⟨bl (x / 65536) - 1, by have := bl_pos h0; omega⟩
  rw [hm] at h1 h3 ⊢
  simp only [Nat.add_sub_cancel] at h1
  rw [show m + 1 + 16 = (m + 16) + 1 by omega]
  refine bl_eq ?_ ?_
  · rw [Nat.pow_add]; omega
  · rw [show m + 16 + 1 = (m + 1) + 16 by omega, Nat.pow_add]; omega
theorem bl_shr8 (x : Nat) (h : 256 ≤ x) : bl x = bl (x / 256) + 8 := by
  have h0 : x / 256 ≠ 0 := by omega
  have h1 := two_pow_le_bl h0
  have h3 := lt_two_pow_bl (x / 256)
  obtain ⟨m, hm⟩ : ∃ m, bl (x / 256) = m + 1 := ⟨bl (x / 256) - 1, by have := bl_pos h0; omega⟩
  rw [hm] at h1 h3 ⊢
  simp only [Nat.add_sub_cancel] at h1
  rw [show m + 1 + 8 = (m + 8) + 1 by omega]
  refine bl_eq ?_ ?_
  · rw [Nat.pow_add]; omega
  · rw [show m + 8 + 1 = (m + 1) + 8 by omega, Nat.pow_add]; omega

theorem shr_nat {k : IntKind} {a n : Nat} {d : Nat} {X : XT} {s : St} {K : St → Prop} {b : Int} (hb : b = (n : Nat)) (hn : n ≤ k.bits) (k1 : X (s.put d (.v (.int k ((a / 2 ^ n : Nat) : Int)))) K) : EvShr k (a : Int) b d X s K := by
  subst hb
  refine ev_shr (Int.natCast_nonneg _) (by omega) ?_
  have : (a : Int).fdiv (2 ^ ((n : Int)).toNat) = ((a / 2 ^ n : Nat) : Int) := by
    rw [Int.fdiv_eq_ediv_of_nonneg _ (Int.le_of_lt (Int.pow_pos (by decide)))]
    simp
  rw [this]; exact k1

theorem shl_nat {k : IntKind} {a n y : Nat} {d : Nat} {X : XT} {s : St} {K : St → Prop} {b : Int} (hb : b = (n : Nat)) (hn : n ≤ k.bits) (hy : k.wrap ((a * 2 ^ n : Nat) : Int) = (y : Nat)) (k1 : X (s.put d (.v (.int k (y : Int)))) K) : EvShl k (a : Int) b d X s K := by
  subst hb
  refine ev_shl (Int.natCast_nonneg _) (by omega) ?_
  have : (a : Int) * 2 ^ ((n : Int)).toNat = ((a * 2 ^ n : Nat) : Int) := by simp
  rw [this, hy]; exact k1

theorem w64n {e : Int} (y : Nat) (h : e = y) (h1 : y ≤ 9223372036854775807) : IntKind.i64.wrap e = (y : Nat) := by rw [h]; exact w64 _ (by omega) (by omega)
theorem wu64n {e : Int} (y : Nat) (h : e = y) (h1 : y ≤ 18446744073709551615) : IntKind.u64.wrap e = (y : Nat) := by rw [h]; exact wu64 _ (by omega) (by omega)
theorem wu32n {e : Int} (y : Nat) (h : e = y) (h1 : y ≤ 4294967295) : IntKind.u32.wrap e = (y : Nat) := by rw [h]; exact wu32 _ (by omega) (by omega)
theorem wu8n {e : Int} (y : Nat) (h : e = y) (h1 : y ≤ 255) : IntKind.u8.wrap e = (y : Nat) := by rw [h]; exact wu8 _ (by omega) (by omega)
/-! numbers that fit, as natural numbers: the set of 'try simp (disch := omega) only [nA64, nS64, nM64, nC64, nA64l, nS64l, nM64l, nM64r, nR64l, nL64l, nAu64, nMu64, nMu64r, nSu64, nAu64l, nLu64l, nCu64, nCu32, nCu8, nAu32, nLu32l, nSu8l, toNat_cast]' -/
theorem ofNat_int (n : Nat) : (OfNat.ofNat n : Int) = ((OfNat.ofNat n : Nat) : Int) := rfl
theorem nA64 {a b : Nat} (h : a + b ≤ 9223372036854775807) : IntKind.i64.wrap ((a : Int) + (b : Int)) = ((a + b : Nat) : Int) := w64n _ (by omega) h
theorem nS64 {a b : Nat} (h : b ≤ a) (h2 : a ≤ 9223372036854775807) : IntKind.i64.wrap ((a : Int) - (b : Int)) = ((a - b : Nat) : Int) := w64n _ (by omega) (by omega)
theorem nM64 {a b : Nat} (h : a * b ≤ 9223372036854775807) : IntKind.i64.wrap ((a : Int) * (b : Int)) = ((a * b : Nat) : Int) := w64n _ (by rw [Int.natCast_mul]) h
theorem nC64 {a : Nat} (h : a ≤ 9223372036854775807) : IntKind.i64.wrap (a : Int) = (a : Int) := w64n _ rfl h
theorem nA64l {a n : Nat} (h : a + OfNat.ofNat n ≤ 9223372036854775807) : IntKind.i64.wrap ((a : Int) + (no_index (OfNat.ofNat n : Int))) = ((a + OfNat.ofNat n : Nat) : Int) := w64n _ (by rw [ofNat_int]; omega) h
theorem nS64l {a n : Nat} (h : OfNat.ofNat n ≤ a) (h2 : a ≤ 9223372036854775807) : IntKind.i64.wrap ((a : Int) - (no_index (OfNat.ofNat n : Int))) = ((a - OfNat.ofNat n : Nat) : Int) := w64n _ (by rw [ofNat_int]; omega) (Nat.le_trans (Nat.sub_le _ _) h2)
theorem nM64l {a n : Nat} (h : OfNat.ofNat n * a ≤ 9223372036854775807) : IntKind.i64.wrap ((no_index (OfNat.ofNat n : Int)) * (a : Int)) = ((OfNat.ofNat n * a : Nat) : Int) := w64n _ (by rw [Int.natCast_mul]; rfl) h
theorem nM64r {a n : Nat} (h : a * OfNat.ofNat n ≤ 9223372036854775807) : IntKind.i64.wrap ((a : Int) * (no_index (OfNat.ofNat n : Int))) = ((a * OfNat.ofNat n : Nat) : Int) := w64n _ (by rw [Int.natCast_mul]; rfl) h
theorem nR64l {a n : Nat} (h : a ≤ OfNat.ofNat n) (h2 : OfNat.ofNat n ≤ 9223372036854775807) : IntKind.i64.wrap ((no_index (OfNat.ofNat n : Int)) - (a : Int)) = ((OfNat.ofNat n - a : Nat) : Int) := w64n _ (by rw [ofNat_int]; omega) (Nat.le_trans (Nat.sub_le _ _) h2)
theorem nL64l {a n : Nat} (h : OfNat.ofNat n + a ≤ 9223372036854775807) : IntKind.i64.wrap ((no_index (OfNat.ofNat n : Int)) + (a : Int)) = ((OfNat.ofNat n + a : Nat) : Int) := w64n _ (by rw [ofNat_int]; omega) h
theorem nAu64 {a b : Nat} (h : a + b ≤ 18446744073709551615) : IntKind.u64.wrap ((a : Int) + (b : Int)) = ((a + b : Nat) : Int) := wu64n _ (by omega) h
theorem nMu64 {a b : Nat} (h : a * b ≤ 18446744073709551615) : IntKind.u64.wrap ((a : Int) * (b : Int)) = ((a * b : Nat) : Int) := wu64n _ (by rw [Int.natCast_mul]) h
theorem nMu64r {a n : Nat} (h : a * OfNat.ofNat n ≤ 18446744073709551615) : IntKind.u64.wrap ((a : Int) * (no_index (OfNat.ofNat n : Int))) = ((a * OfNat.ofNat n : Nat) : Int) := wu64n _ (by rw [Int.natCast_mul]; rfl) h
theorem nSu64 {a b : Nat} (h : b ≤ a) (h2 : a ≤ 18446744073709551615) : IntKind.u64.wrap ((a : Int) - (b : Int)) = ((a - b : Nat) : Int) := wu64n _ (by omega) (by omega)
theorem nAu64l {a n : Nat} (h : a + OfNat.ofNat n ≤ 18446744073709551615) : IntKind.u64.wrap ((a : Int) + (no_index (OfNat.ofNat n : Int))) = ((a + OfNat.ofNat n : Nat) : Int) := wu64n _ (by rw [ofNat_int]; omega) h
theorem nLu64l {a n : Nat} (h : OfNat.ofNat n + a ≤ 18446744073709551615) : IntKind.u64.wrap ((no_index (OfNat.ofNat n : Int)) + (a : Int)) = ((OfNat.ofNat n + a : Nat) : Int) := wu64n _ (by rw [ofNat_int]; omega) h
theorem nCu64 {a : Nat} (h : a ≤ 18446744073709551615) : IntKind.u64.wrap (a : Int) = (a : Int) := wu64n _ rfl h
theorem nCu32 {a : Nat} (h : a ≤ 4294967295) : IntKind.u32.wrap (a : Int) = (a : Int) := wu32n _ rfl h
theorem nCu8 {a : Nat} (h : a ≤ 255) : IntKind.u8.wrap (a : Int) = (a : Int) := wu8n _ rfl h
theorem nAu32 {a b : Nat} (h : a + b ≤ 4294967295) : IntKind.u32.wrap ((a : Int) + (b : Int)) = ((a + b : Nat) : Int) := wu32n _ (by omega) h
theorem nLu32l {a n : Nat} (h : OfNat.ofNat n + a ≤ 4294967295) : IntKind.u32.wrap ((no_index (OfNat.ofNat n : Int)) + (a : Int)) = ((OfNat.ofNat n + a : Nat) : Int) := wu32n _ (by rw [ofNat_int]; omega) h
theorem nSu8l {a n : Nat} (h : OfNat.ofNat n ≤ a) (h2 : a ≤ 255) : IntKind.u8.wrap ((a : Int) - (no_index (OfNat.ofNat n : Int))) = ((a - OfNat.ofNat n : Nat) : Int) := wu8n _ (by rw [ofNat_int]; omega) (Nat.le_trans (Nat.sub_le _ _) h2)
theorem toNat_cast (n : Nat) : ((n : Int)).toNat = n := rfl
theorem u32mod {x : Nat} : IntKind.u32.wrap (x : Int) = ((x % 4294967296 : Nat) : Int) := by rw [wu32_mod]; omega
theorem u8mod {x : Nat} : IntKind.u8.wrap (x : Int) = ((x % 256 : Nat) : Int) := by simp [IntKind.wrap, IntKind.bits, IntKind.signed]

theorem ev_iaN {sz : Nat} {A : Option Addr} {n : Nat} {j : Int} {b off d : Nat} {X : XT} {s : St} {K : St → Prop} (i : Nat) (hj : j = (i : Nat)) (hi : i < n) (hA : A = some ⟨b, off, none⟩) (k1 : X (s.put d (.v (.pointer (some ⟨b, off + i * sz, none⟩)))) K) : EvIa sz A n j d X s K :=
  ev_ia hA (by omega) (by omega) (by rw [hj]; exact k1)
theorem ev_slhN {A : Option Addr} {c : Nat} {hi : Int} {d : Nat} {X : XT} {s : St} {K : St → Prop} (n : Nat) (hj : hi = (n : Nat)) (hn : n ≤ c) (k1 : X (s.put d (.v (.slice A n c))) K) : EvSlh A c hi d X s K :=
  ev_slh (by omega) (by omega) (by rw [hj]; exact k1)

theorem k0_size : k0_bits_Len32.size = 256 := by decide +kernel
theorem ev_tab {y d : Nat} {X : XT} {s : St} {K : St → Prop} (hy : y < 256) (k1 : X (s.put d (.v (.int .u8 (bl y : Nat)))) K) : EvIx k0_bits_Len32 (IntKind.u8.wrap (y : Int)) d X s K := by
  rw [u8mod, Nat.mod_eq_of_lt hy]
  refine ev_ix (by omega) (by rw [k0_size]; omega) ?_
  rw [show ((y : Nat) : Int).toNat = y from rfl, tab8 y hy]
  exact k1

theorem len32_ok (H : PH) (x : Nat) (hx : x < 4294967296) : FnP Tryz.prog 106 [.int .u32 (x : Int)] H fun v _ => v = .int .i64 (bl x : Nat) := by
  have hb : bl x ≤ 32 := bl_le_iff.2 hx
  refine of_bits_Len32 (by simp) ?_
  try simp only [go_sem, Nat.reduceEqDiff, Nat.reduceAdd, Nat.reduceBEq, ↓reduceIte, p_bits_Len32]
  refine ev_if (fun h => ?_) (fun h => ?_)
  · try simp only [go_sem, Nat.reduceEqDiff, Nat.reduceAdd, Nat.reduceBEq, ↓reduceIte]
    have h16 := bl_shr16 x (by omega) hx
    refine shr_nat (n := 16) rfl (by decide) ?_
    try simp only [go_sem, Nat.reduceEqDiff, Nat.reduceAdd, Nat.reduceBEq, ↓reduceIte]
    refine ev_if (fun h2 => ?_) (fun h2 => ?_)
    · try simp only [go_sem, Nat.reduceEqDiff, Nat.reduceAdd, Nat.reduceBEq, ↓reduceIte]
      have h8 := bl_shr8 (x / 65536) (by omega)
      refine shr_nat (n := 8) rfl (by decide) ?_
      try simp only [go_sem, Nat.reduceEqDiff, Nat.reduceAdd, Nat.reduceBEq, ↓reduceIte]
      refine ev_tab (by omega) ?_
      try simp only [go_sem, Nat.reduceEqDiff, Nat.reduceAdd, Nat.reduceBEq, ↓reduceIte]
      refine ⟨trivial, congrArg (Value.int .i64) ?_⟩
      simp only [Nat.reducePow]
      simp (disch := omega) only [w64]
      omega
    · try simp only [go_sem, Nat.reduceEqDiff, Nat.reduceAdd, Nat.reduceBEq, ↓reduceIte]
      refine ev_tab (by omega) ?_
      try simp only [go_sem, Nat.reduceEqDiff, Nat.reduceAdd, Nat.reduceBEq, ↓reduceIte]
      refine ⟨trivial, congrArg (Value.int .i64) ?_⟩
      simp only [Nat.reducePow]
      simp (disch := omega) only [w64]
      omega
  · try simp only [go_sem, Nat.reduceEqDiff, Nat.reduceAdd, Nat.reduceBEq, ↓reduceIte]
    refine ev_if (fun h2 => ?_) (fun h2 => ?_)
    · try simp only [go_sem, Nat.reduceEqDiff, Nat.reduceAdd, Nat.reduceBEq, ↓reduceIte]
      have h8 := bl_shr8 x (by omega)
      refine shr_nat (n := 8) rfl (by decide) ?_
      try simp only [go_sem, Nat.reduceEqDiff, Nat.reduceAdd, Nat.reduceBEq, ↓reduceIte]
      refine ev_tab (by omega) ?_
      try simp only [go_sem, Nat.reduceEqDiff, Nat.reduceAdd, Nat.reduceBEq, ↓reduceIte]
      refine ⟨trivial, congrArg (Value.int .i64) ?_⟩
      simp only [Nat.reducePow]
      simp (disch := omega) only [w64]
      omega
    · try simp only [go_sem, Nat.reduceEqDiff, Nat.reduceAdd, Nat.reduceBEq, ↓reduceIte]
      refine ev_tab (by omega) ?_
      try simp only [go_sem, Nat.reduceEqDiff, Nat.reduceAdd, Nat.reduceBEq, ↓reduceIte]
      refine ⟨trivial, congrArg (Value.int .i64) ?_⟩
      simp (disch := omega) only [w64]
      omega

theorem getD_bl {l : List Nat} (hn : Norm l) (hne : l ≠ []) : bl (val l) = 32 * (l.length - 1) + bl (l.getD (l.length - 1) 0) := by
  have hpos : 0 < l.length := List.length_pos_iff.2 hne
  have h1 := val_take_succ l (l.length - 1) (by omega)
  rw [show l.length - 1 + 1 = l.length by omega, List.take_length] at h1
  have hlim := val_lt (hn.1.take (l.length - 1))
  rw [List.length_take, Nat.min_eq_left (by omega)] at hlim
  have hx : l.getD (l.length - 1) 0 ≠ 0 := by
    have := hn.2 hne
    rw [List.getLast_eq_getElem] at this
    rwa [List.getD, List.getElem?_eq_getElem (by omega)]
  generalize l.getD (l.length - 1) 0 = x at *
  have h2 := two_pow_le_bl hx
  have h3 := lt_two_pow_bl x
  have h4 := bl_pos hx
  obtain ⟨m, hm⟩ : ∃ m, bl x = m + 1 := ⟨bl x - 1, by omega⟩
  rw [hm] at h2 h3 ⊢
  simp only [Nat.add_sub_cancel] at h2
  rw [show 32 * (l.length - 1) + (m + 1) = (32 * (l.length - 1) + m) + 1 by omega]
  rw [pow32] at h1 hlim
  refine bl_eq ?_ ?_
  · rw [Nat.pow_add, h1]
    have := Nat.mul_le_mul_left (2 ^ (32 * (l.length - 1))) h2
    omega
  · rw [show 32 * (l.length - 1) + m + 1 = 32 * (l.length - 1) + (m + 1) by omega, Nat.pow_add, h1]
    have := Nat.mul_le_mul_left (2 ^ (32 * (l.length - 1))) (Nat.succ_le_of_lt h3)
    rw [Nat.mul_succ] at this
    omega

theorem bits_ok (H : PH) (A : Option Addr) (l : List Nat) (c : Nat) (hS : Sl .u32 H A l) (hn : Norm l) (hl : l.length ≤ 1000000000) : FnP Tryz.prog 67 [.agg #[.slice A l.length c]] H fun v _ => v = .int .i64 (bl (val l) : Nat) := by
  refine of_nat_Nat_Bits (by simp) ?_
  try simp only [go_sem, Nat.reduceEqDiff, Nat.reduceAdd, Nat.reduceBEq, ↓reduceIte, p_nat_Nat_Bits]
  refine ev_if (fun h => ?_) (fun h => ?_)
  · try simp only [go_sem, Nat.reduceEqDiff, Nat.reduceAdd, Nat.reduceBEq, ↓reduceIte]
    have : l = [] := List.eq_nil_of_length_eq_zero (by omega)
    subst this
    exact ⟨trivial, rfl⟩
  · try simp only [go_sem, Nat.reduceEqDiff, Nat.reduceAdd, Nat.reduceBEq, ↓reduceIte]
    obtain ⟨b, off, rfl⟩ := hS.base (by omega)
    refine ev_iaN (l.length - 1) (by simp (disch := omega) only [w64, wu64, wu32, wu8]; omega) (by omega) rfl ?_
    try simp only [go_sem, Nat.reduceEqDiff, Nat.reduceAdd, Nat.reduceBEq, ↓reduceIte]
    refine ev_ldS hS rfl (by omega) ?_
    try simp only [go_sem, Nat.reduceEqDiff, Nat.reduceAdd, Nat.reduceBEq, ↓reduceIte]
    refine ev_callP (len32_ok _ _ (hn.1.getD _)) ?_
    rintro v H' hle rfl hd
    try simp only [go_sem, Nat.reduceEqDiff, Nat.reduceAdd, Nat.reduceBEq, ↓reduceIte]
    refine ⟨trivial, congrArg (Value.int .i64) ?_⟩
    have e := getD_bl hn (fun h0 => h (by rw [h0]; rfl))
    have e2 : bl (l.getD (l.length - 1) 0) ≤ 32 := bl_le_iff.2 (hn.1.getD _)
    generalize bl (l.getD (l.length - 1) 0) = y at *
    simp (disch := omega) only [w64, wu64, wu32, wu8]
    omega

/-- a loop that has been left -/
theorem cut_ok (H : PH) (A : Option Addr) (l : List Nat) (n c : Nat) (hl' : n = l.length) (hc : n ≤ c) (hS : Sl .u32 H A l) (hl : Lim l) (hb : n ≤ 1000000000) :
    FnP Tryz.prog 109 [.slice A n c] H fun v _ => ∃ m, m ≤ l.length ∧ v = .agg #[.slice A m c] ∧ Norm (l.take m) ∧ val (l.take m) = val l := by
  subst hl'
  refine of_nat_cut (by simp) ?_
  try simp only [go_sem, Nat.reduceEqDiff, Nat.reduceAdd, Nat.reduceBEq, ↓reduceIte, p_nat_cut]
  refine ev_loop (fun n s => n ≤ l.length ∧ val (l.take n) = val l ∧ s = ⟨[(0, .v (.slice A n c)), (2, .ptr 2 0)], [(2, [.slice none 0 0])], H, PH.no⟩) l.length _ ⟨Nat.le_refl _, by simp, rfl⟩ sub_of ?_
  rintro n s ⟨hn, hv, rfl⟩
  have fin : (n = 0 ∨ l.getD (n - 1) 0 ≠ 0) → ∃ m, m ≤ l.length ∧ (Value.agg #[Value.slice A n c]) = Value.agg #[Value.slice A m c] ∧ Norm (l.take m) ∧ val (l.take m) = val l := fun h => ⟨n, hn, rfl, norm_take_of hl hn h, hv⟩
  try simp only [go_sem, Nat.reduceEqDiff, Nat.reduceAdd, Nat.reduceBEq, ↓reduceIte]
  refine ev_if (fun h => ?_) (fun h => ?_)
  · obtain ⟨b, off, rfl⟩ := hS.base (by omega)
    try simp only [go_sem, Nat.reduceEqDiff, Nat.reduceAdd, Nat.reduceBEq, ↓reduceIte]
    refine ev_iaN (n - 1) (by simp (disch := omega) only [w64, wu64, wu32, wu8]; omega) (by omega) rfl ?_
    try simp only [go_sem, Nat.reduceEqDiff, Nat.reduceAdd, Nat.reduceBEq, ↓reduceIte]
    refine ev_ldS hS rfl (by omega) ?_
    try simp only [go_sem, Nat.reduceEqDiff, Nat.reduceAdd, Nat.reduceBEq, ↓reduceIte]
    refine ev_if (fun h2 => ?_) (fun h2 => ?_)
    · try simp only [go_sem, Nat.reduceEqDiff, Nat.reduceAdd, Nat.reduceBEq, ↓reduceIte]
      refine ev_slhN (n - 1) (by simp (disch := omega) only [w64, wu64, wu32, wu8]; omega) (by omega) ?_
      try simp only [go_sem, Nat.reduceEqDiff, Nat.reduceAdd, Nat.reduceBEq, ↓reduceIte]
      refine k_next (n - 1) _ (by omega) ⟨by omega, ?_, rfl⟩ sub_of
      have e := val_take_succ l (n - 1) (by omega)
      rw [show n - 1 + 1 = n by omega, show l.getD (n - 1) 0 = 0 by omega] at e
      omega
    · try simp only [go_sem, Nat.reduceEqDiff, Nat.reduceAdd, Nat.reduceBEq, ↓reduceIte]
      exact ⟨by trivial, fin (.inr (by omega))⟩
  · try simp only [go_sem, Nat.reduceEqDiff, Nat.reduceAdd, Nat.reduceBEq, ↓reduceIte]
    exact ⟨by trivial, fin (.inl (by omega))⟩

end Go.Proofs.YtccdhgjfcgfgoaaGreat.X
set_option linter.unusedVariables false
set_option linter.unusedSimpArgs false
namespace Go.Proofs.YtccdhgjfcgfgoaaGreat.X
open Go Go.RowKit Go.Proofs

theorem Sl.take {k : IntKind} {H : PH} {A : Option Addr} {l : List Nat} (h : Sl k H A l) (m : Nat) : Sl k H A (l.take m) := by
  rcases h with h | ⟨b, off, cs, T, fz, h1, h2, h3, h4⟩
  · left; rw [h]; simp
  · refine .inr ⟨b, off, cs, T, fz, h1, h2, ?_, ?_⟩
    · simp only [List.length_take]; omega
    · rw [List.length_take, ← List.take_take, h4, nums, ← List.map_take, nums]

theorem ev_cutA {T : TypeId} {A : Option Addr} {l : List Nat} {n c d : Nat} {X : XT} {fr : List (Nat × SV)} {lh : List (Nat × List Value)} {H M : PH} {K : St → Prop} (hO : Own .u32 T M A l c) (hn : n = l.length) (hl : Lim l) (hb : n ≤ 1000000000) (hd : PH.disj H M)
    (k1 : ∀ v H', H.le H' → NatV H' v (val l) → X ⟨(d, .v v) :: fr, lh, H', PH.no⟩ K) : EvCall Tryz.prog 109 [.slice A n c] d X ⟨fr, lh, H, M⟩ K := by
  have hS := hO.sl hd
  refine ev_callA (cut_ok _ A l n c hn (by rw [hn]; exact hO.le_cap) hS hl hb) ?_
  rintro v H' hle ⟨m, hm, rfl, hN, hv⟩
  refine k1 _ H' ((PH.le_join _ _).trans hle) ⟨A, l.take m, c, ?_, ?_, (hS.le hle).take m, hN, hv⟩
  · rw [List.length_take, Nat.min_eq_left hm]
  · have := hO.le_cap
    rw [List.length_take]; omega

theorem bitsV_or {k : IntKind} {a b : Nat} (j : Nat) (hj : j ≤ k.bits) (hk : ∀ n : Int, 0 ≤ n → n < 2 ^ j → k.wrap n = n) (ha : a < 2 ^ j) (hb : b < 2 ^ j) : bitsV .or k (a : Int) (b : Int) = ((a ||| b : Nat) : Int) := by
  have hp : 2 ^ j ≤ 2 ^ k.bits := Nat.pow_le_pow_right (by decide) hj
  have ha' : a % 2 ^ k.bits = a := Nat.mod_eq_of_lt (Nat.lt_of_lt_of_le ha hp)
  have hb' : b % 2 ^ k.bits = b := Nat.mod_eq_of_lt (Nat.lt_of_lt_of_le hb hp)
  simp only [bitsV, BitVec.ofInt_natCast, BitVec.toNat_or, BitVec.toNat_ofNat, ha', hb']
  exact hk _ (Int.natCast_nonneg _) (by exact_mod_cast Nat.or_lt_two_pow ha hb)
theorem bitsV_and {k : IntKind} {a b : Nat} (j : Nat) (hj : j ≤ k.bits) (hk : ∀ n : Int, 0 ≤ n → n < 2 ^ j → k.wrap n = n) (ha : a < 2 ^ j) (hb : b < 2 ^ j) : bitsV .and k (a : Int) (b : Int) = ((a &&& b : Nat) : Int) := by
  have hp : 2 ^ j ≤ 2 ^ k.bits := Nat.pow_le_pow_right (by decide) hj
  have ha' : a % 2 ^ k.bits = a := Nat.mod_eq_of_lt (Nat.lt_of_lt_of_le ha hp)
  have hb' : b % 2 ^ k.bits = b := Nat.mod_eq_of_lt (Nat.lt_of_lt_of_le hb hp)
  simp only [bitsV, BitVec.ofInt_natCast, BitVec.toNat_and, BitVec.toNat_ofNat, ha', hb']
  exact hk _ (Int.natCast_nonneg _) (by exact_mod_cast Nat.and_lt_two_pow _ hb)
theorem ws64 (n : Int) (h0 : 0 ≤ n) (h : n < 2 ^ 64) : IntKind.u64.wrap n = n := wu64 n h0 (by omega)
theorem ws32 (n : Int) (h0 : 0 ≤ n) (h : n < 2 ^ 32) : IntKind.u32.wrap n = n := wu32 n h0 (by omega)
theorem or64 {a b : Nat} (ha : a < 2 ^ 64) (hb : b < 2 ^ 64) : bitsV .or .u64 (a : Int) (b : Int) = ((a ||| b : Nat) : Int) := bitsV_or 64 (by decide) ws64 ha hb
theorem or32 {a b : Nat} (ha : a < 2 ^ 32) (hb : b < 2 ^ 32) : bitsV .or .u32 (a : Int) (b : Int) = ((a ||| b : Nat) : Int) := bitsV_or 32 (by decide) ws32 ha hb
theorem and64 {a b : Nat} (ha : a < 2 ^ 64) (hb : b < 2 ^ 64) : bitsV .and .u64 (a : Int) (b : Int) = ((a &&& b : Nat) : Int) := bitsV_and 64 (by decide) ws64 ha hb
theorem of_ok (H : PH) (x : Nat) (hx : x ≤ 18446744073709551615) : FnP Tryz.prog 113 [.int .u64 (x : Int)] H fun v H' => NatV H' v x := by
  refine of_nat_Of (by simp) ?_
  try simp only [go_sem, Nat.reduceEqDiff, Nat.reduceAdd, Nat.reduceBEq, ↓reduceIte, p_nat_Of]
  refine shr_nat (n := 32) rfl (by decide) ?_
  try simp only [go_sem, Nat.reduceEqDiff, Nat.reduceAdd, Nat.reduceBEq, ↓reduceIte]
  rw [u32mod, u32mod]
  refine ev_bslO (l := [x % 4294967296, x / 2 ^ 32 % 4294967296]) rfl rfl (by simp) (PH.disj_no _) ?_
  intro g M' hO hle _ hd
  try simp only [go_sem, Nat.reduceEqDiff, Nat.reduceAdd, Nat.reduceBEq, ↓reduceIte]
  refine ev_cutA hO rfl (.cons (by omega) (.cons (by omega) .nil)) (by decide) hd ?_
  intro v H' hl hN
  have hN2 := hN
  obtain ⟨A', l', c', rfl, _⟩ := hN2
  try simp only [go_sem, Nat.reduceEqDiff, Nat.reduceAdd, Nat.reduceBEq, ↓reduceIte]
  refine ⟨by trivial, ?_⟩
  have : val [x % 4294967296, x / 2 ^ 32 % 4294967296] = x := by simp only [val]; omega
  rwa [this] at hN

theorem low_ok (H : PH) (v : Value) (x : Nat) (hN : NatV H v x) (hb : bl x ≤ 4294967296) : FnP Tryz.prog 124 [v] H fun v _ => v = .int .u64 (x % 18446744073709551616 : Nat) := by
  obtain ⟨A, l, c, rfl, hc, hS, hn, rfl⟩ := hN
  have hlen := len_le_bl hn
  refine of_nat_Nat_Low (by simp) ?_
  try simp only [go_sem, Nat.reduceEqDiff, Nat.reduceAdd, Nat.reduceBEq, ↓reduceIte, p_nat_Nat_Low]
  rw [show (if (2:Int) < (l.length:Int) then 2 else (l.length:Int)) = ((min l.length 2 : Nat) : Int) by split <;> omega]
  generalize hm : min l.length 2 = m
  refine ev_loop (fun n s => ∃ i, i ≤ m ∧ n = m - i ∧ s = ⟨[(9, .v (.int .i64 (i : Nat))), (8, .v (.int .i64 (m : Nat))), (3, .v (.int .u64 (val (l.take i) : Nat))), (1, .ptr 1 0)], [(1, [.slice A l.length c])], H, PH.no⟩) m _ ⟨0, by omega, by omega, rfl⟩ sub_of ?_
  rintro n s ⟨i, hi, rfl, rfl⟩
  try simp only [go_sem, Nat.reduceEqDiff, Nat.reduceAdd, Nat.reduceBEq, ↓reduceIte]
  refine ev_if (fun h => ?_) (fun h => ?_)
  · obtain ⟨b, off, rfl⟩ := hS.base (by omega)
    try simp only [go_sem, Nat.reduceEqDiff, Nat.reduceAdd, Nat.reduceBEq, ↓reduceIte]
    refine ev_iaN i rfl (by omega) rfl ?_
    try simp only [go_sem, Nat.reduceEqDiff, Nat.reduceAdd, Nat.reduceBEq, ↓reduceIte]
    refine ev_ldS hS rfl (by omega) ?_
    try simp only [go_sem, Nat.reduceEqDiff, Nat.reduceAdd, Nat.reduceBEq, ↓reduceIte]
    have hx := hn.1.getD i
    have e := val_take_succ l i (by omega)
    have hlt := val_lt (hn.1.take i)
    rw [List.length_take, Nat.min_eq_left (by omega), pow32] at hlt
    rw [wu64n (l.getD i 0) rfl (by omega), w64n (32 * i) (by omega) (by omega)]
    have hy : l.getD i 0 * 2 ^ (32 * i) < 2 ^ 64 := by
      have h3 := Nat.mul_lt_mul_of_pos_right hx (Nat.two_pow_pos (32 * i))
      rw [show (4294967296 : Nat) = 2 ^ 32 from rfl, ← Nat.pow_add] at h3
      exact Nat.lt_of_lt_of_le h3 (Nat.pow_le_pow_right (by decide) (by omega))
    refine shl_nat (n := 32 * i) (y := l.getD i 0 * 2 ^ (32 * i)) rfl (by show 32 * i ≤ 64; omega) (wu64n _ rfl (by omega)) ?_
    try simp only [go_sem, Nat.reduceEqDiff, Nat.reduceAdd, Nat.reduceBEq, ↓reduceIte]
    rw [or64 (by have := Nat.pow_le_pow_right (n := 2) (by decide) (show 32 * i ≤ 64 by omega); omega) hy, or_add _ _ _ hlt]
    refine k_next (m - (i + 1)) _ (by omega) ⟨i + 1, by omega, rfl, rfl⟩ ⟨rfl, ?_, by simp only [go_sem, Nat.reduceEqDiff, Nat.reduceAdd, Nat.reduceBEq, ↓reduceIte, and_self, Option.some.injEq, SV.v.injEq, SV.ptr.injEq, Value.int.injEq, Value.bool.injEq, Value.slice.injEq, true_and, and_true], .inl ⟨rfl, PH.le.refl _⟩⟩
    simp only [go_sem, Nat.reduceEqDiff, Nat.reduceAdd, Nat.reduceBEq, ↓reduceIte, and_self, Option.some.injEq, SV.v.injEq, SV.ptr.injEq, Value.int.injEq, Value.bool.injEq, Value.slice.injEq, true_and, and_true]
    refine ⟨by simp (disch := omega) only [w64, wu64, wu32, wu8]; omega, ?_⟩
    rw [e, pow32, Nat.mul_comm]
  · try simp only [go_sem, Nat.reduceEqDiff, Nat.reduceAdd, Nat.reduceBEq, ↓reduceIte]
    refine ⟨by trivial, congrArg (fun z : Nat => Value.int .u64 (z : Int)) ?_⟩
    have him : i = m := by omega
    subst him
    have e := val_take_drop l i (by omega)
    have hlt := val_lt (hn.1.take i)
    rw [List.length_take, Nat.min_eq_left (by omega)] at hlt
    by_cases h2 : 2 ≤ l.length
    · have : i = 2 := by omega
      subst this
      rw [e, show (4294967296 : Nat) ^ 2 = 18446744073709551616 from rfl]
      rw [show (4294967296 : Nat) ^ 2 = 18446744073709551616 from rfl] at hlt
      omega
    · have : i = l.length := by omega
      rw [this, List.take_length]
      have hlt2 := val_lt hn.1
      have := Nat.pow_le_pow_right (n := 4294967296) (by decide) (show l.length ≤ 2 by omega)
      rw [show (4294967296 : Nat) ^ 2 = 18446744073709551616 from rfl] at this
      omega

/-- the table of trailing zeros -/
def dbt : List Nat := [0, 1, 28, 2, 29, 14, 24, 3, 30, 22, 20, 15, 25, 17, 4, 8, 31, 27, 13, 23, 21, 19, 16, 7, 26, 12, 18, 6, 11, 5, 10, 9]
def Tab (H : PH) : Prop := Sl .u8 H (some ⟨0, 0, none⟩) dbt
theorem Tab.le {H H' : PH} (h : Tab H) (hl : H.le H') : Tab H' := Sl.le h hl
end Go.Proofs.YtccdhgjfcgfgoaaGreat.X
set_option linter.unusedVariables false
set_option linter.unusedSimpArgs false
namespace Go.Proofs.YtccdhgjfcgfgoaaGreat.X
open Go Go.RowKit Go.Proofs

theorem add_ok (H : PH) (va vb : Value) (x y : Nat) (ha : NatV H va x) (hb : NatV H vb y) (hbx : bl x ≤ 4294967296) (hby : bl y ≤ 4294967296) : FnP Tryz.prog 116 [va, vb] H fun v H' => NatV H' v (x + y) := by
  obtain ⟨A, l, c, rfl, hc, hS, hn, rfl⟩ := ha
  obtain ⟨B, m, e, rfl, he, hT, hm, rfl⟩ := hb
  have hlen : l.length ≤ 200000000 := by have := len_le_bl hn; omega
  have hlen2 : m.length ≤ 200000000 := by have := len_le_bl hm; omega
  clear hbx hby hc he
  refine of_nat_Add (by simp) ?_
  try simp only [go_sem, Nat.reduceEqDiff, Nat.reduceAdd, Nat.reduceBEq, ↓reduceIte, p_nat_Add]
  refine ev_if (fun h => ?_) (fun h => ?_)
  · try simp only [go_sem, Nat.reduceEqDiff, Nat.reduceAdd, Nat.reduceBEq, ↓reduceIte]
    rw [Nat.add_comm]
    revert h hlen hlen2 hn hm hS hT A l c B m e
    intro B m e hT hm A l c hS hn hlen2 hlen h
    replace h : m.length ≤ l.length := by omega
    rw [w64n (l.length + 1) (by omega) (by omega)]
    refine ev_mkO (by omega) (by omega) (by omega) (PH.disj_no _) ?_
    intro g M hO _ _ hd
    try simp only [go_sem, Nat.reduceEqDiff, Nat.reduceAdd, Nat.reduceBEq, ↓reduceIte]
    rw [show (((l.length + 1 : Nat) : Int)).toNat = l.length + 1 from rfl] at hO ⊢
    refine ev_loop (fun n s => ∃ i o q M, i ≤ l.length ∧ n = l.length - i ∧ o.length = l.length + 1 ∧ Lim o ∧ q ≤ 1 ∧ val (o.take i) + 4294967296 ^ i * q = val (l.take i) + val (m.take i) ∧ Own .u32 130 M (some ⟨g, 0, none⟩) o (l.length + 1) ∧ PH.disj H M ∧
      s = ⟨[(26, .v (.int .i64 (i : Nat))), (25, .v (.int .i64 (l.length : Nat))), (24, .v (.slice A l.length c)), (6, .v (.int .u64 (q : Nat))), (5, .v (.slice (some ⟨g, 0, none⟩) (l.length + 1) (l.length + 1))), (4, .ptr 4 0), (3, .ptr 3 0), (2, .ptr 2 0)], [(4, [.slice none 0 0]), (3, [.slice B m.length e]), (2, [.slice A l.length c])], H, M⟩)
      l.length _ ⟨0, _, 0, M, by omega, by omega, by simp, Lim.replicate _, by omega, by simp [val], hO, hd, rfl⟩ sub_of ?_
    clear hO hd
    rintro n s ⟨i, o, q, M, hi, rfl, ho, hlo, hq, hv, hO, hd, rfl⟩
    try simp only [go_sem, Nat.reduceEqDiff, Nat.reduceAdd, Nat.reduceBEq, ↓reduceIte]
    refine ev_if (fun h2 => ?_) (fun h2 => ?_)
    · obtain ⟨b, off, rfl⟩ := hS.base (by omega)
      try simp only [go_sem, Nat.reduceEqDiff, Nat.reduceAdd, Nat.reduceBEq, ↓reduceIte]
      refine ev_iaN i rfl (by omega) rfl ?_
      try simp only [go_sem, Nat.reduceEqDiff, Nat.reduceAdd, Nat.reduceBEq, ↓reduceIte]
      refine ev_ldS hS rfl (by omega) ?_
      have hx := hn.1.getD i
      have hy := hm.1.getD i
      have el := val_take_succ l i (by omega)
      have em := val_take_ge m i
      try simp only [go_sem, Nat.reduceEqDiff, Nat.reduceAdd, Nat.reduceBEq, ↓reduceIte]
      rw [wu64n (l.getD i 0) rfl (by omega), wu64n (q + l.getD i 0) (by omega) (by omega)]
      have step : ∀ z, z = q + l.getD i 0 + m.getD i 0 → val ((o.set i (z % 4294967296)).take (i + 1)) + 4294967296 ^ (i + 1) * (z / 4294967296) = val (l.take (i + 1)) + val (m.take (i + 1)) := by
        intro z hz
        rw [val_take_set o i _ (by omega), el, em, Nat.pow_succ, Nat.mul_assoc, Nat.add_assoc, ← Nat.mul_add, show z % 4294967296 + 4294967296 * (z / 4294967296) = z by omega, hz, Nat.mul_add, Nat.mul_add]
        omega
      refine ev_if (fun h3 => ?_) (fun h3 => ?_)
      · try simp only [go_sem, Nat.reduceEqDiff, Nat.reduceAdd, Nat.reduceBEq, ↓reduceIte]
        obtain ⟨b2, off2, rfl⟩ := hT.base (by omega)
        refine ev_iaN i rfl (by omega) rfl ?_
        try simp only [go_sem, Nat.reduceEqDiff, Nat.reduceAdd, Nat.reduceBEq, ↓reduceIte]
        refine ev_ldS hT rfl (by omega) ?_
        try simp only [go_sem, Nat.reduceEqDiff, Nat.reduceAdd, Nat.reduceBEq, ↓reduceIte]
        rw [wu64n (m.getD i 0) rfl (by omega), wu64n (q + l.getD i 0 + m.getD i 0) (by omega) (by omega)]
        refine ev_iaN i rfl (by omega) rfl ?_
        try simp only [go_sem, Nat.reduceEqDiff, Nat.reduceAdd, Nat.reduceBEq, ↓reduceIte]
        rw [u32mod]
        refine ev_stO hO (by omega) ?_
        intro M' hO' _ hd'
        try simp only [go_sem, Nat.reduceEqDiff, Nat.reduceAdd, Nat.reduceBEq, ↓reduceIte]
        refine shr_nat (n := 32) rfl (by decide) ?_
        try simp only [go_sem, Nat.reduceEqDiff, Nat.reduceAdd, Nat.reduceBEq, ↓reduceIte]
        refine k_next (l.length - (i + 1)) _ (by omega) ⟨i + 1, _, (q + l.getD i 0 + m.getD i 0) / 4294967296, M', by omega, rfl, by simp; omega, hlo.set (by omega), by omega, step _ rfl, hO', hd' _ hd, rfl⟩ sub_of
      · try simp only [go_sem, Nat.reduceEqDiff, Nat.reduceAdd, Nat.reduceBEq, ↓reduceIte]
        have hz : m.getD i 0 = 0 := getD_big (by omega)
        rw [show q + l.getD i 0 = q + l.getD i 0 + m.getD i 0 by omega]
        refine ev_iaN i rfl (by omega) rfl ?_
        try simp only [go_sem, Nat.reduceEqDiff, Nat.reduceAdd, Nat.reduceBEq, ↓reduceIte]
        rw [u32mod]
        refine ev_stO hO (by omega) ?_
        intro M' hO' _ hd'
        try simp only [go_sem, Nat.reduceEqDiff, Nat.reduceAdd, Nat.reduceBEq, ↓reduceIte]
        refine shr_nat (n := 32) rfl (by decide) ?_
        try simp only [go_sem, Nat.reduceEqDiff, Nat.reduceAdd, Nat.reduceBEq, ↓reduceIte]
        refine k_next (l.length - (i + 1)) _ (by omega) ⟨i + 1, _, (q + l.getD i 0 + m.getD i 0) / 4294967296, M', by omega, rfl, by simp; omega, hlo.set (by omega), by omega, step _ rfl, hO', hd' _ hd, rfl⟩ sub_of
    · have hil : i = l.length := by omega
      subst hil
      try simp only [go_sem, Nat.reduceEqDiff, Nat.reduceAdd, Nat.reduceBEq, ↓reduceIte]
      refine ev_iaN l.length rfl (by omega) rfl ?_
      try simp only [go_sem, Nat.reduceEqDiff, Nat.reduceAdd, Nat.reduceBEq, ↓reduceIte]
      rw [u32mod]
      refine ev_stO hO (by omega) ?_
      intro M' hO' _ hd'
      try simp only [go_sem, Nat.reduceEqDiff, Nat.reduceAdd, Nat.reduceBEq, ↓reduceIte]
      refine ev_cutA hO' (by simp; omega) (hlo.set (by omega)) (by omega) (hd' _ hd) ?_
      intro v H' hl hN
      have hN2 := hN
      obtain ⟨A', l', c', rfl, _⟩ := hN2
      try simp only [go_sem, Nat.reduceEqDiff, Nat.reduceAdd, Nat.reduceBEq, ↓reduceIte]
      refine ⟨by trivial, ?_⟩
      have e1 := val_take_set o l.length (q % 4294967296) (by omega)
      rw [List.take_of_length_le (by simp; omega)] at e1
      rw [e1, show q % 4294967296 = q by omega, hv, List.take_length, List.take_of_length_le h] at hN
      exact hN
  · try simp only [go_sem, Nat.reduceEqDiff, Nat.reduceAdd, Nat.reduceBEq, ↓reduceIte]
    replace h : m.length ≤ l.length := by omega
    rw [w64n (l.length + 1) (by omega) (by omega)]
    refine ev_mkO (by omega) (by omega) (by omega) (PH.disj_no _) ?_
    intro g M hO _ _ hd
    try simp only [go_sem, Nat.reduceEqDiff, Nat.reduceAdd, Nat.reduceBEq, ↓reduceIte]
    rw [show (((l.length + 1 : Nat) : Int)).toNat = l.length + 1 from rfl] at hO ⊢
    refine ev_loop (fun n s => ∃ i o q M, i ≤ l.length ∧ n = l.length - i ∧ o.length = l.length + 1 ∧ Lim o ∧ q ≤ 1 ∧ val (o.take i) + 4294967296 ^ i * q = val (l.take i) + val (m.take i) ∧ Own .u32 130 M (some ⟨g, 0, none⟩) o (l.length + 1) ∧ PH.disj H M ∧
      s = ⟨[(26, .v (.int .i64 (i : Nat))), (25, .v (.int .i64 (l.length : Nat))), (24, .v (.slice A l.length c)), (6, .v (.int .u64 (q : Nat))), (5, .v (.slice (some ⟨g, 0, none⟩) (l.length + 1) (l.length + 1))), (4, .ptr 4 0), (3, .ptr 3 0), (2, .ptr 2 0)], [(4, [.slice none 0 0]), (3, [.slice B m.length e]), (2, [.slice A l.length c])], H, M⟩)
      l.length _ ⟨0, _, 0, M, by omega, by omega, by simp, Lim.replicate _, by omega, by simp [val], hO, hd, rfl⟩ sub_of ?_
    clear hO hd
    rintro n s ⟨i, o, q, M, hi, rfl, ho, hlo, hq, hv, hO, hd, rfl⟩
    try simp only [go_sem, Nat.reduceEqDiff, Nat.reduceAdd, Nat.reduceBEq, ↓reduceIte]
    refine ev_if (fun h2 => ?_) (fun h2 => ?_)
    · obtain ⟨b, off, rfl⟩ := hS.base (by omega)
      try simp only [go_sem, Nat.reduceEqDiff, Nat.reduceAdd, Nat.reduceBEq, ↓reduceIte]
      refine ev_iaN i rfl (by omega) rfl ?_
      try simp only [go_sem, Nat.reduceEqDiff, Nat.reduceAdd, Nat.reduceBEq, ↓reduceIte]
      refine ev_ldS hS rfl (by omega) ?_
      have hx := hn.1.getD i
      have hy := hm.1.getD i
      have el := val_take_succ l i (by omega)
      have em := val_take_ge m i
      try simp only [go_sem, Nat.reduceEqDiff, Nat.reduceAdd, Nat.reduceBEq, ↓reduceIte]
      rw [wu64n (l.getD i 0) rfl (by omega), wu64n (q + l.getD i 0) (by omega) (by omega)]
      have step : ∀ z, z = q + l.getD i 0 + m.getD i 0 → val ((o.set i (z % 4294967296)).take (i + 1)) + 4294967296 ^ (i + 1) * (z / 4294967296) = val (l.take (i + 1)) + val (m.take (i + 1)) := by
        intro z hz
        rw [val_take_set o i _ (by omega), el, em, Nat.pow_succ, Nat.mul_assoc, Nat.add_assoc, ← Nat.mul_add, show z % 4294967296 + 4294967296 * (z / 4294967296) = z by omega, hz, Nat.mul_add, Nat.mul_add]
        omega
      refine ev_if (fun h3 => ?_) (fun h3 => ?_)
      · try simp only [go_sem, Nat.reduceEqDiff, Nat.reduceAdd, Nat.reduceBEq, ↓reduceIte]
        obtain ⟨b2, off2, rfl⟩ := hT.base (by omega)
        refine ev_iaN i rfl (by omega) rfl ?_
        try simp only [go_sem, Nat.reduceEqDiff, Nat.reduceAdd, Nat.reduceBEq, ↓reduceIte]
        refine ev_ldS hT rfl (by omega) ?_
        try simp only [go_sem, Nat.reduceEqDiff, Nat.reduceAdd, Nat.reduceBEq, ↓reduceIte]
        rw [wu64n (m.getD i 0) rfl (by omega), wu64n (q + l.getD i 0 + m.getD i 0) (by omega) (by omega)]
        refine ev_iaN i rfl (by omega) rfl ?_
        try simp only [go_sem, Nat.reduceEqDiff, Nat.reduceAdd, Nat.reduceBEq, ↓reduceIte]
        rw [u32mod]
        refine ev_stO hO (by omega) ?_
        intro M' hO' _ hd'
        try simp only [go_sem, Nat.reduceEqDiff, Nat.reduceAdd, Nat.reduceBEq, ↓reduceIte]
        refine shr_nat (n := 32) rfl (by decide) ?_
        try simp only [go_sem, Nat.reduceEqDiff, Nat.reduceAdd, Nat.reduceBEq, ↓reduceIte]
        refine k_next (l.length - (i + 1)) _ (by omega) ⟨i + 1, _, (q + l.getD i 0 + m.getD i 0) / 4294967296, M', by omega, rfl, by simp; omega, hlo.set (by omega), by omega, step _ rfl, hO', hd' _ hd, rfl⟩ sub_of
      · try simp only [go_sem, Nat.reduceEqDiff, Nat.reduceAdd, Nat.reduceBEq, ↓reduceIte]
        have hz : m.getD i 0 = 0 := getD_big (by omega)
        rw [show q + l.getD i 0 = q + l.getD i 0 + m.getD i 0 by omega]
        refine ev_iaN i rfl (by omega) rfl ?_
        try simp only [go_sem, Nat.reduceEqDiff, Nat.reduceAdd, Nat.reduceBEq, ↓reduceIte]
        rw [u32mod]
        refine ev_stO hO (by omega) ?_
        intro M' hO' _ hd'
        try simp only [go_sem, Nat.reduceEqDiff, Nat.reduceAdd, Nat.reduceBEq, ↓reduceIte]
        refine shr_nat (n := 32) rfl (by decide) ?_
        try simp only [go_sem, Nat.reduceEqDiff, Nat.reduceAdd, Nat.reduceBEq, ↓reduceIte]
        refine k_next (l.length - (i + 1)) _ (by omega) ⟨i + 1, _, (q + l.getD i 0 + m.getD i 0) / 4294967296, M', by omega, rfl, by simp; omega, hlo.set (by omega), by omega, step _ rfl, hO', hd' _ hd, rfl⟩ sub_of
    · have hil : i = l.length := by omega
      subst hil
      try simp only [go_sem, Nat.reduceEqDiff, Nat.reduceAdd, Nat.reduceBEq, ↓reduceIte]
      refine ev_iaN l.length rfl (by omega) rfl ?_
      try simp only [go_sem, Nat.reduceEqDiff, Nat.reduceAdd, Nat.reduceBEq, ↓reduceIte]
      rw [u32mod]
      refine ev_stO hO (by omega) ?_
      intro M' hO' _ hd'
      try simp only [go_sem, Nat.reduceEqDiff, Nat.reduceAdd, Nat.reduceBEq, ↓reduceIte]
      refine ev_cutA hO' (by simp; omega) (hlo.set (by omega)) (by omega) (hd' _ hd) ?_
      intro v H' hl hN
      have hN2 := hN
      obtain ⟨A', l', c', rfl, _⟩ := hN2
      try simp only [go_sem, Nat.reduceEqDiff, Nat.reduceAdd, Nat.reduceBEq, ↓reduceIte]
      refine ⟨by trivial, ?_⟩
      have e1 := val_take_set o l.length (q % 4294967296) (by omega)
      rw [List.take_of_length_le (by simp; omega)] at e1
      rw [e1, show q % 4294967296 = q by omega, hv, List.take_length, List.take_of_length_le h] at hN
      exact hN

end Go.Proofs.YtccdhgjfcgfgoaaGreat.X
set_option linter.unusedVariables false
set_option linter.unusedSimpArgs false
namespace Go.Proofs.YtccdhgjfcgfgoaaGreat.X
open Go Go.RowKit Go.Proofs

theorem mul_bound {c x y z : Nat} (hc : c < 4294967296) (hx : x < 4294967296) (hy : y < 4294967296) (hz : z < 4294967296) : x * y ≤ 18446744065119617025 ∧ x * y + z ≤ 18446744069414584320 ∧ c + (x * y + z) ≤ 18446744073709551615 := by
  have : x * y ≤ 4294967295 * 4294967295 := Nat.mul_le_mul (by omega) (by omega)
  omega

theorem mul_ok (H : PH) (va vb : Value) (x y : Nat) (ha : NatV H va x) (hb : NatV H vb y) (hbx : bl x ≤ 4294967296) (hby : bl y ≤ 4294967296) : FnP Tryz.prog 76 [va, vb] H fun v H' => NatV H' v (x * y) := by
  obtain ⟨A, l, c, rfl, hc, hS, hn, rfl⟩ := ha
  obtain ⟨B, m, e, rfl, he, hT, hm, rfl⟩ := hb
  have hlen : l.length ≤ 200000000 := by have := len_le_bl hn; omega
  have hlen2 : m.length ≤ 200000000 := by have := len_le_bl hm; omega
  clear hbx hby hc he
  refine of_nat_Mul (by simp) ?_
  try simp only [go_sem, Nat.reduceEqDiff, Nat.reduceAdd, Nat.reduceBEq, ↓reduceIte, p_nat_Mul]
  rw [w64n (l.length + m.length) (by omega) (by omega)]
  refine ev_mkO (by omega) (by omega) (by omega) (PH.disj_no _) ?_
  intro g M hO _ _ hd
  try simp only [go_sem, Nat.reduceEqDiff, Nat.reduceAdd, Nat.reduceBEq, ↓reduceIte]
  rw [show (((l.length + m.length : Nat) : Int)).toNat = l.length + m.length from rfl] at hO ⊢
  refine ev_loop (fun n s => ∃ i o M, i ≤ l.length ∧ n = l.length - i ∧ o.length = l.length + m.length ∧ Lim o ∧ val o = val (l.take i) * val m ∧ Own .u32 130 M (some ⟨g, 0, none⟩) o (l.length + m.length) ∧ PH.disj H M ∧
    s = ⟨[(22, .v (.int .i64 (i : Nat))), (21, .v (.int .i64 (l.length : Nat))), (20, .v (.slice A l.length c)), (5, .v (.slice (some ⟨g, 0, none⟩) (l.length + m.length) (l.length + m.length))), (4, .ptr 4 0), (3, .ptr 3 0)], [(4, [.slice none 0 0]), (3, [.slice B m.length e])], H, M⟩)
    l.length _ ⟨0, _, M, by omega, by omega, by simp, Lim.replicate _, by simp [val, val_replicate], hO, hd, rfl⟩ sub_of ?_
  clear hO hd
  rintro n s ⟨i, o, M, hi, rfl, ho, hlo, hv, hO, hd, rfl⟩
  try simp only [go_sem, Nat.reduceEqDiff, Nat.reduceAdd, Nat.reduceBEq, ↓reduceIte]
  refine ev_if (fun h2 => ?_) (fun h2 => ?_)
  · obtain ⟨b, off, rfl⟩ := hS.base (by omega)
    try simp only [go_sem, Nat.reduceEqDiff, Nat.reduceAdd, Nat.reduceBEq, ↓reduceIte]
    refine ev_iaN i rfl (by omega) rfl ?_
    try simp only [go_sem, Nat.reduceEqDiff, Nat.reduceAdd, Nat.reduceBEq, ↓reduceIte]
    refine ev_ldS hS rfl (by omega) ?_
    have hx := hn.1.getD i
    have el := val_take_succ l i (by omega)
    try simp only [go_sem, Nat.reduceEqDiff, Nat.reduceAdd, Nat.reduceBEq, ↓reduceIte]
    have hlt : val (l.take i) * val m < 4294967296 ^ (i + m.length) := by
      have h1 := val_lt (hn.1.take i)
      have h2 := val_lt hm.1
      rw [List.length_take, Nat.min_eq_left hi] at h1
      rw [Nat.pow_add]
      exact Nat.mul_lt_mul'' h1 h2
    refine ev_loop (fun n s => ∃ k p q M, k ≤ m.length ∧ n = m.length - k ∧ p.length = l.length + m.length ∧ Lim p ∧ q < 4294967296 ∧ p.getD (i + m.length) 0 = 0 ∧ val p + 4294967296 ^ (i + k) * q = val (l.take i) * val m + 4294967296 ^ i * (l.getD i 0 * val (m.take k)) ∧ Own .u32 130 M (some ⟨g, 0, none⟩) p (l.length + m.length) ∧ PH.disj H M ∧
      s = ⟨[(30, .v (.int .i64 (k : Nat))), (29, .v (.int .i64 (m.length : Nat))), (28, .v (.slice B m.length e)), (22, .v (.int .i64 (i : Nat))), (21, .v (.int .i64 (l.length : Nat))), (20, .v (.slice (some ⟨b, off, none⟩) l.length c)), (8, .v (.int .u64 (q : Nat))), (7, .v (.int .u32 (l.getD i 0 : Nat))), (6, .v (.int .i64 (i : Nat))),
        (5, .v (.slice (some ⟨g, 0, none⟩) (l.length + m.length) (l.length + m.length))), (4, .ptr 4 0), (3, .ptr 3 0)], [(4, [.slice none 0 0]), (3, [.slice B m.length e])], H, M⟩)
      m.length _ ⟨0, o, 0, M, by omega, by omega, ho, hlo, by omega, getD_zero (n := i + m.length) (by rw [hv]; exact hlt) (Nat.le_refl _), by rw [hv]; simp [val], hO, hd, rfl⟩ sub_of ?_
    clear hO hd hlo hv ho
    rintro n s ⟨k, p, q, M, hk, rfl, hp, hlp, hq, hp0, hv, hO, hd, rfl⟩
    try simp only [go_sem, Nat.reduceEqDiff, Nat.reduceAdd, Nat.reduceBEq, ↓reduceIte]
    refine ev_if (fun h3 => ?_) (fun h3 => ?_)
    · try simp only [go_sem, Nat.reduceEqDiff, Nat.reduceAdd, Nat.reduceBEq, ↓reduceIte]
      obtain ⟨b2, off2, rfl⟩ := hT.base (by omega)
      refine ev_iaN k rfl (by omega) rfl ?_
      try simp only [go_sem, Nat.reduceEqDiff, Nat.reduceAdd, Nat.reduceBEq, ↓reduceIte]
      refine ev_ldS hT rfl (by omega) ?_
      try simp only [go_sem, Nat.reduceEqDiff, Nat.reduceAdd, Nat.reduceBEq, ↓reduceIte]
      have hy := hm.1.getD k
      have hz := hlp.getD (i + k)
      have em := val_take_succ m k (by omega)
      have hb := mul_bound hq hx hy hz
      try simp (disch := omega) only [nA64, nS64, nM64, nC64, nA64l, nS64l, nM64l, nM64r, nR64l, nL64l, nAu64, nMu64, nMu64r, nSu64, nAu64l, nLu64l, nCu64, nCu32, nCu8, nAu32, nLu32l, nSu8l, toNat_cast]
      refine ev_iaN (i + k) rfl (by omega) rfl ?_
      try simp only [go_sem, Nat.reduceEqDiff, Nat.reduceAdd, Nat.reduceBEq, ↓reduceIte]
      refine ev_ldO hO (by omega) ?_
      try simp only [go_sem, Nat.reduceEqDiff, Nat.reduceAdd, Nat.reduceBEq, ↓reduceIte]
      try simp (disch := omega) only [nA64, nS64, nM64, nC64, nA64l, nS64l, nM64l, nM64r, nR64l, nL64l, nAu64, nMu64, nMu64r, nSu64, nAu64l, nLu64l, nCu64, nCu32, nCu8, nAu32, nLu32l, nSu8l, toNat_cast]
      generalize hw : q + (l.getD i 0 * m.getD k 0 + p.getD (i + k) 0) = w at *
      refine ev_iaN (i + k) rfl (by omega) rfl ?_
      try simp only [go_sem, Nat.reduceEqDiff, Nat.reduceAdd, Nat.reduceBEq, ↓reduceIte]
      rw [u32mod]
      refine ev_stO hO (by omega) ?_
      intro M' hO' _ hd'
      try simp only [go_sem, Nat.reduceEqDiff, Nat.reduceAdd, Nat.reduceBEq, ↓reduceIte]
      refine shr_nat (n := 32) rfl (by decide) ?_
      try simp only [go_sem, Nat.reduceEqDiff, Nat.reduceAdd, Nat.reduceBEq, ↓reduceIte]
      refine k_next (m.length - (k + 1)) _ (by omega) ⟨k + 1, _, w / 4294967296, M', by omega, rfl, by simp; omega, hlp.set (by omega), by omega, ?_, ?_, hO', hd' _ hd, rfl⟩ sub_of
      · rw [List.getD, List.getElem?_set_ne (by omega)]; exact hp0
      · have e1 := val_set p (i + k) (w % 4294967296) (by omega)
        rw [em, ← Nat.add_assoc i k 1, Nat.pow_succ, Nat.mul_assoc]
        have e2 : 4294967296 ^ (i + k) * w = 4294967296 ^ (i + k) * (w % 4294967296) + 4294967296 ^ (i + k) * (4294967296 * (w / 4294967296)) := by rw [← Nat.mul_add]; congr 1; omega
        have e3 : 4294967296 ^ (i + k) * w = 4294967296 ^ (i + k) * q + 4294967296 ^ (i + k) * (l.getD i 0 * m.getD k 0) + 4294967296 ^ (i + k) * p.getD (i + k) 0 := by rw [← Nat.mul_add, ← Nat.mul_add]; congr 1; omega
        have e4 : 4294967296 ^ i * (l.getD i 0 * (val (m.take k) + 4294967296 ^ k * m.getD k 0)) = 4294967296 ^ i * (l.getD i 0 * val (m.take k)) + 4294967296 ^ (i + k) * (l.getD i 0 * m.getD k 0) := by
          rw [Nat.mul_add, Nat.mul_add, Nat.pow_add]
          congr 1
          simp only [Nat.mul_assoc, Nat.mul_left_comm]
        rw [e4]
        omega
    · have hkm : k = m.length := by omega
      subst hkm
      try simp only [go_sem, Nat.reduceEqDiff, Nat.reduceAdd, Nat.reduceBEq, ↓reduceIte]
      rw [w64n (i + m.length) (by omega) (by omega)]
      refine ev_iaN (i + m.length) rfl (by omega) rfl ?_
      try simp only [go_sem, Nat.reduceEqDiff, Nat.reduceAdd, Nat.reduceBEq, ↓reduceIte]
      rw [u32mod, Nat.mod_eq_of_lt hq]
      refine ev_stO hO (by omega) ?_
      intro M' hO' _ hd'
      try simp only [go_sem, Nat.reduceEqDiff, Nat.reduceAdd, Nat.reduceBEq, ↓reduceIte]
      refine k_next (l.length - (i + 1)) _ (by omega) ⟨i + 1, _, M', by omega, rfl, by simp; omega, hlp.set hq, ?_, hO', hd' _ hd, rfl⟩ sub_of
      have e1 := val_set p (i + m.length) q (by omega)
      rw [hp0, Nat.mul_zero, Nat.add_zero] at e1
      rw [e1, hv, List.take_length, el, Nat.add_mul, Nat.mul_assoc]
  · have hil : i = l.length := by omega
    subst hil
    try simp only [go_sem, Nat.reduceEqDiff, Nat.reduceAdd, Nat.reduceBEq, ↓reduceIte]
    refine ev_cutA hO (by omega) hlo (by omega) hd ?_
    intro v H' hl hN
    have hN2 := hN
    obtain ⟨A', l', c', rfl, _⟩ := hN2
    try simp only [go_sem, Nat.reduceEqDiff, Nat.reduceAdd, Nat.reduceBEq, ↓reduceIte]
    rw [hv, List.take_length] at hN
    exact ⟨by trivial, hN⟩

end Go.Proofs.YtccdhgjfcgfgoaaGreat.X
set_option linter.unusedVariables false
set_option linter.unusedSimpArgs false
namespace Go.Proofs.YtccdhgjfcgfgoaaGreat.X
open Go Go.RowKit Go.Proofs

theorem quo_nat {k : IntKind} {a m : Nat} {d : Nat} {X : XT} {s : St} {K : St → Prop} {b : Int} (hb : b = (m : Nat)) (hm : m ≠ 0) (hk : k.wrap ((a / m : Nat) : Int) = ((a / m : Nat) : Int)) (k1 : X (s.put d (.v (.int k ((a / m : Nat) : Int)))) K) : EvQuo k (a : Int) b d X s K := by
  subst hb
  refine ev_quo (by omega) ?_
  have : (a : Int).tdiv (m : Int) = ((a / m : Nat) : Int) := by rw [Int.natCast_ediv, Int.tdiv_eq_ediv_of_nonneg (by omega)]
  rw [this, hk]; exact k1
theorem rem_nat {k : IntKind} {a m : Nat} {d : Nat} {X : XT} {s : St} {K : St → Prop} {b : Int} (hb : b = (m : Nat)) (hm : m ≠ 0) (k1 : X (s.put d (.v (.int k ((a % m : Nat) : Int)))) K) : EvRem k (a : Int) b d X s K := by
  subst hb
  refine ev_rem (by omega) ?_
  have : (a : Int).tmod (m : Int) = ((a % m : Nat) : Int) := by rw [Int.natCast_emod, Int.tmod_eq_emod_of_nonneg (by omega)]
  rw [this]; exact k1

theorem ev_sllN {sz c d : Nat} {lo hi : Int} {b off : Nat} {X : XT} {s : St} {K : St → Prop} (w n : Nat) (hl : lo = (w : Nat)) (hh : hi = (n : Nat)) (h1 : w < c) (h2 : w ≤ n) (h3 : n ≤ c) (k1 : X (s.put d (.v (.slice (some ⟨b, off + w * sz, none⟩) (n - w) (c - w)))) K) :
    EvSl sz (some ⟨b, off, none⟩) c lo hi d X s K := by
  subst hl; subst hh
  refine ev_sl (by omega) (by omega) (by omega) ?_
  rw [toNat_cast, toNat_cast, if_neg (by omega)]
  have : Option.map (fun a : Addr => a.add (w * sz)) (some ⟨b, off, none⟩) = some ⟨b, off + w * sz, none⟩ := by
    simp only [Option.map_some, Addr.add]
    split
    · rename_i h; rw [h]; rfl
    · rfl
  rw [this]
  exact k1

def clip (n : Int) : Nat := (min (max n 0) 1048576).toNat
theorem clip_le (n : Int) : clip n ≤ 1048576 := by unfold clip; omega
theorem clip_nat (n : Nat) (h : n ≤ 1048576) : clip (n : Int) = n := by unfold clip; omega
theorem clip_eq (n : Int) : (if (1048576 : Int) < (if n < 0 then 0 else n) then (1048576 : Int) else (if n < 0 then 0 else n)) = (clip n : Nat) := by
  unfold clip; repeat' split <;> omega

theorem shl_step (V n w s i x : Nat) (o : List Nat) (hn : n = 32 * w + s) (hs : s < 32) (hx : x < 4294967296) (hV : V < 4294967296 ^ i) (ho : val o = V * 2 ^ n) (hlo : Lim o) (hl : i + w + 1 < o.length) :
    o.getD (i + w + 1) 0 = 0 ∧ (o.getD (i + w) 0 ||| x * 2 ^ s % 4294967296) = o.getD (i + w) 0 + x * 2 ^ s % 4294967296 ∧ o.getD (i + w) 0 + x * 2 ^ s % 4294967296 < 4294967296 ∧ x * 2 ^ s < 18446744073709551616 ∧
    val ((o.set (i + w) (o.getD (i + w) 0 + x * 2 ^ s % 4294967296)).set (i + w + 1) (x * 2 ^ s / 4294967296)) = (V + 4294967296 ^ i * x) * 2 ^ n := by
  have hlt : val o < 4294967296 ^ (i + w) * 2 ^ s := by
    rw [ho, hn, Nat.pow_add 2, Nat.pow_add 4294967296, pow32 w, ← Nat.mul_assoc]
    exact Nat.mul_lt_mul_of_pos_right (Nat.mul_lt_mul_of_pos_right hV (Nat.two_pow_pos _)) (Nat.two_pow_pos _)
  have h1 : o.getD (i + w) 0 < 2 ^ s := getD_lt hlt
  have h2 : o.getD (i + w + 1) 0 = 0 := by
    refine getD_zero (n := i + w + 1) (Nat.lt_of_lt_of_le hlt ?_) (Nat.le_refl _)
    rw [Nat.pow_succ]
    exact Nat.mul_le_mul_left _ (Nat.le_of_lt (Nat.lt_of_lt_of_le (Nat.pow_lt_pow_right (by decide) hs) (by decide)))
  have h32 : (4294967296 : Nat) = 2 ^ (32 - s) * 2 ^ s := by rw [← Nat.pow_add, show 32 - s + s = 32 by omega]
  have h3 : x * 2 ^ s % 4294967296 = x % 2 ^ (32 - s) * 2 ^ s := by
    conv => lhs; rw [h32]
    rw [Nat.mul_mod_mul_right]
  have hq : x % 2 ^ (32 - s) < 2 ^ (32 - s) := Nat.mod_lt _ (Nat.two_pow_pos _)
  have h4 : o.getD (i + w) 0 + x * 2 ^ s % 4294967296 < 4294967296 := by
    rw [h3]
    have := Nat.mul_le_mul_right (2 ^ s) (Nat.succ_le_of_lt hq)
    rw [← h32, Nat.succ_mul] at this
    omega
  refine ⟨h2, by rw [h3]; exact or_add _ _ _ h1, h4, ?_, ?_⟩
  · have := Nat.mul_lt_mul'' hx (Nat.pow_lt_pow_right (by decide : 1 < 2) hs)
    omega
  · have e1 := val_set o (i + w) (o.getD (i + w) 0 + x * 2 ^ s % 4294967296) (by omega)
    have e2 := val_set (o.set (i + w) (o.getD (i + w) 0 + x * 2 ^ s % 4294967296)) (i + w + 1) (x * 2 ^ s / 4294967296) (by simpa using hl)
    rw [show (o.set (i + w) (o.getD (i + w) 0 + x * 2 ^ s % 4294967296)).getD (i + w + 1) 0 = 0 by simp only [List.getD] at h2 ⊢; rw [List.getElem?_set_ne (by omega)]; exact h2, Nat.mul_zero, Nat.add_zero] at e2
    rw [e2]
    rw [Nat.mul_add] at e1
    have e3 : (V + 4294967296 ^ i * x) * 2 ^ n = val o + 4294967296 ^ (i + w) * (x * 2 ^ s) := by
      rw [Nat.add_mul, ho, hn, Nat.pow_add 2, ← pow32 w, Nat.pow_add]
      congr 1
      simp only [Nat.mul_assoc, Nat.mul_left_comm]
    have e4 : 4294967296 ^ (i + w) * (x * 2 ^ s) = 4294967296 ^ (i + w) * (x * 2 ^ s % 4294967296) + 4294967296 ^ (i + w + 1) * (x * 2 ^ s / 4294967296) := by
      rw [Nat.pow_succ, Nat.mul_assoc, ← Nat.mul_add]; congr 1; omega
    omega

/-- a number whose limbs are one's own -/
def NatO (M : PH) (v : Value) (x : Nat) : Prop := ∃ A l c, v = .agg #[.slice A l.length c] ∧ Own .u32 130 M A l c ∧ Norm l ∧ val l = x
theorem NatO.nat {H M : PH} {v : Value} {x : Nat} (h : NatO M v x) (hd : PH.disj H M) : NatV (H.join M) v x := by
  obtain ⟨A, l, c, rfl, hO, hn, hv⟩ := h
  exact ⟨A, l, c, rfl, hO.le_cap, hO.sl hd, hn, hv⟩

theorem ev_cutB {A : Option Addr} {l : List Nat} {n c d : Nat} {X : XT} {fr : List (Nat × SV)} {lh : List (Nat × List Value)} {H M : PH} {K : St → Prop} (hO : Own .u32 130 M A l c) (hn : n = l.length) (hl : Lim l) (hb : n ≤ 1000000000) (hd : PH.disj H M)
    (k1 : ∀ m H', H.le H' → m ≤ l.length → Norm (l.take m) → val (l.take m) = val l → PH.disj H' M → X ⟨(d, .v (.agg #[.slice A m c])) :: fr, lh, H', M⟩ K) : EvCall Tryz.prog 109 [.slice A n c] d X ⟨fr, lh, H, M⟩ K := by
  refine ev_callB (cut_ok _ A l n c hn (by rw [hn]; exact hO.le_cap) (hO.sl hd) hl hb) ?_
  rintro v H' hle ⟨m, hm, rfl, hN, hv⟩ hd'
  exact k1 m H' hle hm hN hv hd'

theorem shl_own (H : PH) (va : Value) (x : Nat) (n : Int) (ha : NatV H va x) (hbx : bl x ≤ 4294967296) : Fn Tryz.prog 126 [va, .int .i64 n] H PH.no fun v H' M' => PH.disj H' M' ∧ NatO M' v (x * 2 ^ clip n) := by
  obtain ⟨A, l, c, rfl, hc, hS, hn, rfl⟩ := ha
  have hlen : l.length ≤ 200000000 := by have := len_le_bl hn; omega
  have hcl := clip_le n
  clear hbx hc
  refine of_nat_Shl (by simp) ?_
  try simp only [go_sem, Nat.reduceEqDiff, Nat.reduceAdd, Nat.reduceBEq, ↓reduceIte, p_nat_Shl]
  rw [clip_eq n]
  generalize clip n = k at hcl ⊢
  refine quo_nat (m := 32) rfl (by decide) (w64 _ (by omega) (by omega)) ?_
  try simp only [go_sem, Nat.reduceEqDiff, Nat.reduceAdd, Nat.reduceBEq, ↓reduceIte]
  try simp (disch := omega) only [nA64, nS64, nM64, nC64, nA64l, nS64l, nM64l, nM64r, nR64l, nL64l, nAu64, nMu64, nMu64r, nSu64, nAu64l, nLu64l, nCu64, nCu32, nCu8, nAu32, nLu32l, nSu8l, toNat_cast]
  refine ev_mkO (by omega) (by omega) (by omega) (PH.disj_no _) ?_
  intro g M hO _ _ hd
  try simp only [go_sem, Nat.reduceEqDiff, Nat.reduceAdd, Nat.reduceBEq, ↓reduceIte]
  rw [toNat_cast] at hO ⊢
  refine ev_loop (fun n s => ∃ i o M, i ≤ l.length ∧ n = l.length - i ∧ o.length = l.length + k / 32 + 1 ∧ Lim o ∧ val o = val (l.take i) * 2 ^ k ∧ Own .u32 130 M (some ⟨g, 0, none⟩) o (l.length + k / 32 + 1) ∧ PH.disj H M ∧
    s = ⟨[(23, .v (.int .i64 (i : Nat))), (22, .v (.int .i64 (l.length : Nat))), (21, .v (.slice A l.length c)), (1, .v (.int .i64 (k : Nat))), (5, .v (.slice (some ⟨g, 0, none⟩) (l.length + k / 32 + 1) (l.length + k / 32 + 1))), (4, .ptr 4 0)], [(4, [.slice none 0 0])], H, M⟩)
    l.length _ ⟨0, _, M, by omega, by omega, by simp, Lim.replicate _, by simp [val, val_replicate], hO, hd, rfl⟩ sub_of ?_
  clear hO hd
  rintro n s ⟨i, o, M, hi, rfl, ho, hlo, hv, hO, hd, rfl⟩
  try simp only [go_sem, Nat.reduceEqDiff, Nat.reduceAdd, Nat.reduceBEq, ↓reduceIte]
  refine ev_if (fun h2 => ?_) (fun h2 => ?_)
  · obtain ⟨b, off, rfl⟩ := hS.base (by omega)
    try simp only [go_sem, Nat.reduceEqDiff, Nat.reduceAdd, Nat.reduceBEq, ↓reduceIte]
    refine ev_iaN i rfl (by omega) rfl ?_
    try simp only [go_sem, Nat.reduceEqDiff, Nat.reduceAdd, Nat.reduceBEq, ↓reduceIte]
    refine ev_ldS hS rfl (by omega) ?_
    have hx := hn.1.getD i
    have el := val_take_succ l i (by omega)
    have hlt := val_lt (hn.1.take i)
    rw [List.length_take, Nat.min_eq_left hi] at hlt
    obtain ⟨z1, z2, z3, z4, z5⟩ := shl_step (val (l.take i)) k (k / 32) (k % 32) i (l.getD i 0) o (by omega) (by omega) hx hlt hv hlo (by omega)
    try simp only [go_sem, Nat.reduceEqDiff, Nat.reduceAdd, Nat.reduceBEq, ↓reduceIte]
    refine rem_nat (m := 32) rfl (by decide) ?_
    try simp only [go_sem, Nat.reduceEqDiff, Nat.reduceAdd, Nat.reduceBEq, ↓reduceIte]
    try simp (disch := omega) only [nA64, nS64, nM64, nC64, nA64l, nS64l, nM64l, nM64r, nR64l, nL64l, nAu64, nMu64, nMu64r, nSu64, nAu64l, nLu64l, nCu64, nCu32, nCu8, nAu32, nLu32l, nSu8l, toNat_cast]
    refine shl_nat (n := k % 32) (y := l.getD i 0 * 2 ^ (k % 32)) rfl (by show k % 32 ≤ 64; omega) (nCu64 (by omega)) ?_
    try simp only [go_sem, Nat.reduceEqDiff, Nat.reduceAdd, Nat.reduceBEq, ↓reduceIte]
    refine quo_nat (m := 32) rfl (by decide) (w64 _ (by omega) (by omega)) ?_
    try simp only [go_sem, Nat.reduceEqDiff, Nat.reduceAdd, Nat.reduceBEq, ↓reduceIte]
    try simp (disch := omega) only [nA64, nS64, nM64, nC64, nA64l, nS64l, nM64l, nM64r, nR64l, nL64l, nAu64, nMu64, nMu64r, nSu64, nAu64l, nLu64l, nCu64, nCu32, nCu8, nAu32, nLu32l, nSu8l, toNat_cast]
    refine ev_iaN (i + k / 32) rfl (by omega) rfl ?_
    try simp only [go_sem, Nat.reduceEqDiff, Nat.reduceAdd, Nat.reduceBEq, ↓reduceIte]
    refine ev_ldO hO (by omega) ?_
    try simp only [go_sem, Nat.reduceEqDiff, Nat.reduceAdd, Nat.reduceBEq, ↓reduceIte]
    rw [u32mod, or32 (hlo.getD _) (Nat.mod_lt _ (by decide)), z2]
    refine ev_iaN (i + k / 32) rfl (by omega) rfl ?_
    try simp only [go_sem, Nat.reduceEqDiff, Nat.reduceAdd, Nat.reduceBEq, ↓reduceIte]
    refine ev_stO hO (by omega) ?_
    intro M' hO' _ hd'
    try simp only [go_sem, Nat.reduceEqDiff, Nat.reduceAdd, Nat.reduceBEq, ↓reduceIte]
    refine quo_nat (m := 32) rfl (by decide) (w64 _ (by omega) (by omega)) ?_
    try simp only [go_sem, Nat.reduceEqDiff, Nat.reduceAdd, Nat.reduceBEq, ↓reduceIte]
    try simp (disch := omega) only [nA64, nS64, nM64, nC64, nA64l, nS64l, nM64l, nM64r, nR64l, nL64l, nAu64, nMu64, nMu64r, nSu64, nAu64l, nLu64l, nCu64, nCu32, nCu8, nAu32, nLu32l, nSu8l, toNat_cast]
    refine shr_nat (n := 32) rfl (by decide) ?_
    try simp only [go_sem, Nat.reduceEqDiff, Nat.reduceAdd, Nat.reduceBEq, ↓reduceIte]
    rw [u32mod, Nat.mod_eq_of_lt (show l.getD i 0 * 2 ^ (k % 32) / 2 ^ 32 < 4294967296 by omega)]
    refine ev_iaN (i + k / 32 + 1) rfl (by omega) rfl ?_
    try simp only [go_sem, Nat.reduceEqDiff, Nat.reduceAdd, Nat.reduceBEq, ↓reduceIte]
    refine ev_stO hO' (by simp; omega) ?_
    intro M2 hO2 _ hd2
    try simp only [go_sem, Nat.reduceEqDiff, Nat.reduceAdd, Nat.reduceBEq, ↓reduceIte]
    refine k_next (l.length - (i + 1)) _ (by omega) ⟨i + 1, _, M2, by omega, rfl, by simp; omega, (hlo.set z3).set (by omega), ?_, hO2, hd2 _ (hd' _ hd), rfl⟩ sub_of
    rw [el]
    exact z5
  · have hil : i = l.length := by omega
    subst hil
    try simp only [go_sem, Nat.reduceEqDiff, Nat.reduceAdd, Nat.reduceBEq, ↓reduceIte]
    refine ev_cutB hO (by omega) hlo (by omega) hd ?_
    intro m H' hl hm hN hvm hd'
    try simp only [go_sem, Nat.reduceEqDiff, Nat.reduceAdd, Nat.reduceBEq, ↓reduceIte]
    refine ⟨hd', _, o.take m, _, ?_, hO.take m, hN, ?_⟩
    · rw [List.length_take, Nat.min_eq_left hm]
    · rw [hvm, hv, List.take_length]

end Go.Proofs.YtccdhgjfcgfgoaaGreat.X
set_option linter.unusedVariables false
set_option linter.unusedSimpArgs false
namespace Go.Proofs.YtccdhgjfcgfgoaaGreat.X
open Go Go.RowKit Go.Proofs

theorem shl_ok (H : PH) (va : Value) (x : Nat) (n : Int) (ha : NatV H va x) (hbx : bl x ≤ 4294967296) : FnP Tryz.prog 126 [va, .int .i64 n] H fun v H' => NatV H' v (x * 2 ^ clip n) :=
  Fn.release ((shl_own H va x n ha hbx).mono fun v H' M' hl hd hR hd' => hR.2.nat hd')

theorem shr_step (V s i x : Nat) (o : List Nat) (hs : s < 32) (hx : x < 4294967296) (hV : V < 4294967296 ^ (i + 1)) (ho : val o = V / 2 ^ s) (hlo : Lim o) (hl : i + 1 < o.length) :
    o.getD (i + 1) 0 = 0 ∧ (o.getD i 0 ||| x * 2 ^ (32 - s) % 4294967296) = o.getD i 0 + x * 2 ^ (32 - s) % 4294967296 ∧ o.getD i 0 + x * 2 ^ (32 - s) % 4294967296 < 4294967296 ∧ x * 2 ^ (32 - s) < 18446744073709551616 ∧
    val ((o.set (i + 1) (x / 2 ^ s)).set i (o.getD i 0 + x * 2 ^ (32 - s) % 4294967296)) = (V + 4294967296 ^ (i + 1) * x) / 2 ^ s := by
  have h32 : (4294967296 : Nat) = 2 ^ (32 - s) * 2 ^ s := by rw [← Nat.pow_add, show 32 - s + s = 32 by omega]
  have hp := Nat.two_pow_pos s
  have hlt : val o < 4294967296 ^ i * 2 ^ (32 - s) := by
    rw [ho, Nat.div_lt_iff_lt_mul hp, Nat.mul_assoc, ← h32, ← Nat.pow_succ]
    exact hV
  have h1 : o.getD i 0 < 2 ^ (32 - s) := getD_lt hlt
  have h2 : o.getD (i + 1) 0 = 0 := by
    refine getD_zero (n := i + 1) (Nat.lt_of_lt_of_le hlt ?_) (Nat.le_refl _)
    rw [Nat.pow_succ]
    exact Nat.mul_le_mul_left _ (Nat.pow_le_pow_right (by decide : 0 < 2) (show 32 - s ≤ 32 by omega))
  have h3 : x * 2 ^ (32 - s) % 4294967296 = x % 2 ^ s * 2 ^ (32 - s) := by
    conv => lhs; rw [h32, Nat.mul_comm (2 ^ (32 - s)) (2 ^ s)]
    rw [Nat.mul_mod_mul_right]
  have hq : x % 2 ^ s < 2 ^ s := Nat.mod_lt _ hp
  have h4 : o.getD i 0 + x * 2 ^ (32 - s) % 4294967296 < 4294967296 := by
    rw [h3]
    have := Nat.mul_le_mul_right (2 ^ (32 - s)) (Nat.succ_le_of_lt hq)
    rw [Nat.mul_comm (2 ^ s) (2 ^ (32 - s)), ← h32, Nat.succ_mul] at this
    omega
  refine ⟨h2, by rw [h3]; exact or_add _ _ _ h1, h4, ?_, ?_⟩
  · have h5 : 2 ^ (32 - s) ≤ 2 ^ 32 := Nat.pow_le_pow_right (by decide) (by omega)
    have := Nat.mul_le_mul (Nat.le_of_lt_succ hx : x ≤ 4294967295) h5
    omega
  · have e1 := val_set o (i + 1) (x / 2 ^ s) hl
    have e2 := val_set (o.set (i + 1) (x / 2 ^ s)) i (o.getD i 0 + x * 2 ^ (32 - s) % 4294967296) (by simp; omega)
    rw [show (o.set (i + 1) (x / 2 ^ s)).getD i 0 = o.getD i 0 by simp only [List.getD]; rw [List.getElem?_set_ne (by omega)]] at e2
    rw [h2, Nat.mul_zero, Nat.add_zero] at e1
    rw [Nat.mul_add, h3] at e2
    have e3 : 4294967296 ^ (i + 1) * x = 2 ^ s * (4294967296 ^ i * (2 ^ (32 - s) * x)) := by
      rw [Nat.pow_succ]
      conv => lhs; rw [show 4294967296 ^ i * 4294967296 = 4294967296 ^ i * (2 ^ (32 - s) * 2 ^ s) by rw [← h32]]
      simp only [Nat.mul_assoc, Nat.mul_left_comm]
    rw [e3, Nat.add_mul_div_left _ _ hp, ← ho]
    have e4 : 4294967296 ^ i * (2 ^ (32 - s) * x) = 4294967296 ^ (i + 1) * (x / 2 ^ s) + 4294967296 ^ i * (x % 2 ^ s * 2 ^ (32 - s)) := by
      have : 4294967296 ^ (i + 1) * (x / 2 ^ s) = 4294967296 ^ i * (2 ^ (32 - s) * (2 ^ s * (x / 2 ^ s))) := by
        rw [Nat.pow_succ]
        conv => lhs; rw [show 4294967296 ^ i * 4294967296 = 4294967296 ^ i * (2 ^ (32 - s) * 2 ^ s) by rw [← h32]]
        simp only [Nat.mul_assoc]
      rw [this, ← Nat.mul_add, Nat.mul_comm (x % 2 ^ s), ← Nat.mul_add, Nat.div_add_mod]
    rw [h3]
    omega

theorem Sl.drop {k : IntKind} {H : PH} {b off : Nat} {l : List Nat} (h : Sl k H (some ⟨b, off, none⟩) l) (n : Nat) : Sl k H (some ⟨b, off + n, none⟩) (l.drop n) := by
  by_cases hn : l.length ≤ n
  · left; exact List.drop_eq_nil_of_le hn
  rcases h with h | ⟨b', off', cs, T, fz, h1, h2, h3, h4⟩
  · left; rw [h]; simp
  · injection h1 with h1; injection h1 with e1 e2; subst e1; subst e2
    refine .inr ⟨b, off + n, cs, T, fz, rfl, h2, ?_, ?_⟩
    · simp only [List.length_drop]; omega
    · rw [List.length_drop, ← List.drop_drop, ← List.drop_take, h4]; simp [nums, List.map_drop]

theorem val_drop (l : List Nat) (w : Nat) (hl : Lim l) (h : w ≤ l.length) : val (l.drop w) = val l / 2 ^ (32 * w) := by
  have e := val_take_drop l w h
  have hlt := val_lt (hl.take w)
  rw [List.length_take, Nat.min_eq_left h] at hlt
  rw [← pow32, e, Nat.add_mul_div_left _ _ (Nat.pow_pos (by decide)), Nat.div_eq_of_lt hlt, Nat.zero_add]

theorem shr_ok (H : PH) (va : Value) (x : Nat) (n : Int) (ha : NatV H va x) (hbx : bl x ≤ 4294967296) : FnP Tryz.prog 128 [va, .int .i64 n] H fun v H' => NatV H' v (x / 2 ^ clip n) := by
  obtain ⟨A, l, c, rfl, hc, hS, hn, rfl⟩ := ha
  have hlen : l.length ≤ 200000000 := by have := len_le_bl hn; omega
  have hcl := clip_le n
  have hlt0 := val_lt hn.1
  clear hbx
  refine of_nat_Shr (by simp) ?_
  try simp only [go_sem, Nat.reduceEqDiff, Nat.reduceAdd, Nat.reduceBEq, ↓reduceIte, p_nat_Shr]
  rw [clip_eq n]
  generalize clip n = k at hcl ⊢
  refine quo_nat (m := 32) rfl (by decide) (w64 _ (by omega) (by omega)) ?_
  try simp only [go_sem, Nat.reduceEqDiff, Nat.reduceAdd, Nat.reduceBEq, ↓reduceIte]
  refine ev_if (fun h => ?_) (fun h => ?_)
  · try simp only [go_sem, Nat.reduceEqDiff, Nat.reduceAdd, Nat.reduceBEq, ↓reduceIte]
    refine ⟨by trivial, ?_⟩
    rw [Nat.div_eq_of_lt]
    · exact NatV.zero _ _
    · refine Nat.lt_of_lt_of_le hlt0 ?_
      rw [pow32]
      exact Nat.pow_le_pow_right (by decide) (by omega)
  · try simp only [go_sem, Nat.reduceEqDiff, Nat.reduceAdd, Nat.reduceBEq, ↓reduceIte]
    obtain ⟨b, off, rfl⟩ := hS.base (by omega)
    refine quo_nat (m := 32) rfl (by decide) (w64 _ (by omega) (by omega)) ?_
    try simp only [go_sem, Nat.reduceEqDiff, Nat.reduceAdd, Nat.reduceBEq, ↓reduceIte]
    refine ⟨hc, ev_sllN (k / 32) l.length rfl rfl (by omega) (by omega) hc ?_⟩
    try simp only [go_sem, Nat.reduceEqDiff, Nat.reduceAdd, Nat.reduceBEq, ↓reduceIte]
    rw [Nat.mul_one]
    have hD := hS.drop (k / 32)
    have hvd := val_drop l (k / 32) hn.1 (by omega)
    have hld : (l.drop (k / 32)).length = l.length - k / 32 := List.length_drop
    have hlim := hn.1.drop (k / 32)
    generalize l.drop (k / 32) = m at hD hvd hld hlim
    generalize off + k / 32 = off2 at hD ⊢
    generalize hc2 : c - k / 32 = c2
    rw [← hld]
    have hm1 : m.length ≤ 200000000 := by omega
    have hm0 : 0 < m.length := by omega
    have hgoal : val l / 2 ^ k = val m / 2 ^ (k % 32) := by
      rw [hvd, Nat.div_div_eq_div_mul, ← Nat.pow_add]
      congr 2; omega
    rw [hgoal]
    clear hS hn hlen hlt0 hvd hld hgoal h hc hc2
    generalize hks : k % 32 = s
    have hs : s < 32 := by omega
    refine ev_mkO (by omega) (by omega) (by omega) (PH.disj_no _) ?_
    intro g M hO _ _ hd
    try simp only [go_sem, Nat.reduceEqDiff, Nat.reduceAdd, Nat.reduceBEq, ↓reduceIte]
    rw [toNat_cast] at hO ⊢
    refine ev_loop (fun n s' => ∃ i o M, i ≤ m.length ∧ n = m.length - i ∧ o.length = m.length ∧ Lim o ∧ val o = val (m.take i) / 2 ^ s ∧ Own .u32 130 M (some ⟨g, 0, none⟩) o m.length ∧ PH.disj H M ∧
      s' = ⟨[(29, .v (.int .i64 (i : Nat))), (28, .v (.int .i64 (m.length : Nat))), (27, .v (.slice (some ⟨b, off2, none⟩) m.length c2)), (1, .v (.int .i64 (k : Nat))), (6, .v (.slice (some ⟨g, 0, none⟩) m.length m.length)), (4, .ptr 4 0)], [(4, [.slice none 0 0])], H, M⟩)
      m.length _ ⟨0, _, M, by omega, by omega, by simp, Lim.replicate _, by simp [val, val_replicate], hO, hd, rfl⟩ sub_of ?_
    clear hO hd
    rintro n s' ⟨i, o, M, hi, rfl, ho, hlo, hv, hO, hd, rfl⟩
    try simp only [go_sem, Nat.reduceEqDiff, Nat.reduceAdd, Nat.reduceBEq, ↓reduceIte]
    refine ev_if (fun h2 => ?_) (fun h2 => ?_)
    · try simp only [go_sem, Nat.reduceEqDiff, Nat.reduceAdd, Nat.reduceBEq, ↓reduceIte]
      refine ev_iaN i rfl (by omega) rfl ?_
      try simp only [go_sem, Nat.reduceEqDiff, Nat.reduceAdd, Nat.reduceBEq, ↓reduceIte]
      refine ev_ldS hD rfl (by omega) ?_
      have hx := hlim.getD i
      have el := val_take_succ m i (by omega)
      have hlt := val_lt (hlim.take i)
      rw [List.length_take, Nat.min_eq_left hi] at hlt
      try simp only [go_sem, Nat.reduceEqDiff, Nat.reduceAdd, Nat.reduceBEq, ↓reduceIte]
      refine rem_nat (m := 32) rfl (by decide) ?_
      rw [hks]
      try simp only [go_sem, Nat.reduceEqDiff, Nat.reduceAdd, Nat.reduceBEq, ↓reduceIte]
      refine shr_nat (n := s) rfl (by show s ≤ 32; omega) ?_
      try simp only [go_sem, Nat.reduceEqDiff, Nat.reduceAdd, Nat.reduceBEq, ↓reduceIte]
      refine ev_iaN i rfl (by omega) rfl ?_
      try simp only [go_sem, Nat.reduceEqDiff, Nat.reduceAdd, Nat.reduceBEq, ↓reduceIte]
      have hxs : m.getD i 0 / 2 ^ s < 4294967296 := Nat.lt_of_le_of_lt (Nat.div_le_self _ _) hx
      refine ev_stO hO (by omega) ?_
      intro M' hO' _ hd'
      try simp only [go_sem, Nat.reduceEqDiff, Nat.reduceAdd, Nat.reduceBEq, ↓reduceIte]
      refine ev_if (fun h3 => ?_) (fun h3 => ?_)
      · try simp only [go_sem, Nat.reduceEqDiff, Nat.reduceAdd, Nat.reduceBEq, ↓reduceIte]
        try simp (disch := omega) only [nA64, nS64, nM64, nC64, nA64l, nS64l, nM64l, nM64r, nR64l, nL64l, nAu64, nMu64, nMu64r, nSu64, nAu64l, nLu64l, nCu64, nCu32, nCu8, nAu32, nLu32l, nSu8l, toNat_cast]
        refine ev_iaN (i - 1) rfl (by omega) rfl ?_
        try simp only [go_sem, Nat.reduceEqDiff, Nat.reduceAdd, Nat.reduceBEq, ↓reduceIte]
        refine ev_ldO hO' (by simp; omega) ?_
        try simp only [go_sem, Nat.reduceEqDiff, Nat.reduceAdd, Nat.reduceBEq, ↓reduceIte]
        refine rem_nat (m := 32) rfl (by decide) ?_
        rw [hks]
        try simp only [go_sem, Nat.reduceEqDiff, Nat.reduceAdd, Nat.reduceBEq, ↓reduceIte]
        try simp (disch := omega) only [nA64, nS64, nM64, nC64, nA64l, nS64l, nM64l, nM64r, nR64l, nL64l, nAu64, nMu64, nMu64r, nSu64, nAu64l, nLu64l, nCu64, nCu32, nCu8, nAu32, nLu32l, nSu8l, toNat_cast]
        obtain ⟨z1, z2, z3, z4, z5⟩ := shr_step (val (m.take i)) s (i - 1) (m.getD i 0) o hs hx (by rw [show i - 1 + 1 = i by omega]; exact hlt) hv hlo (by omega)
        rw [show i - 1 + 1 = i by omega] at z1 z5
        refine shl_nat (n := 32 - s) (y := m.getD i 0 * 2 ^ (32 - s)) rfl (by show 32 - s ≤ 64; omega) (nCu64 (by omega)) ?_
        try simp only [go_sem, Nat.reduceEqDiff, Nat.reduceAdd, Nat.reduceBEq, ↓reduceIte]
        rw [u32mod, show (o.set i (m.getD i 0 / 2 ^ s)).getD (i - 1) 0 = o.getD (i - 1) 0 by simp only [List.getD]; rw [List.getElem?_set_ne (by omega)], or32 (hlo.getD _) (Nat.mod_lt _ (by decide)), z2]
        refine ev_iaN (i - 1) rfl (by omega) rfl ?_
        try simp only [go_sem, Nat.reduceEqDiff, Nat.reduceAdd, Nat.reduceBEq, ↓reduceIte]
        refine ev_stO hO' (by simp; omega) ?_
        intro M2 hO2 _ hd2
        try simp only [go_sem, Nat.reduceEqDiff, Nat.reduceAdd, Nat.reduceBEq, ↓reduceIte]
        refine k_next (m.length - (i + 1)) _ (by omega) ⟨i + 1, _, M2, by omega, rfl, by simp; omega, (hlo.set hxs).set z3, ?_, hO2, hd2 _ (hd' _ hd), rfl⟩ sub_of
        rw [el]
        exact z5
      · try simp only [go_sem, Nat.reduceEqDiff, Nat.reduceAdd, Nat.reduceBEq, ↓reduceIte]
        have hi0 : i = 0 := by omega
        subst hi0
        refine k_next (m.length - (0 + 1)) _ (by omega) ⟨0 + 1, _, M', by omega, rfl, by simp; omega, hlo.set hxs, ?_, hO', hd' _ hd, rfl⟩ sub_of
        have e1 := val_set o 0 (m.getD 0 0 / 2 ^ s) (by omega)
        have e2 : o.getD 0 0 = 0 := getD_zero (n := 0) (by rw [hv]; simp [val]) (by omega)
        rw [e2] at e1
        rw [el]
        simp only [List.take_zero, val, Nat.zero_div, Nat.pow_zero, Nat.one_mul, Nat.zero_add] at hv e1 ⊢
        omega
    · have hil : i = m.length := by omega
      subst hil
      try simp only [go_sem, Nat.reduceEqDiff, Nat.reduceAdd, Nat.reduceBEq, ↓reduceIte]
      refine ev_cutA hO (by omega) hlo (by omega) hd ?_
      intro v H' hl hN
      have hN2 := hN
      obtain ⟨A', l', c', rfl, _⟩ := hN2
      try simp only [go_sem, Nat.reduceEqDiff, Nat.reduceAdd, Nat.reduceBEq, ↓reduceIte]
      rw [hv, List.take_length] at hN
      exact ⟨by trivial, hN⟩

end Go.Proofs.YtccdhgjfcgfgoaaGreat.X
