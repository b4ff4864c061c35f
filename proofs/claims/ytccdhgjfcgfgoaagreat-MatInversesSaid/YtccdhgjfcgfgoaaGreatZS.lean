/- The reference's naturals: the small functions. -/
import Derived.Test.YtccdhgjfcgfgoaaGreatZO
import Derived.Test.YtccdhgjfcgfgoaaGreatZQ
set_option linter.unusedVariables false
set_option linter.unusedSimpArgs false
namespace Go.Proofs.YtccdhgjfcgfgoaaGreat.X
open Go Go.RowKit Go.Proofs

/-- a number of the reference -/
def RefV (H : PH) (v : Value) (x : Nat) : Prop := ∃ A l c, v = .slice A l.length c ∧ l.length ≤ c ∧ Sl .u32 H A l ∧ Norm l ∧ val l = x
theorem RefV.le {H H' : PH} {v : Value} {x : Nat} (h : RefV H v x) (hl : H.le H') : RefV H' v x := by
  obtain ⟨A, l, c, h1, h2, h3, h4⟩ := h
  exact ⟨A, l, c, h1, h2, h3.le hl, h4⟩
theorem RefV.zero (H : PH) : RefV H (.slice none 0 0) 0 := ⟨none, [], 0, rfl, Nat.le_refl _, .inl rfl, .nil, rfl⟩

theorem and_lo {a : Nat} (ha : a < 2 ^ 64) : bitsV .and .u64 (a : Int) 4294967295 = ((a % 4294967296 : Nat) : Int) := by
  have h := and64 (b := 4294967295) ha (by decide)
  rw [show ((4294967295 : Nat) : Int) = (4294967295 : Int) from rfl, show (4294967295 : Nat) = 2 ^ 32 - 1 from rfl, Nat.and_two_pow_sub_one_eq_mod] at h
  exact h
theorem trim_ok (H : PH) (A : Option Addr) (l : List Nat) (n c : Nat) (hl' : n = l.length) (hc : n ≤ c) (hS : Sl .u32 H A l) (hl : Lim l) (hb : n ≤ 1000000000) :
    FnP Tryz.prog 101 [.slice A n c] H fun v _ => ∃ m, m ≤ l.length ∧ v = .slice A m c ∧ Norm (l.take m) ∧ val (l.take m) = val l := by
  subst hl'
  refine of_cinctureref1_trim (by simp) ?_
  try simp only [go_sem, Nat.reduceEqDiff, Nat.reduceAdd, Nat.reduceBEq, ↓reduceIte, p_cinctureref1_trim]
  refine ev_loop (fun n s => n ≤ l.length ∧ val (l.take n) = val l ∧ s = ⟨[(3, .v (.int .i64 (n : Nat))), (0, .v (.slice A l.length c))], [], H, PH.no⟩) l.length _ ⟨Nat.le_refl _, by simp, rfl⟩ sub_of ?_
  rintro n s ⟨hn, hv, rfl⟩
  have fin : (n = 0 ∨ l.getD (n - 1) 0 ≠ 0) → ∃ m, m ≤ l.length ∧ (Value.slice A n c) = Value.slice A m c ∧ Norm (l.take m) ∧ val (l.take m) = val l := fun h => ⟨n, hn, rfl, norm_take_of hl hn h, hv⟩
  try simp only [go_sem, Nat.reduceEqDiff, Nat.reduceAdd, Nat.reduceBEq, ↓reduceIte]
  refine ev_if (fun h => ?_) (fun h => ?_)
  · obtain ⟨b, off, rfl⟩ := hS.base (by omega)
    try simp only [go_sem, Nat.reduceEqDiff, Nat.reduceAdd, Nat.reduceBEq, ↓reduceIte]
    try simp (disch := omega) only [nA64, nS64, nM64, nC64, nA64l, nS64l, nM64l, nM64r, nR64l, nL64l, nAu64, nMu64, nMu64r, nSu64, nAu64l, nLu64l, nCu64, nCu32, nCu8, nAu32, nLu32l, nSu8l, toNat_cast]
    refine ev_iaN (n - 1) rfl (by omega) rfl ?_
    try simp only [go_sem, Nat.reduceEqDiff, Nat.reduceAdd, Nat.reduceBEq, ↓reduceIte]
    refine ev_ldS hS rfl (by omega) ?_
    try simp only [go_sem, Nat.reduceEqDiff, Nat.reduceAdd, Nat.reduceBEq, ↓reduceIte]
    refine ev_if (fun h2 => ?_) (fun h2 => ?_)
    · try simp only [go_sem, Nat.reduceEqDiff, Nat.reduceAdd, Nat.reduceBEq, ↓reduceIte]
      try simp (disch := omega) only [nA64, nS64, nM64, nC64, nA64l, nS64l, nM64l, nM64r, nR64l, nL64l, nAu64, nMu64, nMu64r, nSu64, nAu64l, nLu64l, nCu64, nCu32, nCu8, nAu32, nLu32l, nSu8l, toNat_cast]
      refine k_next (n - 1) _ (by omega) ⟨by omega, ?_, rfl⟩ sub_of
      have e := val_take_succ l (n - 1) (by omega)
      rw [show n - 1 + 1 = n by omega, show l.getD (n - 1) 0 = 0 by omega] at e
      omega
    · try simp only [go_sem, Nat.reduceEqDiff, Nat.reduceAdd, Nat.reduceBEq, ↓reduceIte]
      refine ev_slhN n rfl (by omega) ?_
      try simp only [go_sem, Nat.reduceEqDiff, Nat.reduceAdd, Nat.reduceBEq, ↓reduceIte]
      exact ⟨by trivial, fin (.inr (by omega))⟩
  · try simp only [go_sem, Nat.reduceEqDiff, Nat.reduceAdd, Nat.reduceBEq, ↓reduceIte]
    refine ev_slhN n rfl (by omega) ?_
    try simp only [go_sem, Nat.reduceEqDiff, Nat.reduceAdd, Nat.reduceBEq, ↓reduceIte]
    exact ⟨by trivial, fin (.inl (by omega))⟩

theorem ev_trimA {T : TypeId} {A : Option Addr} {l : List Nat} {n c d : Nat} {X : XT} {fr : List (Nat × SV)} {lh : List (Nat × List Value)} {H M : PH} {K : St → Prop} (hO : Own .u32 T M A l c) (hn : n = l.length) (hl : Lim l) (hb : n ≤ 1000000000) (hd : PH.disj H M)
    (k1 : ∀ v H', H.le H' → RefV H' v (val l) → X ⟨(d, .v v) :: fr, lh, H', PH.no⟩ K) : EvCall Tryz.prog 101 [.slice A n c] d X ⟨fr, lh, H, M⟩ K := by
  have hS := hO.sl hd
  refine ev_callA (trim_ok _ A l n c hn (by rw [hn]; exact hO.le_cap) hS hl hb) ?_
  rintro v H' hle ⟨m, hm, rfl, hN, hv⟩
  refine k1 _ H' ((PH.le_join _ _).trans hle) ⟨A, l.take m, c, ?_, ?_, (hS.le hle).take m, hN, hv⟩
  · rw [List.length_take, Nat.min_eq_left hm]
  · have := hO.le_cap
    rw [List.length_take]; omega

theorem rnatOf_ok (H : PH) (x : Nat) (hx : x ≤ 18446744073709551615) : FnP Tryz.prog 85 [.int .u64 (x : Int)] H fun v H' => RefV H' v x := by
  refine of_cinctureref1_NatOf (by simp) ?_
  try simp only [go_sem, Nat.reduceEqDiff, Nat.reduceAdd, Nat.reduceBEq, ↓reduceIte, p_cinctureref1_NatOf]
  rw [and_lo (by omega)]
  refine shr_nat (n := 32) rfl (by decide) ?_
  try simp only [go_sem, Nat.reduceEqDiff, Nat.reduceAdd, Nat.reduceBEq, ↓reduceIte]
  rw [u32mod, u32mod]
  refine ev_bslO (l := [x % 4294967296 % 4294967296, x / 2 ^ 32 % 4294967296]) rfl rfl (by simp) (PH.disj_no _) ?_
  intro g M' hO hle _ hd
  try simp only [go_sem, Nat.reduceEqDiff, Nat.reduceAdd, Nat.reduceBEq, ↓reduceIte]
  refine ev_trimA hO rfl (.cons (by omega) (.cons (by omega) .nil)) (by decide) hd ?_
  intro v H' hl hN
  try simp only [go_sem, Nat.reduceEqDiff, Nat.reduceAdd, Nat.reduceBEq, ↓reduceIte]
  refine ⟨by trivial, ?_⟩
  have : val [x % 4294967296 % 4294967296, x / 2 ^ 32 % 4294967296] = x := by simp only [val]; omega
  rwa [this] at hN

theorem val_eq_top {l m : List Nat} (hlen : l.length = m.length) (h : ∀ j, j < l.length → l.getD j 0 = m.getD j 0) : l = m := ext_getD hlen h

theorem rcmp_ok (H : PH) (va vb : Value) (x y : Nat) (ha : RefV H va x) (hb : RefV H vb y) (hbx : bl x ≤ 4294967296) (hby : bl y ≤ 4294967296) : FnP Tryz.prog 86 [va, vb] H fun v _ => v = .int .i64 (cmpN x y) := by
  obtain ⟨A, l, c, rfl, hc, hS, hn, rfl⟩ := ha
  obtain ⟨B, m, e, rfl, he, hT, hm, rfl⟩ := hb
  have hlen : l.length ≤ 200000000 := by have := len_le_bl hn; omega
  have hlen2 : m.length ≤ 200000000 := by have := len_le_bl hm; omega
  refine of_cinctureref1_CmpNat (by simp) ?_
  try simp only [go_sem, Nat.reduceEqDiff, Nat.reduceAdd, Nat.reduceBEq, ↓reduceIte, p_cinctureref1_CmpNat]
  refine ev_if (fun h => ?_) (fun h => ?_)
  · try simp only [go_sem, Nat.reduceEqDiff, Nat.reduceAdd, Nat.reduceBEq, ↓reduceIte]
    refine ev_if (fun h2 => ?_) (fun h2 => ?_)
    · try simp only [go_sem, Nat.reduceEqDiff, Nat.reduceAdd, Nat.reduceBEq, ↓reduceIte]
      refine ⟨by trivial, ?_⟩
      have h3 := val_lt hn.1
      have h4 := val_pos hm (fun e => by rw [e] at h2; simp at h2; omega)
      have h5 := Nat.pow_le_pow_right (n := 4294967296) (by decide) (show l.length ≤ m.length - 1 by omega)
      unfold cmpN; rw [if_pos (by omega)]
    · try simp only [go_sem, Nat.reduceEqDiff, Nat.reduceAdd, Nat.reduceBEq, ↓reduceIte]
      refine ⟨by trivial, ?_⟩
      have h3 := val_lt hm.1
      have h4 := val_pos hn (fun e => by rw [e] at h2 h; simp only [List.length_nil] at h2 h; omega)
      have h5 := Nat.pow_le_pow_right (n := 4294967296) (by decide) (show m.length ≤ l.length - 1 by omega)
      unfold cmpN; rw [if_neg (by omega), if_pos (by omega)]
  · have hll : l.length = m.length := by omega
    try simp only [go_sem, Nat.reduceEqDiff, Nat.reduceAdd, Nat.reduceBEq, ↓reduceIte]
    refine ev_loop (fun n s => ∃ (k : Int) (i : Nat), k = (i : Int) - 1 ∧ i ≤ l.length ∧ n = i ∧ (∀ j, i ≤ j → j < l.length → l.getD j 0 = m.getD j 0) ∧ s = ⟨[(5, .v (.int .i64 k)), (1, .v (.slice B m.length e)), (0, .v (.slice A l.length c))], [], H, PH.no⟩)
      l.length _ ⟨(l.length : Int) - 1, l.length, rfl, by omega, rfl, fun j h1 h2 => by omega, rfl⟩ sub_of ?_
    rintro i s ⟨k, _, rfl, hi, rfl, hv, rfl⟩
    try simp only [go_sem, Nat.reduceEqDiff, Nat.reduceAdd, Nat.reduceBEq, ↓reduceIte]
    refine ev_if (fun h2 => ?_) (fun h2 => ?_)
    · obtain ⟨b, off, rfl⟩ := hS.base (by omega)
      obtain ⟨b2, off2, rfl⟩ := hT.base (by omega)
      have ei : (i : Int) - 1 = ((i - 1 : Nat) : Int) := by omega
      rw [ei]
      try simp only [go_sem, Nat.reduceEqDiff, Nat.reduceAdd, Nat.reduceBEq, ↓reduceIte]
      refine ev_iaN (i - 1) rfl (by omega) rfl ?_
      try simp only [go_sem, Nat.reduceEqDiff, Nat.reduceAdd, Nat.reduceBEq, ↓reduceIte]
      refine ev_ldS hS rfl (by omega) ?_
      try simp only [go_sem, Nat.reduceEqDiff, Nat.reduceAdd, Nat.reduceBEq, ↓reduceIte]
      refine ev_iaN (i - 1) rfl (by omega) rfl ?_
      try simp only [go_sem, Nat.reduceEqDiff, Nat.reduceAdd, Nat.reduceBEq, ↓reduceIte]
      refine ev_ldS hT rfl (by omega) ?_
      try simp only [go_sem, Nat.reduceEqDiff, Nat.reduceAdd, Nat.reduceBEq, ↓reduceIte]
      refine ev_if (fun h3 => ?_) (fun h3 => ?_)
      · try simp only [go_sem, Nat.reduceEqDiff, Nat.reduceAdd, Nat.reduceBEq, ↓reduceIte]
        refine ⟨by trivial, ?_⟩
        have := val_lt_top hn.1 hm.1 hll (i := i - 1) (by omega) (fun j h5 h6 => hv j (by omega) h6) (by omega)
        unfold cmpN; rw [if_pos this]
      · try simp only [go_sem, Nat.reduceEqDiff, Nat.reduceAdd, Nat.reduceBEq, ↓reduceIte]
        refine ev_iaN (i - 1) rfl (by omega) rfl ?_
        try simp only [go_sem, Nat.reduceEqDiff, Nat.reduceAdd, Nat.reduceBEq, ↓reduceIte]
        refine ev_ldS hS rfl (by omega) ?_
        try simp only [go_sem, Nat.reduceEqDiff, Nat.reduceAdd, Nat.reduceBEq, ↓reduceIte]
        refine ev_iaN (i - 1) rfl (by omega) rfl ?_
        try simp only [go_sem, Nat.reduceEqDiff, Nat.reduceAdd, Nat.reduceBEq, ↓reduceIte]
        refine ev_ldS hT rfl (by omega) ?_
        try simp only [go_sem, Nat.reduceEqDiff, Nat.reduceAdd, Nat.reduceBEq, ↓reduceIte]
        refine ev_if (fun h4 => ?_) (fun h4 => ?_)
        · try simp only [go_sem, Nat.reduceEqDiff, Nat.reduceAdd, Nat.reduceBEq, ↓reduceIte]
          refine ⟨by trivial, ?_⟩
          have := val_lt_top hm.1 hn.1 hll.symm (i := i - 1) (by omega) (fun j h5 h6 => (hv j (by omega) (by omega)).symm) (by omega)
          unfold cmpN; rw [if_neg (by omega), if_pos this]
        · try simp only [go_sem, Nat.reduceEqDiff, Nat.reduceAdd, Nat.reduceBEq, ↓reduceIte]
          refine k_next (i - 1) _ (by omega) ⟨((i - 1 : Nat) : Int) - 1, i - 1, rfl, by omega, rfl, fun j h5 h6 => ?_, rfl⟩ sub_of
          by_cases h7 : j = i - 1
          · rw [h7]; omega
          · exact hv j (by omega) h6
    · try simp only [go_sem, Nat.reduceEqDiff, Nat.reduceAdd, Nat.reduceBEq, ↓reduceIte]
      refine ⟨by trivial, ?_⟩
      rw [val_eq_top hll fun j hj => hv j (by omega) hj]
      unfold cmpN; simp

theorem bl_half {x : Nat} (h : x ≠ 0) : bl x = bl (x / 2) + 1 := by
  have h1 := lt_two_pow_bl (x / 2)
  by_cases h2 : x / 2 = 0
  · have : x = 1 := by omega
    subst this; rfl
  · have h3 := two_pow_le_bl h2
    have h4 := bl_pos h2
    obtain ⟨m, hm⟩ : ∃ m, bl (x / 2) = m + 1 := ⟨bl (x / 2) - 1, by omega⟩
    rw [hm] at h1 h3 ⊢
    simp only [Nat.add_sub_cancel] at h3
    refine bl_eq ?_ ?_
    · rw [Nat.pow_succ]; omega
    · rw [Nat.pow_succ]; omega

theorem rbits_ok (H : PH) (v : Value) (x : Nat) (hN : RefV H v x) (hb : bl x ≤ 4294967296) : FnP Tryz.prog 120 [v] H fun v _ => v = .int .i64 (bl x : Nat) := by
  obtain ⟨A, l, c, rfl, hc, hS, hn, rfl⟩ := hN
  have hlen := len_le_bl hn
  refine of_cinctureref1_Bits (by simp) ?_
  try simp only [go_sem, Nat.reduceEqDiff, Nat.reduceAdd, Nat.reduceBEq, ↓reduceIte, p_cinctureref1_Bits]
  refine ev_if (fun h => ?_) (fun h => ?_)
  · try simp only [go_sem, Nat.reduceEqDiff, Nat.reduceAdd, Nat.reduceBEq, ↓reduceIte]
    have : l = [] := List.eq_nil_of_length_eq_zero (by omega)
    subst this
    exact ⟨by trivial, rfl⟩
  · have e := getD_bl hn (fun h0 => h (by rw [h0]; rfl))
    have hx := hn.1.getD (l.length - 1)
    try simp only [go_sem, Nat.reduceEqDiff, Nat.reduceAdd, Nat.reduceBEq, ↓reduceIte]
    try simp (disch := omega) only [nA64, nS64, nM64, nC64, nA64l, nS64l, nM64l, nM64r, nR64l, nL64l, nAu64, nMu64, nMu64r, nSu64, nAu64l, nLu64l, nCu64, nCu32, nCu8, nAu32, nLu32l, nSu8l, toNat_cast]
    obtain ⟨b, off, rfl⟩ := hS.base (by omega)
    refine ev_iaN (l.length - 1) rfl (by omega) rfl ?_
    try simp only [go_sem, Nat.reduceEqDiff, Nat.reduceAdd, Nat.reduceBEq, ↓reduceIte]
    refine ev_ldS hS rfl (by omega) ?_
    try simp only [go_sem, Nat.reduceEqDiff, Nat.reduceAdd, Nat.reduceBEq, ↓reduceIte]
    refine ev_loop (fun n s => ∃ (k y : Nat), n = y ∧ k + bl y = bl (val l) ∧ y < 4294967296 ∧ s = ⟨[(4, .v (.int .u32 (y : Nat))), (3, .v (.int .i64 (k : Nat)))], [], H, PH.no⟩)
      _ _ ⟨32 * (l.length - 1), l.getD (l.length - 1) 0, rfl, e.symm, hx, rfl⟩ sub_of ?_
    rintro n s ⟨k, y, rfl, hk, hy, rfl⟩
    try simp only [go_sem, Nat.reduceEqDiff, Nat.reduceAdd, Nat.reduceBEq, ↓reduceIte]
    refine ev_if (fun h2 => ?_) (fun h2 => ?_)
    · have hbl := bl_half (x := n) (by omega)
      try simp only [go_sem, Nat.reduceEqDiff, Nat.reduceAdd, Nat.reduceBEq, ↓reduceIte]
      try simp (disch := omega) only [nA64, nS64, nM64, nC64, nA64l, nS64l, nM64l, nM64r, nR64l, nL64l, nAu64, nMu64, nMu64r, nSu64, nAu64l, nLu64l, nCu64, nCu32, nCu8, nAu32, nLu32l, nSu8l, toNat_cast]
      refine shr_nat (n := 1) rfl (by decide) ?_
      try simp only [go_sem, Nat.reduceEqDiff, Nat.reduceAdd, Nat.reduceBEq, ↓reduceIte]
      refine k_next (n / 2) _ (by omega) ⟨k + 1, n / 2, rfl, by omega, by omega, rfl⟩ sub_of
    · have : n = 0 := by omega
      subst this
      try simp only [go_sem, Nat.reduceEqDiff, Nat.reduceAdd, Nat.reduceBEq, ↓reduceIte]
      rw [bl_zero, Nat.add_zero] at hk
      rw [hk]
      exact ⟨by trivial, by trivial⟩

end Go.Proofs.YtccdhgjfcgfgoaaGreat.X
set_option linter.unusedVariables false
set_option linter.unusedSimpArgs false
namespace Go.Proofs.YtccdhgjfcgfgoaaGreat.X
open Go Go.RowKit Go.Proofs

theorem radd_ok (H : PH) (va vb : Value) (x y : Nat) (ha : RefV H va x) (hb : RefV H vb y) (hbx : bl x ≤ 4294967296) (hby : bl y ≤ 4294967296) : FnP Tryz.prog 99 [va, vb] H fun v H' => RefV H' v (x + y) := by
  obtain ⟨A, l, c, rfl, hc, hS, hn, rfl⟩ := ha
  obtain ⟨B, m, e, rfl, he, hT, hm, rfl⟩ := hb
  have hlen : l.length ≤ 200000000 := by have := len_le_bl hn; omega
  have hlen2 : m.length ≤ 200000000 := by have := len_le_bl hm; omega
  clear hbx hby hc he
  refine of_cinctureref1_AddNat (by simp) ?_
  try simp only [go_sem, Nat.reduceEqDiff, Nat.reduceAdd, Nat.reduceBEq, ↓reduceIte, p_cinctureref1_AddNat]
  rw [show (if (l.length : Int) < (m.length : Int) then (m.length : Int) else (l.length : Int)) = ((max l.length m.length : Nat) : Int) by split <;> omega]
  try simp (disch := omega) only [nA64, nS64, nM64, nC64, nA64l, nS64l, nM64l, nM64r, nR64l, nL64l, nAu64, nMu64, nMu64r, nSu64, nAu64l, nLu64l, nCu64, nCu32, nCu8, nAu32, nLu32l, nSu8l, toNat_cast]
  obtain ⟨N, hN⟩ : ∃ N, max l.length m.length = N := ⟨_, rfl⟩
  rw [hN]
  refine ev_mkO (by omega) (by omega) (by omega) (PH.disj_no _) ?_
  intro g M hO _ _ hd
  try simp only [go_sem, Nat.reduceEqDiff, Nat.reduceAdd, Nat.reduceBEq, ↓reduceIte]
  rw [toNat_cast] at hO ⊢
  refine ev_loop (fun n s => ∃ i o q M, i ≤ N + 1 ∧ n = N + 1 - i ∧ o.length = N + 1 ∧ Lim o ∧ q ≤ 1 ∧ val (o.take i) + 4294967296 ^ i * q = val (l.take i) + val (m.take i) ∧ Own .u32 130 M (some ⟨g, 0, none⟩) o (N + 1) ∧ PH.disj H M ∧
    s = ⟨[(7, .v (.int .i64 (i : Nat))), (6, .v (.int .u64 (q : Nat))), (5, .v (.slice (some ⟨g, 0, none⟩) (N + 1) (N + 1))), (1, .v (.slice B m.length e)), (0, .v (.slice A l.length c))], [], H, M⟩)
    (N + 1) _ ⟨0, _, 0, M, by omega, by omega, by simp, Lim.replicate _, by omega, by simp [val], hO, hd, rfl⟩ sub_of ?_
  clear hO hd
  rintro n s ⟨i, o, q, M, hi, rfl, ho, hlo, hq, hv, hO, hd, rfl⟩
  try simp only [go_sem, Nat.reduceEqDiff, Nat.reduceAdd, Nat.reduceBEq, ↓reduceIte]
  refine ev_if (fun h2 => ?_) (fun h2 => ?_)
  · have hx := hn.1.getD i
    have hy := hm.1.getD i
    have el := val_take_ge l i
    have em := val_take_ge m i
    have step : ∀ z, z = q + l.getD i 0 + m.getD i 0 → val ((o.set i (z % 4294967296)).take (i + 1)) + 4294967296 ^ (i + 1) * (z / 4294967296) = val (l.take (i + 1)) + val (m.take (i + 1)) := by
      intro z hz
      rw [val_take_set o i _ (by omega), el, em, Nat.pow_succ, Nat.mul_assoc, Nat.add_assoc, ← Nat.mul_add, show z % 4294967296 + 4294967296 * (z / 4294967296) = z by omega, hz, Nat.mul_add, Nat.mul_add]
      omega
    try simp only [go_sem, Nat.reduceEqDiff, Nat.reduceAdd, Nat.reduceBEq, ↓reduceIte]
    refine ev_if (fun h3 => ?_) (fun h3 => ?_)
    · try simp only [go_sem, Nat.reduceEqDiff, Nat.reduceAdd, Nat.reduceBEq, ↓reduceIte]
      obtain ⟨b, off, rfl⟩ := hS.base (by omega)
      refine ev_iaN i rfl (by omega) rfl ?_
      try simp only [go_sem, Nat.reduceEqDiff, Nat.reduceAdd, Nat.reduceBEq, ↓reduceIte]
      refine ev_ldS hS rfl (by omega) ?_
      try simp only [go_sem, Nat.reduceEqDiff, Nat.reduceAdd, Nat.reduceBEq, ↓reduceIte]
      try simp (disch := omega) only [nA64, nS64, nM64, nC64, nA64l, nS64l, nM64l, nM64r, nR64l, nL64l, nAu64, nMu64, nMu64r, nSu64, nAu64l, nLu64l, nCu64, nCu32, nCu8, nAu32, nLu32l, nSu8l, toNat_cast]
      refine ev_if (fun h4 => ?_) (fun h4 => ?_)
      · try simp only [go_sem, Nat.reduceEqDiff, Nat.reduceAdd, Nat.reduceBEq, ↓reduceIte]
        obtain ⟨b2, off2, rfl⟩ := hT.base (by omega)
        refine ev_iaN i rfl (by omega) rfl ?_
        try simp only [go_sem, Nat.reduceEqDiff, Nat.reduceAdd, Nat.reduceBEq, ↓reduceIte]
        refine ev_ldS hT rfl (by omega) ?_
        try simp only [go_sem, Nat.reduceEqDiff, Nat.reduceAdd, Nat.reduceBEq, ↓reduceIte]
        try simp (disch := omega) only [nA64, nS64, nM64, nC64, nA64l, nS64l, nM64l, nM64r, nR64l, nL64l, nAu64, nMu64, nMu64r, nSu64, nAu64l, nLu64l, nCu64, nCu32, nCu8, nAu32, nLu32l, nSu8l, toNat_cast]
        rw [and_lo (by omega), u32mod, Nat.mod_mod]
        refine ev_iaN i rfl (by omega) rfl ?_
        try simp only [go_sem, Nat.reduceEqDiff, Nat.reduceAdd, Nat.reduceBEq, ↓reduceIte]
        refine ev_stO hO (by omega) ?_
        intro M' hO' _ hd'
        try simp only [go_sem, Nat.reduceEqDiff, Nat.reduceAdd, Nat.reduceBEq, ↓reduceIte]
        refine shr_nat (n := 32) rfl (by decide) ?_
        try simp only [go_sem, Nat.reduceEqDiff, Nat.reduceAdd, Nat.reduceBEq, ↓reduceIte]
        try simp (disch := omega) only [nA64, nS64, nM64, nC64, nA64l, nS64l, nM64l, nM64r, nR64l, nL64l, nAu64, nMu64, nMu64r, nSu64, nAu64l, nLu64l, nCu64, nCu32, nCu8, nAu32, nLu32l, nSu8l, toNat_cast]
        refine k_next (N + 1 - (i + 1)) _ (by omega) ⟨i + 1, _, (q + l.getD i 0 + m.getD i 0) / 4294967296, M', by omega, rfl, by simp; omega, hlo.set (by omega), by omega, step _ rfl, hO', hd' _ hd, rfl⟩ sub_of
      · try simp only [go_sem, Nat.reduceEqDiff, Nat.reduceAdd, Nat.reduceBEq, ↓reduceIte]
        have hz : m.getD i 0 = 0 := getD_big (by omega)
        rw [show q + l.getD i 0 = q + l.getD i 0 + m.getD i 0 by omega]
        rw [and_lo (by omega), u32mod, Nat.mod_mod]
        refine ev_iaN i rfl (by omega) rfl ?_
        try simp only [go_sem, Nat.reduceEqDiff, Nat.reduceAdd, Nat.reduceBEq, ↓reduceIte]
        refine ev_stO hO (by omega) ?_
        intro M' hO' _ hd'
        try simp only [go_sem, Nat.reduceEqDiff, Nat.reduceAdd, Nat.reduceBEq, ↓reduceIte]
        refine shr_nat (n := 32) rfl (by decide) ?_
        try simp only [go_sem, Nat.reduceEqDiff, Nat.reduceAdd, Nat.reduceBEq, ↓reduceIte]
        try simp (disch := omega) only [nA64, nS64, nM64, nC64, nA64l, nS64l, nM64l, nM64r, nR64l, nL64l, nAu64, nMu64, nMu64r, nSu64, nAu64l, nLu64l, nCu64, nCu32, nCu8, nAu32, nLu32l, nSu8l, toNat_cast]
        refine k_next (N + 1 - (i + 1)) _ (by omega) ⟨i + 1, _, (q + l.getD i 0 + m.getD i 0) / 4294967296, M', by omega, rfl, by simp; omega, hlo.set (by omega), by omega, step _ rfl, hO', hd' _ hd, rfl⟩ sub_of
    · try simp only [go_sem, Nat.reduceEqDiff, Nat.reduceAdd, Nat.reduceBEq, ↓reduceIte]
      have hz : l.getD i 0 = 0 := getD_big (by omega)
      rw [show (q : Int) = ((q + l.getD i 0 : Nat) : Int) by omega]
      refine ev_if (fun h4 => ?_) (fun h4 => ?_)
      · try simp only [go_sem, Nat.reduceEqDiff, Nat.reduceAdd, Nat.reduceBEq, ↓reduceIte]
        obtain ⟨b2, off2, rfl⟩ := hT.base (by omega)
        refine ev_iaN i rfl (by omega) rfl ?_
        try simp only [go_sem, Nat.reduceEqDiff, Nat.reduceAdd, Nat.reduceBEq, ↓reduceIte]
        refine ev_ldS hT rfl (by omega) ?_
        try simp only [go_sem, Nat.reduceEqDiff, Nat.reduceAdd, Nat.reduceBEq, ↓reduceIte]
        try simp (disch := omega) only [nA64, nS64, nM64, nC64, nA64l, nS64l, nM64l, nM64r, nR64l, nL64l, nAu64, nMu64, nMu64r, nSu64, nAu64l, nLu64l, nCu64, nCu32, nCu8, nAu32, nLu32l, nSu8l, toNat_cast]
        rw [and_lo (by omega), u32mod, Nat.mod_mod]
        refine ev_iaN i rfl (by omega) rfl ?_
        try simp only [go_sem, Nat.reduceEqDiff, Nat.reduceAdd, Nat.reduceBEq, ↓reduceIte]
        refine ev_stO hO (by omega) ?_
        intro M' hO' _ hd'
        try simp only [go_sem, Nat.reduceEqDiff, Nat.reduceAdd, Nat.reduceBEq, ↓reduceIte]
        refine shr_nat (n := 32) rfl (by decide) ?_
        try simp only [go_sem, Nat.reduceEqDiff, Nat.reduceAdd, Nat.reduceBEq, ↓reduceIte]
        try simp (disch := omega) only [nA64, nS64, nM64, nC64, nA64l, nS64l, nM64l, nM64r, nR64l, nL64l, nAu64, nMu64, nMu64r, nSu64, nAu64l, nLu64l, nCu64, nCu32, nCu8, nAu32, nLu32l, nSu8l, toNat_cast]
        refine k_next (N + 1 - (i + 1)) _ (by omega) ⟨i + 1, _, (q + l.getD i 0 + m.getD i 0) / 4294967296, M', by omega, rfl, by simp; omega, hlo.set (by omega), by omega, step _ rfl, hO', hd' _ hd, rfl⟩ sub_of
      · try simp only [go_sem, Nat.reduceEqDiff, Nat.reduceAdd, Nat.reduceBEq, ↓reduceIte]
        have hz : m.getD i 0 = 0 := getD_big (by omega)
        rw [show q + l.getD i 0 = q + l.getD i 0 + m.getD i 0 by omega]
        rw [and_lo (by omega), u32mod, Nat.mod_mod]
        refine ev_iaN i rfl (by omega) rfl ?_
        try simp only [go_sem, Nat.reduceEqDiff, Nat.reduceAdd, Nat.reduceBEq, ↓reduceIte]
        refine ev_stO hO (by omega) ?_
        intro M' hO' _ hd'
        try simp only [go_sem, Nat.reduceEqDiff, Nat.reduceAdd, Nat.reduceBEq, ↓reduceIte]
        refine shr_nat (n := 32) rfl (by decide) ?_
        try simp only [go_sem, Nat.reduceEqDiff, Nat.reduceAdd, Nat.reduceBEq, ↓reduceIte]
        try simp (disch := omega) only [nA64, nS64, nM64, nC64, nA64l, nS64l, nM64l, nM64r, nR64l, nL64l, nAu64, nMu64, nMu64r, nSu64, nAu64l, nLu64l, nCu64, nCu32, nCu8, nAu32, nLu32l, nSu8l, toNat_cast]
        refine k_next (N + 1 - (i + 1)) _ (by omega) ⟨i + 1, _, (q + l.getD i 0 + m.getD i 0) / 4294967296, M', by omega, rfl, by simp; omega, hlo.set (by omega), by omega, step _ rfl, hO', hd' _ hd, rfl⟩ sub_of
  · have hil : i = N + 1 := by omega
    subst hil
    try simp only [go_sem, Nat.reduceEqDiff, Nat.reduceAdd, Nat.reduceBEq, ↓reduceIte]
    refine ev_trimA hO (by omega) hlo (by omega) hd ?_
    intro v H' hl hN2
    try simp only [go_sem, Nat.reduceEqDiff, Nat.reduceAdd, Nat.reduceBEq, ↓reduceIte]
    refine ⟨by trivial, ?_⟩
    rw [List.take_of_length_le (by omega), List.take_of_length_le (by omega), List.take_of_length_le (by omega)] at hv
    have h1 : val l < 4294967296 ^ N := Nat.lt_of_lt_of_le (val_lt hn.1) (Nat.pow_le_pow_right (by decide) (by omega))
    have h2 : val m < 4294967296 ^ N := Nat.lt_of_lt_of_le (val_lt hm.1) (Nat.pow_le_pow_right (by decide) (by omega))
    have hq0 : q = 0 := by
      rcases Nat.eq_zero_or_pos q with h0 | h0
      · exact h0
      · have : q = 1 := by omega
        subst this
        rw [Nat.pow_succ] at hv
        omega
    rw [hq0, Nat.mul_zero, Nat.add_zero] at hv
    rw [← hv]
    exact hN2

theorem rsub_ok (H : PH) (va vb : Value) (x y : Nat) (ha : RefV H va x) (hb : RefV H vb y) (hbx : bl x ≤ 4294967296) (hyx : y ≤ x) : FnP Tryz.prog 100 [va, vb] H fun v H' => RefV H' v (x - y) := by
  have hby : bl y ≤ 4294967296 := Nat.le_trans (bl_mono hyx) hbx
  obtain ⟨A, l, c, rfl, hc, hS, hn, rfl⟩ := ha
  obtain ⟨B, m, e, rfl, he, hT, hm, rfl⟩ := hb
  have hlen : l.length ≤ 200000000 := by have := len_le_bl hn; omega
  have hlen2 : m.length ≤ 200000000 := by have := len_le_bl hm; omega
  clear hbx hby hc he
  refine of_cinctureref1_SubNat (by simp) ?_
  try simp only [go_sem, Nat.reduceEqDiff, Nat.reduceAdd, Nat.reduceBEq, ↓reduceIte, p_cinctureref1_SubNat]
  refine ev_mkO (by omega) (by omega) (by omega) (PH.disj_no _) ?_
  intro g M hO _ _ hd
  try simp only [go_sem, Nat.reduceEqDiff, Nat.reduceAdd, Nat.reduceBEq, ↓reduceIte]
  rw [toNat_cast] at hO ⊢
  refine ev_loop (fun n s => ∃ i o q M, i ≤ l.length ∧ n = l.length - i ∧ o.length = l.length ∧ Lim o ∧ q ≤ 1 ∧ val (l.take i) + 4294967296 ^ i * q = val (o.take i) + val (m.take i) ∧ Own .u32 130 M (some ⟨g, 0, none⟩) o l.length ∧ PH.disj H M ∧
    s = ⟨[(7, .v (.int .i64 (i : Nat))), (6, .v (.int .u64 (q : Nat))), (5, .v (.slice (some ⟨g, 0, none⟩) l.length l.length)), (1, .v (.slice B m.length e)), (0, .v (.slice A l.length c))], [], H, M⟩)
    l.length _ ⟨0, _, 0, M, by omega, by omega, by simp, Lim.replicate _, by omega, by simp [val], hO, hd, rfl⟩ sub_of ?_
  clear hO hd
  rintro n s ⟨i, o, q, M, hi, rfl, ho, hlo, hq, hv, hO, hd, rfl⟩
  try simp only [go_sem, Nat.reduceEqDiff, Nat.reduceAdd, Nat.reduceBEq, ↓reduceIte]
  refine ev_if (fun h2 => ?_) (fun h2 => ?_)
  · obtain ⟨b, off, rfl⟩ := hS.base (by omega)
    have hx := hn.1.getD i
    have hy := hm.1.getD i
    have el := val_take_succ l i (by omega)
    have em := val_take_ge m i
    have step : ∀ z w, z < 4294967296 → w ≤ 1 → l.getD i 0 + 4294967296 * w = q + z + m.getD i 0 → val (l.take (i + 1)) + 4294967296 ^ (i + 1) * w = val ((o.set i z).take (i + 1)) + val (m.take (i + 1)) := by
      intro z w _ _ h5
      rw [val_take_set o i _ (by omega), el, em, Nat.pow_succ, Nat.mul_assoc]
      have h6 : 4294967296 ^ i * (l.getD i 0 + 4294967296 * w) = 4294967296 ^ i * (q + z + m.getD i 0) := by rw [h5]
      rw [Nat.mul_add, Nat.mul_add, Nat.mul_add] at h6
      omega
    try simp only [go_sem, Nat.reduceEqDiff, Nat.reduceAdd, Nat.reduceBEq, ↓reduceIte]
    refine ev_if (fun h3 => ?_) (fun h3 => ?_)
    · try simp only [go_sem, Nat.reduceEqDiff, Nat.reduceAdd, Nat.reduceBEq, ↓reduceIte]
      obtain ⟨b2, off2, rfl⟩ := hT.base (by omega)
      refine ev_iaN i rfl (by omega) rfl ?_
      try simp only [go_sem, Nat.reduceEqDiff, Nat.reduceAdd, Nat.reduceBEq, ↓reduceIte]
      refine ev_ldS hT rfl (by omega) ?_
      try simp only [go_sem, Nat.reduceEqDiff, Nat.reduceAdd, Nat.reduceBEq, ↓reduceIte]
      try simp (disch := omega) only [nA64, nS64, nM64, nC64, nA64l, nS64l, nM64l, nM64r, nR64l, nL64l, nAu64, nMu64, nMu64r, nSu64, nAu64l, nLu64l, nCu64, nCu32, nCu8, nAu32, nLu32l, nSu8l, toNat_cast]
      refine ev_iaN i rfl (by omega) rfl ?_
      try simp only [go_sem, Nat.reduceEqDiff, Nat.reduceAdd, Nat.reduceBEq, ↓reduceIte]
      refine ev_ldS hS rfl (by omega) ?_
      try simp only [go_sem, Nat.reduceEqDiff, Nat.reduceAdd, Nat.reduceBEq, ↓reduceIte]
      try simp (disch := omega) only [nA64, nS64, nM64, nC64, nA64l, nS64l, nM64l, nM64r, nR64l, nL64l, nAu64, nMu64, nMu64r, nSu64, nAu64l, nLu64l, nCu64, nCu32, nCu8, nAu32, nLu32l, nSu8l, toNat_cast]
      refine ev_if (fun h3 => ?_) (fun h3 => ?_)
      · generalize hcc : (4294967296 : Int) = cc
        try simp only [go_sem, Nat.reduceEqDiff, Nat.reduceAdd, Nat.reduceBEq, ↓reduceIte]
        obtain ⟨z, hzz⟩ : ∃ z, z = l.getD i 0 + 4294967296 := ⟨_, rfl⟩
        rw [show IntKind.u64.wrap (((l.getD i 0 : Nat) : Int) + cc) = (z : Nat) from wu64n z (by omega) (by omega)]
        try simp (disch := omega) only [nA64, nS64, nM64, nC64, nA64l, nS64l, nM64l, nM64r, nR64l, nL64l, nAu64, nMu64, nMu64r, nSu64, nAu64l, nLu64l, nCu64, nCu32, nCu8, nAu32, nLu32l, nSu8l, toNat_cast]
        obtain ⟨w, hw, hw2, hw3⟩ : ∃ w, z - (q + m.getD i 0) = w ∧ l.getD i 0 + 4294967296 * 1 = q + w + m.getD i 0 ∧ w < 4294967296 := ⟨_, rfl, by omega, by omega⟩
        rw [hw]
        clear hw hzz
        subst hcc
        refine ev_iaN i rfl (by omega) rfl ?_
        try simp only [go_sem, Nat.reduceEqDiff, Nat.reduceAdd, Nat.reduceBEq, ↓reduceIte]
        refine ev_stO hO (by omega) ?_
        intro M' hO' _ hd'
        try simp only [go_sem, Nat.reduceEqDiff, Nat.reduceAdd, Nat.reduceBEq, ↓reduceIte]
        try simp (disch := omega) only [nA64, nS64, nM64, nC64, nA64l, nS64l, nM64l, nM64r, nR64l, nL64l, nAu64, nMu64, nMu64r, nSu64, nAu64l, nLu64l, nCu64, nCu32, nCu8, nAu32, nLu32l, nSu8l, toNat_cast]
        refine k_next (l.length - (i + 1)) _ (by omega) ⟨i + 1, _, 1, M', by omega, rfl, by simp; omega, hlo.set hw3, by decide, step _ 1 hw3 (by decide) hw2, hO', hd' _ hd, rfl⟩ sub_of
      · try simp only [go_sem, Nat.reduceEqDiff, Nat.reduceAdd, Nat.reduceBEq, ↓reduceIte]
        try simp (disch := omega) only [nA64, nS64, nM64, nC64, nA64l, nS64l, nM64l, nM64r, nR64l, nL64l, nAu64, nMu64, nMu64r, nSu64, nAu64l, nLu64l, nCu64, nCu32, nCu8, nAu32, nLu32l, nSu8l, toNat_cast]
        obtain ⟨w, hw, hw2, hw3⟩ : ∃ w, l.getD i 0 - (q + m.getD i 0) = w ∧ l.getD i 0 + 4294967296 * 0 = q + w + m.getD i 0 ∧ w < 4294967296 := ⟨_, rfl, by omega, by omega⟩
        rw [hw]
        refine ev_iaN i rfl (by omega) rfl ?_
        try simp only [go_sem, Nat.reduceEqDiff, Nat.reduceAdd, Nat.reduceBEq, ↓reduceIte]
        refine ev_stO hO (by omega) ?_
        intro M' hO' _ hd'
        try simp only [go_sem, Nat.reduceEqDiff, Nat.reduceAdd, Nat.reduceBEq, ↓reduceIte]
        try simp (disch := omega) only [nA64, nS64, nM64, nC64, nA64l, nS64l, nM64l, nM64r, nR64l, nL64l, nAu64, nMu64, nMu64r, nSu64, nAu64l, nLu64l, nCu64, nCu32, nCu8, nAu32, nLu32l, nSu8l, toNat_cast]
        refine k_next (l.length - (i + 1)) _ (by omega) ⟨i + 1, _, 0, M', by omega, rfl, by simp; omega, hlo.set hw3, by decide, step _ 0 hw3 (by decide) hw2, hO', hd' _ hd, rfl⟩ sub_of
    · try simp only [go_sem, Nat.reduceEqDiff, Nat.reduceAdd, Nat.reduceBEq, ↓reduceIte]
      have hz : m.getD i 0 = 0 := getD_big (by omega)
      rw [show (q : Int) = ((q + m.getD i 0 : Nat) : Int) by omega]
      refine ev_iaN i rfl (by omega) rfl ?_
      try simp only [go_sem, Nat.reduceEqDiff, Nat.reduceAdd, Nat.reduceBEq, ↓reduceIte]
      refine ev_ldS hS rfl (by omega) ?_
      try simp only [go_sem, Nat.reduceEqDiff, Nat.reduceAdd, Nat.reduceBEq, ↓reduceIte]
      try simp (disch := omega) only [nA64, nS64, nM64, nC64, nA64l, nS64l, nM64l, nM64r, nR64l, nL64l, nAu64, nMu64, nMu64r, nSu64, nAu64l, nLu64l, nCu64, nCu32, nCu8, nAu32, nLu32l, nSu8l, toNat_cast]
      refine ev_if (fun h3 => ?_) (fun h3 => ?_)
      · generalize hcc : (4294967296 : Int) = cc
        try simp only [go_sem, Nat.reduceEqDiff, Nat.reduceAdd, Nat.reduceBEq, ↓reduceIte]
        obtain ⟨z, hzz⟩ : ∃ z, z = l.getD i 0 + 4294967296 := ⟨_, rfl⟩
        rw [show IntKind.u64.wrap (((l.getD i 0 : Nat) : Int) + cc) = (z : Nat) from wu64n z (by omega) (by omega)]
        try simp (disch := omega) only [nA64, nS64, nM64, nC64, nA64l, nS64l, nM64l, nM64r, nR64l, nL64l, nAu64, nMu64, nMu64r, nSu64, nAu64l, nLu64l, nCu64, nCu32, nCu8, nAu32, nLu32l, nSu8l, toNat_cast]
        obtain ⟨w, hw, hw2, hw3⟩ : ∃ w, z - (q + m.getD i 0) = w ∧ l.getD i 0 + 4294967296 * 1 = q + w + m.getD i 0 ∧ w < 4294967296 := ⟨_, rfl, by omega, by omega⟩
        rw [hw]
        clear hw hzz
        subst hcc
        refine ev_iaN i rfl (by omega) rfl ?_
        try simp only [go_sem, Nat.reduceEqDiff, Nat.reduceAdd, Nat.reduceBEq, ↓reduceIte]
        refine ev_stO hO (by omega) ?_
        intro M' hO' _ hd'
        try simp only [go_sem, Nat.reduceEqDiff, Nat.reduceAdd, Nat.reduceBEq, ↓reduceIte]
        try simp (disch := omega) only [nA64, nS64, nM64, nC64, nA64l, nS64l, nM64l, nM64r, nR64l, nL64l, nAu64, nMu64, nMu64r, nSu64, nAu64l, nLu64l, nCu64, nCu32, nCu8, nAu32, nLu32l, nSu8l, toNat_cast]
        refine k_next (l.length - (i + 1)) _ (by omega) ⟨i + 1, _, 1, M', by omega, rfl, by simp; omega, hlo.set hw3, by decide, step _ 1 hw3 (by decide) hw2, hO', hd' _ hd, rfl⟩ sub_of
      · try simp only [go_sem, Nat.reduceEqDiff, Nat.reduceAdd, Nat.reduceBEq, ↓reduceIte]
        try simp (disch := omega) only [nA64, nS64, nM64, nC64, nA64l, nS64l, nM64l, nM64r, nR64l, nL64l, nAu64, nMu64, nMu64r, nSu64, nAu64l, nLu64l, nCu64, nCu32, nCu8, nAu32, nLu32l, nSu8l, toNat_cast]
        obtain ⟨w, hw, hw2, hw3⟩ : ∃ w, l.getD i 0 - (q + m.getD i 0) = w ∧ l.getD i 0 + 4294967296 * 0 = q + w + m.getD i 0 ∧ w < 4294967296 := ⟨_, rfl, by omega, by omega⟩
        rw [hw]
        refine ev_iaN i rfl (by omega) rfl ?_
        try simp only [go_sem, Nat.reduceEqDiff, Nat.reduceAdd, Nat.reduceBEq, ↓reduceIte]
        refine ev_stO hO (by omega) ?_
        intro M' hO' _ hd'
        try simp only [go_sem, Nat.reduceEqDiff, Nat.reduceAdd, Nat.reduceBEq, ↓reduceIte]
        try simp (disch := omega) only [nA64, nS64, nM64, nC64, nA64l, nS64l, nM64l, nM64r, nR64l, nL64l, nAu64, nMu64, nMu64r, nSu64, nAu64l, nLu64l, nCu64, nCu32, nCu8, nAu32, nLu32l, nSu8l, toNat_cast]
        refine k_next (l.length - (i + 1)) _ (by omega) ⟨i + 1, _, 0, M', by omega, rfl, by simp; omega, hlo.set hw3, by decide, step _ 0 hw3 (by decide) hw2, hO', hd' _ hd, rfl⟩ sub_of
  · have hil : i = l.length := by omega
    subst hil
    try simp only [go_sem, Nat.reduceEqDiff, Nat.reduceAdd, Nat.reduceBEq, ↓reduceIte]
    refine ev_trimA hO (by omega) hlo (by omega) hd ?_
    intro v H2 hl hN
    try simp only [go_sem, Nat.reduceEqDiff, Nat.reduceAdd, Nat.reduceBEq, ↓reduceIte]
    refine ⟨by trivial, ?_⟩
    have hml : m.length ≤ l.length := len_of_lt hm (Nat.lt_of_le_of_lt hyx (val_lt hn.1))
    rw [List.take_length, List.take_of_length_le (by omega), List.take_of_length_le hml] at hv
    have hq0 : q = 0 := by
      rcases Nat.eq_zero_or_pos q with h0 | h0
      · exact h0
      · have h1 : q = 1 := by omega
        have h2 := val_lt hlo
        rw [ho] at h2
        subst h1
        omega
    rw [hq0, Nat.mul_zero, Nat.add_zero] at hv
    rw [show val l - val m = val o by omega]
    exact hN

theorem rmul_ok (H : PH) (va vb : Value) (x y : Nat) (ha : RefV H va x) (hb : RefV H vb y) (hbx : bl x ≤ 4294967296) (hby : bl y ≤ 4294967296) : FnP Tryz.prog 64 [va, vb] H fun v H' => RefV H' v (x * y) := by
  obtain ⟨A, l, c, rfl, hc, hS, hn, rfl⟩ := ha
  obtain ⟨B, m, e, rfl, he, hT, hm, rfl⟩ := hb
  have hlen : l.length ≤ 200000000 := by have := len_le_bl hn; omega
  have hlen2 : m.length ≤ 200000000 := by have := len_le_bl hm; omega
  clear hbx hby hc he
  refine of_cinctureref1_MulNat (by simp) ?_
  try simp only [go_sem, Nat.reduceEqDiff, Nat.reduceAdd, Nat.reduceBEq, ↓reduceIte, p_cinctureref1_MulNat]
  try simp (disch := omega) only [nA64, nS64, nM64, nC64, nA64l, nS64l, nM64l, nM64r, nR64l, nL64l, nAu64, nMu64, nMu64r, nSu64, nAu64l, nLu64l, nCu64, nCu32, nCu8, nAu32, nLu32l, nSu8l, toNat_cast]
  refine ev_mkO (by omega) (by omega) (by omega) (PH.disj_no _) ?_
  intro g M hO _ _ hd
  try simp only [go_sem, Nat.reduceEqDiff, Nat.reduceAdd, Nat.reduceBEq, ↓reduceIte]
  rw [toNat_cast] at hO ⊢
  refine ev_loop (fun n s => ∃ i o M, i ≤ l.length ∧ n = l.length - i ∧ o.length = l.length + m.length + 1 ∧ Lim o ∧ val o = val (l.take i) * val m ∧ Own .u32 130 M (some ⟨g, 0, none⟩) o (l.length + m.length + 1) ∧ PH.disj H M ∧
    s = ⟨[(6, .v (.int .i64 (i : Nat))), (5, .v (.slice (some ⟨g, 0, none⟩) (l.length + m.length + 1) (l.length + m.length + 1))), (1, .v (.slice B m.length e)), (0, .v (.slice A l.length c))], [], H, M⟩)
    l.length _ ⟨0, _, M, by omega, by omega, by simp, Lim.replicate _, by simp [val, val_replicate], hO, hd, rfl⟩ sub_of ?_
  clear hO hd
  rintro n s ⟨i, o, M, hi, rfl, ho, hlo, hv, hO, hd, rfl⟩
  try simp only [go_sem, Nat.reduceEqDiff, Nat.reduceAdd, Nat.reduceBEq, ↓reduceIte]
  refine ev_if (fun h2 => ?_) (fun h2 => ?_)
  · obtain ⟨b, off, rfl⟩ := hS.base (by omega)
    try simp only [go_sem, Nat.reduceEqDiff, Nat.reduceAdd, Nat.reduceBEq, ↓reduceIte]
    have hx := hn.1.getD i
    have el := val_take_succ l i (by omega)
    have hlt : val (l.take i) * val m < 4294967296 ^ (i + m.length) := by
      have h1 := val_lt (hn.1.take i)
      have h2 := val_lt hm.1
      rw [List.length_take, Nat.min_eq_left hi] at h1
      rw [Nat.pow_add]
      exact Nat.mul_lt_mul'' h1 h2
    refine ev_loop (fun n s => ∃ k p q M, k ≤ m.length ∧ n = m.length - k ∧ p.length = l.length + m.length + 1 ∧ Lim p ∧ q < 4294967296 ∧ p.getD (i + m.length) 0 = 0 ∧ val p + 4294967296 ^ (i + k) * q = val (l.take i) * val m + 4294967296 ^ i * (l.getD i 0 * val (m.take k)) ∧ Own .u32 130 M (some ⟨g, 0, none⟩) p (l.length + m.length + 1) ∧ PH.disj H M ∧
      s = ⟨[(8, .v (.int .i64 (k : Nat))), (7, .v (.int .u64 (q : Nat))), (6, .v (.int .i64 (i : Nat))), (5, .v (.slice (some ⟨g, 0, none⟩) (l.length + m.length + 1) (l.length + m.length + 1))), (1, .v (.slice B m.length e)), (0, .v (.slice (some ⟨b, off, none⟩) l.length c))], [], H, M⟩)
      m.length _ ⟨0, o, 0, M, by omega, by omega, ho, hlo, by omega, getD_zero (n := i + m.length) (by rw [hv]; exact hlt) (Nat.le_refl _), by rw [hv]; simp [val], hO, hd, rfl⟩ sub_of ?_
    clear hO hd hlo hv ho
    rintro n s ⟨k, p, q, M, hk, rfl, hp, hlp, hq, hp0, hv, hO, hd, rfl⟩
    try simp only [go_sem, Nat.reduceEqDiff, Nat.reduceAdd, Nat.reduceBEq, ↓reduceIte]
    refine ev_if (fun h3 => ?_) (fun h3 => ?_)
    · try simp only [go_sem, Nat.reduceEqDiff, Nat.reduceAdd, Nat.reduceBEq, ↓reduceIte]
      obtain ⟨b2, off2, rfl⟩ := hT.base (by omega)
      refine ev_iaN i rfl (by omega) rfl ?_
      try simp only [go_sem, Nat.reduceEqDiff, Nat.reduceAdd, Nat.reduceBEq, ↓reduceIte]
      refine ev_ldS hS rfl (by omega) ?_
      try simp only [go_sem, Nat.reduceEqDiff, Nat.reduceAdd, Nat.reduceBEq, ↓reduceIte]
      refine ev_iaN k rfl (by omega) rfl ?_
      try simp only [go_sem, Nat.reduceEqDiff, Nat.reduceAdd, Nat.reduceBEq, ↓reduceIte]
      refine ev_ldS hT rfl (by omega) ?_
      try simp only [go_sem, Nat.reduceEqDiff, Nat.reduceAdd, Nat.reduceBEq, ↓reduceIte]
      have hy := hm.1.getD k
      have hz := hlp.getD (i + k)
      have em := val_take_succ m k (by omega)
      have hb := mul_bound hq hx hy hz
      try simp (disch := omega) only [nA64, nS64, nM64, nC64, nA64l, nS64l, nM64l, nM64r, nR64l, nL64l, nAu64, nMu64, nMu64r, nSu64, nAu64l, nLu64l, nCu64, nCu32, nCu8, nAu32, nLu32l, nSu8l, toNat_cast]
      refine ev_iaN (i + k) rfl (by omega) rfl ?_
      try simp only [go_sem, Nat.reduceEqDiff, Nat.reduceAdd, Nat.reduceBEq, ↓reduceIte]
      refine ev_ldO hO (by omega) ?_
      try simp only [go_sem, Nat.reduceEqDiff, Nat.reduceAdd, Nat.reduceBEq, ↓reduceIte]
      try simp (disch := omega) only [nA64, nS64, nM64, nC64, nA64l, nS64l, nM64l, nM64r, nR64l, nL64l, nAu64, nMu64, nMu64r, nSu64, nAu64l, nLu64l, nCu64, nCu32, nCu8, nAu32, nLu32l, nSu8l, toNat_cast]
      generalize hw : q + (l.getD i 0 * m.getD k 0 + p.getD (i + k) 0) = w at *
      rw [and_lo (by omega), u32mod, Nat.mod_mod]
      refine ev_iaN (i + k) rfl (by omega) rfl ?_
      try simp only [go_sem, Nat.reduceEqDiff, Nat.reduceAdd, Nat.reduceBEq, ↓reduceIte]
      refine ev_stO hO (by omega) ?_
      intro M' hO' _ hd'
      try simp only [go_sem, Nat.reduceEqDiff, Nat.reduceAdd, Nat.reduceBEq, ↓reduceIte]
      refine shr_nat (n := 32) rfl (by decide) ?_
      try simp only [go_sem, Nat.reduceEqDiff, Nat.reduceAdd, Nat.reduceBEq, ↓reduceIte]
      try simp (disch := omega) only [nA64, nS64, nM64, nC64, nA64l, nS64l, nM64l, nM64r, nR64l, nL64l, nAu64, nMu64, nMu64r, nSu64, nAu64l, nLu64l, nCu64, nCu32, nCu8, nAu32, nLu32l, nSu8l, toNat_cast]
      refine k_next (m.length - (k + 1)) _ (by omega) ⟨k + 1, _, w / 4294967296, M', by omega, rfl, by simp; omega, hlp.set (by omega), by omega, ?_, ?_, hO', hd' _ hd, rfl⟩ sub_of
      · rw [List.getD, List.getElem?_set_ne (by omega)]; exact hp0
      · have e1 := val_set p (i + k) (w % 4294967296) (by omega)
        rw [em, ← Nat.add_assoc i k 1, Nat.pow_succ, Nat.mul_assoc]
        have e2 : 4294967296 ^ (i + k) * w = 4294967296 ^ (i + k) * (w % 4294967296) + 4294967296 ^ (i + k) * (4294967296 * (w / 4294967296)) := by rw [← Nat.mul_add]; congr 1; omega
        have e3 : 4294967296 ^ (i + k) * w = 4294967296 ^ (i + k) * q + 4294967296 ^ (i + k) * (l.getD i 0 * m.getD k 0) + 4294967296 ^ (i + k) * p.getD (i + k) 0 := by rw [← Nat.mul_add, ← Nat.mul_add]; congr 1; omega
        have e4 : 4294967296 ^ i * (l.getD i 0 * (val (m.take k) + 4294967296 ^ k * m.getD k 0)) = 4294967296 ^ i * (l.getD i 0 * val (m.take k)) + 4294967296 ^ (i + k) * (l.getD i 0 * m.getD k 0) := by
          rw [Nat.mul_add, Nat.mul_add, Nat.pow_add]
          congr 1
          simp only [Nat.mul_assoc, Nat.mul_left_comm]
        rw [e4]
        omega
    · have hkm : k = m.length := by omega
      subst hkm
      try simp only [go_sem, Nat.reduceEqDiff, Nat.reduceAdd, Nat.reduceBEq, ↓reduceIte]
      try simp (disch := omega) only [nA64, nS64, nM64, nC64, nA64l, nS64l, nM64l, nM64r, nR64l, nL64l, nAu64, nMu64, nMu64r, nSu64, nAu64l, nLu64l, nCu64, nCu32, nCu8, nAu32, nLu32l, nSu8l, toNat_cast]
      refine ev_iaN (i + m.length) rfl (by omega) rfl ?_
      try simp only [go_sem, Nat.reduceEqDiff, Nat.reduceAdd, Nat.reduceBEq, ↓reduceIte]
      refine ev_stO hO (by omega) ?_
      intro M' hO' _ hd'
      try simp only [go_sem, Nat.reduceEqDiff, Nat.reduceAdd, Nat.reduceBEq, ↓reduceIte]
      try simp (disch := omega) only [nA64, nS64, nM64, nC64, nA64l, nS64l, nM64l, nM64r, nR64l, nL64l, nAu64, nMu64, nMu64r, nSu64, nAu64l, nLu64l, nCu64, nCu32, nCu8, nAu32, nLu32l, nSu8l, toNat_cast]
      refine k_next (l.length - (i + 1)) _ (by omega) ⟨i + 1, _, M', by omega, rfl, by simp; omega, hlp.set hq, ?_, hO', hd' _ hd, rfl⟩ sub_of
      have e1 := val_set p (i + m.length) q (by omega)
      rw [hp0, Nat.mul_zero, Nat.add_zero] at e1
      rw [e1, hv, List.take_length, el, Nat.add_mul, Nat.mul_assoc]
  · have hil : i = l.length := by omega
    subst hil
    try simp only [go_sem, Nat.reduceEqDiff, Nat.reduceAdd, Nat.reduceBEq, ↓reduceIte]
    refine ev_trimA hO (by omega) hlo (by omega) hd ?_
    intro v H' hl hN
    try simp only [go_sem, Nat.reduceEqDiff, Nat.reduceAdd, Nat.reduceBEq, ↓reduceIte]
    rw [hv, List.take_length] at hN
    exact ⟨by trivial, hN⟩

end Go.Proofs.YtccdhgjfcgfgoaaGreat.X
set_option linter.unusedVariables false
set_option linter.unusedSimpArgs false
namespace Go.Proofs.YtccdhgjfcgfgoaaGreat.X
open Go Go.RowKit Go.Proofs

theorem rshl_ok (H : PH) (va : Value) (x k : Nat) (ha : RefV H va x) (hbx : bl x ≤ 4294967296) (hk : k ≤ 4294967296) : FnP Tryz.prog 121 [va, .int .i64 (k : Nat)] H fun v H' => RefV H' v (x * 2 ^ k) := by
  obtain ⟨A, l, c, rfl, hc, hS, hn, rfl⟩ := ha
  have hlen : l.length ≤ 200000000 := by have := len_le_bl hn; omega
  clear hbx hc
  refine of_cinctureref1_Shl (by simp) ?_
  try simp only [go_sem, Nat.reduceEqDiff, Nat.reduceAdd, Nat.reduceBEq, ↓reduceIte, p_cinctureref1_Shl]
  refine quo_nat (a := k) (m := 32) rfl (by decide) (by simp (disch := omega) only [w64, wu64, wu32, wu8]) ?_
  try simp only [go_sem, Nat.reduceEqDiff, Nat.reduceAdd, Nat.reduceBEq, ↓reduceIte]
  try simp (disch := omega) only [nA64, nS64, nM64, nC64, nA64l, nS64l, nM64l, nM64r, nR64l, nL64l, nAu64, nMu64, nMu64r, nSu64, nAu64l, nLu64l, nCu64, nCu32, nCu8, nAu32, nLu32l, nSu8l, toNat_cast]
  refine ev_mkO (by omega) (by omega) (by omega) (PH.disj_no _) ?_
  intro g M hO _ _ hd
  try simp only [go_sem, Nat.reduceEqDiff, Nat.reduceAdd, Nat.reduceBEq, ↓reduceIte]
  rw [toNat_cast] at hO ⊢
  refine ev_loop (fun n s => ∃ i o M, i ≤ l.length ∧ n = l.length - i ∧ o.length = l.length + k / 32 + 1 ∧ Lim o ∧ val o = val (l.take i) * 2 ^ k ∧ Own .u32 130 M (some ⟨g, 0, none⟩) o (l.length + k / 32 + 1) ∧ PH.disj H M ∧
    s = ⟨[(6, .v (.int .i64 (i : Nat))), (5, .v (.slice (some ⟨g, 0, none⟩) (l.length + k / 32 + 1) (l.length + k / 32 + 1))), (1, .v (.int .i64 (k : Nat))), (0, .v (.slice A l.length c))], [], H, M⟩)
    l.length _ ⟨0, _, M, by omega, by omega, by simp, Lim.replicate _, by simp [val, val_replicate], hO, hd, rfl⟩ sub_of ?_
  clear hO hd
  rintro n s ⟨i, o, M, hi, rfl, ho, hlo, hv, hO, hd, rfl⟩
  try simp only [go_sem, Nat.reduceEqDiff, Nat.reduceAdd, Nat.reduceBEq, ↓reduceIte]
  refine ev_if (fun h2 => ?_) (fun h2 => ?_)
  · obtain ⟨b, off, rfl⟩ := hS.base (by omega)
    try simp only [go_sem, Nat.reduceEqDiff, Nat.reduceAdd, Nat.reduceBEq, ↓reduceIte]
    refine ev_iaN i rfl (by omega) rfl ?_
    try simp only [go_sem, Nat.reduceEqDiff, Nat.reduceAdd, Nat.reduceBEq, ↓reduceIte]
    refine ev_ldS hS rfl (by omega) ?_
    have hx := hn.1.getD i
    have el := val_take_succ l i (by omega)
    have hlt := val_lt (hn.1.take i)
    rw [List.length_take, Nat.min_eq_left hi] at hlt
    obtain ⟨z1, z2, z3, z4, z5⟩ := shl_step (val (l.take i)) k (k / 32) (k % 32) i (l.getD i 0) o (by omega) (by omega) hx hlt hv hlo (by omega)
    try simp only [go_sem, Nat.reduceEqDiff, Nat.reduceAdd, Nat.reduceBEq, ↓reduceIte]
    refine rem_nat (a := k) (m := 32) rfl (by decide) ?_
    try simp only [go_sem, Nat.reduceEqDiff, Nat.reduceAdd, Nat.reduceBEq, ↓reduceIte]
    try simp (disch := omega) only [nA64, nS64, nM64, nC64, nA64l, nS64l, nM64l, nM64r, nR64l, nL64l, nAu64, nMu64, nMu64r, nSu64, nAu64l, nLu64l, nCu64, nCu32, nCu8, nAu32, nLu32l, nSu8l, toNat_cast]
    refine shl_nat (n := k % 32) (y := l.getD i 0 * 2 ^ (k % 32)) rfl (by show k % 32 ≤ 64; omega) (nCu64 (by omega)) ?_
    try simp only [go_sem, Nat.reduceEqDiff, Nat.reduceAdd, Nat.reduceBEq, ↓reduceIte]
    have z6 : l.getD i 0 * 2 ^ (k % 32) / 4294967296 < 4294967296 := by omega
    generalize hy : l.getD i 0 * 2 ^ (k % 32) = y at *
    refine quo_nat (a := k) (m := 32) rfl (by decide) (by simp (disch := omega) only [w64, wu64, wu32, wu8]) ?_
    try simp only [go_sem, Nat.reduceEqDiff, Nat.reduceAdd, Nat.reduceBEq, ↓reduceIte]
    try simp (disch := omega) only [nA64, nS64, nM64, nC64, nA64l, nS64l, nM64l, nM64r, nR64l, nL64l, nAu64, nMu64, nMu64r, nSu64, nAu64l, nLu64l, nCu64, nCu32, nCu8, nAu32, nLu32l, nSu8l, toNat_cast]
    refine ev_iaN (i + k / 32) rfl (by omega) rfl ?_
    try simp only [go_sem, Nat.reduceEqDiff, Nat.reduceAdd, Nat.reduceBEq, ↓reduceIte]
    refine ev_ldO hO (by omega) ?_
    try simp only [go_sem, Nat.reduceEqDiff, Nat.reduceAdd, Nat.reduceBEq, ↓reduceIte]
    rw [and_lo (by omega), u32mod, Nat.mod_mod, or32 (hlo.getD _) (Nat.mod_lt _ (by decide)), z2]
    refine ev_iaN (i + k / 32) rfl (by omega) rfl ?_
    try simp only [go_sem, Nat.reduceEqDiff, Nat.reduceAdd, Nat.reduceBEq, ↓reduceIte]
    refine ev_stO hO (by omega) ?_
    intro M' hO' _ hd'
    try simp only [go_sem, Nat.reduceEqDiff, Nat.reduceAdd, Nat.reduceBEq, ↓reduceIte]
    refine quo_nat (a := k) (m := 32) rfl (by decide) (by simp (disch := omega) only [w64, wu64, wu32, wu8]) ?_
    try simp only [go_sem, Nat.reduceEqDiff, Nat.reduceAdd, Nat.reduceBEq, ↓reduceIte]
    try simp (disch := omega) only [nA64, nS64, nM64, nC64, nA64l, nS64l, nM64l, nM64r, nR64l, nL64l, nAu64, nMu64, nMu64r, nSu64, nAu64l, nLu64l, nCu64, nCu32, nCu8, nAu32, nLu32l, nSu8l, toNat_cast]
    refine ev_iaN (i + k / 32 + 1) rfl (by omega) rfl ?_
    try simp only [go_sem, Nat.reduceEqDiff, Nat.reduceAdd, Nat.reduceBEq, ↓reduceIte]
    refine ev_ldO hO' (by simp; omega) ?_
    try simp only [go_sem, Nat.reduceEqDiff, Nat.reduceAdd, Nat.reduceBEq, ↓reduceIte]
    refine shr_nat (n := 32) rfl (by decide) ?_
    try simp only [go_sem, Nat.reduceEqDiff, Nat.reduceAdd, Nat.reduceBEq, ↓reduceIte]
    rw [getD_set (by omega), if_neg (by omega), z1, u32mod, Nat.mod_eq_of_lt (show y / 2 ^ 32 < 4294967296 from z6), or32 (by decide) z6, Nat.zero_or]
    refine ev_iaN (i + k / 32 + 1) rfl (by omega) rfl ?_
    try simp only [go_sem, Nat.reduceEqDiff, Nat.reduceAdd, Nat.reduceBEq, ↓reduceIte]
    refine ev_stO hO' (by simp; omega) ?_
    intro M2 hO2 _ hd2
    try simp only [go_sem, Nat.reduceEqDiff, Nat.reduceAdd, Nat.reduceBEq, ↓reduceIte]
    try simp (disch := omega) only [nA64, nS64, nM64, nC64, nA64l, nS64l, nM64l, nM64r, nR64l, nL64l, nAu64, nMu64, nMu64r, nSu64, nAu64l, nLu64l, nCu64, nCu32, nCu8, nAu32, nLu32l, nSu8l, toNat_cast]
    refine k_next (l.length - (i + 1)) _ (by omega) ⟨i + 1, _, M2, by omega, rfl, by simp; omega, (hlo.set z3).set z6, ?_, hO2, hd2 _ (hd' _ hd), rfl⟩ sub_of
    rw [el]
    exact z5
  · have hil : i = l.length := by omega
    subst hil
    try simp only [go_sem, Nat.reduceEqDiff, Nat.reduceAdd, Nat.reduceBEq, ↓reduceIte]
    refine ev_trimA hO (by omega) hlo (by omega) hd ?_
    intro v H' hl hN
    try simp only [go_sem, Nat.reduceEqDiff, Nat.reduceAdd, Nat.reduceBEq, ↓reduceIte]
    refine ⟨by trivial, ?_⟩
    rw [hv, List.take_length] at hN
    exact hN

end Go.Proofs.YtccdhgjfcgfgoaaGreat.X
set_option linter.unusedVariables false
set_option linter.unusedSimpArgs false
namespace Go.Proofs.YtccdhgjfcgfgoaaGreat.X
open Go Go.RowKit Go.Proofs

/-- a slice of one's own that is a number of the reference -/
theorem Own.ref {T : TypeId} {H M : PH} {A : Option Addr} {l : List Nat} {c : Nat} (h : Own .u32 T M A l c) (hn : Norm l) (hd : PH.disj H M) : RefV (H.join M) (.slice A l.length c) (val l) :=
  ⟨A, l, c, rfl, h.le_cap, h.sl hd, hn, rfl⟩

set_option maxHeartbeats 1000000 in
theorem rparse_ok (H : PH) (t : ByteArray) : FnP Tryz.prog 112 [.string t] H fun v H' => ∃ v', v = .tuple #[v', .bool (decOk (bs t))] ∧ RefV H' v' (if decOk (bs t) then dv (bs t) else 0) := by
  have hsz := bs_length t
  have bad : decOk (bs t) = false → ∀ H' M' : PH, PH.disj H' M' → ∃ v', (Value.tuple #[.slice none 0 0, .bool false]) = .tuple #[v', .bool (decOk (bs t))] ∧ RefV (H'.join M') v' (if decOk (bs t) then dv (bs t) else 0) := by
    intro h H' M' hd
    rw [h]
    exact ⟨_, rfl, RefV.zero _⟩
  refine Fn.release (of_cinctureref1_NatParse (by simp) ?_)
  try simp only [go_sem, Nat.reduceEqDiff, Nat.reduceAdd, Nat.reduceBEq, ↓reduceIte, p_cinctureref1_NatParse]
  refine ev_if (fun h => ?_) (fun h => ?_)
  · try simp only [go_sem, Nat.reduceEqDiff, Nat.reduceAdd, Nat.reduceBEq, ↓reduceIte]
    exact fun hd => bad (by rw [show bs t = [] from List.eq_nil_of_length_eq_zero (by omega)]; rfl) _ _ hd
  · try simp only [go_sem, Nat.reduceEqDiff, Nat.reduceAdd, Nat.reduceBEq, ↓reduceIte]
    refine ev_if (fun h2 => ?_) (fun h2 => ?_)
    · try simp only [go_sem, Nat.reduceEqDiff, Nat.reduceAdd, Nat.reduceBEq, ↓reduceIte]
      exact fun hd => bad (by unfold decOk; rw [decide_eq_false (show ¬ (bs t).length ≤ 4000 by omega)]; simp) _ _ hd
    · try simp only [go_sem, Nat.reduceEqDiff, Nat.reduceAdd, Nat.reduceBEq, ↓reduceIte]
      refine ev_ix (by omega) (by omega) ?_
      try simp only [go_sem, Nat.reduceEqDiff, Nat.reduceAdd, Nat.reduceBEq, ↓reduceIte]
      rw [show (0 : Int).toNat = 0 from rfl]
      have hb0 := bs_getD t 0
      refine ev_if (fun h3 => ?_) (fun h3 => ?_)
      · try simp only [go_sem, Nat.reduceEqDiff, Nat.reduceAdd, Nat.reduceBEq, ↓reduceIte]
        refine ev_if (fun h4 => ?_) (fun h4 => ?_)
        · try simp only [go_sem, Nat.reduceEqDiff, Nat.reduceAdd, Nat.reduceBEq, ↓reduceIte]
          refine fun hd => bad ?_ _ _ hd
          have e1 : (bs t).getD 0 0 = 48 := by rw [← hb0]; omega
          unfold decOk
          rw [e1, decide_eq_false (show ¬ (bs t).length ≤ 1 by omega)]
          simp
        · have hz : ((bs t).getD 0 0 != 48 || decide ((bs t).length ≤ 1)) = true := by rw [decide_eq_true (show (bs t).length ≤ 1 by omega)]; simp
          try simp only [go_sem, Nat.reduceEqDiff, Nat.reduceAdd, Nat.reduceBEq, ↓reduceIte]
          refine ev_loop (fun n s => ∃ i A l c H1 M1, i ≤ t.size ∧ n = t.size - i ∧ Own .u32 130 M1 A l c ∧ Norm l ∧ val l = dv ((bs t).take i) ∧ (∀ d ∈ (bs t).take i, isDig d = true) ∧ PH.disj H1 M1 ∧
            s = ⟨[(5, .v (.int .i64 (i : Nat))), (4, .v (.slice A l.length c)), (0, .v (.string t))], [], H1, M1⟩)
            t.size _ ⟨0, none, [], 0, H, PH.no, by omega, by omega, Own.nil _ _ _, .nil, rfl, by simp, PH.disj_no _, rfl⟩ sub_of ?_
          rintro n s ⟨i, A, l, c, H1, M1, hi, rfl, hO, hn, hv, hdig, hd, rfl⟩
          try simp only [go_sem, Nat.reduceEqDiff, Nat.reduceAdd, Nat.reduceBEq, ↓reduceIte]
          refine ev_if (fun h2 => ?_) (fun h2 => ?_)
          · have hb := bs_getD t i
            have hlt : i < (bs t).length := by omega
            have hmem : (bs t).getD i 0 ∈ bs t := by rw [List.getD, List.getElem?_eq_getElem hlt]; exact List.getElem_mem hlt
            have hblt : bAt t i < 256 := by rw [hb]; exact bs_lt t _ hmem
            have nd : ¬ (48 ≤ bAt t i ∧ bAt t i ≤ 57) → decOk (bs t) = false := fun h => by
              have : (bs t).all isDig = false := by
                rw [List.all_eq_false]
                refine ⟨_, hmem, ?_⟩
                rw [← hb]
                unfold isDig
                simp only [Bool.and_eq_true, decide_eq_true_eq]
                exact h
              unfold decOk
              rw [this]; simp
            have htk := take_snoc_of (bs t) i hlt
            rw [← hb] at htk
            generalize hbb : bAt t i = b at *
            try simp only [go_sem, Nat.reduceEqDiff, Nat.reduceAdd, Nat.reduceBEq, ↓reduceIte]
            refine ev_ix (by omega) (by omega) ?_
            try simp only [go_sem, Nat.reduceEqDiff, Nat.reduceAdd, Nat.reduceBEq, ↓reduceIte]
            rw [toNat_cast, hbb]
            refine ev_if (fun h3 => ?_) (fun h3 => ?_)
            · try simp only [go_sem, Nat.reduceEqDiff, Nat.reduceAdd, Nat.reduceBEq, ↓reduceIte]
              exact fun _ => bad (nd (by omega)) _ _ hd
            · try simp only [go_sem, Nat.reduceEqDiff, Nat.reduceAdd, Nat.reduceBEq, ↓reduceIte]
              refine ev_ix (by omega) (by omega) ?_
              try simp only [go_sem, Nat.reduceEqDiff, Nat.reduceAdd, Nat.reduceBEq, ↓reduceIte]
              rw [toNat_cast, hbb]
              refine ev_if (fun h4 => ?_) (fun h4 => ?_)
              · try simp only [go_sem, Nat.reduceEqDiff, Nat.reduceAdd, Nat.reduceBEq, ↓reduceIte]
                exact fun _ => bad (nd (by omega)) _ _ hd
              · try simp only [go_sem, Nat.reduceEqDiff, Nat.reduceAdd, Nat.reduceBEq, ↓reduceIte]
                refine ev_ix (by omega) (by omega) ?_
                try simp only [go_sem, Nat.reduceEqDiff, Nat.reduceAdd, Nat.reduceBEq, ↓reduceIte]
                rw [toNat_cast, hbb]
                try simp (disch := omega) only [nA64, nS64, nM64, nC64, nA64l, nS64l, nM64l, nM64r, nR64l, nL64l, nAu64, nMu64, nMu64r, nSu64, nAu64l, nLu64l, nCu64, nCu32, nCu8, nAu32, nLu32l, nSu8l, toNat_cast]
                have hll : l.length ≤ 1000000 := by
                  have h5 := len_le_bl hn
                  rw [hv] at h5
                  have h6 := bl_dv (l := (bs t).take i) fun d hd => by have := hdig d hd; simp [isDig] at this; omega
                  rw [List.length_take] at h6
                  omega
                refine ev_loop (fun n s => ∃ k o q M2, k ≤ l.length ∧ n = l.length - k ∧ o.length = l.length ∧ Lim o ∧ q < 4294967296 ∧ val (o.take k) + 4294967296 ^ k * q = val (l.take k) * 10 + (b - 48) ∧ (∀ j, k ≤ j → o.getD j 0 = l.getD j 0) ∧ Own .u32 130 M2 A o c ∧ PH.disj H1 M2 ∧
                  s = ⟨[(7, .v (.int .i64 (k : Nat))), (6, .v (.int .u64 (q : Nat))), (5, .v (.int .i64 (i : Nat))), (4, .v (.slice A l.length c)), (0, .v (.string t))], [], H1, M2⟩)
                  l.length _ ⟨0, l, b - 48, M1, by omega, by omega, rfl, hn.1, by omega, by simp [val], fun j _ => rfl, hO, hd, rfl⟩ sub_of ?_
                clear hO hd
                rintro n s ⟨k, o, q, M2, hk, rfl, ho, hlo, hq, hv2, he, hO, hd, rfl⟩
                try simp only [go_sem, Nat.reduceEqDiff, Nat.reduceAdd, Nat.reduceBEq, ↓reduceIte]
                refine ev_if (fun h5 => ?_) (fun h5 => ?_)
                · obtain ⟨g, rfl⟩ := hO.base (by have := hO.le_cap; omega)
                  try simp only [go_sem, Nat.reduceEqDiff, Nat.reduceAdd, Nat.reduceBEq, ↓reduceIte]
                  refine ev_iaN k rfl (by omega) rfl ?_
                  try simp only [go_sem, Nat.reduceEqDiff, Nat.reduceAdd, Nat.reduceBEq, ↓reduceIte]
                  refine ev_ldO hO (by omega) ?_
                  have hx := hlo.getD k
                  try simp only [go_sem, Nat.reduceEqDiff, Nat.reduceAdd, Nat.reduceBEq, ↓reduceIte]
                  try simp (disch := omega) only [nA64, nS64, nM64, nC64, nA64l, nS64l, nM64l, nM64r, nR64l, nL64l, nAu64, nMu64, nMu64r, nSu64, nAu64l, nLu64l, nCu64, nCu32, nCu8, nAu32, nLu32l, nSu8l, toNat_cast]
                  generalize ht : q + o.getD k 0 * 10 = w
                  have hw : w < 4294967296 * 4294967296 := by omega
                  rw [and_lo (by omega), u32mod, Nat.mod_mod]
                  refine ev_iaN k rfl (by omega) rfl ?_
                  try simp only [go_sem, Nat.reduceEqDiff, Nat.reduceAdd, Nat.reduceBEq, ↓reduceIte]
                  refine ev_stO hO (by omega) ?_
                  intro M' hO' hB' hd'
                  try simp only [go_sem, Nat.reduceEqDiff, Nat.reduceAdd, Nat.reduceBEq, ↓reduceIte]
                  refine shr_nat (n := 32) rfl (by decide) ?_
                  try simp only [go_sem, Nat.reduceEqDiff, Nat.reduceAdd, Nat.reduceBEq, ↓reduceIte]
                  try simp (disch := omega) only [nA64, nS64, nM64, nC64, nA64l, nS64l, nM64l, nM64r, nR64l, nL64l, nAu64, nMu64, nMu64r, nSu64, nAu64l, nLu64l, nCu64, nCu32, nCu8, nAu32, nLu32l, nSu8l, toNat_cast]
                  refine k_next (l.length - (k + 1)) _ (by omega) ⟨k + 1, _, w / 4294967296, M', by omega, rfl, by simp; omega, hlo.set (by omega), by omega, ?_, fun j hj => ?_, hO', hd' _ hd, rfl⟩ sub_of
                  · have el := val_take_succ l k (by omega)
                    rw [val_take_set o k _ (by omega), el, Nat.pow_succ, Nat.mul_assoc, Nat.add_assoc, ← Nat.mul_add, show w % 4294967296 + 4294967296 * (w / 4294967296) = w by omega, ← ht, he k (Nat.le_refl _), Nat.mul_add, Nat.add_mul, Nat.mul_assoc]
                    omega
                  · rw [getD_set (by omega), if_neg (by omega)]
                    exact he j (by omega)
                · have hkl : k = l.length := by omega
                  subst hkl
                  rw [List.take_length, List.take_of_length_le (by omega)] at hv2
                  have hdig' : ∀ d ∈ (bs t).take (i + 1), isDig d = true := by
                    rw [htk]
                    intro d hd
                    rcases List.mem_append.1 hd with hd | hd
                    · exact hdig d hd
                    · rw [List.mem_singleton.1 hd]
                      simp [isDig]; omega
                  have hdv : dv ((bs t).take (i + 1)) = val l * 10 + (b - 48) := by rw [htk, dv_snoc, hv]
                  rw [← hdv] at hv2
                  try simp only [go_sem, Nat.reduceEqDiff, Nat.reduceAdd, Nat.reduceBEq, ↓reduceIte]
                  refine ev_if (fun h6 => ?_) (fun h6 => ?_)
                  · try simp only [go_sem, Nat.reduceEqDiff, Nat.reduceAdd, Nat.reduceBEq, ↓reduceIte]
                    try simp (disch := omega) only [nA64, nS64, nM64, nC64, nA64l, nS64l, nM64l, nM64r, nR64l, nL64l, nAu64, nMu64, nMu64r, nSu64, nAu64l, nLu64l, nCu64, nCu32, nCu8, nAu32, nLu32l, nSu8l, toNat_cast]
                    refine ev_bslO (k := .u32) (l := [q]) rfl rfl (by simp) hd ?_
                    intro g M3 hO3 hle3 hg3 hd3
                    try simp only [go_sem, Nat.reduceEqDiff, Nat.reduceAdd, Nat.reduceBEq, ↓reduceIte]
                    refine ev_appO (hO.le hle3) (m := [q]) (hO3.sl hd3) (by omega) rfl (by simp) (by simp; omega) (by simp; omega) hd3 ?_
                    intro A' c' M' hO' hBut' _ hd'
                    try simp only [go_sem, Nat.reduceEqDiff, Nat.reduceAdd, Nat.reduceBEq, ↓reduceIte]
                    try simp (disch := omega) only [nA64, nS64, nM64, nC64, nA64l, nS64l, nM64l, nM64r, nR64l, nL64l, nAu64, nMu64, nMu64r, nSu64, nAu64l, nLu64l, nCu64, nCu32, nCu8, nAu32, nLu32l, nSu8l, toNat_cast]
                    refine k_next (t.size - (i + 1)) _ (by omega) ⟨i + 1, A', o ++ [q], c', H1, M', by omega, rfl, hO', norm_snoc hlo hq (by omega), ?_, hdig', hd', rfl⟩ ⟨rfl, ?_, by simp only [go_sem, Nat.reduceEqDiff, Nat.reduceAdd, Nat.reduceBEq, ↓reduceIte, and_self, Option.some.injEq, SV.v.injEq, SV.ptr.injEq, Value.int.injEq, Value.bool.injEq, Value.slice.injEq, true_and, and_true], .inl ⟨rfl, PH.le.refl _⟩⟩
                    · rw [val_append, ho]
                      simp only [val, Nat.mul_zero, Nat.add_zero]
                      exact hv2
                    · simp only [go_sem, Nat.reduceEqDiff, Nat.reduceAdd, Nat.reduceBEq, ↓reduceIte, and_self, Option.some.injEq, SV.v.injEq, SV.ptr.injEq, Value.int.injEq, Value.bool.injEq, Value.slice.injEq, true_and, and_true]
                      simp
                  · have h0 : q = 0 := by omega
                    rw [h0, Nat.mul_zero, Nat.add_zero] at hv2
                    try simp only [go_sem, Nat.reduceEqDiff, Nat.reduceAdd, Nat.reduceBEq, ↓reduceIte]
                    try simp (disch := omega) only [nA64, nS64, nM64, nC64, nA64l, nS64l, nM64l, nM64r, nR64l, nL64l, nAu64, nMu64, nMu64r, nSu64, nAu64l, nLu64l, nCu64, nCu32, nCu8, nAu32, nLu32l, nSu8l, toNat_cast]
                    refine k_next (t.size - (i + 1)) _ (by omega) ⟨i + 1, A, o, c, H1, M2, by omega, rfl, hO, norm_of_val hlo fun hne => ?_, hv2, hdig', hd, rfl⟩ ⟨rfl, ?_, by simp only [go_sem, Nat.reduceEqDiff, Nat.reduceAdd, Nat.reduceBEq, ↓reduceIte, and_self, Option.some.injEq, SV.v.injEq, SV.ptr.injEq, Value.int.injEq, Value.bool.injEq, Value.slice.injEq, true_and, and_true], .inl ⟨rfl, PH.le.refl _⟩⟩
                    · have h3 := val_pos hn (fun e => hne (List.eq_nil_of_length_eq_zero (by rw [ho, e]; rfl)))
                      rw [ho]; omega
                    · simp only [go_sem, Nat.reduceEqDiff, Nat.reduceAdd, Nat.reduceBEq, ↓reduceIte, and_self, Option.some.injEq, SV.v.injEq, SV.ptr.injEq, Value.int.injEq, Value.bool.injEq, Value.slice.injEq, true_and, and_true]
                      rw [ho]
          · have hil : i = t.size := by omega
            subst hil
            rw [List.take_of_length_le (by omega)] at hv hdig
            have hok : decOk (bs t) = true := by
              unfold decOk
              rw [hz, decide_eq_true (show (bs t).length ≤ 4000 by omega), List.all_eq_true.2 hdig]
              cases hq : bs t with
              | nil => rw [hq] at hsz; simp only [List.length_nil] at hsz; omega
              | cons _ _ => rfl
            try simp only [go_sem, Nat.reduceEqDiff, Nat.reduceAdd, Nat.reduceBEq, ↓reduceIte]
            rw [hok]
            intro _
            refine ⟨_, rfl, ?_⟩
            have := hO.ref hn hd
            rw [hv] at this
            exact this
      · have hz : ((bs t).getD 0 0 != 48 || decide ((bs t).length ≤ 1)) = true := by
          have : (bs t).getD 0 0 ≠ 48 := by rw [← hb0]; omega
          rw [bne_iff_ne.2 this, Bool.true_or]
        try simp only [go_sem, Nat.reduceEqDiff, Nat.reduceAdd, Nat.reduceBEq, ↓reduceIte]
        refine ev_loop (fun n s => ∃ i A l c H1 M1, i ≤ t.size ∧ n = t.size - i ∧ Own .u32 130 M1 A l c ∧ Norm l ∧ val l = dv ((bs t).take i) ∧ (∀ d ∈ (bs t).take i, isDig d = true) ∧ PH.disj H1 M1 ∧
          s = ⟨[(5, .v (.int .i64 (i : Nat))), (4, .v (.slice A l.length c)), (0, .v (.string t))], [], H1, M1⟩)
          t.size _ ⟨0, none, [], 0, H, PH.no, by omega, by omega, Own.nil _ _ _, .nil, rfl, by simp, PH.disj_no _, rfl⟩ sub_of ?_
        rintro n s ⟨i, A, l, c, H1, M1, hi, rfl, hO, hn, hv, hdig, hd, rfl⟩
        try simp only [go_sem, Nat.reduceEqDiff, Nat.reduceAdd, Nat.reduceBEq, ↓reduceIte]
        refine ev_if (fun h2 => ?_) (fun h2 => ?_)
        · have hb := bs_getD t i
          have hlt : i < (bs t).length := by omega
          have hmem : (bs t).getD i 0 ∈ bs t := by rw [List.getD, List.getElem?_eq_getElem hlt]; exact List.getElem_mem hlt
          have hblt : bAt t i < 256 := by rw [hb]; exact bs_lt t _ hmem
          have nd : ¬ (48 ≤ bAt t i ∧ bAt t i ≤ 57) → decOk (bs t) = false := fun h => by
            have : (bs t).all isDig = false := by
              rw [List.all_eq_false]
              refine ⟨_, hmem, ?_⟩
              rw [← hb]
              unfold isDig
              simp only [Bool.and_eq_true, decide_eq_true_eq]
              exact h
            unfold decOk
            rw [this]; simp
          have htk := take_snoc_of (bs t) i hlt
          rw [← hb] at htk
          generalize hbb : bAt t i = b at *
          try simp only [go_sem, Nat.reduceEqDiff, Nat.reduceAdd, Nat.reduceBEq, ↓reduceIte]
          refine ev_ix (by omega) (by omega) ?_
          try simp only [go_sem, Nat.reduceEqDiff, Nat.reduceAdd, Nat.reduceBEq, ↓reduceIte]
          rw [toNat_cast, hbb]
          refine ev_if (fun h3 => ?_) (fun h3 => ?_)
          · try simp only [go_sem, Nat.reduceEqDiff, Nat.reduceAdd, Nat.reduceBEq, ↓reduceIte]
            exact fun _ => bad (nd (by omega)) _ _ hd
          · try simp only [go_sem, Nat.reduceEqDiff, Nat.reduceAdd, Nat.reduceBEq, ↓reduceIte]
            refine ev_ix (by omega) (by omega) ?_
            try simp only [go_sem, Nat.reduceEqDiff, Nat.reduceAdd, Nat.reduceBEq, ↓reduceIte]
            rw [toNat_cast, hbb]
            refine ev_if (fun h4 => ?_) (fun h4 => ?_)
            · try simp only [go_sem, Nat.reduceEqDiff, Nat.reduceAdd, Nat.reduceBEq, ↓reduceIte]
              exact fun _ => bad (nd (by omega)) _ _ hd
            · try simp only [go_sem, Nat.reduceEqDiff, Nat.reduceAdd, Nat.reduceBEq, ↓reduceIte]
              refine ev_ix (by omega) (by omega) ?_
              try simp only [go_sem, Nat.reduceEqDiff, Nat.reduceAdd, Nat.reduceBEq, ↓reduceIte]
              rw [toNat_cast, hbb]
              try simp (disch := omega) only [nA64, nS64, nM64, nC64, nA64l, nS64l, nM64l, nM64r, nR64l, nL64l, nAu64, nMu64, nMu64r, nSu64, nAu64l, nLu64l, nCu64, nCu32, nCu8, nAu32, nLu32l, nSu8l, toNat_cast]
              have hll : l.length ≤ 1000000 := by
                have h5 := len_le_bl hn
                rw [hv] at h5
                have h6 := bl_dv (l := (bs t).take i) fun d hd => by have := hdig d hd; simp [isDig] at this; omega
                rw [List.length_take] at h6
                omega
              refine ev_loop (fun n s => ∃ k o q M2, k ≤ l.length ∧ n = l.length - k ∧ o.length = l.length ∧ Lim o ∧ q < 4294967296 ∧ val (o.take k) + 4294967296 ^ k * q = val (l.take k) * 10 + (b - 48) ∧ (∀ j, k ≤ j → o.getD j 0 = l.getD j 0) ∧ Own .u32 130 M2 A o c ∧ PH.disj H1 M2 ∧
                s = ⟨[(7, .v (.int .i64 (k : Nat))), (6, .v (.int .u64 (q : Nat))), (5, .v (.int .i64 (i : Nat))), (4, .v (.slice A l.length c)), (0, .v (.string t))], [], H1, M2⟩)
                l.length _ ⟨0, l, b - 48, M1, by omega, by omega, rfl, hn.1, by omega, by simp [val], fun j _ => rfl, hO, hd, rfl⟩ sub_of ?_
              clear hO hd
              rintro n s ⟨k, o, q, M2, hk, rfl, ho, hlo, hq, hv2, he, hO, hd, rfl⟩
              try simp only [go_sem, Nat.reduceEqDiff, Nat.reduceAdd, Nat.reduceBEq, ↓reduceIte]
              refine ev_if (fun h5 => ?_) (fun h5 => ?_)
              · obtain ⟨g, rfl⟩ := hO.base (by have := hO.le_cap; omega)
                try simp only [go_sem, Nat.reduceEqDiff, Nat.reduceAdd, Nat.reduceBEq, ↓reduceIte]
                refine ev_iaN k rfl (by omega) rfl ?_
                try simp only [go_sem, Nat.reduceEqDiff, Nat.reduceAdd, Nat.reduceBEq, ↓reduceIte]
                refine ev_ldO hO (by omega) ?_
                have hx := hlo.getD k
                try simp only [go_sem, Nat.reduceEqDiff, Nat.reduceAdd, Nat.reduceBEq, ↓reduceIte]
                try simp (disch := omega) only [nA64, nS64, nM64, nC64, nA64l, nS64l, nM64l, nM64r, nR64l, nL64l, nAu64, nMu64, nMu64r, nSu64, nAu64l, nLu64l, nCu64, nCu32, nCu8, nAu32, nLu32l, nSu8l, toNat_cast]
                generalize ht : q + o.getD k 0 * 10 = w
                have hw : w < 4294967296 * 4294967296 := by omega
                rw [and_lo (by omega), u32mod, Nat.mod_mod]
                refine ev_iaN k rfl (by omega) rfl ?_
                try simp only [go_sem, Nat.reduceEqDiff, Nat.reduceAdd, Nat.reduceBEq, ↓reduceIte]
                refine ev_stO hO (by omega) ?_
                intro M' hO' hB' hd'
                try simp only [go_sem, Nat.reduceEqDiff, Nat.reduceAdd, Nat.reduceBEq, ↓reduceIte]
                refine shr_nat (n := 32) rfl (by decide) ?_
                try simp only [go_sem, Nat.reduceEqDiff, Nat.reduceAdd, Nat.reduceBEq, ↓reduceIte]
                try simp (disch := omega) only [nA64, nS64, nM64, nC64, nA64l, nS64l, nM64l, nM64r, nR64l, nL64l, nAu64, nMu64, nMu64r, nSu64, nAu64l, nLu64l, nCu64, nCu32, nCu8, nAu32, nLu32l, nSu8l, toNat_cast]
                refine k_next (l.length - (k + 1)) _ (by omega) ⟨k + 1, _, w / 4294967296, M', by omega, rfl, by simp; omega, hlo.set (by omega), by omega, ?_, fun j hj => ?_, hO', hd' _ hd, rfl⟩ sub_of
                · have el := val_take_succ l k (by omega)
                  rw [val_take_set o k _ (by omega), el, Nat.pow_succ, Nat.mul_assoc, Nat.add_assoc, ← Nat.mul_add, show w % 4294967296 + 4294967296 * (w / 4294967296) = w by omega, ← ht, he k (Nat.le_refl _), Nat.mul_add, Nat.add_mul, Nat.mul_assoc]
                  omega
                · rw [getD_set (by omega), if_neg (by omega)]
                  exact he j (by omega)
              · have hkl : k = l.length := by omega
                subst hkl
                rw [List.take_length, List.take_of_length_le (by omega)] at hv2
                have hdig' : ∀ d ∈ (bs t).take (i + 1), isDig d = true := by
                  rw [htk]
                  intro d hd
                  rcases List.mem_append.1 hd with hd | hd
                  · exact hdig d hd
                  · rw [List.mem_singleton.1 hd]
                    simp [isDig]; omega
                have hdv : dv ((bs t).take (i + 1)) = val l * 10 + (b - 48) := by rw [htk, dv_snoc, hv]
                rw [← hdv] at hv2
                try simp only [go_sem, Nat.reduceEqDiff, Nat.reduceAdd, Nat.reduceBEq, ↓reduceIte]
                refine ev_if (fun h6 => ?_) (fun h6 => ?_)
                · try simp only [go_sem, Nat.reduceEqDiff, Nat.reduceAdd, Nat.reduceBEq, ↓reduceIte]
                  try simp (disch := omega) only [nA64, nS64, nM64, nC64, nA64l, nS64l, nM64l, nM64r, nR64l, nL64l, nAu64, nMu64, nMu64r, nSu64, nAu64l, nLu64l, nCu64, nCu32, nCu8, nAu32, nLu32l, nSu8l, toNat_cast]
                  refine ev_bslO (k := .u32) (l := [q]) rfl rfl (by simp) hd ?_
                  intro g M3 hO3 hle3 hg3 hd3
                  try simp only [go_sem, Nat.reduceEqDiff, Nat.reduceAdd, Nat.reduceBEq, ↓reduceIte]
                  refine ev_appO (hO.le hle3) (m := [q]) (hO3.sl hd3) (by omega) rfl (by simp) (by simp; omega) (by simp; omega) hd3 ?_
                  intro A' c' M' hO' hBut' _ hd'
                  try simp only [go_sem, Nat.reduceEqDiff, Nat.reduceAdd, Nat.reduceBEq, ↓reduceIte]
                  try simp (disch := omega) only [nA64, nS64, nM64, nC64, nA64l, nS64l, nM64l, nM64r, nR64l, nL64l, nAu64, nMu64, nMu64r, nSu64, nAu64l, nLu64l, nCu64, nCu32, nCu8, nAu32, nLu32l, nSu8l, toNat_cast]
                  refine k_next (t.size - (i + 1)) _ (by omega) ⟨i + 1, A', o ++ [q], c', H1, M', by omega, rfl, hO', norm_snoc hlo hq (by omega), ?_, hdig', hd', rfl⟩ ⟨rfl, ?_, by simp only [go_sem, Nat.reduceEqDiff, Nat.reduceAdd, Nat.reduceBEq, ↓reduceIte, and_self, Option.some.injEq, SV.v.injEq, SV.ptr.injEq, Value.int.injEq, Value.bool.injEq, Value.slice.injEq, true_and, and_true], .inl ⟨rfl, PH.le.refl _⟩⟩
                  · rw [val_append, ho]
                    simp only [val, Nat.mul_zero, Nat.add_zero]
                    exact hv2
                  · simp only [go_sem, Nat.reduceEqDiff, Nat.reduceAdd, Nat.reduceBEq, ↓reduceIte, and_self, Option.some.injEq, SV.v.injEq, SV.ptr.injEq, Value.int.injEq, Value.bool.injEq, Value.slice.injEq, true_and, and_true]
                    simp
                · have h0 : q = 0 := by omega
                  rw [h0, Nat.mul_zero, Nat.add_zero] at hv2
                  try simp only [go_sem, Nat.reduceEqDiff, Nat.reduceAdd, Nat.reduceBEq, ↓reduceIte]
                  try simp (disch := omega) only [nA64, nS64, nM64, nC64, nA64l, nS64l, nM64l, nM64r, nR64l, nL64l, nAu64, nMu64, nMu64r, nSu64, nAu64l, nLu64l, nCu64, nCu32, nCu8, nAu32, nLu32l, nSu8l, toNat_cast]
                  refine k_next (t.size - (i + 1)) _ (by omega) ⟨i + 1, A, o, c, H1, M2, by omega, rfl, hO, norm_of_val hlo fun hne => ?_, hv2, hdig', hd, rfl⟩ ⟨rfl, ?_, by simp only [go_sem, Nat.reduceEqDiff, Nat.reduceAdd, Nat.reduceBEq, ↓reduceIte, and_self, Option.some.injEq, SV.v.injEq, SV.ptr.injEq, Value.int.injEq, Value.bool.injEq, Value.slice.injEq, true_and, and_true], .inl ⟨rfl, PH.le.refl _⟩⟩
                  · have h3 := val_pos hn (fun e => hne (List.eq_nil_of_length_eq_zero (by rw [ho, e]; rfl)))
                    rw [ho]; omega
                  · simp only [go_sem, Nat.reduceEqDiff, Nat.reduceAdd, Nat.reduceBEq, ↓reduceIte, and_self, Option.some.injEq, SV.v.injEq, SV.ptr.injEq, Value.int.injEq, Value.bool.injEq, Value.slice.injEq, true_and, and_true]
                    rw [ho]
        · have hil : i = t.size := by omega
          subst hil
          rw [List.take_of_length_le (by omega)] at hv hdig
          have hok : decOk (bs t) = true := by
            unfold decOk
            rw [hz, decide_eq_true (show (bs t).length ≤ 4000 by omega), List.all_eq_true.2 hdig]
            cases hq : bs t with
            | nil => rw [hq] at hsz; simp only [List.length_nil] at hsz; omega
            | cons _ _ => rfl
          try simp only [go_sem, Nat.reduceEqDiff, Nat.reduceAdd, Nat.reduceBEq, ↓reduceIte]
          rw [hok]
          intro _
          refine ⟨_, rfl, ?_⟩
          have := hO.ref hn hd
          rw [hv] at this
          exact this

end Go.Proofs.YtccdhgjfcgfgoaaGreat.X
set_option linter.unusedVariables false
set_option linter.unusedSimpArgs false
namespace Go.Proofs.YtccdhgjfcgfgoaaGreat.X
open Go Go.RowKit Go.Proofs

theorem or_shift (r x : Nat) (hr : r < 4294967296) (hx : x < 4294967296) : bitsV .or .u64 ((r * 2 ^ 32 : Nat) : Int) (x : Int) = ((r * 4294967296 + x : Nat) : Int) := by
  rw [or64 (by omega) (by omega), Nat.or_comm, or_add _ _ _ hx, Nat.add_comm]

set_option maxHeartbeats 1000000 in
theorem rtext_ok (H : PH) (v : Value) (x : Nat) (hN : RefV H v x) (hb : bl x ≤ 4294967296) : FnP Tryz.prog 88 [v] H fun v _ => v = .string (ofB (txt x)) := by
  obtain ⟨A0, l0, c0, rfl, hc, hS, hn, rfl⟩ := hN
  have hlen := len_le_bl hn
  refine Fn.release (of_cinctureref1_NatText (by simp) ?_)
  try simp only [go_sem, Nat.reduceEqDiff, Nat.reduceAdd, Nat.reduceBEq, ↓reduceIte, p_cinctureref1_NatText]
  refine ev_if (fun h => ?_) (fun h => ?_)
  · try simp only [go_sem, Nat.reduceEqDiff, Nat.reduceAdd, Nat.reduceBEq, ↓reduceIte]
    have : l0 = [] := List.eq_nil_of_length_eq_zero (by omega)
    subst this
    intro _
    rfl
  · have hl0 : l0 ≠ [] := fun e => h (by rw [e]; rfl)
    have hx0 : val l0 ≠ 0 := fun e => hl0 ((val_eq_zero hn).1 e)
    try simp only [go_sem, Nat.reduceEqDiff, Nat.reduceAdd, Nat.reduceBEq, ↓reduceIte]
    refine ev_appO (k := .u32) (l := []) (m := l0) (Own.nil _ _ _) (by rw [PH.join_no]; exact hS) rfl rfl hl0 (by simp; omega) (by simp; omega) (PH.disj_no _) ?_
    intro A c M1 hO _ _ hd1
    rw [List.nil_append] at hO
    try simp only [go_sem, Nat.reduceEqDiff, Nat.reduceAdd, Nat.reduceBEq, ↓reduceIte]
    obtain ⟨x, hx⟩ : ∃ x, val l0 = x := ⟨_, rfl⟩
    rw [hx] at hb hlen hx0 ⊢
    have hvx : val l0 = x / 10 ^ 0 := by simp [hx]
    have h00 : ds 0 x = [] := rfl
    clear hS hc
    refine ev_loop (fun n s => ∃ k A l c B o e H1 M1, n = x / 10 ^ k ∧ val l = x / 10 ^ k ∧ Norm l ∧ l.length ≤ l0.length ∧ o = ds k x ∧ (k = 0 ∨ x / 10 ^ (k - 1) ≠ 0) ∧ Own .u32 130 M1 A l c ∧ Own .u8 5 M1 B o e ∧ (B = none ∨ B ≠ A) ∧ PH.disj H1 M1 ∧
      s = ⟨[(4, .v (.slice B o.length e)), (3, .v (.slice A l.length c))], [], H1, M1⟩)
      _ _ ⟨0, A, l0, c, none, [], 0, H, M1, rfl, hvx, hn, Nat.le_refl _, h00.symm, .inl rfl, hO, Own.nil _ _ _, .inl rfl, hd1, rfl⟩ sub_of ?_
    clear hO hd1 hvx h00 hn hl0 h
    rintro n s ⟨k, A, l, c, B, o, e, H1, M1, rfl, hv, hn, hll, ho, hk, hO, hP, hne, hd, rfl⟩
    have hkb : ∀ j, x / 10 ^ j ≠ 0 → j < bl x := fun j hj => by
      rw [lt_bl_iff]
      exact Nat.le_trans (Nat.pow_le_pow_left (by decide) _) (Nat.div_pos_iff.1 (Nat.pos_of_ne_zero hj)).2
    have hol : o.length = k := by rw [ho, ds_length]
    try simp only [go_sem, Nat.reduceEqDiff, Nat.reduceAdd, Nat.reduceBEq, ↓reduceIte]
    refine ev_if (fun h2 => ?_) (fun h2 => ?_)
    · have hl0 : l ≠ [] := fun h => by rw [h] at h2; simp at h2
      have hvl : x / 10 ^ k ≠ 0 := by rw [← hv]; exact fun h => hl0 ((val_eq_zero hn).1 h)
      have hk9 := hkb k hvl
      try simp only [go_sem, Nat.reduceEqDiff, Nat.reduceAdd, Nat.reduceBEq, ↓reduceIte]
      refine ev_loop (fun n s => ∃ (i : Nat) (z : Int) (o2 : List Nat) (r : Nat) (M2 : PH), z = (i : Int) - 1 ∧ i ≤ l.length ∧ n = i ∧ o2.length = l.length ∧ Lim o2 ∧ r < 10 ∧ val (l.drop i) = val (o2.drop i) * 10 + r ∧ (∀ j, j < i → o2.getD j 0 = l.getD j 0) ∧ Own .u32 130 M2 A o2 c ∧ Own .u8 5 M2 B o e ∧ PH.disj H1 M2 ∧
        s = ⟨[(6, .v (.int .i64 z)), (5, .v (.int .u64 (r : Nat))), (4, .v (.slice B o.length e)), (3, .v (.slice A l.length c))], [], H1, M2⟩)
        l.length _ ⟨l.length, (l.length : Int) - 1, l, 0, M1, rfl, by omega, rfl, rfl, hn.1, by omega, by simp [val], fun j _ => rfl, hO, hP, hd, rfl⟩ sub_of ?_
      clear hO hP hd
      rintro i s ⟨_, z, o2, r, M2, rfl, hi, rfl, ho2, hlo, hr, hvd, he, hO, hP, hd, rfl⟩
      try simp only [go_sem, Nat.reduceEqDiff, Nat.reduceAdd, Nat.reduceBEq, ↓reduceIte]
      refine ev_if (fun h3 => ?_) (fun h3 => ?_)
      · obtain ⟨g, rfl⟩ := hO.base (by have := hO.le_cap; omega)
        have ei : (i : Int) - 1 = ((i - 1 : Nat) : Int) := by omega
        rw [ei]
        obtain ⟨z1, z2, z3, z4⟩ := short_step l.length (i - 1) 10 r l o2 hn.1 hlo rfl ho2 (by omega) (by decide) (by decide) hr (by rw [show i - 1 + 1 = i by omega]; exact hvd) (fun j hj => he j (by omega))
        have hy := hlo.getD (i - 1)
        rw [← he (i - 1) (by omega)] at z1 z2 z3 z4
        try simp only [go_sem, Nat.reduceEqDiff, Nat.reduceAdd, Nat.reduceBEq, ↓reduceIte]
        refine shl_nat (n := 32) (y := r * 2 ^ 32) rfl (by decide) (wu64n _ rfl (by omega)) ?_
        try simp only [go_sem, Nat.reduceEqDiff, Nat.reduceAdd, Nat.reduceBEq, ↓reduceIte]
        refine ev_iaN (i - 1) rfl (by omega) rfl ?_
        try simp only [go_sem, Nat.reduceEqDiff, Nat.reduceAdd, Nat.reduceBEq, ↓reduceIte]
        refine ev_ldO hO (by omega) ?_
        try simp only [go_sem, Nat.reduceEqDiff, Nat.reduceAdd, Nat.reduceBEq, ↓reduceIte]
        try simp (disch := omega) only [nA64, nS64, nM64, nC64, nA64l, nS64l, nM64l, nM64r, nR64l, nL64l, nAu64, nMu64, nMu64r, nSu64, nAu64l, nLu64l, nCu64, nCu32, nCu8, nAu32, nLu32l, nSu8l, toNat_cast]
        rw [or_shift r _ (by omega) hy]
        generalize r * 4294967296 + o2.getD (i - 1) 0 = w at *
        refine quo_nat (a := w) (m := 10) rfl (by decide) (nCu64 (by omega)) ?_
        try simp only [go_sem, Nat.reduceEqDiff, Nat.reduceAdd, Nat.reduceBEq, ↓reduceIte]
        try simp (disch := omega) only [nA64, nS64, nM64, nC64, nA64l, nS64l, nM64l, nM64r, nR64l, nL64l, nAu64, nMu64, nMu64r, nSu64, nAu64l, nLu64l, nCu64, nCu32, nCu8, nAu32, nLu32l, nSu8l, toNat_cast]
        refine ev_iaN (i - 1) rfl (by omega) rfl ?_
        try simp only [go_sem, Nat.reduceEqDiff, Nat.reduceAdd, Nat.reduceBEq, ↓reduceIte]
        refine ev_stO hO (by omega) ?_
        intro M' hO' hB' hd'
        have hP' := hP.but hB' hne
        try simp only [go_sem, Nat.reduceEqDiff, Nat.reduceAdd, Nat.reduceBEq, ↓reduceIte]
        refine rem_nat (a := w) (m := 10) rfl (by decide) ?_
        try simp only [go_sem, Nat.reduceEqDiff, Nat.reduceAdd, Nat.reduceBEq, ↓reduceIte]
        refine k_next (i - 1) _ (by omega) ⟨i - 1, ((i - 1 : Nat) : Int) - 1, _, w % 10, M', rfl, by omega, rfl, by simp; omega, hlo.set z2, z3, z4, fun j hj => ?_, hO', hP', hd' _ hd, rfl⟩ sub_of
        rw [getD_set (by omega), if_neg (by omega)]
        exact he j (by omega)
      · have hi0 : i = 0 := by omega
        subst hi0
        rw [List.drop_zero, List.drop_zero] at hvd
        have hdiv : val o2 = val l / 10 ∧ r = val l % 10 := by omega
        have hds : ds (k + 1) x = ds k x ++ [48 + r] := by rw [ds_snoc, ← hv, hdiv.2]
        have hvx : val o2 = x / 10 ^ (k + 1) := by rw [hdiv.1, hv, Nat.div_div_eq_div_mul, ← Nat.pow_succ]
        have hcap := hO.le_cap
        try simp only [go_sem, Nat.reduceEqDiff, Nat.reduceAdd, Nat.reduceBEq, ↓reduceIte]
        rw [show IntKind.u8.wrap (IntKind.u64.wrap (48 + (r : Int))) = ((48 + r : Nat) : Int) by rw [wu64n (48 + r) (by omega) (by omega), wu8n (48 + r) rfl (by omega)]]
        refine ev_bslO (k := .u8) (l := [48 + r]) rfl rfl (by simp) hd ?_
        intro g M3 hO3 hle3 hg3 hd3
        try simp only [go_sem, Nat.reduceEqDiff, Nat.reduceAdd, Nat.reduceBEq, ↓reduceIte]
        refine ev_appO (hP.le hle3) (m := [48 + r]) (hO3.sl hd3) rfl rfl (by simp) (by simp; omega) (by simp; omega) hd3 ?_
        intro B' e' M4 hO4 hB4 hne4 hd4
        try simp only [go_sem, Nat.reduceEqDiff, Nat.reduceAdd, Nat.reduceBEq, ↓reduceIte]
        have hA : A = none ∨ A ≠ B := by
          rcases hne with h | h
          · rcases hO with ⟨h', _⟩ | ⟨g', _, h', _⟩
            · exact .inl h'
            · right; rw [h', h]; exact fun e => by cases e
          · exact .inr (Ne.symm h)
        have hO2' := (hO.le hle3).but hB4 hA
        have hneB : B' = none ∨ B' ≠ A := by
          rcases hne4 with h | h
          · rw [h]; exact hne
          · rcases hO with ⟨h', _⟩ | ⟨g', rest', h', h'', _⟩
            · by_cases hB' : B' = none
              · exact .inl hB'
              · right; rw [h']; exact hB'
            · right; rw [h']; exact h g' _ (hle3 _ _ h'')
        refine ev_callB (trim_ok _ A o2 l.length c ho2.symm (by omega) (hO2'.sl hd4) hlo (by omega)) ?_
        rintro v H3 hle3' ⟨m, hm, rfl, hN3, hv3⟩ hd3'
        try simp only [go_sem, Nat.reduceEqDiff, Nat.reduceAdd, Nat.reduceBEq, ↓reduceIte]
        refine k_next (x / 10 ^ (k + 1)) _ ?_ ⟨k + 1, A, o2.take m, c, B', _, e', H3, M4, rfl, ?_, hN3, ?_, ?_, .inr ?_, hO2'.take m, hO4, hneB, hd3', rfl⟩ ⟨rfl, ?_, by simp only [go_sem, Nat.reduceEqDiff, Nat.reduceAdd, Nat.reduceBEq, ↓reduceIte, and_self, Option.some.injEq, SV.v.injEq, SV.ptr.injEq, Value.int.injEq, Value.bool.injEq, Value.slice.injEq, true_and, and_true], .inl ⟨rfl, PH.le.refl _⟩⟩
        · rw [Nat.pow_succ, ← Nat.div_div_eq_div_mul]; omega
        · rw [hv3, hvx]
        · rw [List.length_take]; omega
        · rw [hds, ho]
        · rw [Nat.add_sub_cancel]; exact hvl
        · simp only [go_sem, Nat.reduceEqDiff, Nat.reduceAdd, Nat.reduceBEq, ↓reduceIte, and_self, Option.some.injEq, SV.v.injEq, SV.ptr.injEq, Value.int.injEq, Value.bool.injEq, Value.slice.injEq, true_and, and_true]
          rw [List.length_take, Nat.min_eq_left hm]
          simp
    · have hl0 : l = [] := List.eq_nil_of_length_eq_zero (by omega)
      have hlt : x < 10 ^ k := by
        rw [hl0] at hv
        exact (Nat.div_eq_zero_iff.1 hv.symm).resolve_left (Nat.ne_of_gt (Nat.pow_pos (by decide)))
      have hnd : nd x = k := nd_uniq hlt (hk.imp_right fun h => (Nat.div_pos_iff.1 (Nat.pos_of_ne_zero h)).2)
      have hkk : k ≤ bl x := by
        rcases hk with h | h
        · omega
        · have := hkb _ h; omega
      have htx : txt x = o.reverse := by unfold txt; rw [if_neg hx0, hnd, ho]
      have hol' : (o.length : Nat) = k := hol
      clear hO hne hv ho
      try simp only [go_sem, Nat.reduceEqDiff, Nat.reduceAdd, Nat.reduceBEq, ↓reduceIte]
      refine ev_loop (fun n s => ∃ (i : Nat) (p : List Nat) (M2 : PH), i ≤ k / 2 ∧ n = k / 2 - i ∧ p.length = k ∧ (∀ j, j < k → p.getD j 0 = if j < i ∨ k - 1 - j < i then o.getD (k - 1 - j) 0 else o.getD j 0) ∧ Own .u8 5 M2 B p e ∧ PH.disj H1 M2 ∧
        s = ⟨[(8, .v (.int .i64 (i : Nat))), (4, .v (.slice B k e))], [], H1, M2⟩)
        (k / 2) _ ⟨0, o, M1, by omega, by omega, hol, fun j hj => by simp, hP, hd, rfl⟩ ⟨rfl, ?_, by simp only [go_sem, Nat.reduceEqDiff, Nat.reduceAdd, Nat.reduceBEq, ↓reduceIte, and_self, Option.some.injEq, SV.v.injEq, SV.ptr.injEq, Value.int.injEq, Value.bool.injEq, Value.slice.injEq, true_and, and_true], .inl ⟨rfl, PH.le.refl _⟩⟩ ?_
      · simp only [go_sem, Nat.reduceEqDiff, Nat.reduceAdd, Nat.reduceBEq, ↓reduceIte, and_self, Option.some.injEq, SV.v.injEq, SV.ptr.injEq, Value.int.injEq, Value.bool.injEq, Value.slice.injEq, true_and, and_true]
        simp [hol]
      clear hP hd
      rintro n s ⟨i, p, M2, hi, rfl, hp, hpv, hP, hd, rfl⟩
      try simp only [go_sem, Nat.reduceEqDiff, Nat.reduceAdd, Nat.reduceBEq, ↓reduceIte]
      refine quo_nat (a := k) (m := 2) rfl (by decide) (w64 _ (by omega) (by omega)) ?_
      try simp only [go_sem, Nat.reduceEqDiff, Nat.reduceAdd, Nat.reduceBEq, ↓reduceIte]
      refine ev_if (fun h3 => ?_) (fun h3 => ?_)
      · obtain ⟨g, rfl⟩ := hP.base (by have := hP.le_cap; omega)
        try simp only [go_sem, Nat.reduceEqDiff, Nat.reduceAdd, Nat.reduceBEq, ↓reduceIte]
        try simp (disch := omega) only [nA64, nS64, nM64, nC64, nA64l, nS64l, nM64l, nM64r, nR64l, nL64l, nAu64, nMu64, nMu64r, nSu64, nAu64l, nLu64l, nCu64, nCu32, nCu8, nAu32, nLu32l, nSu8l, toNat_cast]
        obtain ⟨q, hq⟩ : ∃ q, k - 1 - i = q := ⟨_, rfl⟩
        rw [hq]
        refine ev_iaN q rfl (by omega) rfl ?_
        try simp only [go_sem, Nat.reduceEqDiff, Nat.reduceAdd, Nat.reduceBEq, ↓reduceIte]
        refine ev_ldO hP (by omega) ?_
        try simp only [go_sem, Nat.reduceEqDiff, Nat.reduceAdd, Nat.reduceBEq, ↓reduceIte]
        refine ev_iaN i rfl (by omega) rfl ?_
        try simp only [go_sem, Nat.reduceEqDiff, Nat.reduceAdd, Nat.reduceBEq, ↓reduceIte]
        refine ev_ldO hP (by omega) ?_
        try simp only [go_sem, Nat.reduceEqDiff, Nat.reduceAdd, Nat.reduceBEq, ↓reduceIte]
        refine ev_iaN i rfl (by omega) rfl ?_
        try simp only [go_sem, Nat.reduceEqDiff, Nat.reduceAdd, Nat.reduceBEq, ↓reduceIte]
        refine ev_stO hP (by omega) ?_
        intro M3 hO3 hB3 hd3
        try simp only [go_sem, Nat.reduceEqDiff, Nat.reduceAdd, Nat.reduceBEq, ↓reduceIte]
        refine ev_iaN q rfl (by omega) rfl ?_
        try simp only [go_sem, Nat.reduceEqDiff, Nat.reduceAdd, Nat.reduceBEq, ↓reduceIte]
        refine ev_stO hO3 (by simp; omega) ?_
        intro M4 hO4 hB4 hd4
        try simp only [go_sem, Nat.reduceEqDiff, Nat.reduceAdd, Nat.reduceBEq, ↓reduceIte]
        try simp (disch := omega) only [nA64, nS64, nM64, nC64, nA64l, nS64l, nM64l, nM64r, nR64l, nL64l, nAu64, nMu64, nMu64r, nSu64, nAu64l, nLu64l, nCu64, nCu32, nCu8, nAu32, nLu32l, nSu8l, toNat_cast]
        refine k_next (k / 2 - (i + 1)) _ (by omega) ⟨i + 1, _, M4, by omega, rfl, by simp; omega, fun j hj => ?_, hO4, hd4 _ (hd3 _ hd), rfl⟩ sub_of
        rw [getD_set (by simp; omega), getD_set (by omega), hpv i (by omega), hpv q (by omega), hpv j hj]
        by_cases hj1 : j = q
        · subst hj1
          rw [if_pos rfl, if_neg (by omega), if_pos (by omega)]
          congr 1; omega
        · rw [if_neg hj1]
          by_cases hj2 : j = i
          · subst hj2
            rw [if_pos rfl, if_neg (by omega), if_pos (by omega)]
            congr 1; omega
          · rw [if_neg hj2]
            by_cases hj3 : j < i ∨ k - 1 - j < i
            · rw [if_pos hj3, if_pos (by omega)]
            · rw [if_neg hj3, if_neg (by omega)]
      · try simp only [go_sem, Nat.reduceEqDiff, Nat.reduceAdd, Nat.reduceBEq, ↓reduceIte]
        have hpr : p = o.reverse := by
          refine ext_getD (by simp [hp, hol]) fun j hj => ?_
          rw [hpv j (by omega), rev_getD (by omega)]
          by_cases hj3 : j < i ∨ k - 1 - j < i
          · rw [if_pos hj3, hol]
          · rw [if_neg hj3, hol]; congr 1; omega
        refine ev_b2sO hP hp.symm (by rw [hpr, ← htx]; exact txt_lt x) ?_
        try simp only [go_sem, Nat.reduceEqDiff, Nat.reduceAdd, Nat.reduceBEq, ↓reduceIte]
        intro _
        rw [hpr, htx]

end Go.Proofs.YtccdhgjfcgfgoaaGreat.X
