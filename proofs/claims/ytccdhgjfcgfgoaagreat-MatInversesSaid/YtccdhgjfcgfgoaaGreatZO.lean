/- Package nat: subtracting; growing. -/
import Derived.Test.YtccdhgjfcgfgoaaGreatZR
import Derived.Test.YtccdhgjfcgfgoaaGreatZY
set_option linter.unusedVariables false
set_option linter.unusedSimpArgs false
namespace Go.Proofs.YtccdhgjfcgfgoaaGreat.X
open Go Go.RowKit Go.Proofs

theorem sub_wrap1 {x q : Nat} (hq : q ≤ 1) (hx : x < 4294967296) : IntKind.u64.wrap ((x : Int) - (q : Int)) = ((18446744073709551616 + x - q) % 18446744073709551616 : Nat) := by rw [wu64_mod]; omega
theorem sub_wrap2 {x q y : Nat} (hq : q ≤ 1) (hx : x < 4294967296) (hy : y < 4294967296) : IntKind.u64.wrap ((((18446744073709551616 + x - q) % 18446744073709551616 : Nat) : Int) - (y : Int)) = ((18446744073709551616 + x - q - y) % 18446744073709551616 : Nat) := by rw [wu64_mod]; omega

theorem sub_ok (H : PH) (va vb : Value) (x y : Nat) (ha : NatV H va x) (hb : NatV H vb y) (hbx : bl x ≤ 4294967296) (hby : bl y ≤ 4294967296) : FnP Tryz.prog 117 [va, vb] H fun v H' => ∃ v', v = .tuple #[v', .bool (decide (y ≤ x))] ∧ NatV H' v' (x - y) := by
  have hcmp := cmp_ok H va vb x y ha hb hbx hby
  obtain ⟨A, l, c, rfl, hc, hS, hn, rfl⟩ := ha
  obtain ⟨B, m, e, rfl, he, hT, hm, rfl⟩ := hb
  have hlen : l.length ≤ 200000000 := by have := len_le_bl hn; omega
  have hlen2 : m.length ≤ 200000000 := by have := len_le_bl hm; omega
  clear hbx hby hc he
  refine of_nat_Sub (by simp) ?_
  try simp only [go_sem, Nat.reduceEqDiff, Nat.reduceAdd, Nat.reduceBEq, ↓reduceIte, p_nat_Sub]
  refine ev_call hcmp ?_
  rintro v H' hle rfl hd
  replace hS := hS.le hle
  replace hT := hT.le hle
  clear hcmp hle hd
  try simp only [go_sem, Nat.reduceEqDiff, Nat.reduceAdd, Nat.reduceBEq, ↓reduceIte]
  refine ev_if (fun h => ?_) (fun h => ?_)
  · have hlt : val l < val m := by
      unfold cmpN at h
      split at h
      · assumption
      · split at h <;> omega
    try simp only [go_sem, Nat.reduceEqDiff, Nat.reduceAdd, Nat.reduceBEq, ↓reduceIte]
    refine ⟨by trivial, _, by rw [decide_eq_false (by omega)], ?_⟩
    rw [Nat.sub_eq_zero_of_le (by omega)]
    exact NatV.zero _ _
  · have hge : val m ≤ val l := by
      unfold cmpN at h
      split at h <;> omega
    try simp only [go_sem, Nat.reduceEqDiff, Nat.reduceAdd, Nat.reduceBEq, ↓reduceIte]
    refine ev_mkO (by omega) (by omega) (by omega) (PH.disj_no _) ?_
    intro g M hO _ _ hd
    try simp only [go_sem, Nat.reduceEqDiff, Nat.reduceAdd, Nat.reduceBEq, ↓reduceIte]
    rw [toNat_cast] at hO ⊢
    refine ev_loop (fun n s => ∃ i o q M, i ≤ l.length ∧ n = l.length - i ∧ o.length = l.length ∧ Lim o ∧ q ≤ 1 ∧ val (l.take i) + 4294967296 ^ i * q = val (o.take i) + val (m.take i) ∧ Own .u32 130 M (some ⟨g, 0, none⟩) o l.length ∧ PH.disj H' M ∧
      s = ⟨[(22, .v (.int .i64 (i : Nat))), (21, .v (.int .i64 (l.length : Nat))), (20, .v (.slice A l.length c)), (7, .v (.int .u64 (q : Nat))), (6, .v (.slice (some ⟨g, 0, none⟩) l.length l.length)), (4, .ptr 4 0), (3, .ptr 3 0)], [(4, [.slice none 0 0]), (3, [.slice B m.length e])], H', M⟩)
      l.length _ ⟨0, _, 0, M, by omega, by omega, by simp, Lim.replicate _, by omega, by simp [val], hO, hd, rfl⟩ sub_of ?_
    clear hO hd
    rintro n s ⟨i, o, q, M, hi, rfl, ho, hlo, hq, hv, hO, hd, rfl⟩
    try simp only [go_sem, Nat.reduceEqDiff, Nat.reduceAdd, Nat.reduceBEq, ↓reduceIte]
    refine ev_if (fun h2 => ?_) (fun h2 => ?_)
    · obtain ⟨b, off, rfl⟩ := hS.base (by omega)
      try simp only [go_sem, Nat.reduceEqDiff, Nat.reduceAdd, Nat.reduceBEq, ↓reduceIte]
      refine ev_iaN i rfl (by omega) rfl ?_
      try simp only [go_sem, Nat.reduceEqDiff, Nat.reduceAdd, Nat.reduceBEq, ↓reduceIte]
      refine ev_ldS hS rfl (by omega) ?_
      have hx := hn.1.getD i
      have hy := hm.1.getD i
      have el := val_take_succ l i (by omega)
      have em := val_take_ge m i
      try simp only [go_sem, Nat.reduceEqDiff, Nat.reduceAdd, Nat.reduceBEq, ↓reduceIte]
      try simp (disch := omega) only [nA64, nS64, nM64, nC64, nA64l, nS64l, nM64l, nM64r, nR64l, nL64l, nAu64, nMu64, nMu64r, nSu64, nAu64l, nLu64l, nCu64, nCu32, nCu8, nAu32, nLu32l, nSu8l, toNat_cast]
      rw [sub_wrap1 hq hx]
      have step : ∀ z, z = (18446744073709551616 + l.getD i 0 - q - m.getD i 0) % 18446744073709551616 → z / 2 ^ 63 ≤ 1 ∧ val (l.take (i + 1)) + 4294967296 ^ (i + 1) * (z / 2 ^ 63) = val ((o.set i (z % 4294967296)).take (i + 1)) + val (m.take (i + 1)) := by
        intro z hz
        have h4 : z / 2 ^ 63 ≤ 1 := by omega
        refine ⟨h4, ?_⟩
        rw [val_take_set o i _ (by omega), el, em, Nat.pow_succ, Nat.mul_assoc]
        have h5 : l.getD i 0 + 4294967296 * (z / 2 ^ 63) = q + z % 4294967296 + m.getD i 0 := by omega
        have h6 : 4294967296 ^ i * (l.getD i 0 + 4294967296 * (z / 2 ^ 63)) = 4294967296 ^ i * (q + z % 4294967296 + m.getD i 0) := by rw [h5]
        rw [Nat.mul_add, Nat.mul_add, Nat.mul_add] at h6
        omega
      refine ev_if (fun h3 => ?_) (fun h3 => ?_)
      · try simp only [go_sem, Nat.reduceEqDiff, Nat.reduceAdd, Nat.reduceBEq, ↓reduceIte]
        obtain ⟨b2, off2, rfl⟩ := hT.base (by omega)
        refine ev_iaN i rfl (by omega) rfl ?_
        try simp only [go_sem, Nat.reduceEqDiff, Nat.reduceAdd, Nat.reduceBEq, ↓reduceIte]
        refine ev_ldS hT rfl (by omega) ?_
        try simp only [go_sem, Nat.reduceEqDiff, Nat.reduceAdd, Nat.reduceBEq, ↓reduceIte]
        try simp (disch := omega) only [nA64, nS64, nM64, nC64, nA64l, nS64l, nM64l, nM64r, nR64l, nL64l, nAu64, nMu64, nMu64r, nSu64, nAu64l, nLu64l, nCu64, nCu32, nCu8, nAu32, nLu32l, nSu8l, toNat_cast]
        rw [sub_wrap2 hq hx hy]
        refine ev_iaN i rfl (by omega) rfl ?_
        try simp only [go_sem, Nat.reduceEqDiff, Nat.reduceAdd, Nat.reduceBEq, ↓reduceIte]
        rw [u32mod]
        refine ev_stO hO (by omega) ?_
        intro M' hO' _ hd'
        try simp only [go_sem, Nat.reduceEqDiff, Nat.reduceAdd, Nat.reduceBEq, ↓reduceIte]
        refine shr_nat (n := 63) rfl (by decide) ?_
        try simp only [go_sem, Nat.reduceEqDiff, Nat.reduceAdd, Nat.reduceBEq, ↓reduceIte]
        obtain ⟨z1, z2⟩ := step _ rfl
        refine k_next (l.length - (i + 1)) _ (by omega) ⟨i + 1, _, _, M', by omega, rfl, by simp; omega, hlo.set (by omega), z1, z2, hO', hd' _ hd, rfl⟩ sub_of
      · try simp only [go_sem, Nat.reduceEqDiff, Nat.reduceAdd, Nat.reduceBEq, ↓reduceIte]
        have hz : m.getD i 0 = 0 := getD_big (by omega)
        rw [show (18446744073709551616 + l.getD i 0 - q) % 18446744073709551616 = (18446744073709551616 + l.getD i 0 - q - m.getD i 0) % 18446744073709551616 by rw [hz]; rfl]
        refine ev_iaN i rfl (by omega) rfl ?_
        try simp only [go_sem, Nat.reduceEqDiff, Nat.reduceAdd, Nat.reduceBEq, ↓reduceIte]
        rw [u32mod]
        refine ev_stO hO (by omega) ?_
        intro M' hO' _ hd'
        try simp only [go_sem, Nat.reduceEqDiff, Nat.reduceAdd, Nat.reduceBEq, ↓reduceIte]
        refine shr_nat (n := 63) rfl (by decide) ?_
        try simp only [go_sem, Nat.reduceEqDiff, Nat.reduceAdd, Nat.reduceBEq, ↓reduceIte]
        obtain ⟨z1, z2⟩ := step _ rfl
        refine k_next (l.length - (i + 1)) _ (by omega) ⟨i + 1, _, _, M', by omega, rfl, by simp; omega, hlo.set (by omega), z1, z2, hO', hd' _ hd, rfl⟩ sub_of
    · have hil : i = l.length := by omega
      subst hil
      try simp only [go_sem, Nat.reduceEqDiff, Nat.reduceAdd, Nat.reduceBEq, ↓reduceIte]
      refine ev_cutA hO (by omega) hlo (by omega) hd ?_
      intro v H2 hl hN
      have hN2 := hN
      obtain ⟨A', l', c', rfl, _⟩ := hN2
      try simp only [go_sem, Nat.reduceEqDiff, Nat.reduceAdd, Nat.reduceBEq, ↓reduceIte]
      refine ⟨by trivial, _, by rw [decide_eq_true hge], ?_⟩
      have hml : m.length ≤ l.length := by
        refine len_of_lt hm (Nat.lt_of_le_of_lt hge (val_lt hn.1))
      rw [List.take_length, List.take_of_length_le (by omega), List.take_of_length_le hml] at hv
      have hq0 : q = 0 := by
        rcases Nat.eq_zero_or_pos q with h0 | h0
        · exact h0
        · have h1 : q = 1 := by omega
          have h2 := val_lt hlo
          rw [ho] at h2
          subst h1
          omega
      rw [hq0, Nat.mul_zero, Nat.add_zero] at hv
      rw [show val l - val m = val o by omega]
      exact hN

theorem But.trans {M M1 M2 : PH} {A : Option Addr} (h : But M M1 A) (k : But M1 M2 A) : But M M2 A := fun b o hb hne => k b o (h b o hb hne) hne
theorem But.refl (M : PH) (A : Option Addr) : But M M A := fun _ _ hb _ => hb

theorem clone_own (H : PH) (A : Option Addr) (l : List Nat) (c : Nat) (hS : Sl .u32 H A l) (hl : l.length ≤ 1000000000) (hc : l.length ≤ c) : Fn Tryz.prog 107 [.slice A l.length c] H PH.no fun v H' M' => PH.disj H' M' ∧ ∃ A' c', v = .slice A' l.length c' ∧ Own .u32 130 M' A' l c' := by
  refine of_slices_Clone_uint32_uint32 (by simp) ?_
  cases A with
  | none =>
    have h0 : l = [] := by
      rcases hS with h | ⟨b, off, cs, T, fz, h, _⟩
      · exact h
      · cases h
    subst h0
    try simp only [go_sem, Nat.reduceEqDiff, Nat.reduceAdd, Nat.reduceBEq, ↓reduceIte, p_slices_Clone_uint32_uint32]
    exact ⟨PH.disj_no _, none, 0, rfl, Own.nil _ _ _⟩
  | some p =>
    try simp only [go_sem, Nat.reduceEqDiff, Nat.reduceAdd, Nat.reduceBEq, ↓reduceIte, p_slices_Clone_uint32_uint32]
    refine ev_bslO (k := .u32) (l := []) rfl rfl (by simp) (PH.disj_no _) ?_
    intro g M hO hle hg hd
    try simp only [go_sem, Nat.reduceEqDiff, Nat.reduceAdd, Nat.reduceBEq, ↓reduceIte]
    by_cases h0 : l = []
    · subst h0
      refine .inl ⟨rfl, Nat.le_refl _, ?_⟩
      try simp only [go_sem, Nat.reduceEqDiff, Nat.reduceAdd, Nat.reduceBEq, ↓reduceIte]
      exact ⟨hd, _, _, rfl, hO⟩
    · refine ev_appO hO (m := l) (hS.le (PH.le_join _ _)) rfl rfl h0 (by simp; omega) (by simp; omega) hd ?_
      intro A' c' M' hO' _ _ hd'
      try simp only [go_sem, Nat.reduceEqDiff, Nat.reduceAdd, Nat.reduceBEq, ↓reduceIte]
      refine ⟨hd', A', c', ?_, hO'⟩
      simp

theorem norm_of_val {l : List Nat} (h : Lim l) (hv : l ≠ [] → 4294967296 ^ (l.length - 1) ≤ val l) : Norm l := by
  refine ⟨h, fun hne h0 => ?_⟩
  have h1 := hv hne
  have e := List.dropLast_concat_getLast hne
  have h2 : val l = val l.dropLast + 4294967296 ^ l.dropLast.length * (l.getLast hne) := by
    conv => lhs; rw [← e]
    rw [val_append]; simp [val]
  rw [h0, Nat.mul_zero, Nat.add_zero] at h2
  have h3 := val_lt (l := l.dropLast) (by rw [List.dropLast_eq_take]; exact h.take _)
  rw [List.length_dropLast] at h3
  omega

end Go.Proofs.YtccdhgjfcgfgoaaGreat.X
set_option linter.unusedVariables false
set_option linter.unusedSimpArgs false
namespace Go.Proofs.YtccdhgjfcgfgoaaGreat.X
open Go Go.RowKit Go.Proofs

theorem grow_ok (H M : PH) (A : Option Addr) (l : List Nat) (c by_ d : Nat) (hO : Own .u32 130 M A l c) (hn : Norm l) (hl : l.length ≤ 1000000000) (hb0 : 0 < by_) (hb : by_ < 4294967296) (hd0 : d < 4294967296) (hdj : PH.disj H M) :
    Fn Tryz.prog 123 [.slice A l.length c, .int .u32 (by_ : Nat), .int .u32 (d : Nat)] H M fun v H' M' => PH.disj H' M' ∧ ∃ A' l' c', v = .slice A' l'.length c' ∧ Own .u32 130 M' A' l' c' ∧ Norm l' ∧ val l' = val l * by_ + d ∧ But M M' A := by
  refine of_nat_grow (by simp) ?_
  try simp only [go_sem, Nat.reduceEqDiff, Nat.reduceAdd, Nat.reduceBEq, ↓reduceIte, p_nat_grow]
  try simp (disch := omega) only [nA64, nS64, nM64, nC64, nA64l, nS64l, nM64l, nM64r, nR64l, nL64l, nAu64, nMu64, nMu64r, nSu64, nAu64l, nLu64l, nCu64, nCu32, nCu8, nAu32, nLu32l, nSu8l, toNat_cast]
  refine ev_loop (fun n s => ∃ i o q M1, i ≤ l.length ∧ n = l.length - i ∧ o.length = l.length ∧ Lim o ∧ q < 4294967296 ∧ val (o.take i) + 4294967296 ^ i * q = val (l.take i) * by_ + d ∧ (∀ j, i ≤ j → o.getD j 0 = l.getD j 0) ∧ Own .u32 130 M1 A o c ∧ PH.disj H M1 ∧ But M M1 A ∧
    s = ⟨[(14, .v (.int .i64 (i : Nat))), (13, .v (.int .i64 (l.length : Nat))), (12, .v (.slice A l.length c)), (7, .v (.int .u64 (q : Nat))), (1, .v (.int .u32 (by_ : Nat))), (0, .v (.slice A l.length c))], [], H, M1⟩)
    l.length _ ⟨0, l, d, M, by omega, by omega, rfl, hn.1, by omega, by simp [val], fun j _ => rfl, hO, hdj, But.refl _ _, rfl⟩ sub_of ?_
  clear hO hdj
  rintro n s ⟨i, o, q, M1, hi, rfl, ho, hlo, hq, hv, he, hO, hdj, hBut, rfl⟩
  try simp only [go_sem, Nat.reduceEqDiff, Nat.reduceAdd, Nat.reduceBEq, ↓reduceIte]
  refine ev_if (fun h2 => ?_) (fun h2 => ?_)
  · obtain ⟨g, rfl⟩ := hO.base (by have := hO.le_cap; omega)
    try simp only [go_sem, Nat.reduceEqDiff, Nat.reduceAdd, Nat.reduceBEq, ↓reduceIte]
    refine ev_iaN i rfl (by omega) rfl ?_
    try simp only [go_sem, Nat.reduceEqDiff, Nat.reduceAdd, Nat.reduceBEq, ↓reduceIte]
    refine ev_ldO hO (by omega) ?_
    have hx := hlo.getD i
    have hb2 := mul_bound (z := 0) hq hx hb (by decide)
    rw [Nat.add_zero] at hb2
    try simp only [go_sem, Nat.reduceEqDiff, Nat.reduceAdd, Nat.reduceBEq, ↓reduceIte]
    try simp (disch := omega) only [nA64, nS64, nM64, nC64, nA64l, nS64l, nM64l, nM64r, nR64l, nL64l, nAu64, nMu64, nMu64r, nSu64, nAu64l, nLu64l, nCu64, nCu32, nCu8, nAu32, nLu32l, nSu8l, toNat_cast]
    generalize ht : q + o.getD i 0 * by_ = t
    have ht2 : t < 18446744073709551616 := by omega
    refine ev_iaN i rfl (by omega) rfl ?_
    try simp only [go_sem, Nat.reduceEqDiff, Nat.reduceAdd, Nat.reduceBEq, ↓reduceIte]
    rw [u32mod]
    refine ev_stO hO (by omega) ?_
    intro M' hO' hB' hd'
    try simp only [go_sem, Nat.reduceEqDiff, Nat.reduceAdd, Nat.reduceBEq, ↓reduceIte]
    refine shr_nat (n := 32) rfl (by decide) ?_
    try simp only [go_sem, Nat.reduceEqDiff, Nat.reduceAdd, Nat.reduceBEq, ↓reduceIte]
    refine k_next (l.length - (i + 1)) _ (by omega) ⟨i + 1, _, t / 4294967296, M', by omega, rfl, by simp; omega, hlo.set (by omega), by omega, ?_, fun j hj => ?_, hO', hd' _ hdj, hBut.trans hB', rfl⟩ sub_of
    · have el := val_take_succ l i (by omega)
      rw [val_take_set o i _ (by omega), el, Nat.pow_succ, Nat.mul_assoc, Nat.add_assoc, ← Nat.mul_add, show t % 4294967296 + 4294967296 * (t / 4294967296) = t by omega, ← ht, he i (Nat.le_refl _), Nat.mul_add, Nat.add_mul, Nat.mul_assoc]
      omega
    · rw [← he j (by omega)]
      simp only [List.getD]
      rw [List.getElem?_set_ne (by omega)]
  · have hil : i = l.length := by omega
    subst hil
    rw [List.take_length, List.take_of_length_le (by omega)] at hv
    have hnorm : q = 0 → Norm o := fun h0 => norm_of_val hlo fun hne => by
      rw [h0, Nat.mul_zero, Nat.add_zero] at hv
      have h3 := val_pos hn (fun e => hne (List.eq_nil_of_length_eq_zero (by rw [ho, e]; rfl)))
      have h4 : val l ≤ val l * by_ := Nat.le_mul_of_pos_right _ hb0
      rw [ho]; omega
    try simp only [go_sem, Nat.reduceEqDiff, Nat.reduceAdd, Nat.reduceBEq, ↓reduceIte]
    refine ev_if (fun h3 => ?_) (fun h3 => ?_)
    · try simp only [go_sem, Nat.reduceEqDiff, Nat.reduceAdd, Nat.reduceBEq, ↓reduceIte]
      try simp (disch := omega) only [nA64, nS64, nM64, nC64, nA64l, nS64l, nM64l, nM64r, nR64l, nL64l, nAu64, nMu64, nMu64r, nSu64, nAu64l, nLu64l, nCu64, nCu32, nCu8, nAu32, nLu32l, nSu8l, toNat_cast]
      refine ev_bslO (k := .u32) (l := [q]) rfl rfl (by simp) hdj ?_
      intro g M2 hO2 hle2 hg2 hd2
      try simp only [go_sem, Nat.reduceEqDiff, Nat.reduceAdd, Nat.reduceBEq, ↓reduceIte]
      refine ev_appO (hO.le hle2) (m := [q]) (hO2.sl hd2) (by omega) rfl (by simp) (by simp; omega) (by simp; omega) hd2 ?_
      intro A' c' M' hO' hBut' _ hd'
      try simp only [go_sem, Nat.reduceEqDiff, Nat.reduceAdd, Nat.reduceBEq, ↓reduceIte]
      refine ⟨hd', A', o ++ [q], c', by simp, hO', norm_snoc hlo hq (by omega), ?_, fun b ob hb hne => hBut' b ob (hle2 b ob (hBut b ob hb hne)) hne⟩
      rw [val_append, ho]
      simp only [val, Nat.mul_zero, Nat.add_zero]
      exact hv
    · have h0 : q = 0 := by omega
      try simp only [go_sem, Nat.reduceEqDiff, Nat.reduceAdd, Nat.reduceBEq, ↓reduceIte]
      refine ⟨hdj, A, o, c, by rw [ho], hO, hnorm h0, ?_, hBut⟩
      rw [h0] at hv
      omega

end Go.Proofs.YtccdhgjfcgfgoaaGreat.X
set_option linter.unusedVariables false
set_option linter.unusedSimpArgs false
namespace Go.Proofs.YtccdhgjfcgfgoaaGreat.X
open Go Go.RowKit Go.Proofs

theorem NatO.zero (M : PH) : NatO M (.agg #[.slice none 0 0]) 0 := ⟨none, [], 0, rfl, Own.nil _ _ _, .nil, rfl⟩

theorem take_snoc_of (l : List Nat) (i : Nat) (h : i < l.length) : l.take (i + 1) = l.take i ++ [l.getD i 0] := take_succ' l i h

theorem parse_own (H : PH) (t : ByteArray) : Fn Tryz.prog 104 [.string t] H PH.no fun v H' M' => PH.disj H' M' ∧ ∃ v', v = .tuple #[v', .int .i64 (if decOk (bs t) then 0 else 2)] ∧ NatO M' v' (if decOk (bs t) then dv (bs t) else 0) := by
  have hsz := bs_length t
  have bad : decOk (bs t) = false → ∀ H' M' : PH, PH.disj H' M' → PH.disj H' M' ∧ ∃ v', (Value.tuple #[.agg #[.slice none 0 0], .int .i64 2]) = .tuple #[v', .int .i64 (if decOk (bs t) then 0 else 2)] ∧ NatO M' v' (if decOk (bs t) then dv (bs t) else 0) := by
    intro h H' M' hd
    rw [h]
    exact ⟨hd, _, rfl, NatO.zero _⟩
  refine of_nat_Parse (by simp) ?_
  try simp only [go_sem, Nat.reduceEqDiff, Nat.reduceAdd, Nat.reduceBEq, ↓reduceIte, p_nat_Parse]
  refine ev_if (fun h => ?_) (fun h => ?_)
  · try simp only [go_sem, Nat.reduceEqDiff, Nat.reduceAdd, Nat.reduceBEq, ↓reduceIte]
    exact bad (by rw [h]; rfl) _ _ (PH.disj_no _)
  · try simp only [go_sem, Nat.reduceEqDiff, Nat.reduceAdd, Nat.reduceBEq, ↓reduceIte]
    have hne : t.size ≠ 0 := fun h0 => h (by apply bs_inj; rw [List.eq_nil_of_length_eq_zero (by omega : (bs t).length = 0)]; rfl)
    refine ev_if (fun h2 => ?_) (fun h2 => ?_)
    · try simp only [go_sem, Nat.reduceEqDiff, Nat.reduceAdd, Nat.reduceBEq, ↓reduceIte]
      exact bad (by unfold decOk; rw [decide_eq_false (show ¬ (bs t).length ≤ 4000 by omega)]; simp) _ _ (PH.disj_no _)
    · try simp only [go_sem, Nat.reduceEqDiff, Nat.reduceAdd, Nat.reduceBEq, ↓reduceIte]
      refine ev_ix (by omega) (by omega) ?_
      try simp only [go_sem, Nat.reduceEqDiff, Nat.reduceAdd, Nat.reduceBEq, ↓reduceIte]
      have hb0 := bs_getD t 0
      refine ev_if (fun h3 => ?_) (fun h3 => ?_)
      · try simp only [go_sem, Nat.reduceEqDiff, Nat.reduceAdd, Nat.reduceBEq, ↓reduceIte]
        refine ev_if (fun h4 => ?_) (fun h4 => ?_)
        · try simp only [go_sem, Nat.reduceEqDiff, Nat.reduceAdd, Nat.reduceBEq, ↓reduceIte]
          refine bad ?_ _ _ (PH.disj_no _)
          have e1 : (bs t).getD 0 0 = 48 := by rw [← hb0]; rw [show (0 : Int).toNat = 0 from rfl] at h3; omega
          unfold decOk
          rw [e1, decide_eq_false (show ¬ (bs t).length ≤ 1 by omega)]
          simp
        · have hz : ((bs t).getD 0 0 != 48 || decide ((bs t).length ≤ 1)) = true := by rw [decide_eq_true (show (bs t).length ≤ 1 by omega)]; simp
          try simp only [go_sem, Nat.reduceEqDiff, Nat.reduceAdd, Nat.reduceBEq, ↓reduceIte]
          refine ev_loop (fun n s => ∃ i A l c H1 M1, i ≤ t.size ∧ n = t.size - i ∧ Own .u32 130 M1 A l c ∧ Norm l ∧ val l = dv ((bs t).take i) ∧ (∀ d ∈ (bs t).take i, isDig d = true) ∧ PH.disj H1 M1 ∧
            s = ⟨[(26, .v (.int .i64 (i : Nat))), (25, .v (.int .i64 (t.size : Nat))), (4, .v (.slice A l.length c)), (2, .ptr 2 0), (0, .v (.string t))], [(2, [.slice none 0 0])], H1, M1⟩)
            t.size _ ⟨0, none, [], 0, H, PH.no, by omega, by omega, Own.nil _ _ _, .nil, rfl, by simp, PH.disj_no _, rfl⟩ sub_of ?_
          rintro n s ⟨i, A, l, c, H1, M1, hi, rfl, hO, hn, hv, hdig, hd, rfl⟩
          try simp only [go_sem, Nat.reduceEqDiff, Nat.reduceAdd, Nat.reduceBEq, ↓reduceIte]
          refine ev_if (fun h2 => ?_) (fun h2 => ?_)
          · have hb := bs_getD t i
            have hlt : i < (bs t).length := by omega
            have hmem : (bs t).getD i 0 ∈ bs t := by rw [List.getD, List.getElem?_eq_getElem hlt]; exact List.getElem_mem hlt
            have hblt : bAt t i < 256 := by rw [hb]; exact bs_lt t _ hmem
            have nd : ¬ (48 ≤ bAt t i ∧ bAt t i ≤ 57) → decOk (bs t) = false := fun h => by
              have : (bs t).all isDig = false := by
                rw [List.all_eq_false]
                refine ⟨_, hmem, ?_⟩
                rw [← hb]
                unfold isDig
                simp only [Bool.and_eq_true, decide_eq_true_eq]
                exact h
              unfold decOk
              rw [this]; simp
            have htk := take_snoc_of (bs t) i hlt
            rw [← hb] at htk
            generalize hbb : bAt t i = b at *
            try simp only [go_sem, Nat.reduceEqDiff, Nat.reduceAdd, Nat.reduceBEq, ↓reduceIte]
            refine ev_ix (by omega) (by omega) ?_
            try simp only [go_sem, Nat.reduceEqDiff, Nat.reduceAdd, Nat.reduceBEq, ↓reduceIte]
            rw [toNat_cast, hbb]
            refine ev_if (fun h3 => ?_) (fun h3 => ?_)
            · try simp only [go_sem, Nat.reduceEqDiff, Nat.reduceAdd, Nat.reduceBEq, ↓reduceIte]
              exact bad (nd (by omega)) _ _ hd
            · try simp only [go_sem, Nat.reduceEqDiff, Nat.reduceAdd, Nat.reduceBEq, ↓reduceIte]
              refine ev_ix (by omega) (by omega) ?_
              try simp only [go_sem, Nat.reduceEqDiff, Nat.reduceAdd, Nat.reduceBEq, ↓reduceIte]
              rw [toNat_cast, hbb]
              refine ev_if (fun h4 => ?_) (fun h4 => ?_)
              · try simp only [go_sem, Nat.reduceEqDiff, Nat.reduceAdd, Nat.reduceBEq, ↓reduceIte]
                exact bad (nd (by omega)) _ _ hd
              · try simp only [go_sem, Nat.reduceEqDiff, Nat.reduceAdd, Nat.reduceBEq, ↓reduceIte]
                refine ev_ix (by omega) (by omega) ?_
                try simp only [go_sem, Nat.reduceEqDiff, Nat.reduceAdd, Nat.reduceBEq, ↓reduceIte]
                rw [toNat_cast, hbb]
                try simp (disch := omega) only [nA64, nS64, nM64, nC64, nA64l, nS64l, nM64l, nM64r, nR64l, nL64l, nAu64, nMu64, nMu64r, nSu64, nAu64l, nLu64l, nCu64, nCu32, nCu8, nAu32, nLu32l, nSu8l, toNat_cast]
                have hll : l.length ≤ 1000000 := by
                  have h5 := len_le_bl hn
                  rw [hv] at h5
                  have h6 := bl_dv (l := (bs t).take i) fun d hd => by have := hdig d hd; simp [isDig] at this; omega
                  rw [List.length_take] at h6
                  omega
                refine ev_callM (grow_ok H1 M1 A l c 10 (b - 48) hO hn (by omega) (by decide) (by decide) (by omega) hd) ?_
                rintro v H2 M2 hle ⟨hd2, A', l', c', rfl, hO2, hn2, hv2, _⟩ _
                try simp only [go_sem, Nat.reduceEqDiff, Nat.reduceAdd, Nat.reduceBEq, ↓reduceIte]
                refine k_next (t.size - (i + 1)) _ (by omega) ⟨i + 1, A', l', c', H2, M2, by omega, rfl, hO2, hn2, ?_, ?_, hd2, rfl⟩ sub_of
                · rw [hv2, hv, htk, dv_snoc]
                · rw [htk]
                  intro d hd
                  rcases List.mem_append.1 hd with hd | hd
                  · exact hdig d hd
                  · rw [List.mem_singleton.1 hd]
                    simp [isDig]; omega
          · have hil : i = t.size := by omega
            subst hil
            rw [List.take_of_length_le (by omega)] at hv hdig
            have hok : decOk (bs t) = true := by
              unfold decOk
              rw [hz, decide_eq_true (show (bs t).length ≤ 4000 by omega), List.all_eq_true.2 hdig]
              cases hq : bs t with
              | nil => rw [hq] at hsz; simp only [List.length_nil] at hsz; omega
              | cons _ _ => rfl
            try simp only [go_sem, Nat.reduceEqDiff, Nat.reduceAdd, Nat.reduceBEq, ↓reduceIte]
            rw [hok]
            exact ⟨hd, _, rfl, A, l, c, rfl, hO, hn, hv⟩
      · have hz : ((bs t).getD 0 0 != 48 || decide ((bs t).length ≤ 1)) = true := by
          have : (bs t).getD 0 0 ≠ 48 := by
            rw [← hb0]
            intro e
            apply h3
            rw [show (0 : Int).toNat = 0 from rfl, e]; rfl
          rw [bne_iff_ne.2 this, Bool.true_or]
        try simp only [go_sem, Nat.reduceEqDiff, Nat.reduceAdd, Nat.reduceBEq, ↓reduceIte]
        refine ev_loop (fun n s => ∃ i A l c H1 M1, i ≤ t.size ∧ n = t.size - i ∧ Own .u32 130 M1 A l c ∧ Norm l ∧ val l = dv ((bs t).take i) ∧ (∀ d ∈ (bs t).take i, isDig d = true) ∧ PH.disj H1 M1 ∧
          s = ⟨[(26, .v (.int .i64 (i : Nat))), (25, .v (.int .i64 (t.size : Nat))), (4, .v (.slice A l.length c)), (2, .ptr 2 0), (0, .v (.string t))], [(2, [.slice none 0 0])], H1, M1⟩)
          t.size _ ⟨0, none, [], 0, H, PH.no, by omega, by omega, Own.nil _ _ _, .nil, rfl, by simp, PH.disj_no _, rfl⟩ sub_of ?_
        rintro n s ⟨i, A, l, c, H1, M1, hi, rfl, hO, hn, hv, hdig, hd, rfl⟩
        try simp only [go_sem, Nat.reduceEqDiff, Nat.reduceAdd, Nat.reduceBEq, ↓reduceIte]
        refine ev_if (fun h2 => ?_) (fun h2 => ?_)
        · have hb := bs_getD t i
          have hlt : i < (bs t).length := by omega
          have hmem : (bs t).getD i 0 ∈ bs t := by rw [List.getD, List.getElem?_eq_getElem hlt]; exact List.getElem_mem hlt
          have hblt : bAt t i < 256 := by rw [hb]; exact bs_lt t _ hmem
          have nd : ¬ (48 ≤ bAt t i ∧ bAt t i ≤ 57) → decOk (bs t) = false := fun h => by
            have : (bs t).all isDig = false := by
              rw [List.all_eq_false]
              refine ⟨_, hmem, ?_⟩
              rw [← hb]
              unfold isDig
              simp only [Bool.and_eq_true, decide_eq_true_eq]
              exact h
            unfold decOk
            rw [this]; simp
          have htk := take_snoc_of (bs t) i hlt
          rw [← hb] at htk
          generalize hbb : bAt t i = b at *
          try simp only [go_sem, Nat.reduceEqDiff, Nat.reduceAdd, Nat.reduceBEq, ↓reduceIte]
          refine ev_ix (by omega) (by omega) ?_
          try simp only [go_sem, Nat.reduceEqDiff, Nat.reduceAdd, Nat.reduceBEq, ↓reduceIte]
          rw [toNat_cast, hbb]
          refine ev_if (fun h3 => ?_) (fun h3 => ?_)
          · try simp only [go_sem, Nat.reduceEqDiff, Nat.reduceAdd, Nat.reduceBEq, ↓reduceIte]
            exact bad (nd (by omega)) _ _ hd
          · try simp only [go_sem, Nat.reduceEqDiff, Nat.reduceAdd, Nat.reduceBEq, ↓reduceIte]
            refine ev_ix (by omega) (by omega) ?_
            try simp only [go_sem, Nat.reduceEqDiff, Nat.reduceAdd, Nat.reduceBEq, ↓reduceIte]
            rw [toNat_cast, hbb]
            refine ev_if (fun h4 => ?_) (fun h4 => ?_)
            · try simp only [go_sem, Nat.reduceEqDiff, Nat.reduceAdd, Nat.reduceBEq, ↓reduceIte]
              exact bad (nd (by omega)) _ _ hd
            · try simp only [go_sem, Nat.reduceEqDiff, Nat.reduceAdd, Nat.reduceBEq, ↓reduceIte]
              refine ev_ix (by omega) (by omega) ?_
              try simp only [go_sem, Nat.reduceEqDiff, Nat.reduceAdd, Nat.reduceBEq, ↓reduceIte]
              rw [toNat_cast, hbb]
              try simp (disch := omega) only [nA64, nS64, nM64, nC64, nA64l, nS64l, nM64l, nM64r, nR64l, nL64l, nAu64, nMu64, nMu64r, nSu64, nAu64l, nLu64l, nCu64, nCu32, nCu8, nAu32, nLu32l, nSu8l, toNat_cast]
              have hll : l.length ≤ 1000000 := by
                have h5 := len_le_bl hn
                rw [hv] at h5
                have h6 := bl_dv (l := (bs t).take i) fun d hd => by have := hdig d hd; simp [isDig] at this; omega
                rw [List.length_take] at h6
                omega
              refine ev_callM (grow_ok H1 M1 A l c 10 (b - 48) hO hn (by omega) (by decide) (by decide) (by omega) hd) ?_
              rintro v H2 M2 hle ⟨hd2, A', l', c', rfl, hO2, hn2, hv2, _⟩ _
              try simp only [go_sem, Nat.reduceEqDiff, Nat.reduceAdd, Nat.reduceBEq, ↓reduceIte]
              refine k_next (t.size - (i + 1)) _ (by omega) ⟨i + 1, A', l', c', H2, M2, by omega, rfl, hO2, hn2, ?_, ?_, hd2, rfl⟩ sub_of
              · rw [hv2, hv, htk, dv_snoc]
              · rw [htk]
                intro d hd
                rcases List.mem_append.1 hd with hd | hd
                · exact hdig d hd
                · rw [List.mem_singleton.1 hd]
                  simp [isDig]; omega
        · have hil : i = t.size := by omega
          subst hil
          rw [List.take_of_length_le (by omega)] at hv hdig
          have hok : decOk (bs t) = true := by
            unfold decOk
            rw [hz, decide_eq_true (show (bs t).length ≤ 4000 by omega), List.all_eq_true.2 hdig]
            cases hq : bs t with
            | nil => rw [hq] at hsz; simp only [List.length_nil] at hsz; omega
            | cons _ _ => rfl
          try simp only [go_sem, Nat.reduceEqDiff, Nat.reduceAdd, Nat.reduceBEq, ↓reduceIte]
          rw [hok]
          exact ⟨hd, _, rfl, A, l, c, rfl, hO, hn, hv⟩

theorem parse_ok (H : PH) (t : ByteArray) : FnP Tryz.prog 104 [.string t] H fun v H' => ∃ v', v = .tuple #[v', .int .i64 (if decOk (bs t) then 0 else 2)] ∧ NatV H' v' (if decOk (bs t) then dv (bs t) else 0) :=
  Fn.release ((parse_own H t).mono fun v H' M' hl hd hR hd' => by
    obtain ⟨_, v', h1, h2⟩ := hR
    exact ⟨v', h1, h2.nat hd'⟩)

end Go.Proofs.YtccdhgjfcgfgoaaGreat.X
set_option linter.unusedVariables false
set_option linter.unusedSimpArgs false
namespace Go.Proofs.YtccdhgjfcgfgoaaGreat.X
open Go Go.RowKit Go.Proofs

theorem ev_b2sO {d : Nat} {X : XT} {fr : List (Nat × SV)} {lh : List (Nat × List Value)} {H M : PH} {K : St → Prop} {T : TypeId} {A : Option Addr} {l : List Nat} {n c : Nat} (hO : Own .u8 T M A l c) (hn : n = l.length) (hl : ∀ d ∈ l, d < 256)
    (k1 : X ⟨(d, .v (.string (ofB l))) :: fr, lh, H, M⟩ K) : EvB2s A n d X ⟨fr, lh, H, M⟩ K := by
  subst hn
  refine ⟨l.map UInt8.ofNat, by simp, ?_, ?_⟩
  · rcases hO with ⟨h, _⟩ | ⟨g, rest, h1, h2, h3, _⟩
    · exact .inl h
    · refine .inr ⟨g, 0, _, T, (0, 0), h1, .inr h2, ?_⟩
      rw [List.drop_zero, takeN_of _ _ (by simp [nums])]
      simp only [List.map_map]
      rw [List.take_append_of_le_length (by simp [nums]), List.take_of_length_le (by simp [nums])]
      congr 1
      apply List.map_congr_left
      intro d hd
      simp [Nat.mod_eq_of_lt (hl d hd)]
  · have : (if A.isNone = true then #[] else (l.map UInt8.ofNat).toArray) = (l.map UInt8.ofNat).toArray := by
      rcases hO with ⟨h, h2, _⟩ | ⟨g, rest, h1, _⟩
      · rw [h, h2]; rfl
      · rw [h1]; rfl
    rw [this]
    exact k1

end Go.Proofs.YtccdhgjfcgfgoaaGreat.X
set_option linter.unusedVariables false
set_option linter.unusedSimpArgs false
namespace Go.Proofs.YtccdhgjfcgfgoaaGreat.X
open Go Go.RowKit Go.Proofs

/-- the form of a number, and that it is one -/
theorem NatV.form {H : PH} {v : Value} {x : Nat} (h : NatV H v x) : ∃ A l c, v = .agg #[.slice A l c] := by
  obtain ⟨A, l, c, rfl, _⟩ := h
  exact ⟨A, l.length, c, rfl⟩

theorem getD_set {l : List Nat} {i j x : Nat} (hi : i < l.length) : (l.set i x).getD j 0 = if j = i then x else l.getD j 0 := by
  simp only [List.getD]
  split
  · rename_i h; subst h; simp [hi]
  · rename_i h; rw [List.getElem?_set_ne (fun e => h e.symm)]
theorem ext_getD {a b : List Nat} (hl : a.length = b.length) (h : ∀ j, j < a.length → a.getD j 0 = b.getD j 0) : a = b := by
  apply List.ext_getElem hl
  intro j h1 h2
  have := h j h1
  simpa [List.getD, h1, h2] using this
theorem rev_getD {l : List Nat} {j : Nat} (h : j < l.length) : l.reverse.getD j 0 = l.getD (l.length - 1 - j) 0 := by
  simp only [List.getD]
  rw [List.getElem?_reverse h]

/-- slices.Reverse of bytes of one's own -/
theorem reverse_ok (H M : PH) (T : TypeId) (A : Option Addr) (l : List Nat) (c : Nat) (hO : Own .u8 T M A l c) (hl : l.length ≤ 1000000000000) (hd : PH.disj H M) :
    Fn Tryz.prog 110 [.slice A l.length c] H M fun v H' M' => v = .tuple #[] ∧ H' = H ∧ PH.disj H' M' ∧ Own .u8 T M' A l.reverse c ∧ But M M' A := by
  refine of_slices_Reverse_byte_byte (by simp) ?_
  try simp only [go_sem, Nat.reduceEqDiff, Nat.reduceAdd, Nat.reduceBEq, ↓reduceIte, p_slices_Reverse_byte_byte]
  refine ev_loop (fun n s => ∃ (i : Nat) (k : Int) (o : List Nat) (M1 : PH), i ≤ l.length ∧ k = (l.length : Int) - 1 - i ∧ n = l.length - i ∧ o.length = l.length ∧ (l.length = 0 ∨ 2 * i ≤ l.length) ∧
      (∀ j, j < l.length → o.getD j 0 = if j < i ∨ l.length - 1 - j < i then l.getD (l.length - 1 - j) 0 else l.getD j 0) ∧ Own .u8 T M1 A o c ∧ PH.disj H M1 ∧ But M M1 A ∧
    s = ⟨[(3, .v (.int .i64 k)), (2, .v (.int .i64 (i : Nat))), (0, .v (.slice A l.length c))], [], H, M1⟩)
    l.length _ ⟨0, (l.length : Int) - 1, l, M, by omega, by simp, by omega, rfl, by omega, fun j hj => by simp, hO, hd, But.refl _ _, rfl⟩ sub_of ?_
  clear hO hd
  rintro n s ⟨i, k, o, M1, hi, rfl, rfl, ho, h2i, hv, hO, hd, hB, rfl⟩
  try simp only [go_sem, Nat.reduceEqDiff, Nat.reduceAdd, Nat.reduceBEq, ↓reduceIte]
  refine ev_if (fun h2 => ?_) (fun h2 => ?_)
  · obtain ⟨g, rfl⟩ := hO.base (by have := hO.le_cap; omega)
    have e : (l.length : Int) - 1 - i = ((l.length - 1 - i : Nat) : Int) := by omega
    rw [e]
    obtain ⟨q, hq⟩ : ∃ q, l.length - 1 - i = q := ⟨_, rfl⟩
    rw [hq]
    try simp only [go_sem, Nat.reduceEqDiff, Nat.reduceAdd, Nat.reduceBEq, ↓reduceIte]
    refine ev_iaN q rfl (by omega) rfl ?_
    try simp only [go_sem, Nat.reduceEqDiff, Nat.reduceAdd, Nat.reduceBEq, ↓reduceIte]
    refine ev_ldO hO (by omega) ?_
    try simp only [go_sem, Nat.reduceEqDiff, Nat.reduceAdd, Nat.reduceBEq, ↓reduceIte]
    refine ev_iaN i rfl (by omega) rfl ?_
    try simp only [go_sem, Nat.reduceEqDiff, Nat.reduceAdd, Nat.reduceBEq, ↓reduceIte]
    refine ev_ldO hO (by omega) ?_
    try simp only [go_sem, Nat.reduceEqDiff, Nat.reduceAdd, Nat.reduceBEq, ↓reduceIte]
    refine ev_iaN i rfl (by omega) rfl ?_
    try simp only [go_sem, Nat.reduceEqDiff, Nat.reduceAdd, Nat.reduceBEq, ↓reduceIte]
    refine ev_stO hO (by omega) ?_
    intro M2 hO2 hB2 hd2
    try simp only [go_sem, Nat.reduceEqDiff, Nat.reduceAdd, Nat.reduceBEq, ↓reduceIte]
    refine ev_iaN q rfl (by omega) rfl ?_
    try simp only [go_sem, Nat.reduceEqDiff, Nat.reduceAdd, Nat.reduceBEq, ↓reduceIte]
    refine ev_stO hO2 (by simp; omega) ?_
    intro M3 hO3 hB3 hd3
    try simp only [go_sem, Nat.reduceEqDiff, Nat.reduceAdd, Nat.reduceBEq, ↓reduceIte]
    try simp (disch := omega) only [nA64, nS64, nM64, nC64, nA64l, nS64l, nM64l, nM64r, nR64l, nL64l, nAu64, nMu64, nMu64r, nSu64, nAu64l, nLu64l, nCu64, nCu32, nCu8, nAu32, nLu32l, nSu8l, toNat_cast]
    refine k_next (l.length - (i + 1)) _ (by omega) ⟨i + 1, _, _, M3, by omega, rfl, rfl, by simp; omega, by omega, fun j hj => ?_, hO3, hd3 _ (hd2 _ hd), (hB.trans hB2).trans hB3, rfl⟩ sub_of
    rw [getD_set (by simp; omega), getD_set (by omega), hv i (by omega), hv q (by omega), hv j hj]
    by_cases hj1 : j = q
    · subst hj1
      rw [if_pos rfl, if_neg (by omega), if_pos (by omega)]
      congr 1; omega
    · rw [if_neg hj1]
      by_cases hj2 : j = i
      · subst hj2
        rw [if_pos rfl, if_neg (by omega), if_pos (by omega)]
        congr 1; omega
      · rw [if_neg hj2]
        by_cases hj3 : j < i ∨ l.length - 1 - j < i
        · rw [if_pos hj3, if_pos (by omega)]
        · rw [if_neg hj3, if_neg (by omega)]
  · try simp only [go_sem, Nat.reduceEqDiff, Nat.reduceAdd, Nat.reduceBEq, ↓reduceIte]
    refine ⟨by trivial, by trivial, hd, ?_, hB⟩
    have : o = l.reverse := by
      refine ext_getD (by simp [ho]) fun j hj => ?_
      rw [hv j (by omega), rev_getD (by omega)]
      by_cases hj3 : j < i ∨ l.length - 1 - j < i
      · rw [if_pos hj3]
      · rw [if_neg hj3]; congr 1; omega
    rw [← this]
    exact hO

theorem digit_char {r : Nat} : IntKind.u8.wrap (IntKind.u32.wrap (48 + ((r % 10 : Nat) : Int))) = ((48 + r % 10 : Nat) : Int) := by
  rw [wu32n (48 + r % 10) (by omega) (by omega), wu8n (48 + r % 10) rfl (by omega)]

theorem chunk_bound {x k : Nat} (h : x / 10 ^ (9 * k) ≠ 0) : 9 * k < bl x := by
  rw [lt_bl_iff]
  have h1 : 10 ^ (9 * k) ≤ x := (Nat.div_pos_iff.1 (Nat.pos_of_ne_zero h)).2
  exact Nat.le_trans (Nat.pow_le_pow_left (by decide) _) h1

theorem nd_eq_zero {x : Nat} (h : nd x = 0) : x = 0 := by
  rcases Nat.eq_zero_or_pos x with h0 | h0
  · exact h0
  · rw [nd_pos (by omega)] at h; omega

set_option maxHeartbeats 1000000 in
theorem text_ok (H : PH) (v : Value) (x : Nat) (hN : NatV H v x) (hb : bl x ≤ 4294967296) : FnP Tryz.prog 69 [v] H fun v _ => v = .string (ofB (txt x)) := by
  obtain ⟨A0, l0, c0, rfl, hc, hS, hn, rfl⟩ := hN
  have hlen := len_le_bl hn
  refine Fn.release (of_nat_Nat_Text (by simp) ?_)
  try simp only [go_sem, Nat.reduceEqDiff, Nat.reduceAdd, Nat.reduceBEq, ↓reduceIte, p_nat_Nat_Text]
  refine ev_callM (clone_own H A0 l0 c0 hS (by omega) hc) ?_
  rintro v H1 M1 _ ⟨hd1, A, c, rfl, hO⟩ _
  obtain ⟨x, hx⟩ : ∃ x, val l0 = x := ⟨_, rfl⟩
  rw [hx] at hb hlen ⊢
  have hvx : val l0 = x / 10 ^ (9 * 0) := by simp [hx]
  try simp only [go_sem, Nat.reduceEqDiff, Nat.reduceAdd, Nat.reduceBEq, ↓reduceIte]
  have h00 : ds (9 * 0) x = [] := rfl
  clear hS hc
  refine ev_loop (fun n s => ∃ k A l c B o e H1 M1, n = x / 10 ^ (9 * k) ∧ val l = x / 10 ^ (9 * k) ∧ Norm l ∧ l.length ≤ l0.length ∧ o = ds (9 * k) x ∧ (k = 0 ∨ 9 * k < bl x + 9) ∧ Own .u32 130 M1 A l c ∧ Own .u8 5 M1 B o e ∧ (B = none ∨ B ≠ A) ∧ PH.disj H1 M1 ∧
    s = ⟨[(4, .v (.slice B o.length e)), (3, .v (.slice A l.length c))], [], H1, M1⟩)
    _ _ ⟨0, A, l0, c, none, [], 0, H1, M1, rfl, hvx, hn, Nat.le_refl _, h00.symm, .inl rfl, hO, Own.nil _ _ _, .inl rfl, hd1, rfl⟩ sub_of ?_
  clear hO hd1 hvx h00 hn
  rintro n s ⟨k, A, l, c, B, o, e, H1, M1, rfl, hv, hn, hll, ho, hk, hO, hP, hne, hd, rfl⟩
  try simp only [go_sem, Nat.reduceEqDiff, Nat.reduceAdd, Nat.reduceBEq, ↓reduceIte]
  refine ev_if (fun h2 => ?_) (fun h2 => ?_)
  · have hl0 : l ≠ [] := fun h => by rw [h] at h2; simp at h2
    have hvl : x / 10 ^ (9 * k) ≠ 0 := by rw [← hv]; exact fun h => hl0 ((val_eq_zero hn).1 h)
    have hk9 := chunk_bound hvl
    try simp only [go_sem, Nat.reduceEqDiff, Nat.reduceAdd, Nat.reduceBEq, ↓reduceIte]
    refine ev_callM (short_ok H1 130 M1 A l c 1000000000 hO hn.1 hl0 (by omega) (by decide) (by decide)) ?_
    rintro v H2 M2 _ ⟨l2, rfl, rfl, hl2, hlim2, hv2, hO2, hB2⟩ hd2
    replace hP := hP.but hB2 hne
    have hr : ds 9 (val l % 1000000000) = ds 9 (x / 10 ^ (9 * k)) := by
      rw [hv, show (1000000000 : Nat) = 10 ^ 9 from rfl]
      unfold ds
      congr 1
      refine ext_getD (by simp [dg_length]) fun j hj => ?_
      rw [dg_length] at hj
      rw [dg_getD _ _ _ _ hj, dg_getD _ _ _ _ hj]
      generalize x / 10 ^ (9 * k) = y
      have : (10 : Nat) ^ 9 = 10 ^ j * 10 ^ (9 - j) := by rw [← Nat.pow_add]; congr 1; omega
      rw [this, Nat.mod_mul_right_div_self, Nat.mod_mod_of_dvd]
      exact Nat.dvd_trans (Nat.dvd_refl 10) (by rw [show 9 - j = (8 - j) + 1 by omega, Nat.pow_succ]; exact Nat.dvd_mul_left _ _)
    have hrlt : val l % 1000000000 < 1000000000 := Nat.mod_lt _ (by decide)
    generalize val l % 1000000000 = r0 at *
    try simp only [go_sem, Nat.reduceEqDiff, Nat.reduceAdd, Nat.reduceBEq, ↓reduceIte]
    refine ev_loop (fun n s => ∃ i B o2 e M2, i ≤ 9 ∧ n = 9 - i ∧ o2 = o ++ ds i r0 ∧ Own .u32 130 M2 A l2 c ∧ Own .u8 5 M2 B o2 e ∧ (B = none ∨ B ≠ A) ∧ PH.disj H2 M2 ∧
      s = ⟨[(14, .v (.int .i64 (i : Nat))), (5, .v (.int .u32 (r0 / 10 ^ i : Nat))), (4, .v (.slice B o2.length e)), (3, .v (.slice A l2.length c))], [], H2, M2⟩)
      9 _ ⟨0, B, o, e, M2, by omega, rfl, by simp [ds, dg], hO2, hP, hne, hd2, rfl⟩ ⟨rfl, ?_, by simp only [go_sem, Nat.reduceEqDiff, Nat.reduceAdd, Nat.reduceBEq, ↓reduceIte, and_self, Option.some.injEq, SV.v.injEq, SV.ptr.injEq, Value.int.injEq, Value.bool.injEq, Value.slice.injEq, true_and, and_true], .inl ⟨rfl, PH.le.refl _⟩⟩ ?_
    · simp only [go_sem, Nat.reduceEqDiff, Nat.reduceAdd, Nat.reduceBEq, ↓reduceIte, and_self, Option.some.injEq, SV.v.injEq, SV.ptr.injEq, Value.int.injEq, Value.bool.injEq, Value.slice.injEq, true_and, and_true]
      simp [hl2]
    clear hO2 hP hne hd2 hB2 hO hd
    rintro n s ⟨i, B, o2, e, M2, hi, rfl, ho2, hO2, hP, hne, hd, rfl⟩
    have hol : o2.length = 9 * k + i := by rw [ho2, ho, List.length_append, ds_length, ds_length]
    try simp only [go_sem, Nat.reduceEqDiff, Nat.reduceAdd, Nat.reduceBEq, ↓reduceIte]
    refine ev_if (fun h3 => ?_) (fun h3 => ?_)
    · try simp only [go_sem, Nat.reduceEqDiff, Nat.reduceAdd, Nat.reduceBEq, ↓reduceIte]
      have hri : r0 / 10 ^ i ≤ r0 := Nat.div_le_self _ _
      have hr1 : r0 / 10 ^ (i + 1) = r0 / 10 ^ i / 10 := by rw [Nat.pow_succ, Nat.div_div_eq_div_mul]
      have hds : ds (i + 1) r0 = ds i r0 ++ [48 + r0 / 10 ^ i % 10] := ds_snoc i r0
      generalize r0 / 10 ^ i = r at *
      refine rem_nat (a := r) (m := 10) rfl (by decide) ?_
      try simp only [go_sem, Nat.reduceEqDiff, Nat.reduceAdd, Nat.reduceBEq, ↓reduceIte]
      rw [digit_char]
      refine ev_bslO (k := .u8) (l := [48 + r % 10]) rfl rfl (by simp) hd ?_
      intro g M3 hO3 hle3 hg3 hd3
      try simp only [go_sem, Nat.reduceEqDiff, Nat.reduceAdd, Nat.reduceBEq, ↓reduceIte]
      refine ev_appO (hP.le hle3) (m := [48 + r % 10]) (hO3.sl hd3) rfl rfl (by simp) (by simp; omega) (by simp; omega) hd3 ?_
      intro B' e' M4 hO4 hB4 hne4 hd4
      try simp only [go_sem, Nat.reduceEqDiff, Nat.reduceAdd, Nat.reduceBEq, ↓reduceIte]
      refine quo_nat (a := r) (m := 10) rfl (by decide) (nCu32 (by omega)) ?_
      try simp only [go_sem, Nat.reduceEqDiff, Nat.reduceAdd, Nat.reduceBEq, ↓reduceIte]
      try simp (disch := omega) only [nA64, nS64, nM64, nC64, nA64l, nS64l, nM64l, nM64r, nR64l, nL64l, nAu64, nMu64, nMu64r, nSu64, nAu64l, nLu64l, nCu64, nCu32, nCu8, nAu32, nLu32l, nSu8l, toNat_cast]
      have hA : A = none ∨ A ≠ B := by
        rcases hne with h | h
        · rcases hO2 with ⟨h', _⟩ | ⟨g', _, h', _⟩
          · exact .inl h'
          · right; rw [h', h]; exact fun e => by cases e
        · exact .inr (Ne.symm h)
      have hO2' := (hO2.le hle3).but hB4 hA
      refine k_next (9 - (i + 1)) _ (by omega) ⟨i + 1, B', _, e', M4, by omega, rfl, ?_, hO2', hO4, ?_, hd4, rfl⟩ ⟨rfl, ?_, by simp only [go_sem, Nat.reduceEqDiff, Nat.reduceAdd, Nat.reduceBEq, ↓reduceIte, and_self, Option.some.injEq, SV.v.injEq, SV.ptr.injEq, Value.int.injEq, Value.bool.injEq, Value.slice.injEq, true_and, and_true], .inl ⟨rfl, PH.le.refl _⟩⟩
      · rw [ho2, hds, List.append_assoc]
      · rcases hne4 with h | h
        · rw [h]; exact hne
        · rcases hO2 with ⟨h', _⟩ | ⟨g', rest', h', h'', _⟩
          · by_cases hB' : B' = none
            · exact .inl hB'
            · right; rw [h']; exact hB'
          · right; rw [h']; exact h g' _ (hle3 _ _ h'')
      · simp only [go_sem, Nat.reduceEqDiff, Nat.reduceAdd, Nat.reduceBEq, ↓reduceIte, and_self, Option.some.injEq, SV.v.injEq, SV.ptr.injEq, Value.int.injEq, Value.bool.injEq, Value.slice.injEq, true_and, and_true]
        simp [hr1]
    · have hi9 : i = 9 := by omega
      subst hi9
      have hlen2 := hO2.le_cap
      try simp only [go_sem, Nat.reduceEqDiff, Nat.reduceAdd, Nat.reduceBEq, ↓reduceIte]
      refine ev_callB (cut_ok _ A l2 l2.length c rfl hlen2 (hO2.sl hd) hlim2 (by omega)) ?_
      rintro v H3 hle3 ⟨m, hm, rfl, hN3, hv3⟩ hd3
      try simp only [go_sem, Nat.reduceEqDiff, Nat.reduceAdd, Nat.reduceBEq, ↓reduceIte]
      have e1 : x / 10 ^ (9 * (k + 1)) = x / 10 ^ (9 * k) / 1000000000 := by
        rw [Nat.div_div_eq_div_mul, show (1000000000 : Nat) = 10 ^ 9 from rfl, ← Nat.pow_add]; rfl
      refine k_next (x / 10 ^ (9 * (k + 1))) _ ?_ ⟨k + 1, A, l2.take m, c, B, o2, e, H3, M2, rfl, ?_, hN3, ?_, ?_, .inr (by omega), hO2.take m, hP, hne, hd3, rfl⟩ ⟨rfl, ?_, by simp only [go_sem, Nat.reduceEqDiff, Nat.reduceAdd, Nat.reduceBEq, ↓reduceIte, and_self, Option.some.injEq, SV.v.injEq, SV.ptr.injEq, Value.int.injEq, Value.bool.injEq, Value.slice.injEq, true_and, and_true], .inl ⟨rfl, PH.le.refl _⟩⟩
      · rw [e1]; omega
      · rw [hv3, hv2, e1, hv]
      · rw [List.length_take]; omega
      · rw [ho2, ho, hr, show 9 * (k + 1) = 9 * k + 9 by omega, ds_add]
      · simp only [go_sem, Nat.reduceEqDiff, Nat.reduceAdd, Nat.reduceBEq, ↓reduceIte, and_self, Option.some.injEq, SV.v.injEq, SV.ptr.injEq, Value.int.injEq, Value.bool.injEq, Value.slice.injEq, true_and, and_true]
        rw [List.length_take, Nat.min_eq_left hm]
  · have hl0 : l = [] := List.eq_nil_of_length_eq_zero (by omega)
    have hlt : x < 10 ^ (9 * k) := by
      rw [hl0] at hv
      exact (Nat.div_eq_zero_iff.1 hv.symm).resolve_left (Nat.ne_of_gt (Nat.pow_pos (by decide)))
    have hol : o.length = 9 * k := by rw [ho, ds_length]
    try simp only [go_sem, Nat.reduceEqDiff, Nat.reduceAdd, Nat.reduceBEq, ↓reduceIte]
    refine ev_loop (fun n s => n ≤ 9 * k ∧ (∀ i, n ≤ i → i < 9 * k → o.getD i 0 = 48) ∧ s = ⟨[(4, .v (.slice B n e))], [], H1, M1⟩)
      (9 * k) _ ⟨Nat.le_refl _, fun i h1 h2 => by omega, rfl⟩ ⟨rfl, ?_, by simp only [go_sem, Nat.reduceEqDiff, Nat.reduceAdd, Nat.reduceBEq, ↓reduceIte, and_self, Option.some.injEq, SV.v.injEq, SV.ptr.injEq, Value.int.injEq, Value.bool.injEq, Value.slice.injEq, true_and, and_true], .inl ⟨rfl, PH.le.refl _⟩⟩ ?_
    · simp only [go_sem, Nat.reduceEqDiff, Nat.reduceAdd, Nat.reduceBEq, ↓reduceIte, and_self, Option.some.injEq, SV.v.injEq, SV.ptr.injEq, Value.int.injEq, Value.bool.injEq, Value.slice.injEq, true_and, and_true]
      rw [hol]
    rintro m s ⟨hm, hz, rfl⟩
    have fin : (m = 0 ∨ o.getD (m - 1) 0 ≠ 48) → m = nd x ∧ o.take m = ds (nd x) x := by
      rw [ho]; rw [ho] at hz
      exact fun ht => ds_strip hlt hm hz ht
    try simp only [go_sem, Nat.reduceEqDiff, Nat.reduceAdd, Nat.reduceBEq, ↓reduceIte]
    refine ev_if (fun h3 => ?_) (fun h3 => ?_)
    · have hcap := hP.le_cap
      obtain ⟨g, rfl⟩ := hP.base (by omega)
      try simp only [go_sem, Nat.reduceEqDiff, Nat.reduceAdd, Nat.reduceBEq, ↓reduceIte]
      try simp (disch := omega) only [nA64, nS64, nM64, nC64, nA64l, nS64l, nM64l, nM64r, nR64l, nL64l, nAu64, nMu64, nMu64r, nSu64, nAu64l, nLu64l, nCu64, nCu32, nCu8, nAu32, nLu32l, nSu8l, toNat_cast]
      refine ev_iaN (m - 1) rfl (by omega) rfl ?_
      try simp only [go_sem, Nat.reduceEqDiff, Nat.reduceAdd, Nat.reduceBEq, ↓reduceIte]
      refine ev_ldO hP (by omega) ?_
      try simp only [go_sem, Nat.reduceEqDiff, Nat.reduceAdd, Nat.reduceBEq, ↓reduceIte]
      refine ev_if (fun h4 => ?_) (fun h4 => ?_)
      · try simp only [go_sem, Nat.reduceEqDiff, Nat.reduceAdd, Nat.reduceBEq, ↓reduceIte]
        try simp (disch := omega) only [nA64, nS64, nM64, nC64, nA64l, nS64l, nM64l, nM64r, nR64l, nL64l, nAu64, nMu64, nMu64r, nSu64, nAu64l, nLu64l, nCu64, nCu32, nCu8, nAu32, nLu32l, nSu8l, toNat_cast]
        refine ev_slhN (m - 1) rfl (by omega) ?_
        try simp only [go_sem, Nat.reduceEqDiff, Nat.reduceAdd, Nat.reduceBEq, ↓reduceIte]
        refine k_next (m - 1) _ (by omega) ⟨by omega, fun i h5 h6 => ?_, rfl⟩ sub_of
        by_cases h7 : i = m - 1
        · rw [h7]; omega
        · exact hz i (by omega) h6
      · obtain ⟨f1, f2⟩ := fin (.inr (by omega))
        try simp only [go_sem, Nat.reduceEqDiff, Nat.reduceAdd, Nat.reduceBEq, ↓reduceIte]
        refine ev_if (fun h5 => ?_) (fun h5 => ?_)
        · try simp only [go_sem, Nat.reduceEqDiff, Nat.reduceAdd, Nat.reduceBEq, ↓reduceIte]
          intro _
          rw [show x = 0 from nd_eq_zero (by omega)]
          rfl
        · try simp only [go_sem, Nat.reduceEqDiff, Nat.reduceAdd, Nat.reduceBEq, ↓reduceIte]
          have hm' : m = (o.take m).length := by rw [List.length_take]; omega
          have hrev := reverse_ok H1 M1 5 _ (o.take m) e (hP.take m) (by rw [← hm']; omega) hd
          rw [← hm'] at hrev
          refine ev_callM hrev ?_
          rintro v H3 M3 _ ⟨rfl, rfl, _, hO3, _⟩ hd3
          try simp only [go_sem, Nat.reduceEqDiff, Nat.reduceAdd, Nat.reduceBEq, ↓reduceIte]
          have hxt : (o.take m).reverse = txt x := by
            unfold txt
            rw [if_neg, f2]
            intro h0
            rw [h0, nd_zero] at f1
            omega
          refine ev_b2sO hO3 (by rw [List.length_reverse]; exact hm') (by rw [hxt]; exact txt_lt x) ?_
          try simp only [go_sem, Nat.reduceEqDiff, Nat.reduceAdd, Nat.reduceBEq, ↓reduceIte]
          intro _
          rw [hxt]
    · obtain ⟨f1, f2⟩ := fin (.inl (by omega))
      try simp only [go_sem, Nat.reduceEqDiff, Nat.reduceAdd, Nat.reduceBEq, ↓reduceIte]
      refine ev_if (fun h5 => ?_) (fun h5 => ?_)
      · try simp only [go_sem, Nat.reduceEqDiff, Nat.reduceAdd, Nat.reduceBEq, ↓reduceIte]
        intro _
        rw [show x = 0 from nd_eq_zero (by omega)]
        rfl
      · try simp only [go_sem, Nat.reduceEqDiff, Nat.reduceAdd, Nat.reduceBEq, ↓reduceIte]
        have hm' : m = (o.take m).length := by rw [List.length_take]; omega
        have hrev := reverse_ok H1 M1 5 _ (o.take m) e (hP.take m) (by rw [← hm']; omega) hd
        rw [← hm'] at hrev
        refine ev_callM hrev ?_
        rintro v H3 M3 _ ⟨rfl, rfl, _, hO3, _⟩ hd3
        try simp only [go_sem, Nat.reduceEqDiff, Nat.reduceAdd, Nat.reduceBEq, ↓reduceIte]
        have hxt : (o.take m).reverse = txt x := by
          unfold txt
          rw [if_neg, f2]
          intro h0
          rw [h0, nd_zero] at f1
          omega
        refine ev_b2sO hO3 (by rw [List.length_reverse]; exact hm') (by rw [hxt]; exact txt_lt x) ?_
        try simp only [go_sem, Nat.reduceEqDiff, Nat.reduceAdd, Nat.reduceBEq, ↓reduceIte]
        intro _
        rw [hxt]

end Go.Proofs.YtccdhgjfcgfgoaaGreat.X
