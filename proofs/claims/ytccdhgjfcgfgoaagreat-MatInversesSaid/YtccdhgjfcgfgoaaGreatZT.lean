/- Package nat: guess and take. -/
import Derived.Test.YtccdhgjfcgfgoaaGreatZS
import Derived.Test.YtccdhgjfcgfgoaaGreatZY
set_option linter.unusedVariables false
set_option linter.unusedSimpArgs false
namespace Go.Proofs.YtccdhgjfcgfgoaaGreat.X
open Go Go.RowKit Go.Proofs

section
variable {X : XT} {K : St → Prop} {d : Nat}
/-- an element of a slice of one's own, wherever the slice begins -/
theorem ev_ldOk {fr : List (Nat × SV)} {lh : List (Nat × List Value)} {H M : PH} {k : IntKind} {T : TypeId} {l : List Nat} {c b p : Nat} (i : Nat) (hp : p = i) (hO : Own k T M (some ⟨b, 0, none⟩) l c) (hi : i < l.length) (k1 : X ⟨(d, .v (.int k (l.getD i 0 : Nat))) :: fr, lh, H, M⟩ K) :
    EvLd false 1 (.pointer (some ⟨b, p, none⟩)) d X ⟨fr, lh, H, M⟩ K := by
  subst hp
  have := ev_ldO (X := X) (K := K) (d := d) hO hi k1
  rwa [Nat.mul_one] at this
theorem ev_stOk {fr : List (Nat × SV)} {lh : List (Nat × List Value)} {H M : PH} {k : IntKind} {T : TypeId} {l : List Nat} {c b p x : Nat} (i : Nat) (hp : p = i) (hO : Own k T M (some ⟨b, 0, none⟩) l c) (hi : i < l.length)
    (k1 : ∀ M', Own k T M' (some ⟨b, 0, none⟩) (l.set i x) c → But M M' (some ⟨b, 0, none⟩) → (∀ H : PH, PH.disj H M → PH.disj H M') → X ⟨fr, lh, H, M'⟩ K) :
    EvSt 1 (.pointer (some ⟨b, p, none⟩)) (.int k (x : Int)) X ⟨fr, lh, H, M⟩ K := by
  subst hp
  have := ev_stO (X := X) (K := K) (H := H) (lh := lh) (fr := fr) (x := x) hO hi k1
  rwa [Nat.mul_one] at this
end

theorem guess_ok (H : PH) (A B : Option Addr) (w m : List Nat) (c1 c2 n : Nat) (hA : Sl .u32 H A w) (hB : Sl .u32 H B m) (hw : w.length = n + 1) (hm : m.length = n) (hn : 2 ≤ n) (hn2 : n ≤ 1000000000) (hlw : Lim w) (hlm : Lim m) (htop : 2147483648 ≤ m.getD (n - 1) 0) (hlt : val w < val m * 4294967296) :
    FnP Tryz.prog 131 [.slice A (n + 1) c1, .slice B n c2] H fun v _ => ∃ g : Nat, v = .int .u64 (g : Nat) ∧ g < 4294967296 ∧ val w / val m ≤ g ∧ g ≤ val w / val m + 1 := by
  obtain ⟨b, off, rfl⟩ := hA.base (by omega)
  obtain ⟨b2, off2, rfl⟩ := hB.base (by omega)
  have hW := val_top3 w n hw hn
  have hV := val_top2 m n hm hn
  have hwl := val_lt (hlw.take (n - 2))
  have hvl := val_lt (hlm.take (n - 2))
  rw [List.length_take, Nat.min_eq_left (by omega)] at hwl hvl
  have x1 := hlw.getD n
  have x2 := hlw.getD (n - 1)
  have x3 := hlw.getD (n - 2)
  have y1 := hlm.getD (n - 1)
  have y2 := hlm.getD (n - 2)
  have haf : w.getD n 0 ≤ m.getD (n - 1) 0 := by
    have h1 := val_ge w n
    have h2 := val_lt (hlm.take (n - 1))
    rw [List.length_take, Nat.min_eq_left (by omega)] at h2
    have h3 := val_take_succ m (n - 1) (by omega)
    rw [show n - 1 + 1 = n by omega, List.take_of_length_le (by omega)] at h3
    have e1 : (4294967296 : Nat) ^ n = 4294967296 ^ (n - 1) * 4294967296 := by rw [← Nat.pow_succ]; congr 1; omega
    have h4 : 4294967296 ^ n * w.getD n 0 < 4294967296 ^ n * (m.getD (n - 1) 0 + 1) := by
      refine Nat.lt_of_le_of_lt h1 (Nat.lt_of_lt_of_le hlt ?_)
      rw [e1, Nat.mul_right_comm]
      refine Nat.mul_le_mul_right _ ?_
      rw [h3, Nat.mul_add]; omega
    exact Nat.le_of_lt_succ (Nat.lt_of_mul_lt_mul_left h4)
  have hV0 : 0 < val m := by
    rw [hV]
    have : 0 < 4294967296 ^ (n - 2) := Nat.pow_pos (by decide)
    exact Nat.lt_of_lt_of_le (Nat.mul_pos (by omega) this) (Nat.le_add_right _ _)
  have hP : (0 : Nat) < 4294967296 ^ (n - 2) := Nat.pow_pos (by decide)
  generalize hwn : w.getD n 0 = a at *
  generalize hwn1 : w.getD (n - 1) 0 = b1 at *
  generalize hwn2 : w.getD (n - 2) 0 = c0 at *
  generalize hmn1 : m.getD (n - 1) 0 = f at *
  generalize hmn2 : m.getD (n - 2) 0 = s0 at *
  generalize val (w.take (n - 2)) = wl at *
  generalize val (m.take (n - 2)) = vl at *
  generalize 4294967296 ^ (n - 2) = P at *
  have hinit := guess_init hW hwl hV (by omega) x3
  have hhi := fun g r h h2 => guess_hi (g := g) (r := r) hW hwl hV h h2
  have hlo := fun g r h h2 h3 => guess_lo (g := g) (r := r) hW hV hvl h h2 h3 (by omega) hV0
  have hqB : val w / val m < 4294967296 := by rw [Nat.div_lt_iff_lt_mul hV0, Nat.mul_comm]; exact hlt
  clear hW hV hlt hwl hvl hlw hlm
  generalize val w / val m = qd at *
  refine of_nat_guess (by simp) ?_
  try simp only [go_sem, Nat.reduceEqDiff, Nat.reduceAdd, Nat.reduceBEq, ↓reduceIte, p_nat_guess]
  refine ev_iaN n rfl (by omega) rfl ?_
  try simp only [go_sem, Nat.reduceEqDiff, Nat.reduceAdd, Nat.reduceBEq, ↓reduceIte]
  refine ev_ldS hA rfl (by omega) ?_
  rw [hwn]
  try simp only [go_sem, Nat.reduceEqDiff, Nat.reduceAdd, Nat.reduceBEq, ↓reduceIte]
  try simp (disch := omega) only [nA64, nS64, nM64, nC64, nA64l, nS64l, nM64l, nM64r, nR64l, nL64l, nAu64, nMu64, nMu64r, nSu64, nAu64l, nLu64l, nCu64, nCu32, nCu8, nAu32, nLu32l, nSu8l, toNat_cast]
  refine shl_nat (n := 32) (y := a * 2 ^ 32) rfl (by decide) (wu64n _ rfl (by omega)) ?_
  try simp only [go_sem, Nat.reduceEqDiff, Nat.reduceAdd, Nat.reduceBEq, ↓reduceIte]
  try simp (disch := omega) only [nA64, nS64, nM64, nC64, nA64l, nS64l, nM64l, nM64r, nR64l, nL64l, nAu64, nMu64, nMu64r, nSu64, nAu64l, nLu64l, nCu64, nCu32, nCu8, nAu32, nLu32l, nSu8l, toNat_cast]
  refine ev_iaN (n - 1) rfl (by omega) rfl ?_
  try simp only [go_sem, Nat.reduceEqDiff, Nat.reduceAdd, Nat.reduceBEq, ↓reduceIte]
  refine ev_ldS hA rfl (by omega) ?_
  rw [hwn1]
  try simp only [go_sem, Nat.reduceEqDiff, Nat.reduceAdd, Nat.reduceBEq, ↓reduceIte]
  try simp (disch := omega) only [nA64, nS64, nM64, nC64, nA64l, nS64l, nM64l, nM64r, nR64l, nL64l, nAu64, nMu64, nMu64r, nSu64, nAu64l, nLu64l, nCu64, nCu32, nCu8, nAu32, nLu32l, nSu8l, toNat_cast]
  rw [or64 (by omega) (by omega), Nat.or_comm, or_add _ _ _ x2, Nat.add_comm b1, show (2 : Nat) ^ 32 = 4294967296 from rfl]
  refine ev_iaN (n - 1) rfl (by omega) rfl ?_
  try simp only [go_sem, Nat.reduceEqDiff, Nat.reduceAdd, Nat.reduceBEq, ↓reduceIte]
  refine ev_ldS hB rfl (by omega) ?_
  rw [hmn1]
  try simp only [go_sem, Nat.reduceEqDiff, Nat.reduceAdd, Nat.reduceBEq, ↓reduceIte]
  try simp (disch := omega) only [nA64, nS64, nM64, nC64, nA64l, nS64l, nM64l, nM64r, nR64l, nL64l, nAu64, nMu64, nMu64r, nSu64, nAu64l, nLu64l, nCu64, nCu32, nCu8, nAu32, nLu32l, nSu8l, toNat_cast]
  have htop2 : a * 4294967296 + b1 < (f + 1) * 4294967296 := by omega
  generalize htt : a * 4294967296 + b1 = top at *
  refine quo_nat (a := top) (m := f) rfl (by omega) (nCu64 (Nat.le_trans (Nat.div_le_self _ _) (by omega))) ?_
  try simp only [go_sem, Nat.reduceEqDiff, Nat.reduceAdd, Nat.reduceBEq, ↓reduceIte]
  refine rem_nat (a := top) (m := f) rfl (by omega) ?_
  try simp only [go_sem, Nat.reduceEqDiff, Nat.reduceAdd, Nat.reduceBEq, ↓reduceIte]
  have hdm := Nat.div_add_mod top f
  have hml := Nat.mod_lt top (show 0 < f by omega)
  refine ev_loop (fun n' s => ∃ g r : Nat, n' = g ∧ g * f + r = top ∧ qd ≤ g ∧ r < 4294967296 + f ∧ g ≤ 18446744073709551615 ∧ s = ⟨[(9, .v (.int .u64 (r : Nat))), (8, .v (.int .u64 (g : Nat))), (7, .v (.int .u64 (f : Nat))), (5, .v (.int .i64 (n : Nat))), (1, .v (.slice (some ⟨b2, off2, none⟩) n c2)), (0, .v (.slice (some ⟨b, off, none⟩) (n + 1) c1))], [], H, PH.no⟩)
    _ _ ⟨top / f, top % f, rfl, by rw [Nat.mul_comm]; exact hdm, hinit, by omega, Nat.le_trans (Nat.div_le_self _ _) (by omega), rfl⟩ sub_of ?_
  rintro g s ⟨_, r, rfl, hgr, hq, hr, hg64, rfl⟩
  try simp only [go_sem, Nat.reduceEqDiff, Nat.reduceAdd, Nat.reduceBEq, ↓reduceIte]
  refine ev_if (fun h1 => ?_) (fun h1 => ?_)
  · try simp only [go_sem, Nat.reduceEqDiff, Nat.reduceAdd, Nat.reduceBEq, ↓reduceIte]
    refine ev_if (fun h2 => ?_) (fun h2 => ?_)
    · have hqg : qd < g := by omega
      try simp only [go_sem, Nat.reduceEqDiff, Nat.reduceAdd, Nat.reduceBEq, ↓reduceIte]
      have hg1 : 1 ≤ g := by omega
      have hfr : (g - 1) * f + (r + f) = top := by
        have : (g - 1) * f + f = g * f := by rw [← Nat.succ_mul]; congr 1; omega
        omega
      try simp (disch := omega) only [nA64, nS64, nM64, nC64, nA64l, nS64l, nM64l, nM64r, nR64l, nL64l, nAu64, nMu64, nMu64r, nSu64, nAu64l, nLu64l, nCu64, nCu32, nCu8, nAu32, nLu32l, nSu8l, toNat_cast]
      refine k_next (g - 1) _ (by omega) ⟨g - 1, r + f, rfl, hfr, by omega, by omega, by omega, rfl⟩ sub_of
    · have hgB : g < 4294967296 := by omega
      try simp only [go_sem, Nat.reduceEqDiff, Nat.reduceAdd, Nat.reduceBEq, ↓reduceIte]
      try simp (disch := omega) only [nA64, nS64, nM64, nC64, nA64l, nS64l, nM64l, nM64r, nR64l, nL64l, nAu64, nMu64, nMu64r, nSu64, nAu64l, nLu64l, nCu64, nCu32, nCu8, nAu32, nLu32l, nSu8l, toNat_cast]
      refine ev_iaN (n - 2) rfl (by omega) rfl ?_
      try simp only [go_sem, Nat.reduceEqDiff, Nat.reduceAdd, Nat.reduceBEq, ↓reduceIte]
      refine ev_ldS hB rfl (by omega) ?_
      rw [hmn2]
      try simp only [go_sem, Nat.reduceEqDiff, Nat.reduceAdd, Nat.reduceBEq, ↓reduceIte]
      try simp (disch := omega) only [nA64, nS64, nM64, nC64, nA64l, nS64l, nM64l, nM64r, nR64l, nL64l, nAu64, nMu64, nMu64r, nSu64, nAu64l, nLu64l, nCu64, nCu32, nCu8, nAu32, nLu32l, nSu8l, toNat_cast]
      have hgs : g * s0 ≤ 4294967295 * 4294967295 := Nat.mul_le_mul (by omega) (by omega)
      rw [nMu64 (by omega)]
      refine shl_nat (n := 32) (y := r * 2 ^ 32) rfl (by decide) (wu64n _ rfl (by omega)) ?_
      try simp only [go_sem, Nat.reduceEqDiff, Nat.reduceAdd, Nat.reduceBEq, ↓reduceIte]
      try simp (disch := omega) only [nA64, nS64, nM64, nC64, nA64l, nS64l, nM64l, nM64r, nR64l, nL64l, nAu64, nMu64, nMu64r, nSu64, nAu64l, nLu64l, nCu64, nCu32, nCu8, nAu32, nLu32l, nSu8l, toNat_cast]
      refine ev_iaN (n - 2) rfl (by omega) rfl ?_
      try simp only [go_sem, Nat.reduceEqDiff, Nat.reduceAdd, Nat.reduceBEq, ↓reduceIte]
      refine ev_ldS hA rfl (by omega) ?_
      rw [hwn2]
      try simp only [go_sem, Nat.reduceEqDiff, Nat.reduceAdd, Nat.reduceBEq, ↓reduceIte]
      try simp (disch := omega) only [nA64, nS64, nM64, nC64, nA64l, nS64l, nM64l, nM64r, nR64l, nL64l, nAu64, nMu64, nMu64r, nSu64, nAu64l, nLu64l, nCu64, nCu32, nCu8, nAu32, nLu32l, nSu8l, toNat_cast]
      rw [or64 (by omega) (by omega), Nat.or_comm, or_add _ _ _ x3, Nat.add_comm c0, show (2 : Nat) ^ 32 = 4294967296 from rfl]
      refine ev_if (fun h3 => ?_) (fun h3 => ?_)
      · have hqg : qd < g := hhi g r hgr (by omega)
        try simp only [go_sem, Nat.reduceEqDiff, Nat.reduceAdd, Nat.reduceBEq, ↓reduceIte]
        have hg1 : 1 ≤ g := by omega
        have hfr : (g - 1) * f + (r + f) = top := by
          have : (g - 1) * f + f = g * f := by rw [← Nat.succ_mul]; congr 1; omega
          omega
        try simp (disch := omega) only [nA64, nS64, nM64, nC64, nA64l, nS64l, nM64l, nM64r, nR64l, nL64l, nAu64, nMu64, nMu64r, nSu64, nAu64l, nLu64l, nCu64, nCu32, nCu8, nAu32, nLu32l, nSu8l, toNat_cast]
        refine k_next (g - 1) _ (by omega) ⟨g - 1, r + f, rfl, hfr, by omega, by omega, by omega, rfl⟩ sub_of
      · have hle : g * s0 ≤ r * 4294967296 + c0 := by omega
        try simp only [go_sem, Nat.reduceEqDiff, Nat.reduceAdd, Nat.reduceBEq, ↓reduceIte]
        exact ⟨by trivial, g, rfl, hgB, hq, hlo g r hgr hle hgB⟩
  · have hgB : g < 4294967296 := by
      rcases Nat.lt_or_ge g 4294967296 with h | h
      · exact h
      · have := Nat.mul_le_mul_right f h
        omega
    have hle : g * s0 ≤ r * 4294967296 + c0 := by
      have hgs : g * s0 ≤ 4294967295 * 4294967295 := Nat.mul_le_mul (by omega) (by omega)
      omega
    try simp only [go_sem, Nat.reduceEqDiff, Nat.reduceAdd, Nat.reduceBEq, ↓reduceIte]
    exact ⟨by trivial, g, rfl, hgB, hq, hlo g r hgr hle hgB⟩

theorem take_bound {c g x : Nat} (hc : c < 4294967296) (hg : g < 4294967296) (hx : x < 4294967296) : g * x ≤ 18446744065119617025 ∧ c + g * x ≤ 18446744069414584320 := by
  have : g * x ≤ 4294967295 * 4294967295 := Nat.mul_le_mul (by omega) (by omega)
  omega

set_option maxHeartbeats 1000000 in
theorem take_ok (H M : PH) (g0 : Nat) (o : List Nat) (c j c1 : Nat) (B : Option Addr) (m : List Nat) (c2 n g : Nat) (hO : Own .u32 130 M (some ⟨g0, 0, none⟩) o c) (hB : Sl .u32 H B m) (hm : m.length = n) (hn : 1 ≤ n) (hj : j + n + 1 ≤ o.length) (hol : o.length ≤ 1000000000) (hlo : Lim o) (hlm : Lim m) (hg : g < 4294967296) (hd : PH.disj H M) :
    Fn Tryz.prog 132 [.slice (some ⟨g0, j, none⟩) (n + 1) c1, .slice B n c2, .int .u64 (g : Nat)] H M fun v H' M' => H' = H ∧ PH.disj H' M' ∧ ∃ (p : List Nat) (bor : Nat), v = .bool (decide (bor = 1)) ∧ bor ≤ 1 ∧ p.length = o.length ∧ Lim p ∧ p.take j = o.take j ∧ p.drop (j + (n + 1)) = o.drop (j + (n + 1)) ∧
      val ((o.drop j).take (n + 1)) + 4294967296 ^ (n + 1) * bor = val ((p.drop j).take (n + 1)) + g * val m ∧ Own .u32 130 M' (some ⟨g0, 0, none⟩) p c ∧ But M M' (some ⟨g0, 0, none⟩) := by
  obtain ⟨b2, off2, rfl⟩ := hB.base (by omega)
  refine of_nat_take (by simp) ?_
  try simp only [go_sem, Nat.reduceEqDiff, Nat.reduceAdd, Nat.reduceBEq, ↓reduceIte, p_nat_take]
  have hsl := seg_length o j (n + 1) (by omega)
  refine ev_loop (fun n' s => ∃ (i q low : Nat) (p : List Nat) (M1 : PH), i ≤ n ∧ n' = n - i ∧ q < 4294967296 ∧ low ≤ 1 ∧ p.length = o.length ∧ Lim p ∧ p.take j = o.take j ∧ p.drop (j + (n + 1)) = o.drop (j + (n + 1)) ∧
      val (((o.drop j).take (n + 1)).take i) + 4294967296 ^ i * (low + q) = val (((p.drop j).take (n + 1)).take i) + g * val (m.take i) ∧ (∀ k, i ≤ k → p.getD (j + k) 0 = o.getD (j + k) 0) ∧ Own .u32 130 M1 (some ⟨g0, 0, none⟩) p c ∧ PH.disj H M1 ∧ But M M1 (some ⟨g0, 0, none⟩) ∧
      s = ⟨[(13, .v (.int .i64 (i : Nat))), (12, .v (.int .i64 (n : Nat))), (11, .v (.slice (some ⟨b2, off2, none⟩) n c2)), (8, .v (.int .u64 (low : Nat))), (7, .v (.int .u64 (q : Nat))), (2, .v (.int .u64 (g : Nat))), (1, .v (.slice (some ⟨b2, off2, none⟩) n c2)), (0, .v (.slice (some ⟨g0, j, none⟩) (n + 1) c1))], [], H, M1⟩)
    n _ ⟨0, 0, 0, o, M, by omega, by omega, by omega, by omega, rfl, hlo, rfl, rfl, by simp [val], fun k _ => rfl, hO, hd, But.refl _ _, rfl⟩ sub_of ?_
  clear hO hd
  rintro n' s ⟨i, q, low, p, M1, hi, rfl, hq, hlow, hp, hlp, ht, hdr, hv, he, hO, hd, hBut, rfl⟩
  have hpl := seg_length p j (n + 1) (by omega)
  try simp only [go_sem, Nat.reduceEqDiff, Nat.reduceAdd, Nat.reduceBEq, ↓reduceIte]
  refine ev_if (fun h2 => ?_) (fun h2 => ?_)
  · have hx := hlm.getD i
    have hy := hlp.getD (j + i)
    have hey := he i (Nat.le_refl _)
    have em := val_take_succ m i (by omega)
    have eo := val_take_succ ((o.drop j).take (n + 1)) i (by omega)
    rw [seg_getD o j (n + 1) i (by omega)] at eo
    try simp only [go_sem, Nat.reduceEqDiff, Nat.reduceAdd, Nat.reduceBEq, ↓reduceIte]
    refine ev_iaN i rfl (by omega) rfl ?_
    try simp only [go_sem, Nat.reduceEqDiff, Nat.reduceAdd, Nat.reduceBEq, ↓reduceIte]
    refine ev_ldS hB rfl (by omega) ?_
    try simp only [go_sem, Nat.reduceEqDiff, Nat.reduceAdd, Nat.reduceBEq, ↓reduceIte]
    try simp (disch := omega) only [nA64, nS64, nM64, nC64, nA64l, nS64l, nM64l, nM64r, nR64l, nL64l, nAu64, nMu64, nMu64r, nSu64, nAu64l, nLu64l, nCu64, nCu32, nCu8, nAu32, nLu32l, nSu8l, toNat_cast]
    obtain ⟨hb1, hb2⟩ := take_bound hq hg hx
    rw [nMu64 (by omega), nAu64 (by omega)]
    generalize hw : q + g * m.getD i 0 = w at *
    refine ev_iaN i rfl (by omega) rfl ?_
    try simp only [go_sem, Nat.reduceEqDiff, Nat.reduceAdd, Nat.reduceBEq, ↓reduceIte]
    rw [Nat.mul_one]
    refine ev_ldOk (j + i) rfl hO (by omega) ?_
    try simp only [go_sem, Nat.reduceEqDiff, Nat.reduceAdd, Nat.reduceBEq, ↓reduceIte]
    try simp (disch := omega) only [nA64, nS64, nM64, nC64, nA64l, nS64l, nM64l, nM64r, nR64l, nL64l, nAu64, nMu64, nMu64r, nSu64, nAu64l, nLu64l, nCu64, nCu32, nCu8, nAu32, nLu32l, nSu8l, toNat_cast]
    rw [and_lo (by omega), sub_wrap1 hlow hy, sub_wrap2 hlow hy (Nat.mod_lt _ (by decide))]
    have z : (18446744073709551616 + p.getD (j + i) 0 - low - w % 4294967296) % 18446744073709551616 / 2 ^ 63 ≤ 1 ∧ p.getD (j + i) 0 + 4294967296 * ((18446744073709551616 + p.getD (j + i) 0 - low - w % 4294967296) % 18446744073709551616 / 2 ^ 63) = (18446744073709551616 + p.getD (j + i) 0 - low - w % 4294967296) % 18446744073709551616 % 4294967296 + low + w % 4294967296 := by omega
    generalize (18446744073709551616 + p.getD (j + i) 0 - low - w % 4294967296) % 18446744073709551616 = y at *
    obtain ⟨z1, z2⟩ := z
    refine ev_iaN i rfl (by omega) rfl ?_
    try simp only [go_sem, Nat.reduceEqDiff, Nat.reduceAdd, Nat.reduceBEq, ↓reduceIte]
    rw [u32mod, Nat.mul_one]
    refine ev_stOk (j + i) rfl hO (by omega) ?_
    intro M' hO' hB' hd'
    try simp only [go_sem, Nat.reduceEqDiff, Nat.reduceAdd, Nat.reduceBEq, ↓reduceIte]
    refine shr_nat (n := 63) rfl (by decide) ?_
    try simp only [go_sem, Nat.reduceEqDiff, Nat.reduceAdd, Nat.reduceBEq, ↓reduceIte]
    refine shr_nat (n := 32) rfl (by decide) ?_
    try simp only [go_sem, Nat.reduceEqDiff, Nat.reduceAdd, Nat.reduceBEq, ↓reduceIte]
    try simp (disch := omega) only [nA64, nS64, nM64, nC64, nA64l, nS64l, nM64l, nM64r, nR64l, nL64l, nAu64, nMu64, nMu64r, nSu64, nAu64l, nLu64l, nCu64, nCu32, nCu8, nAu32, nLu32l, nSu8l, toNat_cast]
    refine k_next (n - (i + 1)) _ (by omega) ⟨i + 1, w / 4294967296, y / 2 ^ 63, _, M', by omega, rfl, by omega, z1, by simp; omega, hlp.set (by omega), ?_, ?_, ?_, fun k hk => ?_, hO', hd' _ hd, hBut.trans hB', rfl⟩ sub_of
    · rw [List.take_set_of_le (by omega)]; exact ht
    · rw [List.drop_set_of_lt (by omega)]; exact hdr
    · rw [seg_set _ _ _ _ _ (by omega), val_take_set _ i _ (by omega), eo, em, Nat.mul_add g, ← Nat.mul_assoc g]
      have e1 : 4294967296 ^ (i + 1) * (y / 2 ^ 63 + w / 4294967296) = 4294967296 ^ i * (4294967296 * (y / 2 ^ 63)) + 4294967296 ^ i * (4294967296 * (w / 4294967296)) := by rw [Nat.pow_succ, Nat.mul_assoc, Nat.mul_add, Nat.mul_add]
      have e2 : 4294967296 ^ i * (p.getD (j + i) 0 + 4294967296 * (y / 2 ^ 63)) = 4294967296 ^ i * (y % 4294967296 + low + w % 4294967296) := by rw [z2]
      have e3 : 4294967296 ^ i * (q + g * m.getD i 0) = 4294967296 ^ i * (w % 4294967296 + 4294967296 * (w / 4294967296)) := by rw [hw]; congr 1; omega
      have e4 : g * 4294967296 ^ i * m.getD i 0 = 4294967296 ^ i * (g * m.getD i 0) := by rw [Nat.mul_comm g, Nat.mul_assoc]
      rw [e1, e4, ← hey]
      rw [Nat.mul_add] at hv
      simp only [Nat.mul_add] at e2 e3
      omega
    · rw [getD_set (by omega), if_neg (by omega)]
      exact he k (by omega)
  · have hin : i = n := by omega
    subst hin
    have hy := hlp.getD (j + i)
    have hey := he i (Nat.le_refl _)
    have eo := val_take_succ ((o.drop j).take (i + 1)) i (by omega)
    rw [seg_getD o j (i + 1) i (by omega), List.take_of_length_le (by omega)] at eo
    rw [show m.take i = m from List.take_of_length_le (by omega)] at hv
    try simp only [go_sem, Nat.reduceEqDiff, Nat.reduceAdd, Nat.reduceBEq, ↓reduceIte]
    refine ev_iaN i rfl (by omega) rfl ?_
    try simp only [go_sem, Nat.reduceEqDiff, Nat.reduceAdd, Nat.reduceBEq, ↓reduceIte]
    rw [Nat.mul_one]
    refine ev_ldOk (j + i) rfl hO (by omega) ?_
    try simp only [go_sem, Nat.reduceEqDiff, Nat.reduceAdd, Nat.reduceBEq, ↓reduceIte]
    try simp (disch := omega) only [nA64, nS64, nM64, nC64, nA64l, nS64l, nM64l, nM64r, nR64l, nL64l, nAu64, nMu64, nMu64r, nSu64, nAu64l, nLu64l, nCu64, nCu32, nCu8, nAu32, nLu32l, nSu8l, toNat_cast]
    rw [sub_wrap1 hlow hy, sub_wrap2 hlow hy hq]
    have z : (18446744073709551616 + p.getD (j + i) 0 - low - q) % 18446744073709551616 / 2 ^ 63 ≤ 1 ∧ p.getD (j + i) 0 + 4294967296 * ((18446744073709551616 + p.getD (j + i) 0 - low - q) % 18446744073709551616 / 2 ^ 63) = (18446744073709551616 + p.getD (j + i) 0 - low - q) % 18446744073709551616 % 4294967296 + low + q := by omega
    generalize (18446744073709551616 + p.getD (j + i) 0 - low - q) % 18446744073709551616 = y at *
    obtain ⟨z1, z2⟩ := z
    refine ev_iaN i rfl (by omega) rfl ?_
    try simp only [go_sem, Nat.reduceEqDiff, Nat.reduceAdd, Nat.reduceBEq, ↓reduceIte]
    rw [u32mod, Nat.mul_one]
    refine ev_stOk (j + i) rfl hO (by omega) ?_
    intro M' hO' hB' hd'
    try simp only [go_sem, Nat.reduceEqDiff, Nat.reduceAdd, Nat.reduceBEq, ↓reduceIte]
    refine shr_nat (n := 63) rfl (by decide) ?_
    try simp only [go_sem, Nat.reduceEqDiff, Nat.reduceAdd, Nat.reduceBEq, ↓reduceIte]
    have fin : ∃ (p' : List Nat) (bor : Nat), bor = y / 2 ^ 63 ∧ bor ≤ 1 ∧ p'.length = o.length ∧ Lim p' ∧ p'.take j = o.take j ∧ p'.drop (j + (i + 1)) = o.drop (j + (i + 1)) ∧
        val ((o.drop j).take (i + 1)) + 4294967296 ^ (i + 1) * bor = val ((p'.drop j).take (i + 1)) + g * val m ∧ Own .u32 130 M' (some ⟨g0, 0, none⟩) p' c := by
      refine ⟨_, _, rfl, z1, by simp; omega, hlp.set (by omega), ?_, ?_, ?_, hO'⟩
      · rw [List.take_set_of_le (by omega)]; exact ht
      · rw [List.drop_set_of_lt (by omega)]; exact hdr
      · have e0 := val_take_set ((p.drop j).take (i + 1)) i (y % 4294967296) (by omega)
        rw [List.take_of_length_le (by simp; omega)] at e0
        rw [seg_set _ _ _ _ _ (by omega), e0, eo, ← hey]
        have e1 : 4294967296 ^ (i + 1) * (y / 2 ^ 63) = 4294967296 ^ i * (4294967296 * (y / 2 ^ 63)) := by rw [Nat.pow_succ, Nat.mul_assoc]
        have e2 : 4294967296 ^ i * (p.getD (j + i) 0 + 4294967296 * (y / 2 ^ 63)) = 4294967296 ^ i * (y % 4294967296 + low + q) := by rw [z2]
        rw [e1]
        rw [Nat.mul_add] at hv
        simp only [Nat.mul_add] at e2
        omega
    obtain ⟨p', bor, hbor, f2, f3, f4, f5, f6, f7, f8⟩ := fin
    rw [← hbor]
    refine ev_if (fun h3 => ?_) (fun h3 => ?_)
    · try simp only [go_sem, Nat.reduceEqDiff, Nat.reduceAdd, Nat.reduceBEq, ↓reduceIte]
      exact ⟨by trivial, hd' _ hd, p', bor, by rw [decide_eq_true (by omega)], f2, f3, f4, f5, f6, f7, f8, hBut.trans hB'⟩
    · try simp only [go_sem, Nat.reduceEqDiff, Nat.reduceAdd, Nat.reduceBEq, ↓reduceIte]
      exact ⟨by trivial, hd' _ hd, p', bor, by rw [decide_eq_false (by omega)], f2, f3, f4, f5, f6, f7, f8, hBut.trans hB'⟩

end Go.Proofs.YtccdhgjfcgfgoaaGreat.X
set_option linter.unusedVariables false
set_option linter.unusedSimpArgs false
namespace Go.Proofs.YtccdhgjfcgfgoaaGreat.X
open Go Go.RowKit Go.Proofs

theorem Sl.seg {k : IntKind} {H : PH} {g : Nat} {o : List Nat} (h : Sl k H (some ⟨g, 0, none⟩) o) (j n : Nat) (hj : j < o.length) : Sl k H (some ⟨g, j, none⟩) ((o.drop j).take n) := by
  have := (h.drop j).take n
  rwa [Nat.zero_add] at this

set_option maxHeartbeats 2000000 in
theorem long_ok (H M : PH) (g0 : Nat) (o : List Nat) (c : Nat) (B : Option Addr) (m : List Nat) (c2 n : Nat) (hO : Own .u32 130 M (some ⟨g0, 0, none⟩) o c) (hB : Sl .u32 H B m) (hm : m.length = n) (hn : 2 ≤ n) (hol : n + 1 ≤ o.length) (hob : o.length ≤ 1000000000) (hlo : Lim o) (hlm : Lim m) (htop : 2147483648 ≤ m.getD (n - 1) 0) (hlt : val o < val m * 4294967296 ^ (o.length - n)) (hd : PH.disj H M) :
    Fn Tryz.prog 127 [.slice (some ⟨g0, 0, none⟩) o.length c, .slice B n c2] H M fun v H' M' => ∃ (q p : List Nat) (A : Option Addr) (cq : Nat), H.le H' ∧ PH.disj H' M' ∧ v = .slice A q.length cq ∧ q.length = o.length - n ∧ Lim q ∧ p.length = o.length ∧ Lim p ∧ val q = val o / val m ∧ val p = val o % val m ∧ Own .u32 130 M' A q cq ∧ Own .u32 130 M' (some ⟨g0, 0, none⟩) p c := by
  obtain ⟨b2, off2, rfl⟩ := hB.base (by omega)
  have hVlt := val_lt hlm
  rw [hm] at hVlt
  have hV0 : 0 < val m := by
    have := val_ge m (n - 1)
    exact Nat.lt_of_lt_of_le (Nat.mul_pos (Nat.pow_pos (by decide)) (by omega)) this
  have hcap := hO.le_cap
  refine of_nat_long (by simp) ?_
  try simp only [go_sem, Nat.reduceEqDiff, Nat.reduceAdd, Nat.reduceBEq, ↓reduceIte, p_nat_long]
  try simp (disch := omega) only [nA64, nS64, nM64, nC64, nA64l, nS64l, nM64l, nM64r, nR64l, nL64l, nAu64, nMu64, nMu64r, nSu64, nAu64l, nLu64l, nCu64, nCu32, nCu8, nAu32, nLu32l, nSu8l, toNat_cast]
  refine ev_mkO (by omega) (by omega) (by omega) hd ?_
  intro gq M1 hQ hle1 hgq hd1
  try simp only [go_sem, Nat.reduceEqDiff, Nat.reduceAdd, Nat.reduceBEq, ↓reduceIte]
  try simp (disch := omega) only [nA64, nS64, nM64, nC64, nA64l, nS64l, nM64l, nM64r, nR64l, nL64l, nAu64, nMu64, nMu64r, nSu64, nAu64l, nLu64l, nCu64, nCu32, nCu8, nAu32, nLu32l, nSu8l, toNat_cast]
  rw [toNat_cast] at hQ
  obtain ⟨N, hN⟩ : ∃ N, o.length - n = N := ⟨_, rfl⟩
  rw [hN] at hQ hlt ⊢
  have hne0 : gq ≠ g0 := by
    rintro rfl
    rcases hO with ⟨h, _⟩ | ⟨g, rest, h1, h2, _⟩
    · cases h
    · injection h1 with h1; injection h1 with h1 _; subst h1
      rw [h2] at hgq; cases hgq
  have hne : (some ⟨gq, 0, none⟩ : Option Addr) ≠ some ⟨g0, 0, none⟩ := fun e => hne0 (by injection e with e; injection e)
  refine ev_loop (fun n' s => ∃ (j : Nat) (z : Int) (q p : List Nat) (H1 M2 : PH), z = (j : Int) - 1 ∧ j ≤ N ∧ n' = j ∧ H.le H1 ∧ q.length = N ∧ Lim q ∧ p.length = o.length ∧ Lim p ∧ val o = val q * val m + val p ∧ val p < val m * 4294967296 ^ j ∧ (∀ k, k < j → q.getD k 0 = 0) ∧ Own .u32 130 M2 (some ⟨g0, 0, none⟩) p c ∧ Own .u32 130 M2 (some ⟨gq, 0, none⟩) q N ∧ PH.disj H1 M2 ∧
    s = ⟨[(7, .v (.int .i64 z)), (6, .v (.slice (some ⟨gq, 0, none⟩) N N)), (5, .v (.int .i64 (n : Nat))), (1, .v (.slice (some ⟨b2, off2, none⟩) n c2)), (0, .v (.slice (some ⟨g0, 0, none⟩) o.length c))], [], H1, M2⟩)
    N _ ⟨N, (N : Int) - 1, _, o, H, M1, rfl, Nat.le_refl _, rfl, PH.le.refl _, by simp, Lim.replicate _, rfl, hlo, by rw [val_replicate]; omega, hlt, fun k hk => by simp [List.getD, hk], hO.le hle1, hQ, hd1, rfl⟩ sub_of ?_
  clear hO hd hQ hle1 hgq hd1
  rintro j s ⟨_, z, q, p, H1, M2, rfl, hj, rfl, hle, hq, hlq, hp, hlp, hv, hpl, hz, hO, hQ, hd, rfl⟩
  try simp only [go_sem, Nat.reduceEqDiff, Nat.reduceAdd, Nat.reduceBEq, ↓reduceIte]
  refine ev_if (fun h2 => ?_) (fun h2 => ?_)
  · obtain ⟨k, rfl⟩ : ∃ k, j = k + 1 := ⟨j - 1, by omega⟩
    rw [show ((k + 1 : Nat) : Int) - 1 = (k : Int) by omega]
    have hsl := seg_length p k (n + 1) (by omega)
    have hsv := val_seg p k (n + 1) (by omega)
    have hls : Lim ((p.drop k).take (n + 1)) := (hlp.drop k).take (n + 1)
    have hPk : (0 : Nat) < 4294967296 ^ k := Nat.pow_pos (by decide)
    have hrest : val ((p.drop k).take (n + 1)) + 4294967296 ^ (n + 1) * val (p.drop (k + (n + 1))) < val m * 4294967296 := by
      have h1 : 4294967296 ^ k * (val ((p.drop k).take (n + 1)) + 4294967296 ^ (n + 1) * val (p.drop (k + (n + 1)))) < 4294967296 ^ k * (val m * 4294967296) := by
        refine Nat.lt_of_le_of_lt (Nat.le_add_left _ (val (p.take k))) ?_
        rw [← hsv]
        refine Nat.lt_of_lt_of_le hpl (Nat.le_of_eq ?_)
        rw [Nat.pow_succ, Nat.mul_left_comm]
      exact Nat.lt_of_mul_lt_mul_left h1
    have hdz : val (p.drop (k + (n + 1))) = 0 := by
      rcases Nat.eq_zero_or_pos (val (p.drop (k + (n + 1)))) with h | h
      · exact h
      · have h1 : 4294967296 ^ (n + 1) * 1 ≤ 4294967296 ^ (n + 1) * val (p.drop (k + (n + 1))) := Nat.mul_le_mul_left _ h
        rw [Nat.mul_one, Nat.pow_succ] at h1
        have h3 := Nat.mul_lt_mul_of_pos_right hVlt (show 0 < 4294967296 by decide)
        rw [Nat.pow_succ] at hrest
        omega
    rw [hdz, Nat.mul_zero, Nat.add_zero] at hsv hrest
    have hqk := hz k (by omega)
    try simp only [go_sem, Nat.reduceEqDiff, Nat.reduceAdd, Nat.reduceBEq, ↓reduceIte]
    try simp (disch := omega) only [nA64, nS64, nM64, nC64, nA64l, nS64l, nM64l, nM64r, nR64l, nL64l, nAu64, nMu64, nMu64r, nSu64, nAu64l, nLu64l, nCu64, nCu32, nCu8, nAu32, nLu32l, nSu8l, toNat_cast]
    refine ev_sl (by omega) (by omega) (by omega) ?_
    have esl : (if c = ((k : Nat) : Int).toNat then (some ⟨g0, 0, none⟩ : Option Addr) else Option.map (fun x : Addr => x.add (((k : Nat) : Int).toNat * 1)) (some ⟨g0, 0, none⟩)) = some ⟨g0, k, none⟩ := by
      rw [toNat_cast, if_neg (by omega), Nat.mul_one]
      simp only [Option.map_some, Addr.add]
      split
      · rename_i h; rw [h]
      · simp
    have esn : ((k + n + 1 : Nat) : Int).toNat - ((k : Nat) : Int).toNat = n + 1 := by rw [toNat_cast, toNat_cast]; omega
    rw [esl, esn]
    clear esl esn
    try simp only [go_sem, Nat.reduceEqDiff, Nat.reduceAdd, Nat.reduceBEq, ↓reduceIte]
    refine ev_callB (guess_ok _ _ _ ((p.drop k).take (n + 1)) m _ c2 n ((hO.sl hd).seg k (n + 1) (by omega)) ((hB.le hle).le (PH.le_join _ _)) hsl hm hn (by omega) hls hlm htop hrest) ?_
    rintro v H2 hle2 ⟨g, rfl, hgB, hg1, hg2⟩ hd2
    obtain ⟨hd_t, hd_f⟩ := long_digit hV0 hg1 hg2
    have hWd := Nat.div_add_mod (val ((p.drop k).take (n + 1))) (val m)
    have hWm := Nat.mod_lt (val ((p.drop k).take (n + 1))) hV0
    have hqdB : val ((p.drop k).take (n + 1)) / val m < 4294967296 := Nat.lt_of_le_of_lt hg1 hgB
    have hWlt := val_lt hls
    rw [hsl] at hWlt
    clear hls hg1 hg2
    generalize val ((p.drop k).take (n + 1)) / val m = qd at *
    generalize val ((p.drop k).take (n + 1)) % val m = rm at *
    try simp only [go_sem, Nat.reduceEqDiff, Nat.reduceAdd, Nat.reduceBEq, ↓reduceIte]
    try simp (disch := omega) only [nA64, nS64, nM64, nC64, nA64l, nS64l, nM64l, nM64r, nR64l, nL64l, nAu64, nMu64, nMu64r, nSu64, nAu64l, nLu64l, nCu64, nCu32, nCu8, nAu32, nLu32l, nSu8l, toNat_cast]
    refine ev_sl (by omega) (by omega) (by omega) ?_
    have esl : (if c = ((k : Nat) : Int).toNat then (some ⟨g0, 0, none⟩ : Option Addr) else Option.map (fun x : Addr => x.add (((k : Nat) : Int).toNat * 1)) (some ⟨g0, 0, none⟩)) = some ⟨g0, k, none⟩ := by
      rw [toNat_cast, if_neg (by omega), Nat.mul_one]
      simp only [Option.map_some, Addr.add]
      split
      · rename_i h; rw [h]
      · simp
    have esn : ((k + n + 1 : Nat) : Int).toNat - ((k : Nat) : Int).toNat = n + 1 := by rw [toNat_cast, toNat_cast]; omega
    rw [esl, esn]
    clear esl esn
    try simp only [go_sem, Nat.reduceEqDiff, Nat.reduceAdd, Nat.reduceBEq, ↓reduceIte]
    refine ev_callM (take_ok H2 M2 g0 p c k _ (some ⟨b2, off2, none⟩) m c2 n g hO ((hB.le hle).le hle2) hm (by omega) (by omega) (by omega) hlp hlm hgB hd2) ?_
    rintro v H3 M3 _ ⟨rfl, hd3, p3, bor, rfl, hbor, hp3, hlp3, ht3, hdr3, hv3, hO3, hB3⟩ _
    have hQ3 := hQ.but hB3 (.inr hne)
    have hsl3 := seg_length p3 k (n + 1) (by omega)
    have hsv3 := val_seg p3 k (n + 1) (by omega)
    rw [ht3, hdr3, hdz, Nat.mul_zero, Nat.add_zero] at hsv3
    have hls3 : Lim ((p3.drop k).take (n + 1)) := (hlp3.drop k).take (n + 1)
    have hlt3 := val_lt hls3
    rw [hsl3] at hlt3
    -- what is left stands in its place
    have step : ∀ (p4 : List Nat) (g' : Nat), g' = qd → val p4 = val (p.take k) + 4294967296 ^ k * rm → val p4 < val m * 4294967296 ^ k ∧ val o = val (q.set k g') * val m + val p4 := by
      intro p4 g' hg' hp4
      have h1 := val_lt (hlp.take k)
      rw [List.length_take, Nat.min_eq_left (by omega)] at h1
      have h2 := Nat.mul_le_mul_left (4294967296 ^ k) (Nat.succ_le_of_lt hWm)
      rw [Nat.mul_succ] at h2
      refine ⟨by rw [hp4, Nat.mul_comm (val m)]; omega, ?_⟩
      have h3 := val_set q k g' (by omega)
      rw [hqk, Nat.mul_zero, Nat.add_zero] at h3
      rw [h3, hv, hsv, hp4, ← hWd, hg', Nat.add_mul, Nat.mul_add (4294967296 ^ k), Nat.mul_assoc (4294967296 ^ k), Nat.mul_comm qd (val m)]
      omega
    by_cases hbw : val ((p.drop k).take (n + 1)) < g * val m
    · have hgq := hd_t hbw
      have hb1 : bor = 1 := by
        rcases Nat.lt_or_ge bor 1 with h | h
        · have : bor = 0 := by omega
          rw [this, Nat.mul_zero, Nat.add_zero] at hv3
          omega
        · omega
      subst hb1
      rw [decide_eq_true rfl]
      try simp only [go_sem, Nat.reduceEqDiff, Nat.reduceAdd, Nat.reduceBEq, ↓reduceIte]
      try simp (disch := omega) only [nA64, nS64, nM64, nC64, nA64l, nS64l, nM64l, nM64r, nR64l, nL64l, nAu64, nMu64, nMu64r, nSu64, nAu64l, nLu64l, nCu64, nCu32, nCu8, nAu32, nLu32l, nSu8l, toNat_cast]
      rw [show IntKind.u64.wrap ((g : Int) - 1) = (qd : Nat) from wu64n qd (by omega) (by omega)]
      refine ev_loop (fun n' s => ∃ (i r : Nat) (p4 : List Nat) (M4 : PH), i ≤ n ∧ n' = n - i ∧ r ≤ 1 ∧ p4.length = o.length ∧ Lim p4 ∧ p4.take k = p3.take k ∧ p4.drop (k + (n + 1)) = p3.drop (k + (n + 1)) ∧
          val (((p4.drop k).take (n + 1)).take i) + 4294967296 ^ i * r = val (((p3.drop k).take (n + 1)).take i) + val (m.take i) ∧ (∀ l, i ≤ l → p4.getD (k + l) 0 = p3.getD (k + l) 0) ∧ Own .u32 130 M4 (some ⟨g0, 0, none⟩) p4 c ∧ Own .u32 130 M4 (some ⟨gq, 0, none⟩) q N ∧ PH.disj H3 M4 ∧
          s = ⟨[(51, .v (.int .i64 (i : Nat))), (50, .v (.int .i64 (n : Nat))), (49, .v (.slice (some ⟨b2, off2, none⟩) n c2)), (9, .v (.int .u64 (r : Nat))), (8, .v (.int .u64 (qd : Nat))), (7, .v (.int .i64 (k : Nat))), (6, .v (.slice (some ⟨gq, 0, none⟩) N N)), (5, .v (.int .i64 (n : Nat))), (1, .v (.slice (some ⟨b2, off2, none⟩) n c2)), (0, .v (.slice (some ⟨g0, 0, none⟩) o.length c))], [], H3, M4⟩)
        n _ ⟨0, 0, p3, M3, by omega, by omega, by omega, by omega, hlp3, rfl, rfl, by simp [val], fun l _ => rfl, hO3, hQ3, hd3, rfl⟩ sub_of ?_
      clear hO hQ hd hd2
      rintro n' s ⟨i, r, p4, M4, hi, rfl, hr, hp4, hlp4, ht4, hdr4, hv4, he4, hO4, hQ4, hd4, rfl⟩
      have hsl4 := seg_length p4 k (n + 1) (by omega)
      try simp only [go_sem, Nat.reduceEqDiff, Nat.reduceAdd, Nat.reduceBEq, ↓reduceIte]
      refine ev_if (fun h5 => ?_) (fun h5 => ?_)
      · have hx := hlm.getD i
        have hy := hlp4.getD (k + i)
        have hey := he4 i (Nat.le_refl _)
        have em := val_take_succ m i (by omega)
        have eo := val_take_succ ((p3.drop k).take (n + 1)) i (by omega)
        rw [seg_getD p3 k (n + 1) i (by omega)] at eo
        try simp only [go_sem, Nat.reduceEqDiff, Nat.reduceAdd, Nat.reduceBEq, ↓reduceIte]
        refine ev_iaN i rfl (by omega) rfl ?_
        try simp only [go_sem, Nat.reduceEqDiff, Nat.reduceAdd, Nat.reduceBEq, ↓reduceIte]
        refine ev_ldS ((hB.le hle).le hle2) rfl (by omega) ?_
        try simp only [go_sem, Nat.reduceEqDiff, Nat.reduceAdd, Nat.reduceBEq, ↓reduceIte]
        try simp (disch := omega) only [nA64, nS64, nM64, nC64, nA64l, nS64l, nM64l, nM64r, nR64l, nL64l, nAu64, nMu64, nMu64r, nSu64, nAu64l, nLu64l, nCu64, nCu32, nCu8, nAu32, nLu32l, nSu8l, toNat_cast]
        refine ev_iaN (i + k) rfl (by omega) rfl ?_
        try simp only [go_sem, Nat.reduceEqDiff, Nat.reduceAdd, Nat.reduceBEq, ↓reduceIte]
        refine ev_ldOk (k + i) (by omega) hO4 (by omega) ?_
        try simp only [go_sem, Nat.reduceEqDiff, Nat.reduceAdd, Nat.reduceBEq, ↓reduceIte]
        try simp (disch := omega) only [nA64, nS64, nM64, nC64, nA64l, nS64l, nM64l, nM64r, nR64l, nL64l, nAu64, nMu64, nMu64r, nSu64, nAu64l, nLu64l, nCu64, nCu32, nCu8, nAu32, nLu32l, nSu8l, toNat_cast]
        generalize hw : r + (p4.getD (k + i) 0 + m.getD i 0) = w at *
        refine ev_iaN (i + k) rfl (by omega) rfl ?_
        try simp only [go_sem, Nat.reduceEqDiff, Nat.reduceAdd, Nat.reduceBEq, ↓reduceIte]
        rw [u32mod]
        refine ev_stOk (k + i) (by omega) hO4 (by omega) ?_
        intro M5 hO5 hB5 hd5
        try simp only [go_sem, Nat.reduceEqDiff, Nat.reduceAdd, Nat.reduceBEq, ↓reduceIte]
        refine shr_nat (n := 32) rfl (by decide) ?_
        try simp only [go_sem, Nat.reduceEqDiff, Nat.reduceAdd, Nat.reduceBEq, ↓reduceIte]
        try simp (disch := omega) only [nA64, nS64, nM64, nC64, nA64l, nS64l, nM64l, nM64r, nR64l, nL64l, nAu64, nMu64, nMu64r, nSu64, nAu64l, nLu64l, nCu64, nCu32, nCu8, nAu32, nLu32l, nSu8l, toNat_cast]
        refine k_next (n - (i + 1)) _ (by omega) ⟨i + 1, w / 4294967296, _, M5, by omega, rfl, by omega, by simp; omega, hlp4.set (by omega), ?_, ?_, ?_, fun l hl => ?_, hO5, hQ4.but hB5 (.inr hne), hd5 _ hd4, rfl⟩ sub_of
        · rw [List.take_set_of_le (by omega)]; exact ht4
        · rw [List.drop_set_of_lt (by omega)]; exact hdr4
        · rw [seg_set _ _ _ _ _ (by omega), val_take_set _ i _ (by omega), eo, em]
          have e1 : 4294967296 ^ (i + 1) * (w / 4294967296) = 4294967296 ^ i * (4294967296 * (w / 4294967296)) := by rw [Nat.pow_succ, Nat.mul_assoc]
          have e3 : 4294967296 ^ i * (r + (p4.getD (k + i) 0 + m.getD i 0)) = 4294967296 ^ i * (w % 4294967296 + 4294967296 * (w / 4294967296)) := by rw [hw]; congr 1; omega
          rw [e1, ← hey]
          simp only [Nat.mul_add] at e3
          omega
        · rw [getD_set (by omega), if_neg (by omega)]
          exact he4 l (by omega)
      · have hin : i = n := by omega
        subst hin
        have hy := hlp4.getD (k + i)
        have hey := he4 i (Nat.le_refl _)
        have eo := val_take_succ ((p3.drop k).take (i + 1)) i (by omega)
        rw [seg_getD p3 k (i + 1) i (by omega), List.take_of_length_le (by omega)] at eo
        rw [show m.take i = m from List.take_of_length_le (by omega)] at hv4
        try simp only [go_sem, Nat.reduceEqDiff, Nat.reduceAdd, Nat.reduceBEq, ↓reduceIte]
        try simp (disch := omega) only [nA64, nS64, nM64, nC64, nA64l, nS64l, nM64l, nM64r, nR64l, nL64l, nAu64, nMu64, nMu64r, nSu64, nAu64l, nLu64l, nCu64, nCu32, nCu8, nAu32, nLu32l, nSu8l, toNat_cast]
        refine ev_iaN (k + i) rfl (by omega) rfl ?_
        try simp only [go_sem, Nat.reduceEqDiff, Nat.reduceAdd, Nat.reduceBEq, ↓reduceIte]
        refine ev_ldO hO4 (by omega) ?_
        try simp only [go_sem, Nat.reduceEqDiff, Nat.reduceAdd, Nat.reduceBEq, ↓reduceIte]
        try simp (disch := omega) only [nA64, nS64, nM64, nC64, nA64l, nS64l, nM64l, nM64r, nR64l, nL64l, nAu64, nMu64, nMu64r, nSu64, nAu64l, nLu64l, nCu64, nCu32, nCu8, nAu32, nLu32l, nSu8l, toNat_cast]
        rw [show IntKind.u32.wrap (((p4.getD (k + i) 0 : Nat) : Int) + (r : Nat)) = (((p4.getD (k + i) 0 + r) % 4294967296 : Nat) : Int) by rw [wu32_mod]; omega]
        refine ev_iaN (k + i) rfl (by omega) rfl ?_
        try simp only [go_sem, Nat.reduceEqDiff, Nat.reduceAdd, Nat.reduceBEq, ↓reduceIte]
        refine ev_stO hO4 (by omega) ?_
        intro M6 hO6 hB6 hd6
        have hQ6 := hQ4.but hB6 (.inr hne)
        have hd6' := hd6 _ hd4
        try simp only [go_sem, Nat.reduceEqDiff, Nat.reduceAdd, Nat.reduceBEq, ↓reduceIte]
        try simp (disch := omega) only [nA64, nS64, nM64, nC64, nA64l, nS64l, nM64l, nM64r, nR64l, nL64l, nAu64, nMu64, nMu64r, nSu64, nAu64l, nLu64l, nCu64, nCu32, nCu8, nAu32, nLu32l, nSu8l, toNat_cast]
        have hp6 : val (p4.set (k + i) ((p4.getD (k + i) 0 + r) % 4294967296)) = val (p.take k) + 4294967296 ^ k * rm := by
          have e1 := val_seg (p4.set (k + i) ((p4.getD (k + i) 0 + r) % 4294967296)) k (i + 1) (by simp; omega)
          rw [List.take_set_of_le (by omega), List.drop_set_of_lt (show k + i < k + (i + 1) by omega), ht4, hdr4, ht3, hdr3, hdz, Nat.mul_zero, Nat.add_zero, seg_set _ _ _ _ _ (by omega)] at e1
          have e2 := val_take_set ((p4.drop k).take (i + 1)) i ((p4.getD (k + i) 0 + r) % 4294967296) (by omega)
          rw [List.take_of_length_le (by simp; omega)] at e2
          have e3 : val (((p4.drop k).take (i + 1)).set i ((p4.getD (k + i) 0 + r) % 4294967296)) < 4294967296 ^ (i + 1) := by
            have := val_lt (l := ((p4.drop k).take (i + 1)).set i ((p4.getD (k + i) 0 + r) % 4294967296)) (Lim.set ((hlp4.drop k).take (i + 1)) (by omega))
            rwa [List.length_set, hsl4] at this
          have e4 : 4294967296 ^ i * (p4.getD (k + i) 0 + r) = 4294967296 ^ i * ((p4.getD (k + i) 0 + r) % 4294967296) + 4294967296 ^ (i + 1) * ((p4.getD (k + i) 0 + r) / 4294967296) := by
            rw [Nat.pow_succ, Nat.mul_assoc, ← Nat.mul_add]; congr 1; omega
          have e5 : (p4.getD (k + i) 0 + r) / 4294967296 ≤ 1 := by omega
          have key : val (((p4.drop k).take (i + 1)).set i ((p4.getD (k + i) 0 + r) % 4294967296)) = rm := by
            rw [e2]
            rw [e2] at e3
            rw [Nat.mul_add] at e4
            rw [Nat.mul_one] at hv3
            have e6 : g * val m = val m * qd + val m := by rw [hgq, Nat.add_mul, Nat.one_mul, Nat.mul_comm]
            rw [e6] at hv3
            rcases Nat.lt_or_ge ((p4.getD (k + i) 0 + r) / 4294967296) 1 with h | h
            · have h0 : (p4.getD (k + i) 0 + r) / 4294967296 = 0 := by omega
              rw [h0, Nat.mul_zero] at e4
              rw [← hey] at eo
              omega
            · have h0 : (p4.getD (k + i) 0 + r) / 4294967296 = 1 := by omega
              rw [h0, Nat.mul_one] at e4
              rw [← hey] at eo
              omega
          rw [e1, key]
        obtain ⟨s1, s2⟩ := step _ qd rfl hp6
        have hg'B : qd < 4294967296 := hqdB
        have hlp4' : Lim (p4.set (k + i) ((p4.getD (k + i) 0 + r) % 4294967296)) := hlp4.set (by omega)
        have hp4' : (p4.set (k + i) ((p4.getD (k + i) 0 + r) % 4294967296)).length = o.length := by simp; omega
        clear hlp4 hp4 hO4 hQ4 hd4
        have hlp4 := hlp4'; have hp4 := hp4'; have hO4 := hO6; have hQ4 := hQ6; have hd4 := hd6'
        clear hlp4' hp4' hO6 hQ6 hd6' hB6 hd6
        generalize p4.set (k + i) ((p4.getD (k + i) 0 + r) % 4294967296) = p4 at *
        refine ev_iaN k rfl (by omega) rfl ?_
        try simp only [go_sem, Nat.reduceEqDiff, Nat.reduceAdd, Nat.reduceBEq, ↓reduceIte]
        refine ev_stO hQ4 (by omega) ?_
        intro M5 hQ5 hB5 hd5
        try simp only [go_sem, Nat.reduceEqDiff, Nat.reduceAdd, Nat.reduceBEq, ↓reduceIte]
        refine k_next k _ (by omega) ⟨k, (k : Int) - 1, _, p4, H3, M5, rfl, by omega, rfl, hle.trans hle2, by simp; omega, hlq.set hg'B, hp4, hlp4, s2, s1, fun i hi => ?_, hO4.but hB5 (.inr (Ne.symm hne)), hQ5, hd5 _ hd4, rfl⟩ sub_of
        rw [getD_set (by omega), if_neg (by omega)]
        exact hz i (by omega)
    · have hgq := hd_f hbw
      have hb0 : bor = 0 := by
        rcases Nat.lt_or_ge bor 1 with h | h
        · omega
        · have : bor = 1 := by omega
          rw [this, Nat.mul_one] at hv3
          omega
      subst hb0
      rw [decide_eq_false (by decide)]
      try simp only [go_sem, Nat.reduceEqDiff, Nat.reduceAdd, Nat.reduceBEq, ↓reduceIte]
      try simp (disch := omega) only [nA64, nS64, nM64, nC64, nA64l, nS64l, nM64l, nM64r, nR64l, nL64l, nAu64, nMu64, nMu64r, nSu64, nAu64l, nLu64l, nCu64, nCu32, nCu8, nAu32, nLu32l, nSu8l, toNat_cast]
      have hp4 : val p3 = val (p.take k) + 4294967296 ^ k * rm := by
        rw [hsv3]
        congr 2
        rw [Nat.mul_zero, Nat.add_zero, hgq, Nat.mul_comm qd] at hv3
        omega
      obtain ⟨s1, s2⟩ := step p3 g hgq hp4
      have hg'B := hgB
      clear hp4
      have hp4 : p3.length = o.length := by omega
      have hlp4 := hlp3; have hO4 := hO3; have hQ4 := hQ3; have hd4 := hd3
      clear hlp3 hO3 hQ3 hd3
      generalize p3 = p4 at *
      refine ev_iaN k rfl (by omega) rfl ?_
      try simp only [go_sem, Nat.reduceEqDiff, Nat.reduceAdd, Nat.reduceBEq, ↓reduceIte]
      refine ev_stO hQ4 (by omega) ?_
      intro M5 hQ5 hB5 hd5
      try simp only [go_sem, Nat.reduceEqDiff, Nat.reduceAdd, Nat.reduceBEq, ↓reduceIte]
      refine k_next k _ (by omega) ⟨k, (k : Int) - 1, _, p4, H3, M5, rfl, by omega, rfl, hle.trans hle2, by simp; omega, hlq.set hg'B, hp4, hlp4, s2, s1, fun i hi => ?_, hO4.but hB5 (.inr (Ne.symm hne)), hQ5, hd5 _ hd4, rfl⟩ sub_of
      rw [getD_set (by omega), if_neg (by omega)]
      exact hz i (by omega)
  · have hj0 : j = 0 := by omega
    subst hj0
    try simp only [go_sem, Nat.reduceEqDiff, Nat.reduceAdd, Nat.reduceBEq, ↓reduceIte]
    rw [Nat.pow_zero, Nat.mul_one] at hpl
    refine ⟨q, p, _, N, hle, hd, by rw [hq], hq, hlq, hp, hlp, ?_, ?_, hQ, hO⟩
    · rw [hv, Nat.add_comm, Nat.add_mul_div_right _ _ hV0, Nat.div_eq_of_lt hpl, Nat.zero_add]
    · rw [hv, Nat.add_comm, Nat.add_mul_mod_self_right, Nat.mod_eq_of_lt hpl]

end Go.Proofs.YtccdhgjfcgfgoaaGreat.X
set_option linter.unusedVariables false
set_option linter.unusedSimpArgs false
namespace Go.Proofs.YtccdhgjfcgfgoaaGreat.X
open Go Go.RowKit Go.Proofs

theorem lz32_ok (H : PH) (x : Nat) (hx : x < 4294967296) : FnP Tryz.prog 125 [.int .u32 (x : Int)] H fun v _ => v = .int .i64 (32 - bl x : Nat) := by
  have hb : bl x ≤ 32 := bl_le_iff.2 hx
  refine of_bits_LeadingZeros32 (by simp) ?_
  try simp only [go_sem, Nat.reduceEqDiff, Nat.reduceAdd, Nat.reduceBEq, ↓reduceIte, p_bits_LeadingZeros32]
  refine ev_call (len32_ok _ x hx) ?_
  rintro v_1 H_1 le_1 rfl _
  try simp only [go_sem, Nat.reduceEqDiff, Nat.reduceAdd, Nat.reduceBEq, ↓reduceIte]
  try simp (disch := omega) only [nA64, nS64, nM64, nC64, nA64l, nS64l, nM64l, nM64r, nR64l, nL64l, nAu64, nMu64, nMu64r, nSu64, nAu64l, nLu64l, nCu64, nCu32, nCu8, nAu32, nLu32l, nSu8l, toNat_cast]
  exact ⟨by trivial, by trivial⟩

/-- what a division comes to -/
def DivR (x y : Nat) (v : Value) (H : PH) : Prop := ∃ vq vr, v = .tuple #[vq, vr, .bool (decide (y ≠ 0))] ∧ NatV H vq (x / y) ∧ NatV H vr (if y = 0 then 0 else x % y)

theorem len_eq_bl {l : List Nat} (h : Norm l) : l.length = (bl (val l) + 31) / 32 := by
  have h1 := len_le_bl h
  have h2 := bl_le_len h.1
  omega

set_option maxHeartbeats 1000000 in
theorem div_ok (H : PH) (va vb : Value) (x y : Nat) (ha : NatV H va x) (hb : NatV H vb y) (hbx : bl x ≤ 4294967200) (hby : bl y ≤ 4294967200) : FnP Tryz.prog 114 [va, vb] H fun v H' => DivR x y v H' := by
  have ha0 := ha
  have hb0 := hb
  obtain ⟨A, l, c, rfl, hc, hS, hn, rfl⟩ := ha
  obtain ⟨B, m, e, rfl, he, hT, hm, rfl⟩ := hb
  have hlen : l.length ≤ 200000000 := by have := len_le_bl hn; omega
  have hlen2 : m.length ≤ 200000000 := by have := len_le_bl hm; omega
  have hnn : ∀ (H' : PH), NatV H' (.agg #[.slice none 0 0]) 0 := fun H' => NatV.zero H' 0
  refine Fn.release (of_nat_Div (by simp) ?_)
  try simp only [go_sem, Nat.reduceEqDiff, Nat.reduceAdd, Nat.reduceBEq, ↓reduceIte, p_nat_Div]
  refine ev_if (fun h => ?_) (fun h => ?_)
  · try simp only [go_sem, Nat.reduceEqDiff, Nat.reduceAdd, Nat.reduceBEq, ↓reduceIte]
    have h0 : m = [] := List.eq_nil_of_length_eq_zero (by omega)
    subst h0
    intro hd
    exact ⟨_, _, rfl, by rw [show val [] = 0 from rfl, Nat.div_zero]; exact hnn _, by rw [if_pos (show val [] = 0 from rfl)]; exact hnn _⟩
  · have hy0 : val m ≠ 0 := fun e0 => h (by rw [(val_eq_zero hm).1 e0]; rfl)
    have hdy : decide (val m ≠ 0) = true := decide_eq_true hy0
    try simp only [go_sem, Nat.reduceEqDiff, Nat.reduceAdd, Nat.reduceBEq, ↓reduceIte]
    refine ev_call (cmp_ok _ _ _ _ _ ha0 hb0 (by omega) (by omega)) ?_
    rintro v_2 H_2 le_2 rfl _
    replace ha0 := ha0.le le_2
    replace hb0 := hb0.le le_2
    replace hS := hS.le le_2
    replace hT := hT.le le_2
    try simp only [go_sem, Nat.reduceEqDiff, Nat.reduceAdd, Nat.reduceBEq, ↓reduceIte]
    refine ev_if (fun h2 => ?_) (fun h2 => ?_)
    · have hlt : val l < val m := by
        unfold cmpN at h2
        split at h2
        · assumption
        · split at h2 <;> omega
      have fin : ∀ H' : PH, NatV H' (.agg #[.slice A l.length c]) (val l) → DivR (val l) (val m) (.tuple #[.agg #[.slice none 0 0], .agg #[.slice A l.length c], .bool true]) H' := by
        intro H' hN
        refine ⟨_, _, by rw [hdy], ?_, ?_⟩
        · rw [Nat.div_eq_of_lt hlt]; exact hnn _
        · rw [if_neg hy0, Nat.mod_eq_of_lt hlt]; exact hN
      try simp only [go_sem, Nat.reduceEqDiff, Nat.reduceAdd, Nat.reduceBEq, ↓reduceIte]
      exact ⟨fun _ => fin _ (ha0.le (PH.le_join _ _)), fun _ => fin _ (ha0.le (PH.le_join _ _))⟩
    · have hge : val m ≤ val l := by
        unfold cmpN at h2
        split at h2 <;> omega
      have hml : m.length ≤ l.length := len_of_lt hm (Nat.lt_of_le_of_lt hge (val_lt hn.1))
      have hm0 : m ≠ [] := fun e0 => h (by rw [e0]; rfl)
      have hl0 : l ≠ [] := fun e0 => hm0 (List.eq_nil_of_length_eq_zero (by rw [e0] at hml; simp only [List.length_nil] at hml; omega))
      try simp only [go_sem, Nat.reduceEqDiff, Nat.reduceAdd, Nat.reduceBEq, ↓reduceIte]
      refine ev_if (fun h3 => ?_) (fun h3 => ?_)
      · have hm1 : m.length = 1 := by omega
        have hmv : val m = m.getD 0 0 := by
          have e1 := val_take_succ m 0 (by omega)
          rw [List.take_of_length_le (by omega)] at e1
          simpa [val] using e1
        have hmx := hm.1.getD 0
        obtain ⟨b, off, rfl⟩ := hT.base (by omega)
        try simp only [go_sem, Nat.reduceEqDiff, Nat.reduceAdd, Nat.reduceBEq, ↓reduceIte]
        refine ev_callM (clone_own _ A l c hS (by omega) hc) ?_
        rintro v H5 M5 le5 ⟨hd5, A', c', rfl, hO5⟩ _
        replace hT := hT.le le5
        try simp only [go_sem, Nat.reduceEqDiff, Nat.reduceAdd, Nat.reduceBEq, ↓reduceIte]
        refine ev_iaN 0 rfl (by omega) rfl ?_
        try simp only [go_sem, Nat.reduceEqDiff, Nat.reduceAdd, Nat.reduceBEq, ↓reduceIte]
        refine ev_ldS hT rfl (by omega) ?_
        try simp only [go_sem, Nat.reduceEqDiff, Nat.reduceAdd, Nat.reduceBEq, ↓reduceIte]
        refine ev_callM (short_ok H5 130 M5 A' l c' (m.getD 0 0) hO5 hn.1 hl0 (by omega) (by omega) hmx) ?_
        rintro v H6 M6 _ ⟨o, rfl, rfl, ho, hlo, hv, hO6, hB6⟩ hd6
        rw [← hmv] at hv ⊢
        have hrB : val l % val m < 4294967296 := Nat.lt_of_lt_of_le (Nat.mod_lt _ (by omega)) (by omega)
        try simp only [go_sem, Nat.reduceEqDiff, Nat.reduceAdd, Nat.reduceBEq, ↓reduceIte]
        refine ev_cutA hO6 ho.symm hlo (by omega) hd6 ?_
        intro vq H7 le7 hq
        obtain ⟨C, k, g, rfl⟩ := hq.form
        try simp only [go_sem, Nat.reduceEqDiff, Nat.reduceAdd, Nat.reduceBEq, ↓reduceIte]
        try simp (disch := omega) only [nA64, nS64, nM64, nC64, nA64l, nS64l, nM64l, nM64r, nR64l, nL64l, nAu64, nMu64, nMu64r, nSu64, nAu64l, nLu64l, nCu64, nCu32, nCu8, nAu32, nLu32l, nSu8l, toNat_cast]
        refine ev_call (of_ok _ _ (by omega)) ?_
        rintro v_3 H_3 le_3 hr _
        replace hq := hq.le le_3
        try simp only [go_sem, Nat.reduceEqDiff, Nat.reduceAdd, Nat.reduceBEq, ↓reduceIte]
        obtain ⟨D, k2, g2, rfl⟩ := hr.form
        try simp only [go_sem, Nat.reduceEqDiff, Nat.reduceAdd, Nat.reduceBEq, ↓reduceIte]
        intro hd
        refine ⟨_, _, by rw [hdy], ?_, ?_⟩
        · rw [← hv]; exact hq.le (PH.le_join _ _)
        · rw [if_neg hy0]; exact hr.le (PH.le_join _ _)
      · have hm2 : 2 ≤ m.length := by
          have : 0 < m.length := List.length_pos_iff.2 hm0
          omega
        have hmtop := hm.1.getD (m.length - 1)
        have hblm := getD_bl hm hm0
        have hxt : m.getD (m.length - 1) 0 ≠ 0 := by
          have := hm.2 hm0
          rw [List.getLast_eq_getElem] at this
          rwa [List.getD, List.getElem?_eq_getElem (by omega)]
        have hbt : bl (m.getD (m.length - 1) 0) ≤ 32 := bl_le_iff.2 hmtop
        have hbp := bl_pos hxt
        try simp only [go_sem, Nat.reduceEqDiff, Nat.reduceAdd, Nat.reduceBEq, ↓reduceIte]
        obtain ⟨b, off, rfl⟩ := hT.base (by omega)
        try simp (disch := omega) only [nA64, nS64, nM64, nC64, nA64l, nS64l, nM64l, nM64r, nR64l, nL64l, nAu64, nMu64, nMu64r, nSu64, nAu64l, nLu64l, nCu64, nCu32, nCu8, nAu32, nLu32l, nSu8l, toNat_cast]
        refine ev_iaN (m.length - 1) rfl (by omega) rfl ?_
        try simp only [go_sem, Nat.reduceEqDiff, Nat.reduceAdd, Nat.reduceBEq, ↓reduceIte]
        refine ev_ldS hT rfl (by omega) ?_
        try simp only [go_sem, Nat.reduceEqDiff, Nat.reduceAdd, Nat.reduceBEq, ↓reduceIte]
        refine ev_call (lz32_ok _ _ hmtop) ?_
        rintro v_4 H_4 le_4 rfl _
        replace ha0 := ha0.le le_4
        replace hb0 := hb0.le le_4
        replace hS := hS.le le_4
        replace hT := hT.le le_4
        try simp only [go_sem, Nat.reduceEqDiff, Nat.reduceAdd, Nat.reduceBEq, ↓reduceIte]
        obtain ⟨s, hs⟩ : ∃ s, 32 - bl (m.getD (m.length - 1) 0) = s := ⟨_, rfl⟩
        rw [hs]
        have hclip : clip (s : Int) = s := clip_nat s (by omega)
        have hx2 : bl (val l * 2 ^ s) = bl (val l) + s := bl_shift _ _ (by omega)
        have hy2 : bl (val m * 2 ^ s) = bl (val m) + s := bl_shift _ _ hy0
        have hlb := len_eq_bl hn
        try simp (disch := omega) only [nA64, nS64, nM64, nC64, nA64l, nS64l, nM64l, nM64r, nR64l, nL64l, nAu64, nMu64, nMu64r, nSu64, nAu64l, nLu64l, nCu64, nCu32, nCu8, nAu32, nLu32l, nSu8l, toNat_cast]
        refine ⟨?_, ?_⟩
        · refine ev_callPN (shl_own _ _ (val l) (s : Int) ha0 (by omega)) ?_
          rintro vu H1 Mx M1 le1 ⟨_, hu⟩ _ hMx hd1 _
          rw [hclip] at hu
          obtain ⟨Au, lu, cu, rfl, hOu, hnu, hvu⟩ := hu
          have hbN := hb0.le le1
          replace hOu := hOu.le hMx
          try simp only [go_sem, Nat.reduceEqDiff, Nat.reduceAdd, Nat.reduceBEq, ↓reduceIte]
          refine ev_bslO (k := .u32) (l := [0, 0]) rfl rfl (by simp) hd1 ?_
          intro gz M2 hZ hle2 hgz hdz
          have hOu' := hOu.le hle2
          try simp only [go_sem, Nat.reduceEqDiff, Nat.reduceAdd, Nat.reduceBEq, ↓reduceIte]
          have hlu := len_eq_bl hnu
          rw [hvu] at hlu
          refine ev_appO hOu' (m := [0, 0]) (hZ.sl hdz) rfl rfl (by simp) (by simp; omega) (by simp; omega) hdz ?_
          intro A3 c3 M3 hO3 _ _ hd3
          have hcap3 := hO3.le_cap
          simp only [List.length_append, List.length_cons, List.length_nil, Nat.zero_add, Nat.reduceAdd] at hcap3
          try simp only [go_sem, Nat.reduceEqDiff, Nat.reduceAdd, Nat.reduceBEq, ↓reduceIte]
          refine ev_slhN (l.length + 1) rfl (by omega) ?_
          try simp only [go_sem, Nat.reduceEqDiff, Nat.reduceAdd, Nat.reduceBEq, ↓reduceIte]
          replace hO3 := hO3.take (l.length + 1)
          have hlimu : Lim ((lu ++ [0, 0]).take (l.length + 1)) := (hnu.1.append (.cons (by decide) (.cons (by decide) .nil))).take _
          have hlenu : ((lu ++ [0, 0]).take (l.length + 1)).length = l.length + 1 := by
            rw [List.length_take, List.length_append]; simp only [List.length_cons, List.length_nil]; omega
          have hvalu : val ((lu ++ [0, 0]).take (l.length + 1)) = val l * 2 ^ s := by
            have e1 := val_take_drop (lu ++ [0, 0]) (l.length + 1) (by rw [List.length_append]; simp only [List.length_cons, List.length_nil]; omega)
            have e2 : val ((lu ++ [0, 0]).drop (l.length + 1)) = 0 := by
              rw [List.drop_append, show lu.drop (l.length + 1) = [] from List.drop_of_length_le (by omega), List.nil_append]
              have : ∀ k, val (List.drop k [0, 0]) = 0 := fun k => by
                rcases k with _ | _ | _ | k <;> simp [val]
              exact this _
            have e3 : val (lu ++ [0, 0]) = val lu := by rw [val_append]; simp [val]
            rw [e2, Nat.mul_zero, Nat.add_zero, e3, hvu] at e1
            exact e1.symm
          refine ev_callP (shl_ok _ _ (val m) (s : Int) hbN (by omega)) ?_
          rintro vv H4 le4 hvv hd4
          rw [hclip] at hvv
          obtain ⟨Av, lv, cv, rfl, hcv, hSv, hnv, hvv2⟩ := hvv
          try simp only [go_sem, Nat.reduceEqDiff, Nat.reduceAdd, Nat.reduceBEq, ↓reduceIte]
          have hlv := len_eq_bl hnv
          rw [hvv2] at hlv
          have hlvm : lv.length = m.length := by omega
          have htop : 2147483648 ≤ lv.getD (lv.length - 1) 0 := by
            have e1 := getD_bl hnv (fun e0 => by rw [e0] at hlvm; simp only [List.length_nil] at hlvm; omega)
            rw [hvv2] at e1
            have e2 : bl (lv.getD (lv.length - 1) 0) = 32 := by omega
            have e3 := two_pow_le_bl (x := lv.getD (lv.length - 1) 0) (fun e0 => by rw [e0, bl_zero] at e2; cases e2)
            rw [e2] at e3
            exact e3
          generalize (lu ++ [0, 0]).take (l.length + 1) = u at *
          obtain ⟨gu, rfl⟩ : ∃ g, A3 = some ⟨g, 0, none⟩ := hO3.base (by omega)
          have hlt : val u < val lv * 4294967296 ^ (u.length - lv.length) := by
            rw [hvalu, hvv2, Nat.mul_right_comm]
            refine Nat.mul_lt_mul_of_pos_right ?_ (Nat.two_pow_pos _)
            have h5 := val_pos hm hm0
            have h6 := val_lt hn.1
            refine Nat.lt_of_lt_of_le h6 (Nat.le_trans ?_ (Nat.mul_le_mul_right _ h5))
            rw [← Nat.pow_add]
            exact Nat.pow_le_pow_right (by decide) (by omega)
          rw [show l.length + 1 = u.length by omega]
          refine ev_callM (long_ok H4 M3 gu u c3 Av lv cv lv.length hO3 hSv rfl (by omega) (by omega) (by omega) hlimu hnv.1 htop hlt hd4) ?_
          rintro v H5 M5 le5 ⟨q, p, Aq, cq, _, hd5, rfl, hql, hqlim, hpl, hplim, hqv, hpv, hOq, hOp⟩ _
          have hcapq := hOq.le_cap
          have hcapp := hOp.le_cap
          have hSq := hOq.sl hd5
          have hSp := hOp.sl hd5
          try simp only [go_sem, Nat.reduceEqDiff, Nat.reduceAdd, Nat.reduceBEq, ↓reduceIte]
          refine ev_callA (cut_ok _ Aq q q.length cq rfl hcapq hSq hqlim (by omega)) ?_
          rintro v H6 le6 ⟨mq, hmq, rfl, hNq, hvq⟩
          replace hSq := (hSq.le le6).take mq
          replace hSp := hSp.le le6
          rw [← hpl]
          try simp only [go_sem, Nat.reduceEqDiff, Nat.reduceAdd, Nat.reduceBEq, ↓reduceIte]
          refine ev_call (cut_ok _ (some ⟨gu, 0, none⟩) p p.length c3 rfl hcapp hSp hplim (by omega)) ?_
          rintro v H7 le7 ⟨mp, hmp, rfl, hNp, hvp⟩ _
          have hlq : (q.take mq).length = mq := by rw [List.length_take]; omega
          have hlp : (p.take mp).length = mp := by rw [List.length_take]; omega
          have hVq : NatV H7 (.agg #[.slice Aq mq cq]) (val l / val m) := by
            refine ⟨Aq, q.take mq, cq, by rw [hlq], by omega, hSq.le le7, hNq, ?_⟩
            rw [hvq, hqv, hvalu, hvv2, Nat.mul_div_mul_right _ _ (Nat.two_pow_pos _)]
          have hVp : NatV H7 (.agg #[.slice (some ⟨gu, 0, none⟩) mp c3]) (val l * 2 ^ s % (val m * 2 ^ s)) := by
            refine ⟨_, p.take mp, c3, by rw [hlp], by omega, (hSp.le le7).take mp, hNp, ?_⟩
            rw [hvp, hpv, hvalu, hvv2]
          have hbr : bl (val l * 2 ^ s % (val m * 2 ^ s)) ≤ 4294967296 := by
            have e1 := bl_mono (Nat.mod_le (val l * 2 ^ s) (val m * 2 ^ s))
            omega
          try simp only [go_sem, Nat.reduceEqDiff, Nat.reduceAdd, Nat.reduceBEq, ↓reduceIte]
          refine ev_call (shr_ok _ _ _ (s : Int) hVp hbr) ?_
          rintro v H8 le8 hVr _
          rw [hclip, Nat.mul_mod_mul_right, Nat.mul_div_cancel _ (Nat.two_pow_pos _)] at hVr
          obtain ⟨Ar, lr, cr, rfl⟩ := hVr.form
          try simp only [go_sem, Nat.reduceEqDiff, Nat.reduceAdd, Nat.reduceBEq, ↓reduceIte]
          intro hd
          exact ⟨_, _, by rw [hdy], (hVq.le le8).le (PH.le_join _ _), by rw [if_neg hy0]; exact hVr.le (PH.le_join _ _)⟩
        · refine ev_bslO (k := .u32) (l := [0, 0]) rfl rfl (by simp) (PH.disj_no _) ?_
          intro gz M1 hZ0 hle0 hgz hd0
          try simp only [go_sem, Nat.reduceEqDiff, Nat.reduceAdd, Nat.reduceBEq, ↓reduceIte]
          refine ev_callPN (shl_own _ _ (val l) (s : Int) ha0 (by omega)) ?_
          rintro vu H1 Mx M2 le1 ⟨_, hu⟩ hM hMx hdz _
          rw [hclip] at hu
          obtain ⟨Au, lu, cu, rfl, hOu, hnu, hvu⟩ := hu
          have hbN := hb0.le le1
          have hOu' := hOu.le hMx
          have hZ := hZ0.le hM
          try simp only [go_sem, Nat.reduceEqDiff, Nat.reduceAdd, Nat.reduceBEq, ↓reduceIte]
          have hlu := len_eq_bl hnu
          rw [hvu] at hlu
          refine ev_appO hOu' (m := [0, 0]) (hZ.sl hdz) rfl rfl (by simp) (by simp; omega) (by simp; omega) hdz ?_
          intro A3 c3 M3 hO3 _ _ hd3
          have hcap3 := hO3.le_cap
          simp only [List.length_append, List.length_cons, List.length_nil, Nat.zero_add, Nat.reduceAdd] at hcap3
          try simp only [go_sem, Nat.reduceEqDiff, Nat.reduceAdd, Nat.reduceBEq, ↓reduceIte]
          refine ev_slhN (l.length + 1) rfl (by omega) ?_
          try simp only [go_sem, Nat.reduceEqDiff, Nat.reduceAdd, Nat.reduceBEq, ↓reduceIte]
          replace hO3 := hO3.take (l.length + 1)
          have hlimu : Lim ((lu ++ [0, 0]).take (l.length + 1)) := (hnu.1.append (.cons (by decide) (.cons (by decide) .nil))).take _
          have hlenu : ((lu ++ [0, 0]).take (l.length + 1)).length = l.length + 1 := by
            rw [List.length_take, List.length_append]; simp only [List.length_cons, List.length_nil]; omega
          have hvalu : val ((lu ++ [0, 0]).take (l.length + 1)) = val l * 2 ^ s := by
            have e1 := val_take_drop (lu ++ [0, 0]) (l.length + 1) (by rw [List.length_append]; simp only [List.length_cons, List.length_nil]; omega)
            have e2 : val ((lu ++ [0, 0]).drop (l.length + 1)) = 0 := by
              rw [List.drop_append, show lu.drop (l.length + 1) = [] from List.drop_of_length_le (by omega), List.nil_append]
              have : ∀ k, val (List.drop k [0, 0]) = 0 := fun k => by
                rcases k with _ | _ | _ | k <;> simp [val]
              exact this _
            have e3 : val (lu ++ [0, 0]) = val lu := by rw [val_append]; simp [val]
            rw [e2, Nat.mul_zero, Nat.add_zero, e3, hvu] at e1
            exact e1.symm
          refine ev_callP (shl_ok _ _ (val m) (s : Int) hbN (by omega)) ?_
          rintro vv H4 le4 hvv hd4
          rw [hclip] at hvv
          obtain ⟨Av, lv, cv, rfl, hcv, hSv, hnv, hvv2⟩ := hvv
          try simp only [go_sem, Nat.reduceEqDiff, Nat.reduceAdd, Nat.reduceBEq, ↓reduceIte]
          have hlv := len_eq_bl hnv
          rw [hvv2] at hlv
          have hlvm : lv.length = m.length := by omega
          have htop : 2147483648 ≤ lv.getD (lv.length - 1) 0 := by
            have e1 := getD_bl hnv (fun e0 => by rw [e0] at hlvm; simp only [List.length_nil] at hlvm; omega)
            rw [hvv2] at e1
            have e2 : bl (lv.getD (lv.length - 1) 0) = 32 := by omega
            have e3 := two_pow_le_bl (x := lv.getD (lv.length - 1) 0) (fun e0 => by rw [e0, bl_zero] at e2; cases e2)
            rw [e2] at e3
            exact e3
          generalize (lu ++ [0, 0]).take (l.length + 1) = u at *
          obtain ⟨gu, rfl⟩ : ∃ g, A3 = some ⟨g, 0, none⟩ := hO3.base (by omega)
          have hlt : val u < val lv * 4294967296 ^ (u.length - lv.length) := by
            rw [hvalu, hvv2, Nat.mul_right_comm]
            refine Nat.mul_lt_mul_of_pos_right ?_ (Nat.two_pow_pos _)
            have h5 := val_pos hm hm0
            have h6 := val_lt hn.1
            refine Nat.lt_of_lt_of_le h6 (Nat.le_trans ?_ (Nat.mul_le_mul_right _ h5))
            rw [← Nat.pow_add]
            exact Nat.pow_le_pow_right (by decide) (by omega)
          rw [show l.length + 1 = u.length by omega]
          refine ev_callM (long_ok H4 M3 gu u c3 Av lv cv lv.length hO3 hSv rfl (by omega) (by omega) (by omega) hlimu hnv.1 htop hlt hd4) ?_
          rintro v H5 M5 le5 ⟨q, p, Aq, cq, _, hd5, rfl, hql, hqlim, hpl, hplim, hqv, hpv, hOq, hOp⟩ _
          have hcapq := hOq.le_cap
          have hcapp := hOp.le_cap
          have hSq := hOq.sl hd5
          have hSp := hOp.sl hd5
          try simp only [go_sem, Nat.reduceEqDiff, Nat.reduceAdd, Nat.reduceBEq, ↓reduceIte]
          refine ev_callA (cut_ok _ Aq q q.length cq rfl hcapq hSq hqlim (by omega)) ?_
          rintro v H6 le6 ⟨mq, hmq, rfl, hNq, hvq⟩
          replace hSq := (hSq.le le6).take mq
          replace hSp := hSp.le le6
          rw [← hpl]
          try simp only [go_sem, Nat.reduceEqDiff, Nat.reduceAdd, Nat.reduceBEq, ↓reduceIte]
          refine ev_call (cut_ok _ (some ⟨gu, 0, none⟩) p p.length c3 rfl hcapp hSp hplim (by omega)) ?_
          rintro v H7 le7 ⟨mp, hmp, rfl, hNp, hvp⟩ _
          have hlq : (q.take mq).length = mq := by rw [List.length_take]; omega
          have hlp : (p.take mp).length = mp := by rw [List.length_take]; omega
          have hVq : NatV H7 (.agg #[.slice Aq mq cq]) (val l / val m) := by
            refine ⟨Aq, q.take mq, cq, by rw [hlq], by omega, hSq.le le7, hNq, ?_⟩
            rw [hvq, hqv, hvalu, hvv2, Nat.mul_div_mul_right _ _ (Nat.two_pow_pos _)]
          have hVp : NatV H7 (.agg #[.slice (some ⟨gu, 0, none⟩) mp c3]) (val l * 2 ^ s % (val m * 2 ^ s)) := by
            refine ⟨_, p.take mp, c3, by rw [hlp], by omega, (hSp.le le7).take mp, hNp, ?_⟩
            rw [hvp, hpv, hvalu, hvv2]
          have hbr : bl (val l * 2 ^ s % (val m * 2 ^ s)) ≤ 4294967296 := by
            have e1 := bl_mono (Nat.mod_le (val l * 2 ^ s) (val m * 2 ^ s))
            omega
          try simp only [go_sem, Nat.reduceEqDiff, Nat.reduceAdd, Nat.reduceBEq, ↓reduceIte]
          refine ev_call (shr_ok _ _ _ (s : Int) hVp hbr) ?_
          rintro v H8 le8 hVr _
          rw [hclip, Nat.mul_mod_mul_right, Nat.mul_div_cancel _ (Nat.two_pow_pos _)] at hVr
          obtain ⟨Ar, lr, cr, rfl⟩ := hVr.form
          try simp only [go_sem, Nat.reduceEqDiff, Nat.reduceAdd, Nat.reduceBEq, ↓reduceIte]
          intro hd
          exact ⟨_, _, by rw [hdy], (hVq.le le8).le (PH.le_join _ _), by rw [if_neg hy0]; exact hVr.le (PH.le_join _ _)⟩

theorem bl_gcd {x y n : Nat} (h : x ≠ 0) (hb : bl x ≤ n) : bl (Nat.gcd x y) ≤ n := Nat.le_trans (bl_mono (Nat.le_of_dvd (Nat.pos_of_ne_zero h) (Nat.gcd_dvd_left x y))) hb

theorem gcd_ok (H : PH) (va vb : Value) (x y : Nat) (ha : NatV H va x) (hb : NatV H vb y) (hbx : bl x ≤ 4294967200) (hby : bl y ≤ 4294967200) : FnP Tryz.prog 105 [va, vb] H fun v H' => NatV H' v (Nat.gcd x y) := by
  obtain ⟨A, l, c, rfl⟩ := ha.form
  obtain ⟨B, m, e, rfl⟩ := hb.form
  refine of_nat_Gcd (by simp) ?_
  try simp only [go_sem, Nat.reduceEqDiff, Nat.reduceAdd, Nat.reduceBEq, ↓reduceIte, p_nat_Gcd]
  refine ev_loop (fun n s => ∃ (p q : Nat) (A : Option Addr) (l c : Nat) (B : Option Addr) (m e : Nat) (H1 : PH), n = q ∧ Nat.gcd p q = Nat.gcd x y ∧ bl p ≤ 4294967200 ∧ bl q ≤ 4294967200 ∧ H.le H1 ∧ NatV H1 (.agg #[.slice A l c]) p ∧ NatV H1 (.agg #[.slice B m e]) q ∧
    s = ⟨[(4, .ptr 4 0), (3, .ptr 3 0), (2, .ptr 2 0)], [(4, [.slice none 0 0]), (3, [.slice B m e]), (2, [.slice A l c])], H1, PH.no⟩)
    _ _ ⟨x, y, A, l, c, B, m, e, H, rfl, rfl, hbx, hby, PH.le.refl _, ha, hb, rfl⟩ sub_of ?_
  clear ha hb hbx hby
  rintro q s ⟨p, _, A, l, c, B, m, e, H1, rfl, hg, hbp, hbq, hle, ha, hb, rfl⟩
  have hmq : ∃ lm : List Nat, m = lm.length ∧ Norm lm ∧ val lm = q := by
    obtain ⟨A', l', c', h1, _, _, h2, h3⟩ := hb
    have h4 : (Value.slice B m e) = .slice A' l'.length c' := by
      have := congrArg (fun v => match v with | Value.agg cs => cs.toList | _ => []) h1
      simpa using this
    injection h4 with _ h5 _
    exact ⟨l', h5, h2, h3⟩
  obtain ⟨lm, rfl, hnm, hvm⟩ := hmq
  try simp only [go_sem, Nat.reduceEqDiff, Nat.reduceAdd, Nat.reduceBEq, ↓reduceIte]
  refine ev_if (fun h2 => ?_) (fun h2 => ?_)
  · have hq0 : q ≠ 0 := by
      rintro rfl
      rw [(val_eq_zero hnm).1 hvm] at h2
      simp at h2
    have hmod := Nat.mod_lt p (show 0 < q by omega)
    have hbm := bl_mono (Nat.le_of_lt hmod)
    try simp only [go_sem, Nat.reduceEqDiff, Nat.reduceAdd, Nat.reduceBEq, ↓reduceIte]
    refine ev_call (div_ok _ _ _ p q ha hb hbp hbq) ?_
    rintro v H2 le2 ⟨vq, vr, rfl, hq, hr⟩ _
    rw [if_neg hq0] at hr
    replace hb := hb.le le2
    obtain ⟨C, k, g, rfl⟩ := hq.form
    obtain ⟨D, k2, g2, rfl⟩ := hr.form
    have fin : Nat.gcd q (p % q) = Nat.gcd x y := by rw [← hg, Nat.gcd_comm q, ← Nat.gcd_rec, Nat.gcd_comm]
    try simp only [go_sem, Nat.reduceEqDiff, Nat.reduceAdd, Nat.reduceBEq, ↓reduceIte]
    refine ⟨⟨?_, ?_⟩, ?_⟩
    · skip
      exact k_next (p % q) _ hmod ⟨q, p % q, B, lm.length, e, D, k2, g2, H2, rfl, fin, hbq, by omega, hle.trans le2, hb, hr, rfl⟩ sub_of
    · skip
      exact k_next (p % q) _ hmod ⟨q, p % q, B, lm.length, e, D, k2, g2, H2, rfl, fin, hbq, by omega, hle.trans le2, hb, hr, rfl⟩ sub_of
    · skip
      exact k_next (p % q) _ hmod ⟨q, p % q, B, lm.length, e, D, k2, g2, H2, rfl, fin, hbq, by omega, hle.trans le2, hb, hr, rfl⟩ sub_of
  · try simp only [go_sem, Nat.reduceEqDiff, Nat.reduceAdd, Nat.reduceBEq, ↓reduceIte]
    refine ev_if (fun h3 => ?_) (fun h3 => ?_)
    · have hq0 : q = 0 := by
        rw [← hvm, List.eq_nil_of_length_eq_zero (show lm.length = 0 by omega)]; rfl
      subst hq0
      try simp only [go_sem, Nat.reduceEqDiff, Nat.reduceAdd, Nat.reduceBEq, ↓reduceIte]
      refine ⟨by trivial, ?_⟩
      rw [← hg, Nat.gcd_zero_right]
      exact ha
    · have hq0 : q ≠ 0 := by
        rintro rfl
        rw [(val_eq_zero hnm).1 hvm] at h3
        simp at h3
      have hqB : q < 18446744073709551616 := by
        have h4 := val_lt hnm.1
        rw [hvm] at h4
        exact Nat.lt_of_lt_of_le h4 (Nat.pow_le_pow_right (n := 4294967296) (by decide) (show lm.length ≤ 2 by omega))
      have hmod := Nat.mod_lt p (show 0 < q by omega)
      have hbm := bl_mono (Nat.le_of_lt hmod)
      try simp only [go_sem, Nat.reduceEqDiff, Nat.reduceAdd, Nat.reduceBEq, ↓reduceIte]
      refine ev_call (div_ok _ _ _ p q ha hb hbp hbq) ?_
      rintro v H2 le2 ⟨vq, vr, rfl, hq, hr⟩ _
      rw [if_neg hq0] at hr
      replace hb := hb.le le2
      obtain ⟨C, k, g, rfl⟩ := hq.form
      obtain ⟨D, k2, g2, rfl⟩ := hr.form
      have fin : Nat.gcd q (p % q) = Nat.gcd x y := by rw [← hg, Nat.gcd_comm q, ← Nat.gcd_rec, Nat.gcd_comm]
      try simp only [go_sem, Nat.reduceEqDiff, Nat.reduceAdd, Nat.reduceBEq, ↓reduceIte]
      refine ev_callP (low_ok _ _ q hb (by omega)) ?_
      rintro v_5 H_5 le_5 rfl _
      replace hr := hr.le le_5
      try simp only [go_sem, Nat.reduceEqDiff, Nat.reduceAdd, Nat.reduceBEq, ↓reduceIte]
      refine ev_callP (low_ok _ _ (p % q) hr (by omega)) ?_
      rintro v_6 H_6 le_6 rfl _
      try simp only [go_sem, Nat.reduceEqDiff, Nat.reduceAdd, Nat.reduceBEq, ↓reduceIte]
      rw [Nat.mod_eq_of_lt hqB, Nat.mod_eq_of_lt (show p % q < 18446744073709551616 by omega)]
      refine ev_loop (fun n s => ∃ a b : Nat, n = b ∧ Nat.gcd a b = Nat.gcd x y ∧ a < 18446744073709551616 ∧ b < 18446744073709551616 ∧ s = ⟨[(12, .v (.int .u64 (b : Nat))), (11, .v (.int .u64 (a : Nat))), (4, .ptr 4 0)], [(4, [.slice none 0 0])], H_6, PH.no⟩)
        _ _ ⟨q, p % q, rfl, fin, hqB, by omega, rfl⟩ sub_of ?_
      rintro b s ⟨a, _, rfl, hgab, haB, hbB, rfl⟩
      try simp only [go_sem, Nat.reduceEqDiff, Nat.reduceAdd, Nat.reduceBEq, ↓reduceIte]
      refine ev_if (fun h4 => ?_) (fun h4 => ?_)
      · try simp only [go_sem, Nat.reduceEqDiff, Nat.reduceAdd, Nat.reduceBEq, ↓reduceIte]
        have hm := Nat.mod_lt a (show 0 < b by omega)
        refine rem_nat (a := a) (m := b) rfl (by omega) ?_
        try simp only [go_sem, Nat.reduceEqDiff, Nat.reduceAdd, Nat.reduceBEq, ↓reduceIte]
        exact k_next (a % b) _ hm ⟨b, a % b, rfl, by rw [← hgab, Nat.gcd_comm b, ← Nat.gcd_rec, Nat.gcd_comm], hbB, by omega, rfl⟩ sub_of
      · have hb0 : b = 0 := by omega
        subst hb0
        rw [Nat.gcd_zero_right] at hgab
        try simp only [go_sem, Nat.reduceEqDiff, Nat.reduceAdd, Nat.reduceBEq, ↓reduceIte]
        refine ev_call (of_ok _ a (by omega)) ?_
        rintro v H7 le7 hV _
        obtain ⟨E, k5, g5, rfl⟩ := hV.form
        try simp only [go_sem, Nat.reduceEqDiff, Nat.reduceAdd, Nat.reduceBEq, ↓reduceIte]
        rw [hgab] at hV
        exact ⟨by trivial, hV⟩

end Go.Proofs.YtccdhgjfcgfgoaaGreat.X
set_option linter.unusedVariables false
set_option linter.unusedSimpArgs false
namespace Go.Proofs.YtccdhgjfcgfgoaaGreat.X
open Go Go.RowKit Go.Proofs

theorem nbits_ok (H : PH) (v : Value) (x : Nat) (hN : NatV H v x) (hb : bl x ≤ 4294967296) : FnP Tryz.prog 67 [v] H fun v _ => v = .int .i64 (bl x : Nat) := by
  obtain ⟨A, l, c, rfl, hc, hS, hn, rfl⟩ := hN
  exact bits_ok H A l c hS hn (by have := len_le_bl hn; omega)

theorem bl_dec {l : List Nat} (h : decOk l = true) : bl (dv l) ≤ 16000 := by
  simp only [decOk, Bool.and_eq_true, List.all_eq_true, decide_eq_true_eq] at h
  have := bl_dv (l := l) fun d hd => by have := h.2.2 d hd; simp [isDig] at this; omega
  omega
theorem bl_shl {x n k : Nat} (h : bl x ≤ n) : bl (x * 2 ^ k) ≤ n + k := by
  by_cases h0 : x = 0
  · subst h0; simp [bl_zero]
  · rw [bl_shift _ _ h0]; omega
theorem bl_div {x n k : Nat} (h : bl x ≤ n) : bl (x / k) ≤ n := Nat.le_trans (bl_mono (Nat.div_le_self _ _)) h
theorem RefV.form {H : PH} {v : Value} {x : Nat} (h : RefV H v x) : ∃ A l c, v = .slice A l c ∧ (l = 0 ↔ x = 0) := by
  obtain ⟨A, l, c, rfl, _, _, h4, h5⟩ := h
  refine ⟨A, l.length, c, rfl, ?_⟩
  rw [← h5, val_eq_zero h4]
  exact ⟨fun h => List.eq_nil_of_length_eq_zero h, fun h => by rw [h]; rfl⟩
theorem ofB_size (l : List Nat) : (ofB l).size = l.length := by
  show (l.map UInt8.ofNat).toArray.size = _
  simp

theorem cmpN_self (x : Nat) : cmpN x x = 0 := by unfold cmpN; simp

theorem bne_tt : (true != true) = false := of_eq_true (eq_self _)
theorem bne_tf : (true != false) = true := of_eq_true (eq_self _)
theorem bne_ft : (false != true) = true := of_eq_true (eq_self _)
theorem bne_ff : (false != false) = false := of_eq_true (eq_self _)
theorem beq_tt : (true == true) = true := of_eq_true (eq_self _)
theorem beq_tf : (true == false) = false := of_eq_true (eq_self _)
theorem beq_ft : (false == true) = false := of_eq_true (eq_self _)
theorem beq_ff : (false == false) = true := of_eq_true (eq_self _)
attribute [go_sem] bne_tt bne_tf bne_ft bne_ff beq_tt beq_tf beq_ft beq_ff

theorem sub_okT (H : PH) (va vb : Value) (x y : Nat) (ha : NatV H va x) (hb : NatV H vb y) (hbx : bl x ≤ 4294967296) (hby : bl y ≤ 4294967296) (h : y ≤ x) : FnP Tryz.prog 117 [va, vb] H fun v H' => ∃ v', v = .tuple #[v', .bool true] ∧ NatV H' v' (x - y) :=
  (sub_ok H va vb x y ha hb hbx hby).mono fun v H' _ hR => by rw [decide_eq_true h] at hR; exact hR
theorem sub_okF (H : PH) (va vb : Value) (x y : Nat) (ha : NatV H va x) (hb : NatV H vb y) (hbx : bl x ≤ 4294967296) (hby : bl y ≤ 4294967296) (h : ¬ y ≤ x) : FnP Tryz.prog 117 [va, vb] H fun v H' => ∃ v', v = .tuple #[v', .bool false] ∧ NatV H' v' 0 :=
  (sub_ok H va vb x y ha hb hbx hby).mono fun v H' _ hR => by rw [decide_eq_false h, Nat.sub_eq_zero_of_le (by omega)] at hR; exact hR

theorem div_ok1 (H : PH) (va vb : Value) (x y : Nat) (ha : NatV H va x) (hb : NatV H vb y) (hbx : bl x ≤ 4294967200) (hby : bl y ≤ 4294967200) (hy : y ≠ 0) : FnP Tryz.prog 114 [va, vb] H fun v H' => ∃ vq vr, v = .tuple #[vq, vr, .bool true] ∧ NatV H' vq (x / y) ∧ NatV H' vr (x % y) :=
  (div_ok H va vb x y ha hb hbx hby).mono fun v H' _ hR => by
    obtain ⟨vq, vr, h1, h2, h3⟩ := hR
    rw [decide_eq_true hy] at h1
    rw [if_neg hy] at h3
    exact ⟨vq, vr, h1, h2, h3⟩
end Go.Proofs.YtccdhgjfcgfgoaaGreat.X
set_option linter.unusedVariables false
set_option linter.unusedSimpArgs false
namespace Go.Proofs.YtccdhgjfcgfgoaaGreat.X
open Go Go.RowKit Go.Proofs

theorem rdiv_ok (H : PH) (va vb : Value) (x y : Nat) (ha : RefV H va x) (hb : RefV H vb y) (hbx : bl x ≤ 4294967290) (hby : bl y ≤ 4294967290) (hy : y ≠ 0) : FnP Tryz.prog 97 [va, vb] H fun v H' => ∃ vq vr, v = .tuple #[vq, vr] ∧ RefV H' vq (x / y) ∧ RefV H' vr (x % y) := by
  refine of_cinctureref1_DivNat (by simp) ?_
  try simp only [go_sem, Nat.reduceEqDiff, Nat.reduceAdd, Nat.reduceBEq, ↓reduceIte, p_cinctureref1_DivNat]
  refine ev_call (rbits_ok _ _ x ha (by omega)) ?_
  rintro v_1 H_1 le_1 rfl _
  replace ha := ha.le le_1
  replace hb := hb.le le_1
  try simp only [go_sem, Nat.reduceEqDiff, Nat.reduceAdd, Nat.reduceBEq, ↓reduceIte]
  refine ev_call (rbits_ok _ _ y hb (by omega)) ?_
  rintro v_2 H_2 le_2 rfl _
  replace ha := ha.le le_2
  replace hb := hb.le le_2
  try simp only [go_sem, Nat.reduceEqDiff, Nat.reduceAdd, Nat.reduceBEq, ↓reduceIte]
  have hyb := bl_pos hy
  have hi : x < y * 2 ^ (bl x + 1 - bl y) := by
    have h1 := lt_two_pow_bl x
    have h2 := two_pow_le_bl hy
    refine Nat.lt_of_lt_of_le h1 (Nat.le_trans ?_ (Nat.mul_le_mul_right _ h2))
    rw [← Nat.pow_add]
    exact Nat.pow_le_pow_right (by decide) (by omega)
  refine ev_loop (fun n s => ∃ (k : Nat) (z : Int) (vq vr : Value) (q r : Nat) (H1 : PH), (k = 0 ∧ z < 0 ∨ z = (k : Int) - 1) ∧ n = k ∧ k ≤ bl x + 1 - bl y ∧ x = q * y + r ∧ r < y * 2 ^ k ∧ RefV H1 vb y ∧ RefV H1 vq q ∧ RefV H1 vr r ∧
    s = ⟨[(8, .v (.int .i64 z)), (7, .v vr), (6, .v vq), (1, .v vb)], [], H1, PH.no⟩)
    _ _ ⟨bl x + 1 - bl y, (bl x : Int) - bl y, .slice none 0 0, va, 0, x, H_2, by omega, rfl, Nat.le_refl _, by omega, hi, hb, RefV.zero _, ha, rfl⟩ sub_of ?_
  clear ha hb hi
  rintro n s ⟨_, z, vq, vr, q, r, H1, hz, rfl, hk, hx, hr, hb, hq, hrv, rfl⟩
  have hrx : r ≤ x := by rw [hx]; exact Nat.le_add_left _ _
  have hqx : q ≤ x := by
    rw [hx]
    exact Nat.le_trans (Nat.le_mul_of_pos_right _ (Nat.pos_of_ne_zero hy)) (Nat.le_add_right _ _)
  have hbr := bl_mono hrx
  have hbq := bl_mono hqx
  try simp only [go_sem, Nat.reduceEqDiff, Nat.reduceAdd, Nat.reduceBEq, ↓reduceIte]
  refine ev_if (fun h => ?_) (fun h => ?_)
  · obtain ⟨k, rfl⟩ : ∃ k, n = k + 1 := ⟨n - 1, by omega⟩
    have hzk : z = (k : Int) := by omega
    subst hzk
    have hsh : bl (y * 2 ^ k) ≤ bl y + k := bl_shl (Nat.le_refl _)
    try simp only [go_sem, Nat.reduceEqDiff, Nat.reduceAdd, Nat.reduceBEq, ↓reduceIte]
    refine ev_call (rshl_ok _ _ y k hb (by omega) (by omega)) ?_
    rintro v_3 H_3 le_3 hx2 _
    replace hb := hb.le le_3
    replace hq := hq.le le_3
    replace hrv := hrv.le le_3
    try simp only [go_sem, Nat.reduceEqDiff, Nat.reduceAdd, Nat.reduceBEq, ↓reduceIte]
    refine ev_call (rcmp_ok _ _ _ _ _ hx2 hrv (by omega) (by omega)) ?_
    rintro v_4 H_4 le_4 rfl _
    replace hb := hb.le le_4
    replace hq := hq.le le_4
    replace hrv := hrv.le le_4
    replace hx2 := hx2.le le_4
    try simp only [go_sem, Nat.reduceEqDiff, Nat.reduceAdd, Nat.reduceBEq, ↓reduceIte]
    refine ev_if (fun h2 => ?_) (fun h2 => ?_)
    · have hle : y * 2 ^ k ≤ r := by
        unfold cmpN at h2
        split at h2
        · omega
        · split at h2 <;> omega
      have b1 : bl 1 = 1 := rfl
      have b2 : bl (1 * 2 ^ k) ≤ 1 + k := bl_shl (by omega)
      try simp only [go_sem, Nat.reduceEqDiff, Nat.reduceAdd, Nat.reduceBEq, ↓reduceIte]
      refine ev_call (rsub_ok _ _ _ _ _ hrv hx2 (by omega) hle) ?_
      rintro v_5 H_5 le_5 hr2 _
      replace hb := hb.le le_5
      replace hq := hq.le le_5
      try simp only [go_sem, Nat.reduceEqDiff, Nat.reduceAdd, Nat.reduceBEq, ↓reduceIte]
      refine ev_call (rnatOf_ok _ 1 (by decide)) ?_
      rintro v_6 H_6 le_6 h1 _
      replace hb := hb.le le_6
      replace hq := hq.le le_6
      replace hr2 := hr2.le le_6
      try simp only [go_sem, Nat.reduceEqDiff, Nat.reduceAdd, Nat.reduceBEq, ↓reduceIte]
      refine ev_call (rshl_ok _ _ 1 k h1 (by omega) (by omega)) ?_
      rintro v_7 H_7 le_7 h2k _
      replace hb := hb.le le_7
      replace hq := hq.le le_7
      replace hr2 := hr2.le le_7
      try simp only [go_sem, Nat.reduceEqDiff, Nat.reduceAdd, Nat.reduceBEq, ↓reduceIte]
      refine ev_call (radd_ok _ _ _ q _ hq h2k (by omega) (by omega)) ?_
      rintro v_8 H_8 le_8 hq2 _
      replace hb := hb.le le_8
      replace hr2 := hr2.le le_8
      try simp only [go_sem, Nat.reduceEqDiff, Nat.reduceAdd, Nat.reduceBEq, ↓reduceIte]
      rw [Nat.one_mul] at hq2
      refine k_next k _ (by omega) ⟨k, (k : Int) - 1, _, _, q + 2 ^ k, r - y * 2 ^ k, _, .inr rfl, rfl, by omega, ?_, ?_, hb, hq2, hr2, rfl⟩ sub_of
      · rw [hx, Nat.add_mul, Nat.mul_comm (2 ^ k)]; omega
      · rw [Nat.pow_succ, ← Nat.mul_assoc] at hr; omega
    · have hlt : r < y * 2 ^ k := by
        unfold cmpN at h2
        split at h2
        · exact absurd (by decide) h2
        · split at h2
          · assumption
          · exact absurd (by decide) h2
      try simp only [go_sem, Nat.reduceEqDiff, Nat.reduceAdd, Nat.reduceBEq, ↓reduceIte]
      refine k_next k _ (by omega) ⟨k, (k : Int) - 1, vq, vr, q, r, _, .inr rfl, rfl, by omega, hx, hlt, hb, hq, hrv, rfl⟩ sub_of
  · have hk0 : n = 0 := by omega
    subst hk0
    rw [Nat.pow_zero, Nat.mul_one] at hr
    try simp only [go_sem, Nat.reduceEqDiff, Nat.reduceAdd, Nat.reduceBEq, ↓reduceIte]
    have hy0 := Nat.pos_of_ne_zero hy
    have e1 : x / y = q := by rw [hx, Nat.add_comm, Nat.add_mul_div_right _ _ hy0, Nat.div_eq_of_lt hr, Nat.zero_add]
    have e2 : x % y = r := by rw [hx, Nat.add_comm, Nat.add_mul_mod_self_right, Nat.mod_eq_of_lt hr]
    exact ⟨by trivial, _, _, rfl, by rw [e1]; exact hq, by rw [e2]; exact hrv⟩

theorem rgcd_ok (H : PH) (va vb : Value) (x y : Nat) (ha : RefV H va x) (hb : RefV H vb y) (hbx : bl x ≤ 4294967290) (hby : bl y ≤ 4294967290) : FnP Tryz.prog 96 [va, vb] H fun v H' => RefV H' v (Nat.gcd x y) := by
  refine of_cinctureref1_Gcd (by simp) ?_
  try simp only [go_sem, Nat.reduceEqDiff, Nat.reduceAdd, Nat.reduceBEq, ↓reduceIte, p_cinctureref1_Gcd]
  refine ev_loop (fun n s => ∃ (p q : Nat) (va vb : Value) (H1 : PH), n = q ∧ Nat.gcd p q = Nat.gcd x y ∧ bl p ≤ 4294967290 ∧ bl q ≤ 4294967290 ∧ RefV H1 va p ∧ RefV H1 vb q ∧ s = ⟨[(1, .v vb), (0, .v va)], [], H1, PH.no⟩)
    _ _ ⟨x, y, va, vb, H, rfl, rfl, hbx, hby, ha, hb, rfl⟩ sub_of ?_
  clear ha hb hbx hby
  rintro q s ⟨p, _, va, vb, H1, rfl, hg, hbp, hbq, ha, hb, rfl⟩
  obtain ⟨B, m, e, rfl, hm⟩ := hb.form
  try simp only [go_sem, Nat.reduceEqDiff, Nat.reduceAdd, Nat.reduceBEq, ↓reduceIte]
  refine ev_if (fun h => ?_) (fun h => ?_)
  · have hq0 : q ≠ 0 := fun e0 => by have h9 := hm.2 e0; rw [h9] at h; exact absurd h (by decide)
    have hmod := Nat.mod_lt p (Nat.pos_of_ne_zero hq0)
    have hbm := bl_mono (Nat.le_of_lt hmod)
    try simp only [go_sem, Nat.reduceEqDiff, Nat.reduceAdd, Nat.reduceBEq, ↓reduceIte]
    refine ev_call (rdiv_ok _ _ _ p q ha hb hbp hbq hq0) ?_
    rintro v_9 H_9 le_9 ⟨vq, vr, rfl, h1, h2⟩ _
    replace hb := hb.le le_9
    try simp only [go_sem, Nat.reduceEqDiff, Nat.reduceAdd, Nat.reduceBEq, ↓reduceIte]
    refine k_next (p % q) _ hmod ⟨q, p % q, _, _, _, rfl, by rw [← hg, Nat.gcd_comm q, ← Nat.gcd_rec, Nat.gcd_comm], hbq, by omega, hb, h2, rfl⟩ sub_of
  · have hq0 : q = 0 := hm.1 (by omega)
    subst hq0
    rw [Nat.gcd_zero_right] at hg
    try simp only [go_sem, Nat.reduceEqDiff, Nat.reduceAdd, Nat.reduceBEq, ↓reduceIte]
    rw [hg] at ha
    exact ⟨by trivial, ha⟩

end Go.Proofs.YtccdhgjfcgfgoaaGreat.X
