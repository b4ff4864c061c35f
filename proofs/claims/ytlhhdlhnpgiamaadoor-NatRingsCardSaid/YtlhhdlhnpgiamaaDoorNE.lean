/- Package nat: shifting. -/
import Derived.Test.YtlhhdlhnpgiamaaDoorND
set_option linter.unusedVariables false
set_option linter.unusedSimpArgs false
namespace Go.Proofs.YtlhhdlhnpgiamaaDoor.X
open Go Go.RowKit Go.Proofs

theorem quo_nat {k : IntKind} {a m : Nat} {d : Nat} {X : XT} {s : St} {K : St → Prop} {b : Int} (hb : b = (m : Nat)) (hm : m ≠ 0) (hk : k.wrap ((a / m : Nat) : Int) = ((a / m : Nat) : Int)) (k1 : X (s.put d (.v (.int k ((a / m : Nat) : Int)))) K) : EvQuo k (a : Int) b d X s K := by
  subst hb
  refine ev_quo (by omega) ?_
  have : (a : Int).tdiv (m : Int) = ((a / m : Nat) : Int) := by rw [Int.natCast_ediv, Int.tdiv_eq_ediv_of_nonneg (by omega)]
  rw [this, hk]; exact k1
theorem rem_nat {k : IntKind} {a m : Nat} {d : Nat} {X : XT} {s : St} {K : St → Prop} {b : Int} (hb : b = (m : Nat)) (hm : m ≠ 0) (k1 : X (s.put d (.v (.int k ((a % m : Nat) : Int)))) K) : EvRem k (a : Int) b d X s K := by
  subst hb
  refine ev_rem (by omega) ?_
  have : (a : Int).tmod (m : Int) = ((a % m : Nat) : Int) := by rw [Int.natCast_emod, Int.tmod_eq_emod_of_nonneg (by omega)]
  rw [this]; exact k1

theorem ev_sllN {sz c d : Nat} {lo hi : Int} {b off : Nat} {X : XT} {s : St} {K : St → Prop} (w n : Nat) (hl : lo = (w : Nat)) (hh : hi = (n : Nat)) (h1 : w < c) (h2 : w ≤ n) (h3 : n ≤ c) (k1 : X (s.put d (.v (.slice (some ⟨b, off + w * sz, none⟩) (n - w) (c - w)))) K) :
    EvSl sz (some ⟨b, off, none⟩) c lo hi d X s K := by
  subst hl; subst hh
  refine ev_sl (by omega) (by omega) (by omega) ?_
  rw [toNat_cast, toNat_cast, if_neg (by omega)]
  have : Option.map (fun a : Addr => a.add (w * sz)) (some ⟨b, off, none⟩) = some ⟨b, off + w * sz, none⟩ := by
    simp only [Option.map_some, Addr.add]
    split
    · rename_i h; rw [h]; rfl
    · rfl
  rw [this]
  exact k1

def clip (n : Int) : Nat := (min (max n 0) 1048576).toNat
theorem clip_le (n : Int) : clip n ≤ 1048576 := by unfold clip; omega
theorem clip_nat (n : Nat) (h : n ≤ 1048576) : clip (n : Int) = n := by unfold clip; omega
theorem clip_eq (n : Int) : (if (1048576 : Int) < (if n < 0 then 0 else n) then (1048576 : Int) else (if n < 0 then 0 else n)) = (clip n : Nat) := by
  unfold clip; repeat' split <;> omega

theorem shl_step (V n w s i x : Nat) (o : List Nat) (hn : n = 32 * w + s) (hs : s < 32) (hx : x < 4294967296) (hV : V < 4294967296 ^ i) (ho : val o = V * 2 ^ n) (hlo : Lim o) (hl : i + w + 1 < o.length) :
    o.getD (i + w + 1) 0 = 0 ∧ (o.getD (i + w) 0 ||| x * 2 ^ s % 4294967296) = o.getD (i + w) 0 + x * 2 ^ s % 4294967296 ∧ o.getD (i + w) 0 + x * 2 ^ s % 4294967296 < 4294967296 ∧ x * 2 ^ s < 18446744073709551616 ∧
    val ((o.set (i + w) (o.getD (i + w) 0 + x * 2 ^ s % 4294967296)).set (i + w + 1) (x * 2 ^ s / 4294967296)) = (V + 4294967296 ^ i * x) * 2 ^ n := by
  have hlt : val o < 4294967296 ^ (i + w) * 2 ^ s := by
    rw [ho, hn, Nat.pow_add 2, Nat.pow_add 4294967296, pow32 w, ← Nat.mul_assoc]
    exact Nat.mul_lt_mul_of_pos_right (Nat.mul_lt_mul_of_pos_right hV (Nat.two_pow_pos _)) (Nat.two_pow_pos _)
  have h1 : o.getD (i + w) 0 < 2 ^ s := getD_lt hlt
  have h2 : o.getD (i + w + 1) 0 = 0 := by
    refine getD_zero (n := i + w + 1) (Nat.lt_of_lt_of_le hlt ?_) (Nat.le_refl _)
    rw [Nat.pow_succ]
    exact Nat.mul_le_mul_left _ (Nat.le_of_lt (Nat.lt_of_lt_of_le (Nat.pow_lt_pow_right (by decide) hs) (by decide)))
  have h32 : (4294967296 : Nat) = 2 ^ (32 - s) * 2 ^ s := by rw [← Nat.pow_add, show 32 - s + s = 32 by omega]
  have h3 : x * 2 ^ s % 4294967296 = x % 2 ^ (32 - s) * 2 ^ s := by
    conv => lhs; rw [h32]
    rw [Nat.mul_mod_mul_right]
  have hq : x % 2 ^ (32 - s) < 2 ^ (32 - s) := Nat.mod_lt _ (Nat.two_pow_pos _)
  have h4 : o.getD (i + w) 0 + x * 2 ^ s % 4294967296 < 4294967296 := by
    rw [h3]
    have := Nat.mul_le_mul_right (2 ^ s) (Nat.succ_le_of_lt hq)
    rw [← h32, Nat.succ_mul] at this
    omega
  refine ⟨h2, by rw [h3]; exact or_add _ _ _ h1, h4, ?_, ?_⟩
  · have := Nat.mul_lt_mul'' hx (Nat.pow_lt_pow_right (by decide : 1 < 2) hs)
    omega
  · have e1 := val_set o (i + w) (o.getD (i + w) 0 + x * 2 ^ s % 4294967296) (by omega)
    have e2 := val_set (o.set (i + w) (o.getD (i + w) 0 + x * 2 ^ s % 4294967296)) (i + w + 1) (x * 2 ^ s / 4294967296) (by simpa using hl)
    rw [show (o.set (i + w) (o.getD (i + w) 0 + x * 2 ^ s % 4294967296)).getD (i + w + 1) 0 = 0 by simp only [List.getD] at h2 ⊢; rw [List.getElem?_set_ne (by omega)]; exact h2, Nat.mul_zero, Nat.add_zero] at e2
    rw [e2]
    rw [Nat.mul_add] at e1
    have e3 : (V + 4294967296 ^ i * x) * 2 ^ n = val o + 4294967296 ^ (i + w) * (x * 2 ^ s) := by
      rw [Nat.add_mul, ho, hn, Nat.pow_add 2, ← pow32 w, Nat.pow_add]
      congr 1
      simp only [Nat.mul_assoc, Nat.mul_left_comm]
    have e4 : 4294967296 ^ (i + w) * (x * 2 ^ s) = 4294967296 ^ (i + w) * (x * 2 ^ s % 4294967296) + 4294967296 ^ (i + w + 1) * (x * 2 ^ s / 4294967296) := by
      rw [Nat.pow_succ, Nat.mul_assoc, ← Nat.mul_add]; congr 1; omega
    omega

/-- a number whose limbs are one's own -/
def NatO (M : PH) (v : Value) (x : Nat) : Prop := ∃ A l c, v = .agg #[.slice A l.length c] ∧ Own .u32 60 M A l c ∧ Norm l ∧ val l = x
theorem NatO.nat {H M : PH} {v : Value} {x : Nat} (h : NatO M v x) (hd : PH.disj H M) : NatV (H.join M) v x := by
  obtain ⟨A, l, c, rfl, hO, hn, hv⟩ := h
  exact ⟨A, l, c, rfl, hO.le_cap, hO.sl hd, hn, hv⟩

theorem ev_cutB {A : Option Addr} {l : List Nat} {n c d : Nat} {X : XT} {fr : List (Nat × SV)} {lh : List (Nat × List Value)} {H M : PH} {K : St → Prop} (hO : Own .u32 60 M A l c) (hn : n = l.length) (hl : Lim l) (hb : n ≤ 1000000000) (hd : PH.disj H M)
    (k1 : ∀ m H', H.le H' → m ≤ l.length → Norm (l.take m) → val (l.take m) = val l → PH.disj H' M → X ⟨(d, .v (.agg #[.slice A m c])) :: fr, lh, H', M⟩ K) : EvCall Tryd.prog 46 [.slice A n c] d X ⟨fr, lh, H, M⟩ K := by
  refine ev_callB (cut_ok _ A l n c hn (by rw [hn]; exact hO.le_cap) (hO.sl hd) hl hb) ?_
  rintro v H' hle ⟨m, hm, rfl, hN, hv⟩ hd'
  exact k1 m H' hle hm hN hv hd'

theorem shl_own (H : PH) (va : Value) (x : Nat) (n : Int) (ha : NatV H va x) (hbx : bl x ≤ 4294967296) : Fn Tryd.prog 30 [va, .int .i64 n] H PH.no fun v H' M' => PH.disj H' M' ∧ NatO M' v (x * 2 ^ clip n) := by
  obtain ⟨A, l, c, rfl, hc, hS, hn, rfl⟩ := ha
  have hlen : l.length ≤ 200000000 := by have := len_le_bl hn; omega
  have hcl := clip_le n
  clear hbx hc
  refine of_nat_Shl (by simp) ?_
  simp only [go_sem, Nat.reduceEqDiff, Bool.false_eq_true, Nat.reduceBEq, ↓reduceIte, p_nat_Shl]
  rw [clip_eq n]
  generalize clip n = k at hcl ⊢
  refine quo_nat (m := 32) rfl (by decide) (w64 _ (by omega) (by omega)) ?_
  simp only [go_sem, Nat.reduceEqDiff, Bool.false_eq_true, Nat.reduceBEq, ↓reduceIte]
  simp (disch := omega) only [nA64, nS64, nM64, nC64, nA64l, nS64l, nM64l, nM64r, nR64l, nL64l, nAu64, nMu64, nMu64r, nSu64, nAu64l, nLu64l, nCu64, nCu32, nCu8, nAu32, nLu32l, nSu8l, toNat_cast]
  refine ev_mkO (by omega) (by omega) (by omega) (PH.disj_no _) ?_
  intro g M hO _ _ hd
  simp only [go_sem, Nat.reduceEqDiff, Bool.false_eq_true, Nat.reduceBEq, ↓reduceIte]
  rw [toNat_cast] at hO ⊢
  refine ev_loop (fun n s => ∃ i o M, i ≤ l.length ∧ n = l.length - i ∧ o.length = l.length + k / 32 + 1 ∧ Lim o ∧ val o = val (l.take i) * 2 ^ k ∧ Own .u32 60 M (some ⟨g, 0, none⟩) o (l.length + k / 32 + 1) ∧ PH.disj H M ∧
    s = ⟨[(23, .v (.int .i64 (i : Nat))), (22, .v (.int .i64 (l.length : Nat))), (21, .v (.slice A l.length c)), (1, .v (.int .i64 (k : Nat))), (5, .v (.slice (some ⟨g, 0, none⟩) (l.length + k / 32 + 1) (l.length + k / 32 + 1))), (4, .ptr 4 0)], [(4, [.slice none 0 0])], H, M⟩)
    l.length _ ⟨0, _, M, by omega, by omega, by simp, Lim.replicate _, by simp [val, val_replicate], hO, hd, rfl⟩ ⟨rfl, by simp only [go_sem, Nat.reduceEqDiff, Bool.false_eq_true, Nat.reduceBEq, ↓reduceIte, and_self, Option.some.injEq, SV.v.injEq, SV.ptr.injEq, Value.int.injEq, Value.bool.injEq, Value.slice.injEq, true_and, and_true] <;> (repeat' apply And.intro) <;> first | rfl | omega | (simp (disch := omega) only [w64, wu64, wu32, wu8] <;> omega), by simp only [go_sem, Nat.reduceEqDiff, Bool.false_eq_true, Nat.reduceBEq, ↓reduceIte, and_self, Option.some.injEq, SV.v.injEq, SV.ptr.injEq, Value.int.injEq, Value.bool.injEq, Value.slice.injEq, true_and, and_true] <;> (repeat' apply And.intro) <;> rfl, rfl, PH.le.refl _⟩ ?_
  clear hO hd
  rintro n s ⟨i, o, M, hi, rfl, ho, hlo, hv, hO, hd, rfl⟩
  simp only [go_sem, Nat.reduceEqDiff, Bool.false_eq_true, Nat.reduceBEq, ↓reduceIte]
  refine ev_if (fun h2 => ?_) (fun h2 => ?_)
  · obtain ⟨b, off, rfl⟩ := hS.base (by omega)
    simp only [go_sem, Nat.reduceEqDiff, Bool.false_eq_true, Nat.reduceBEq, ↓reduceIte]
    refine ev_iaN i rfl (by omega) rfl ?_
    simp only [go_sem, Nat.reduceEqDiff, Bool.false_eq_true, Nat.reduceBEq, ↓reduceIte]
    refine ev_ldS hS rfl (by omega) ?_
    have hx := hn.1.getD i
    have el := val_take_succ l i (by omega)
    have hlt := val_lt (hn.1.take i)
    rw [List.length_take, Nat.min_eq_left hi] at hlt
    obtain ⟨z1, z2, z3, z4, z5⟩ := shl_step (val (l.take i)) k (k / 32) (k % 32) i (l.getD i 0) o (by omega) (by omega) hx hlt hv hlo (by omega)
    simp only [go_sem, Nat.reduceEqDiff, Bool.false_eq_true, Nat.reduceBEq, ↓reduceIte]
    refine rem_nat (m := 32) rfl (by decide) ?_
    simp only [go_sem, Nat.reduceEqDiff, Bool.false_eq_true, Nat.reduceBEq, ↓reduceIte]
    simp (disch := omega) only [nA64, nS64, nM64, nC64, nA64l, nS64l, nM64l, nM64r, nR64l, nL64l, nAu64, nMu64, nMu64r, nSu64, nAu64l, nLu64l, nCu64, nCu32, nCu8, nAu32, nLu32l, nSu8l, toNat_cast]
    refine shl_nat (n := k % 32) (y := l.getD i 0 * 2 ^ (k % 32)) rfl (by show k % 32 ≤ 64; omega) (nCu64 (by omega)) ?_
    simp only [go_sem, Nat.reduceEqDiff, Bool.false_eq_true, Nat.reduceBEq, ↓reduceIte]
    refine quo_nat (m := 32) rfl (by decide) (w64 _ (by omega) (by omega)) ?_
    simp only [go_sem, Nat.reduceEqDiff, Bool.false_eq_true, Nat.reduceBEq, ↓reduceIte]
    simp (disch := omega) only [nA64, nS64, nM64, nC64, nA64l, nS64l, nM64l, nM64r, nR64l, nL64l, nAu64, nMu64, nMu64r, nSu64, nAu64l, nLu64l, nCu64, nCu32, nCu8, nAu32, nLu32l, nSu8l, toNat_cast]
    refine ev_iaN (i + k / 32) rfl (by omega) rfl ?_
    simp only [go_sem, Nat.reduceEqDiff, Bool.false_eq_true, Nat.reduceBEq, ↓reduceIte]
    refine ev_ldO hO (by omega) ?_
    simp only [go_sem, Nat.reduceEqDiff, Bool.false_eq_true, Nat.reduceBEq, ↓reduceIte]
    rw [u32mod, or32 (hlo.getD _) (Nat.mod_lt _ (by decide)), z2]
    refine ev_iaN (i + k / 32) rfl (by omega) rfl ?_
    simp only [go_sem, Nat.reduceEqDiff, Bool.false_eq_true, Nat.reduceBEq, ↓reduceIte]
    refine ev_stO hO (by omega) ?_
    intro M' hO' _ hd'
    simp only [go_sem, Nat.reduceEqDiff, Bool.false_eq_true, Nat.reduceBEq, ↓reduceIte]
    refine quo_nat (m := 32) rfl (by decide) (w64 _ (by omega) (by omega)) ?_
    simp only [go_sem, Nat.reduceEqDiff, Bool.false_eq_true, Nat.reduceBEq, ↓reduceIte]
    simp (disch := omega) only [nA64, nS64, nM64, nC64, nA64l, nS64l, nM64l, nM64r, nR64l, nL64l, nAu64, nMu64, nMu64r, nSu64, nAu64l, nLu64l, nCu64, nCu32, nCu8, nAu32, nLu32l, nSu8l, toNat_cast]
    refine shr_nat (n := 32) rfl (by decide) ?_
    simp only [go_sem, Nat.reduceEqDiff, Bool.false_eq_true, Nat.reduceBEq, ↓reduceIte]
    rw [u32mod, Nat.mod_eq_of_lt (show l.getD i 0 * 2 ^ (k % 32) / 2 ^ 32 < 4294967296 by omega)]
    refine ev_iaN (i + k / 32 + 1) rfl (by omega) rfl ?_
    simp only [go_sem, Nat.reduceEqDiff, Bool.false_eq_true, Nat.reduceBEq, ↓reduceIte]
    refine ev_stO hO' (by simp; omega) ?_
    intro M2 hO2 _ hd2
    simp only [go_sem, Nat.reduceEqDiff, Bool.false_eq_true, Nat.reduceBEq, ↓reduceIte]
    refine k_next (l.length - (i + 1)) _ (by omega) ⟨i + 1, _, M2, by omega, rfl, by simp; omega, (hlo.set z3).set (by omega), ?_, hO2, hd2 _ (hd' _ hd), rfl⟩ ⟨rfl, by simp only [go_sem, Nat.reduceEqDiff, Bool.false_eq_true, Nat.reduceBEq, ↓reduceIte, and_self, Option.some.injEq, SV.v.injEq, SV.ptr.injEq, Value.int.injEq, Value.bool.injEq, Value.slice.injEq, true_and, and_true] <;> (repeat' apply And.intro) <;> first | rfl | omega | (simp (disch := omega) only [w64, wu64, wu32, wu8] <;> omega), by simp only [go_sem, Nat.reduceEqDiff, Bool.false_eq_true, Nat.reduceBEq, ↓reduceIte, and_self, Option.some.injEq, SV.v.injEq, SV.ptr.injEq, Value.int.injEq, Value.bool.injEq, Value.slice.injEq, true_and, and_true] <;> (repeat' apply And.intro) <;> rfl, rfl, PH.le.refl _⟩
    rw [el]
    exact z5
  · have hil : i = l.length := by omega
    subst hil
    simp only [go_sem, Nat.reduceEqDiff, Bool.false_eq_true, Nat.reduceBEq, ↓reduceIte]
    refine ev_cutB hO (by omega) hlo (by omega) hd ?_
    intro m H' hl hm hN hvm hd'
    simp only [go_sem, Nat.reduceEqDiff, Bool.false_eq_true, Nat.reduceBEq, ↓reduceIte]
    refine ⟨hd', _, o.take m, _, ?_, hO.take m, hN, ?_⟩
    · rw [List.length_take, Nat.min_eq_left hm]
    · rw [hvm, hv, List.take_length]

end Go.Proofs.YtlhhdlhnpgiamaaDoor.X
