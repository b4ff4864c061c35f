/- Package nat: making and shifting numbers. -/
import Derived.Test.YtlhhdlhnpgiamaaDoorNA
import Derived.Test.YtlhhdlhnpgiamaaDoorMB
set_option linter.unusedVariables false
set_option linter.unusedSimpArgs false
namespace Go.Proofs.YtlhhdlhnpgiamaaDoor.X
open Go Go.RowKit Go.Proofs

theorem Sl.take {k : IntKind} {H : PH} {A : Option Addr} {l : List Nat} (h : Sl k H A l) (m : Nat) : Sl k H A (l.take m) := by
  rcases h with h | ⟨b, off, cs, T, fz, h1, h2, h3, h4⟩
  · left; rw [h]; simp
  · refine .inr ⟨b, off, cs, T, fz, h1, h2, ?_, ?_⟩
    · simp only [List.length_take]; omega
    · rw [List.length_take, ← List.take_take, h4, nums, ← List.map_take, nums]

theorem ev_cutA {T : TypeId} {A : Option Addr} {l : List Nat} {n c d : Nat} {X : XT} {fr : List (Nat × SV)} {lh : List (Nat × List Value)} {H M : PH} {K : St → Prop} (hO : Own .u32 T M A l c) (hn : n = l.length) (hl : Lim l) (hb : n ≤ 1000000000) (hd : PH.disj H M)
    (k1 : ∀ v H', H.le H' → NatV H' v (val l) → X ⟨(d, .v v) :: fr, lh, H', PH.no⟩ K) : EvCall Tryd.prog 46 [.slice A n c] d X ⟨fr, lh, H, M⟩ K := by
  have hS := hO.sl hd
  refine ev_callA (cut_ok _ A l n c hn (by rw [hn]; exact hO.le_cap) hS hl hb) ?_
  rintro v H' hle ⟨m, hm, rfl, hN, hv⟩
  refine k1 _ H' ((PH.le_join _ _).trans hle) ⟨A, l.take m, c, ?_, ?_, (hS.le hle).take m, hN, hv⟩
  · rw [List.length_take, Nat.min_eq_left hm]
  · have := hO.le_cap
    rw [List.length_take]; omega

theorem bitsV_or {k : IntKind} {a b : Nat} (j : Nat) (hj : j ≤ k.bits) (hk : ∀ n : Int, 0 ≤ n → n < 2 ^ j → k.wrap n = n) (ha : a < 2 ^ j) (hb : b < 2 ^ j) : bitsV .or k (a : Int) (b : Int) = ((a ||| b : Nat) : Int) := by
  have hp : 2 ^ j ≤ 2 ^ k.bits := Nat.pow_le_pow_right (by decide) hj
  have ha' : a % 2 ^ k.bits = a := Nat.mod_eq_of_lt (Nat.lt_of_lt_of_le ha hp)
  have hb' : b % 2 ^ k.bits = b := Nat.mod_eq_of_lt (Nat.lt_of_lt_of_le hb hp)
  simp only [bitsV, BitVec.ofInt_natCast, BitVec.toNat_or, BitVec.toNat_ofNat, ha', hb']
  exact hk _ (Int.natCast_nonneg _) (by exact_mod_cast Nat.or_lt_two_pow ha hb)
theorem bitsV_and {k : IntKind} {a b : Nat} (j : Nat) (hj : j ≤ k.bits) (hk : ∀ n : Int, 0 ≤ n → n < 2 ^ j → k.wrap n = n) (ha : a < 2 ^ j) (hb : b < 2 ^ j) : bitsV .and k (a : Int) (b : Int) = ((a &&& b : Nat) : Int) := by
  have hp : 2 ^ j ≤ 2 ^ k.bits := Nat.pow_le_pow_right (by decide) hj
  have ha' : a % 2 ^ k.bits = a := Nat.mod_eq_of_lt (Nat.lt_of_lt_of_le ha hp)
  have hb' : b % 2 ^ k.bits = b := Nat.mod_eq_of_lt (Nat.lt_of_lt_of_le hb hp)
  simp only [bitsV, BitVec.ofInt_natCast, BitVec.toNat_and, BitVec.toNat_ofNat, ha', hb']
  exact hk _ (Int.natCast_nonneg _) (by exact_mod_cast Nat.and_lt_two_pow _ hb)
theorem ws64 (n : Int) (h0 : 0 ≤ n) (h : n < 2 ^ 64) : IntKind.u64.wrap n = n := wu64 n h0 (by omega)
theorem ws32 (n : Int) (h0 : 0 ≤ n) (h : n < 2 ^ 32) : IntKind.u32.wrap n = n := wu32 n h0 (by omega)
theorem or64 {a b : Nat} (ha : a < 2 ^ 64) (hb : b < 2 ^ 64) : bitsV .or .u64 (a : Int) (b : Int) = ((a ||| b : Nat) : Int) := bitsV_or 64 (by decide) ws64 ha hb
theorem or32 {a b : Nat} (ha : a < 2 ^ 32) (hb : b < 2 ^ 32) : bitsV .or .u32 (a : Int) (b : Int) = ((a ||| b : Nat) : Int) := bitsV_or 32 (by decide) ws32 ha hb
theorem and64 {a b : Nat} (ha : a < 2 ^ 64) (hb : b < 2 ^ 64) : bitsV .and .u64 (a : Int) (b : Int) = ((a &&& b : Nat) : Int) := bitsV_and 64 (by decide) ws64 ha hb
theorem and32 {a b : Nat} (ha : a < 2 ^ 32) (hb : b < 2 ^ 32) : bitsV .and .u32 (a : Int) (b : Int) = ((a &&& b : Nat) : Int) := bitsV_and 32 (by decide) ws32 ha hb

theorem of_ok (H : PH) (x : Nat) (hx : x ≤ 18446744073709551615) : FnP Tryd.prog 28 [.int .u64 (x : Int)] H fun v H' => NatV H' v x := by
  refine of_nat_Of (by simp) ?_
  simp only [go_sem, Nat.reduceEqDiff, Bool.false_eq_true, Nat.reduceBEq, ↓reduceIte, p_nat_Of]
  refine shr_nat (n := 32) rfl (by decide) ?_
  simp only [go_sem, Nat.reduceEqDiff, Bool.false_eq_true, Nat.reduceBEq, ↓reduceIte]
  rw [u32mod, u32mod]
  refine ev_bslO (l := [x % 4294967296, x / 2 ^ 32 % 4294967296]) rfl rfl (by simp) (PH.disj_no _) ?_
  intro g M' hO hle _ hd
  simp only [go_sem, Nat.reduceEqDiff, Bool.false_eq_true, Nat.reduceBEq, ↓reduceIte]
  refine ev_cutA hO rfl (.cons (by omega) (.cons (by omega) .nil)) (by decide) hd ?_
  intro v H' hl hN
  have hN2 := hN
  obtain ⟨A', l', c', rfl, _⟩ := hN2
  simp only [go_sem, Nat.reduceEqDiff, Bool.false_eq_true, Nat.reduceBEq, ↓reduceIte]
  refine ⟨by trivial, ?_⟩
  have : val [x % 4294967296, x / 2 ^ 32 % 4294967296] = x := by simp only [val]; omega
  rwa [this] at hN

theorem low_ok (H : PH) (v : Value) (x : Nat) (hN : NatV H v x) (hb : bl x ≤ 4294967296) : FnP Tryd.prog 26 [v] H fun v _ => v = .int .u64 (x % 18446744073709551616 : Nat) := by
  obtain ⟨A, l, c, rfl, hc, hS, hn, rfl⟩ := hN
  have hlen := len_le_bl hn
  refine of_nat_Nat_Low (by simp) ?_
  simp only [go_sem, Nat.reduceEqDiff, Bool.false_eq_true, Nat.reduceBEq, ↓reduceIte, p_nat_Nat_Low]
  rw [show (if (2:Int) < (l.length:Int) then 2 else (l.length:Int)) = ((min l.length 2 : Nat) : Int) by split <;> omega]
  generalize hm : min l.length 2 = m
  refine ev_loop (fun n s => ∃ i, i ≤ m ∧ n = m - i ∧ s = ⟨[(9, .v (.int .i64 (i : Nat))), (8, .v (.int .i64 (m : Nat))), (3, .v (.int .u64 (val (l.take i) : Nat))), (1, .ptr 1 0)], [(1, [.slice A l.length c])], H, PH.no⟩) m _ ⟨0, by omega, by omega, rfl⟩ ⟨rfl, by simp only [go_sem, Nat.reduceEqDiff, Bool.false_eq_true, Nat.reduceBEq, ↓reduceIte, and_self, Option.some.injEq, SV.v.injEq, SV.ptr.injEq, Value.int.injEq, Value.bool.injEq, Value.slice.injEq, true_and, and_true] <;> (repeat' apply And.intro) <;> first | rfl | omega | (simp (disch := omega) only [w64, wu64, wu32, wu8] <;> omega), by simp only [go_sem, Nat.reduceEqDiff, Bool.false_eq_true, Nat.reduceBEq, ↓reduceIte, and_self, Option.some.injEq, SV.v.injEq, SV.ptr.injEq, Value.int.injEq, Value.bool.injEq, Value.slice.injEq, true_and, and_true] <;> (repeat' apply And.intro) <;> rfl, rfl, PH.le.refl _⟩ ?_
  rintro n s ⟨i, hi, rfl, rfl⟩
  simp only [go_sem, Nat.reduceEqDiff, Bool.false_eq_true, Nat.reduceBEq, ↓reduceIte]
  refine ev_if (fun h => ?_) (fun h => ?_)
  · obtain ⟨b, off, rfl⟩ := hS.base (by omega)
    simp only [go_sem, Nat.reduceEqDiff, Bool.false_eq_true, Nat.reduceBEq, ↓reduceIte]
    refine ev_iaN i rfl (by omega) rfl ?_
    simp only [go_sem, Nat.reduceEqDiff, Bool.false_eq_true, Nat.reduceBEq, ↓reduceIte]
    refine ev_ldS hS rfl (by omega) ?_
    simp only [go_sem, Nat.reduceEqDiff, Bool.false_eq_true, Nat.reduceBEq, ↓reduceIte]
    have hx := hn.1.getD i
    have e := val_take_succ l i (by omega)
    have hlt := val_lt (hn.1.take i)
    rw [List.length_take, Nat.min_eq_left (by omega), pow32] at hlt
    rw [wu64n (l.getD i 0) rfl (by omega), w64n (32 * i) (by omega) (by omega)]
    have hy : l.getD i 0 * 2 ^ (32 * i) < 2 ^ 64 := by
      have h3 := Nat.mul_lt_mul_of_pos_right hx (Nat.two_pow_pos (32 * i))
      rw [show (4294967296 : Nat) = 2 ^ 32 from rfl, ← Nat.pow_add] at h3
      exact Nat.lt_of_lt_of_le h3 (Nat.pow_le_pow_right (by decide) (by omega))
    refine shl_nat (n := 32 * i) (y := l.getD i 0 * 2 ^ (32 * i)) rfl (by show 32 * i ≤ 64; omega) (wu64n _ rfl (by omega)) ?_
    simp only [go_sem, Nat.reduceEqDiff, Bool.false_eq_true, Nat.reduceBEq, ↓reduceIte]
    rw [or64 (by have := Nat.pow_le_pow_right (n := 2) (by decide) (show 32 * i ≤ 64 by omega); omega) hy, or_add _ _ _ hlt]
    refine k_next (m - (i + 1)) _ (by omega) ⟨i + 1, by omega, rfl, rfl⟩ ⟨rfl, ?_, by simp only [go_sem, Nat.reduceEqDiff, Bool.false_eq_true, Nat.reduceBEq, ↓reduceIte, and_self, Option.some.injEq, SV.v.injEq, SV.ptr.injEq, Value.int.injEq, Value.bool.injEq, Value.slice.injEq, true_and, and_true], rfl, PH.le.refl _⟩
    simp only [go_sem, Nat.reduceEqDiff, Bool.false_eq_true, Nat.reduceBEq, ↓reduceIte, and_self, Option.some.injEq, SV.v.injEq, SV.ptr.injEq, Value.int.injEq, Value.bool.injEq, Value.slice.injEq, true_and, and_true]
    refine ⟨by simp (disch := omega) only [w64, wu64, wu32, wu8]; omega, ?_⟩
    rw [e, pow32, Nat.mul_comm]
  · simp only [go_sem, Nat.reduceEqDiff, Bool.false_eq_true, Nat.reduceBEq, ↓reduceIte]
    refine ⟨by trivial, congrArg (fun z : Nat => Value.int .u64 (z : Int)) ?_⟩
    have him : i = m := by omega
    subst him
    have e := val_take_drop l i (by omega)
    have hlt := val_lt (hn.1.take i)
    rw [List.length_take, Nat.min_eq_left (by omega)] at hlt
    by_cases h2 : 2 ≤ l.length
    · have : i = 2 := by omega
      subst this
      rw [e, show (4294967296 : Nat) ^ 2 = 18446744073709551616 from rfl]
      rw [show (4294967296 : Nat) ^ 2 = 18446744073709551616 from rfl] at hlt
      omega
    · have : i = l.length := by omega
      rw [this, List.take_length]
      have hlt2 := val_lt hn.1
      have := Nat.pow_le_pow_right (n := 4294967296) (by decide) (show l.length ≤ 2 by omega)
      rw [show (4294967296 : Nat) ^ 2 = 18446744073709551616 from rfl] at this
      omega

/-- the table of trailing zeros -/
def dbt : List Nat := [0, 1, 28, 2, 29, 14, 24, 3, 30, 22, 20, 15, 25, 17, 4, 8, 31, 27, 13, 23, 21, 19, 16, 7, 26, 12, 18, 6, 11, 5, 10, 9]
def Tab (H : PH) : Prop := Sl .u8 H (some ⟨0, 0, none⟩) dbt
theorem Tab.le {H H' : PH} (h : Tab H) (hl : H.le H') : Tab H' := Sl.le h hl
theorem dbt_ok : ∀ t < 32, dbt.getD (2 ^ t * 125613361 % 4294967296 / 2 ^ 27) 0 = t := by decide

theorem tz32_ok (H : PH) (hT : Tab H) (x : Nat) (h0 : x ≠ 0) (hx : x < 4294967296) : FnP Tryd.prog 53 [.int .u32 (x : Int)] H fun v _ => v = .int .i64 (tz x : Nat) := by
  have ht : tz x < 32 := Nat.lt_of_lt_of_le (tz_lt_bl h0) (bl_le_iff.2 hx)
  refine of_bits_TrailingZeros32 (by simp) ?_
  simp only [go_sem, Nat.reduceEqDiff, Bool.false_eq_true, Nat.reduceBEq, ↓reduceIte, p_bits_TrailingZeros32]
  refine ev_neg (by omega) ?_
  simp only [go_sem, Nat.reduceEqDiff, Bool.false_eq_true, Nat.reduceBEq, ↓reduceIte]
  rw [show IntKind.u32.wrap (0 - (x : Int)) = ((2 ^ 32 - x : Nat) : Int) by rw [wu32_mod]; omega, and32 hx (by omega), and_neg 32 x h0 hx,
    show IntKind.u32.wrap (((2 ^ tz x : Nat) : Int) * 125613361) = ((2 ^ tz x * 125613361 % 4294967296 : Nat) : Int) by rw [wu32_mod]; omega]
  refine shr_nat (n := 27) rfl (by decide) ?_
  simp only [go_sem, Nat.reduceEqDiff, Bool.false_eq_true, Nat.reduceBEq, ↓reduceIte]
  refine ev_iaN (2 ^ tz x * 125613361 % 4294967296 / 2 ^ 27) rfl (by omega) rfl ?_
  simp only [go_sem, Nat.reduceEqDiff, Bool.false_eq_true, Nat.reduceBEq, ↓reduceIte]
  refine ev_ldS0 hT (by show _ < 32; omega) ?_
  simp only [go_sem, Nat.reduceEqDiff, Bool.false_eq_true, Nat.reduceBEq, ↓reduceIte]
  rw [dbt_ok _ ht]
  exact ⟨by trivial, congrArg (Value.int .i64) (w64 _ (by omega) (by omega))⟩

theorem zeros_ok (H : PH) (hT : Tab H) (v : Value) (x : Nat) (hN : NatV H v x) (hb : bl x ≤ 4294967296) : FnP Tryd.prog 24 [v] H fun v _ => v = .int .i64 (tz x : Nat) := by
  obtain ⟨A, l, c, rfl, hc, hS, hn, rfl⟩ := hN
  have hlen := len_le_bl hn
  refine of_nat_Nat_Zeros (by simp) ?_
  simp only [go_sem, Nat.reduceEqDiff, Bool.false_eq_true, Nat.reduceBEq, ↓reduceIte, p_nat_Nat_Zeros]
  refine ev_loop (fun n s => ∃ i, i ≤ l.length ∧ n = l.length - i ∧ val (l.take i) = 0 ∧ s = ⟨[(8, .v (.int .i64 (i : Nat))), (7, .v (.int .i64 (l.length : Nat))), (6, .v (.slice A l.length c))], [], H, PH.no⟩) l.length _ ⟨0, by omega, by omega, rfl, rfl⟩ ⟨rfl, by simp only [go_sem, Nat.reduceEqDiff, Bool.false_eq_true, Nat.reduceBEq, ↓reduceIte, and_self, Option.some.injEq, SV.v.injEq, SV.ptr.injEq, Value.int.injEq, Value.bool.injEq, Value.slice.injEq, true_and, and_true] <;> (repeat' apply And.intro) <;> first | rfl | omega | (simp (disch := omega) only [w64, wu64, wu32, wu8] <;> omega), by simp only [go_sem, Nat.reduceEqDiff, Bool.false_eq_true, Nat.reduceBEq, ↓reduceIte, and_self, Option.some.injEq, SV.v.injEq, SV.ptr.injEq, Value.int.injEq, Value.bool.injEq, Value.slice.injEq, true_and, and_true] <;> (repeat' apply And.intro) <;> rfl, rfl, PH.le.refl _⟩ ?_
  rintro n s ⟨i, hi, rfl, hv, rfl⟩
  simp only [go_sem, Nat.reduceEqDiff, Bool.false_eq_true, Nat.reduceBEq, ↓reduceIte]
  refine ev_if (fun h => ?_) (fun h => ?_)
  · obtain ⟨b, off, rfl⟩ := hS.base (by omega)
    simp only [go_sem, Nat.reduceEqDiff, Bool.false_eq_true, Nat.reduceBEq, ↓reduceIte]
    refine ev_iaN i rfl (by omega) rfl ?_
    simp only [go_sem, Nat.reduceEqDiff, Bool.false_eq_true, Nat.reduceBEq, ↓reduceIte]
    refine ev_ldS hS rfl (by omega) ?_
    simp only [go_sem, Nat.reduceEqDiff, Bool.false_eq_true, Nat.reduceBEq, ↓reduceIte]
    have e := val_take_succ l i (by omega)
    refine ev_if (fun h2 => ?_) (fun h2 => ?_)
    · simp only [go_sem, Nat.reduceEqDiff, Bool.false_eq_true, Nat.reduceBEq, ↓reduceIte]
      have h0 : l.getD i 0 ≠ 0 := by omega
      refine ev_call (tz32_ok H hT _ h0 (hn.1.getD i)) ?_
      rintro v H' hle rfl hd
      simp only [go_sem, Nat.reduceEqDiff, Bool.false_eq_true, Nat.reduceBEq, ↓reduceIte]
      refine ⟨by trivial, congrArg (Value.int .i64) ?_⟩
      have ht : tz (l.getD i 0) < 32 := Nat.lt_of_lt_of_le (tz_lt_bl h0) (bl_le_iff.2 (hn.1.getD i))
      have key : tz (val l) = 32 * i + tz (l.getD i 0) := by
        have e2 := val_take_drop l (i + 1) (by omega)
        obtain ⟨m, hm⟩ := tz_spec h0
        generalize tz (l.getD i 0) = t at *
        obtain ⟨j, hj⟩ : ∃ j, 32 = t + (j + 1) := ⟨31 - t, by omega⟩
        refine tz_uniq (m := m + 2 ^ j * val (l.drop (i + 1))) ?_
        have h32 : (4294967296 : Nat) = 2 ^ t * (2 ^ j * 2) := by rw [← Nat.pow_succ, ← Nat.pow_add, ← hj]
        have h33 : (4294967296 : Nat) ^ (i + 1) = 2 ^ (32 * i) * (2 ^ t * (2 ^ j * 2)) := by rw [Nat.pow_succ, pow32, ← h32]
        rw [e2, e, hv, h33, pow32, hm, Nat.pow_add]
        generalize 2 ^ (32 * i) = a
        generalize val (l.drop (i + 1)) = q
        generalize 2 ^ t = p
        generalize 2 ^ j = r
        simp only [Nat.mul_add, Nat.add_mul, Nat.mul_assoc, Nat.mul_left_comm, Nat.mul_comm, Nat.add_assoc, Nat.add_comm, Nat.add_left_comm, Nat.zero_add, Nat.mul_one]
      rw [key]
      simp (disch := omega) only [w64, wu64, wu32, wu8]
      omega
    · simp only [go_sem, Nat.reduceEqDiff, Bool.false_eq_true, Nat.reduceBEq, ↓reduceIte]
      refine k_next (l.length - (i + 1)) _ (by omega) ⟨i + 1, by omega, rfl, ?_, rfl⟩ ⟨rfl, by simp only [go_sem, Nat.reduceEqDiff, Bool.false_eq_true, Nat.reduceBEq, ↓reduceIte, and_self, Option.some.injEq, SV.v.injEq, SV.ptr.injEq, Value.int.injEq, Value.bool.injEq, Value.slice.injEq, true_and, and_true] <;> (repeat' apply And.intro) <;> first | rfl | omega | (simp (disch := omega) only [w64, wu64, wu32, wu8] <;> omega), by simp only [go_sem, Nat.reduceEqDiff, Bool.false_eq_true, Nat.reduceBEq, ↓reduceIte, and_self, Option.some.injEq, SV.v.injEq, SV.ptr.injEq, Value.int.injEq, Value.bool.injEq, Value.slice.injEq, true_and, and_true] <;> (repeat' apply And.intro) <;> rfl, rfl, PH.le.refl _⟩
      rw [e, hv, show l.getD i 0 = 0 by omega]; rfl
  · simp only [go_sem, Nat.reduceEqDiff, Bool.false_eq_true, Nat.reduceBEq, ↓reduceIte]
    refine ⟨by trivial, congrArg (fun z : Nat => Value.int .i64 (z : Int)) ?_⟩
    have : i = l.length := by omega
    rw [this, List.take_length] at hv
    rw [hv, tz_zero]

end Go.Proofs.YtlhhdlhnpgiamaaDoor.X
