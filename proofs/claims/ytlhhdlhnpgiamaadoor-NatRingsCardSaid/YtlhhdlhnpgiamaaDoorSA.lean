/- The reference's naturals: the small functions. -/
import Derived.Test.YtlhhdlhnpgiamaaDoorNK
import Derived.Test.YtlhhdlhnpgiamaaDoorPB
set_option linter.unusedVariables false
set_option linter.unusedSimpArgs false
namespace Go.Proofs.YtlhhdlhnpgiamaaDoor.X
open Go Go.RowKit Go.Proofs

/-- a number of the reference -/
def RefV (H : PH) (v : Value) (x : Nat) : Prop := ∃ A l c, v = .slice A l.length c ∧ l.length ≤ c ∧ Sl .u32 H A l ∧ Norm l ∧ val l = x
theorem RefV.le {H H' : PH} {v : Value} {x : Nat} (h : RefV H v x) (hl : H.le H') : RefV H' v x := by
  obtain ⟨A, l, c, h1, h2, h3, h4⟩ := h
  exact ⟨A, l, c, h1, h2, h3.le hl, h4⟩
theorem RefV.zero (H : PH) : RefV H (.slice none 0 0) 0 := ⟨none, [], 0, rfl, Nat.le_refl _, .inl rfl, .nil, rfl⟩

theorem and_lo {a : Nat} (ha : a < 2 ^ 64) : bitsV .and .u64 (a : Int) 4294967295 = ((a % 4294967296 : Nat) : Int) := by
  have h := and64 (b := 4294967295) ha (by decide)
  rw [show ((4294967295 : Nat) : Int) = (4294967295 : Int) from rfl, show (4294967295 : Nat) = 2 ^ 32 - 1 from rfl, Nat.and_two_pow_sub_one_eq_mod] at h
  exact h
theorem and_lo32 {a : Nat} (ha : a < 2 ^ 32) : bitsV .and .u32 (a : Int) 1 = ((a % 2 : Nat) : Int) := by
  have h := and32 (b := 1) ha (by decide)
  rw [show ((1 : Nat) : Int) = (1 : Int) from rfl, show (1 : Nat) = 2 ^ 1 - 1 from rfl, Nat.and_two_pow_sub_one_eq_mod] at h
  exact h

theorem trim_ok (H : PH) (A : Option Addr) (l : List Nat) (n c : Nat) (hl' : n = l.length) (hc : n ≤ c) (hS : Sl .u32 H A l) (hl : Lim l) (hb : n ≤ 1000000000) :
    FnP Tryd.prog 47 [.slice A n c] H fun v _ => ∃ m, m ≤ l.length ∧ v = .slice A m c ∧ Norm (l.take m) ∧ val (l.take m) = val l := by
  subst hl'
  refine of_cinctureref1_trim (by simp) ?_
  simp only [go_sem, Nat.reduceEqDiff, Bool.false_eq_true, Nat.reduceBEq, ↓reduceIte, p_cinctureref1_trim]
  refine ev_loop (fun n s => n ≤ l.length ∧ val (l.take n) = val l ∧ s = ⟨[(3, .v (.int .i64 (n : Nat))), (0, .v (.slice A l.length c))], [], H, PH.no⟩) l.length _ ⟨Nat.le_refl _, by simp, rfl⟩ ⟨rfl, by simp only [go_sem, Nat.reduceEqDiff, Bool.false_eq_true, Nat.reduceBEq, ↓reduceIte, and_self, Option.some.injEq, SV.v.injEq, SV.ptr.injEq, Value.int.injEq, Value.bool.injEq, Value.slice.injEq, true_and, and_true] <;> (repeat' apply And.intro) <;> first | rfl | omega | (simp (disch := omega) only [w64, wu64, wu32, wu8] <;> omega), by simp only [go_sem, Nat.reduceEqDiff, Bool.false_eq_true, Nat.reduceBEq, ↓reduceIte, and_self, Option.some.injEq, SV.v.injEq, SV.ptr.injEq, Value.int.injEq, Value.bool.injEq, Value.slice.injEq, true_and, and_true] <;> (repeat' apply And.intro) <;> rfl, rfl, PH.le.refl _⟩ ?_
  rintro n s ⟨hn, hv, rfl⟩
  have fin : (n = 0 ∨ l.getD (n - 1) 0 ≠ 0) → ∃ m, m ≤ l.length ∧ (Value.slice A n c) = Value.slice A m c ∧ Norm (l.take m) ∧ val (l.take m) = val l := fun h => ⟨n, hn, rfl, norm_take_of hl hn h, hv⟩
  simp only [go_sem, Nat.reduceEqDiff, Bool.false_eq_true, Nat.reduceBEq, ↓reduceIte]
  refine ev_if (fun h => ?_) (fun h => ?_)
  · obtain ⟨b, off, rfl⟩ := hS.base (by omega)
    simp only [go_sem, Nat.reduceEqDiff, Bool.false_eq_true, Nat.reduceBEq, ↓reduceIte]
    simp (disch := omega) only [nA64, nS64, nM64, nC64, nA64l, nS64l, nM64l, nM64r, nR64l, nL64l, nAu64, nMu64, nMu64r, nSu64, nAu64l, nLu64l, nCu64, nCu32, nCu8, nAu32, nLu32l, nSu8l, toNat_cast]
    refine ev_iaN (n - 1) rfl (by omega) rfl ?_
    simp only [go_sem, Nat.reduceEqDiff, Bool.false_eq_true, Nat.reduceBEq, ↓reduceIte]
    refine ev_ldS hS rfl (by omega) ?_
    simp only [go_sem, Nat.reduceEqDiff, Bool.false_eq_true, Nat.reduceBEq, ↓reduceIte]
    refine ev_if (fun h2 => ?_) (fun h2 => ?_)
    · simp only [go_sem, Nat.reduceEqDiff, Bool.false_eq_true, Nat.reduceBEq, ↓reduceIte]
      simp (disch := omega) only [nA64, nS64, nM64, nC64, nA64l, nS64l, nM64l, nM64r, nR64l, nL64l, nAu64, nMu64, nMu64r, nSu64, nAu64l, nLu64l, nCu64, nCu32, nCu8, nAu32, nLu32l, nSu8l, toNat_cast]
      refine k_next (n - 1) _ (by omega) ⟨by omega, ?_, rfl⟩ ⟨rfl, by simp only [go_sem, Nat.reduceEqDiff, Bool.false_eq_true, Nat.reduceBEq, ↓reduceIte, and_self, Option.some.injEq, SV.v.injEq, SV.ptr.injEq, Value.int.injEq, Value.bool.injEq, Value.slice.injEq, true_and, and_true] <;> (repeat' apply And.intro) <;> first | rfl | omega | (simp (disch := omega) only [w64, wu64, wu32, wu8] <;> omega), by simp only [go_sem, Nat.reduceEqDiff, Bool.false_eq_true, Nat.reduceBEq, ↓reduceIte, and_self, Option.some.injEq, SV.v.injEq, SV.ptr.injEq, Value.int.injEq, Value.bool.injEq, Value.slice.injEq, true_and, and_true] <;> (repeat' apply And.intro) <;> rfl, rfl, PH.le.refl _⟩
      have e := val_take_succ l (n - 1) (by omega)
      rw [show n - 1 + 1 = n by omega, show l.getD (n - 1) 0 = 0 by omega] at e
      omega
    · simp only [go_sem, Nat.reduceEqDiff, Bool.false_eq_true, Nat.reduceBEq, ↓reduceIte]
      refine ev_slhN n rfl (by omega) ?_
      simp only [go_sem, Nat.reduceEqDiff, Bool.false_eq_true, Nat.reduceBEq, ↓reduceIte]
      exact ⟨by trivial, fin (.inr (by omega))⟩
  · simp only [go_sem, Nat.reduceEqDiff, Bool.false_eq_true, Nat.reduceBEq, ↓reduceIte]
    refine ev_slhN n rfl (by omega) ?_
    simp only [go_sem, Nat.reduceEqDiff, Bool.false_eq_true, Nat.reduceBEq, ↓reduceIte]
    exact ⟨by trivial, fin (.inl (by omega))⟩

theorem ev_trimA {T : TypeId} {A : Option Addr} {l : List Nat} {n c d : Nat} {X : XT} {fr : List (Nat × SV)} {lh : List (Nat × List Value)} {H M : PH} {K : St → Prop} (hO : Own .u32 T M A l c) (hn : n = l.length) (hl : Lim l) (hb : n ≤ 1000000000) (hd : PH.disj H M)
    (k1 : ∀ v H', H.le H' → RefV H' v (val l) → X ⟨(d, .v v) :: fr, lh, H', PH.no⟩ K) : EvCall Tryd.prog 47 [.slice A n c] d X ⟨fr, lh, H, M⟩ K := by
  have hS := hO.sl hd
  refine ev_callA (trim_ok _ A l n c hn (by rw [hn]; exact hO.le_cap) hS hl hb) ?_
  rintro v H' hle ⟨m, hm, rfl, hN, hv⟩
  refine k1 _ H' ((PH.le_join _ _).trans hle) ⟨A, l.take m, c, ?_, ?_, (hS.le hle).take m, hN, hv⟩
  · rw [List.length_take, Nat.min_eq_left hm]
  · have := hO.le_cap
    rw [List.length_take]; omega

theorem rnatOf_ok (H : PH) (x : Nat) (hx : x ≤ 18446744073709551615) : FnP Tryd.prog 58 [.int .u64 (x : Int)] H fun v H' => RefV H' v x := by
  refine of_cinctureref1_NatOf (by simp) ?_
  simp only [go_sem, Nat.reduceEqDiff, Bool.false_eq_true, Nat.reduceBEq, ↓reduceIte, p_cinctureref1_NatOf]
  rw [and_lo (by omega)]
  refine shr_nat (n := 32) rfl (by decide) ?_
  simp only [go_sem, Nat.reduceEqDiff, Bool.false_eq_true, Nat.reduceBEq, ↓reduceIte]
  rw [u32mod, u32mod]
  refine ev_bslO (l := [x % 4294967296 % 4294967296, x / 2 ^ 32 % 4294967296]) rfl rfl (by simp) (PH.disj_no _) ?_
  intro g M' hO hle _ hd
  simp only [go_sem, Nat.reduceEqDiff, Bool.false_eq_true, Nat.reduceBEq, ↓reduceIte]
  refine ev_trimA hO rfl (.cons (by omega) (.cons (by omega) .nil)) (by decide) hd ?_
  intro v H' hl hN
  simp only [go_sem, Nat.reduceEqDiff, Bool.false_eq_true, Nat.reduceBEq, ↓reduceIte]
  refine ⟨by trivial, ?_⟩
  have : val [x % 4294967296 % 4294967296, x / 2 ^ 32 % 4294967296] = x := by simp only [val]; omega
  rwa [this] at hN

theorem val_eq_top {l m : List Nat} (hlen : l.length = m.length) (h : ∀ j, j < l.length → l.getD j 0 = m.getD j 0) : l = m := ext_getD hlen h

theorem rcmp_ok (H : PH) (va vb : Value) (x y : Nat) (ha : RefV H va x) (hb : RefV H vb y) (hbx : bl x ≤ 4294967296) (hby : bl y ≤ 4294967296) : FnP Tryd.prog 38 [va, vb] H fun v _ => v = .int .i64 (cmpN x y) := by
  obtain ⟨A, l, c, rfl, hc, hS, hn, rfl⟩ := ha
  obtain ⟨B, m, e, rfl, he, hT, hm, rfl⟩ := hb
  have hlen : l.length ≤ 200000000 := by have := len_le_bl hn; omega
  have hlen2 : m.length ≤ 200000000 := by have := len_le_bl hm; omega
  refine of_cinctureref1_CmpNat (by simp) ?_
  simp only [go_sem, Nat.reduceEqDiff, Bool.false_eq_true, Nat.reduceBEq, ↓reduceIte, p_cinctureref1_CmpNat]
  refine ev_if (fun h => ?_) (fun h => ?_)
  · simp only [go_sem, Nat.reduceEqDiff, Bool.false_eq_true, Nat.reduceBEq, ↓reduceIte]
    refine ev_if (fun h2 => ?_) (fun h2 => ?_)
    · simp only [go_sem, Nat.reduceEqDiff, Bool.false_eq_true, Nat.reduceBEq, ↓reduceIte]
      refine ⟨by trivial, ?_⟩
      have h3 := val_lt hn.1
      have h4 := val_pos hm (fun e => by rw [e] at h2; simp at h2; omega)
      have h5 := Nat.pow_le_pow_right (n := 4294967296) (by decide) (show l.length ≤ m.length - 1 by omega)
      unfold cmpN; rw [if_pos (by omega)]
    · simp only [go_sem, Nat.reduceEqDiff, Bool.false_eq_true, Nat.reduceBEq, ↓reduceIte]
      refine ⟨by trivial, ?_⟩
      have h3 := val_lt hm.1
      have h4 := val_pos hn (fun e => by rw [e] at h2 h; simp only [List.length_nil] at h2 h; omega)
      have h5 := Nat.pow_le_pow_right (n := 4294967296) (by decide) (show m.length ≤ l.length - 1 by omega)
      unfold cmpN; rw [if_neg (by omega), if_pos (by omega)]
  · have hll : l.length = m.length := by omega
    simp only [go_sem, Nat.reduceEqDiff, Bool.false_eq_true, Nat.reduceBEq, ↓reduceIte]
    refine ev_loop (fun n s => ∃ (k : Int) (i : Nat), k = (i : Int) - 1 ∧ i ≤ l.length ∧ n = i ∧ (∀ j, i ≤ j → j < l.length → l.getD j 0 = m.getD j 0) ∧ s = ⟨[(5, .v (.int .i64 k)), (1, .v (.slice B m.length e)), (0, .v (.slice A l.length c))], [], H, PH.no⟩)
      l.length _ ⟨(l.length : Int) - 1, l.length, rfl, by omega, rfl, fun j h1 h2 => by omega, rfl⟩ ⟨rfl, by simp only [go_sem, Nat.reduceEqDiff, Bool.false_eq_true, Nat.reduceBEq, ↓reduceIte, and_self, Option.some.injEq, SV.v.injEq, SV.ptr.injEq, Value.int.injEq, Value.bool.injEq, Value.slice.injEq, true_and, and_true] <;> (repeat' apply And.intro) <;> first | rfl | omega | (simp (disch := omega) only [w64, wu64, wu32, wu8] <;> omega), by simp only [go_sem, Nat.reduceEqDiff, Bool.false_eq_true, Nat.reduceBEq, ↓reduceIte, and_self, Option.some.injEq, SV.v.injEq, SV.ptr.injEq, Value.int.injEq, Value.bool.injEq, Value.slice.injEq, true_and, and_true] <;> (repeat' apply And.intro) <;> rfl, rfl, PH.le.refl _⟩ ?_
    rintro i s ⟨k, _, rfl, hi, rfl, hv, rfl⟩
    simp only [go_sem, Nat.reduceEqDiff, Bool.false_eq_true, Nat.reduceBEq, ↓reduceIte]
    refine ev_if (fun h2 => ?_) (fun h2 => ?_)
    · obtain ⟨b, off, rfl⟩ := hS.base (by omega)
      obtain ⟨b2, off2, rfl⟩ := hT.base (by omega)
      have ei : (i : Int) - 1 = ((i - 1 : Nat) : Int) := by omega
      rw [ei]
      simp only [go_sem, Nat.reduceEqDiff, Bool.false_eq_true, Nat.reduceBEq, ↓reduceIte]
      refine ev_iaN (i - 1) rfl (by omega) rfl ?_
      simp only [go_sem, Nat.reduceEqDiff, Bool.false_eq_true, Nat.reduceBEq, ↓reduceIte]
      refine ev_ldS hS rfl (by omega) ?_
      simp only [go_sem, Nat.reduceEqDiff, Bool.false_eq_true, Nat.reduceBEq, ↓reduceIte]
      refine ev_iaN (i - 1) rfl (by omega) rfl ?_
      simp only [go_sem, Nat.reduceEqDiff, Bool.false_eq_true, Nat.reduceBEq, ↓reduceIte]
      refine ev_ldS hT rfl (by omega) ?_
      simp only [go_sem, Nat.reduceEqDiff, Bool.false_eq_true, Nat.reduceBEq, ↓reduceIte]
      refine ev_if (fun h3 => ?_) (fun h3 => ?_)
      · simp only [go_sem, Nat.reduceEqDiff, Bool.false_eq_true, Nat.reduceBEq, ↓reduceIte]
        refine ⟨by trivial, ?_⟩
        have := val_lt_top hn.1 hm.1 hll (i := i - 1) (by omega) (fun j h5 h6 => hv j (by omega) h6) (by omega)
        unfold cmpN; rw [if_pos this]
      · simp only [go_sem, Nat.reduceEqDiff, Bool.false_eq_true, Nat.reduceBEq, ↓reduceIte]
        refine ev_iaN (i - 1) rfl (by omega) rfl ?_
        simp only [go_sem, Nat.reduceEqDiff, Bool.false_eq_true, Nat.reduceBEq, ↓reduceIte]
        refine ev_ldS hS rfl (by omega) ?_
        simp only [go_sem, Nat.reduceEqDiff, Bool.false_eq_true, Nat.reduceBEq, ↓reduceIte]
        refine ev_iaN (i - 1) rfl (by omega) rfl ?_
        simp only [go_sem, Nat.reduceEqDiff, Bool.false_eq_true, Nat.reduceBEq, ↓reduceIte]
        refine ev_ldS hT rfl (by omega) ?_
        simp only [go_sem, Nat.reduceEqDiff, Bool.false_eq_true, Nat.reduceBEq, ↓reduceIte]
        refine ev_if (fun h4 => ?_) (fun h4 => ?_)
        · simp only [go_sem, Nat.reduceEqDiff, Bool.false_eq_true, Nat.reduceBEq, ↓reduceIte]
          refine ⟨by trivial, ?_⟩
          have := val_lt_top hm.1 hn.1 hll.symm (i := i - 1) (by omega) (fun j h5 h6 => (hv j (by omega) (by omega)).symm) (by omega)
          unfold cmpN; rw [if_neg (by omega), if_pos this]
        · simp only [go_sem, Nat.reduceEqDiff, Bool.false_eq_true, Nat.reduceBEq, ↓reduceIte]
          refine k_next (i - 1) _ (by omega) ⟨((i - 1 : Nat) : Int) - 1, i - 1, rfl, by omega, rfl, fun j h5 h6 => ?_, rfl⟩ ⟨rfl, by simp only [go_sem, Nat.reduceEqDiff, Bool.false_eq_true, Nat.reduceBEq, ↓reduceIte, and_self, Option.some.injEq, SV.v.injEq, SV.ptr.injEq, Value.int.injEq, Value.bool.injEq, Value.slice.injEq, true_and, and_true] <;> (repeat' apply And.intro) <;> first | rfl | omega | (simp (disch := omega) only [w64, wu64, wu32, wu8] <;> omega), by simp only [go_sem, Nat.reduceEqDiff, Bool.false_eq_true, Nat.reduceBEq, ↓reduceIte, and_self, Option.some.injEq, SV.v.injEq, SV.ptr.injEq, Value.int.injEq, Value.bool.injEq, Value.slice.injEq, true_and, and_true] <;> (repeat' apply And.intro) <;> rfl, rfl, PH.le.refl _⟩
          by_cases h7 : j = i - 1
          · rw [h7]; omega
          · exact hv j (by omega) h6
    · simp only [go_sem, Nat.reduceEqDiff, Bool.false_eq_true, Nat.reduceBEq, ↓reduceIte]
      refine ⟨by trivial, ?_⟩
      rw [val_eq_top hll fun j hj => hv j (by omega) hj]
      unfold cmpN; simp

theorem bl_half {x : Nat} (h : x ≠ 0) : bl x = bl (x / 2) + 1 := by
  have h1 := lt_two_pow_bl (x / 2)
  by_cases h2 : x / 2 = 0
  · have : x = 1 := by omega
    subst this; rfl
  · have h3 := two_pow_le_bl h2
    have h4 := bl_pos h2
    obtain ⟨m, hm⟩ : ∃ m, bl (x / 2) = m + 1 := ⟨bl (x / 2) - 1, by omega⟩
    rw [hm] at h1 h3 ⊢
    simp only [Nat.add_sub_cancel] at h3
    refine bl_eq ?_ ?_
    · rw [Nat.pow_succ]; omega
    · rw [Nat.pow_succ]; omega

theorem rbits_ok (H : PH) (v : Value) (x : Nat) (hN : RefV H v x) (hb : bl x ≤ 4294967296) : FnP Tryd.prog 23 [v] H fun v _ => v = .int .i64 (bl x : Nat) := by
  obtain ⟨A, l, c, rfl, hc, hS, hn, rfl⟩ := hN
  have hlen := len_le_bl hn
  refine of_cinctureref1_Bits (by simp) ?_
  simp only [go_sem, Nat.reduceEqDiff, Bool.false_eq_true, Nat.reduceBEq, ↓reduceIte, p_cinctureref1_Bits]
  refine ev_if (fun h => ?_) (fun h => ?_)
  · simp only [go_sem, Nat.reduceEqDiff, Bool.false_eq_true, Nat.reduceBEq, ↓reduceIte]
    have : l = [] := List.eq_nil_of_length_eq_zero (by omega)
    subst this
    exact ⟨by trivial, rfl⟩
  · have e := getD_bl hn (fun h0 => h (by rw [h0]; rfl))
    have hx := hn.1.getD (l.length - 1)
    simp only [go_sem, Nat.reduceEqDiff, Bool.false_eq_true, Nat.reduceBEq, ↓reduceIte]
    simp (disch := omega) only [nA64, nS64, nM64, nC64, nA64l, nS64l, nM64l, nM64r, nR64l, nL64l, nAu64, nMu64, nMu64r, nSu64, nAu64l, nLu64l, nCu64, nCu32, nCu8, nAu32, nLu32l, nSu8l, toNat_cast]
    obtain ⟨b, off, rfl⟩ := hS.base (by omega)
    refine ev_iaN (l.length - 1) rfl (by omega) rfl ?_
    simp only [go_sem, Nat.reduceEqDiff, Bool.false_eq_true, Nat.reduceBEq, ↓reduceIte]
    refine ev_ldS hS rfl (by omega) ?_
    simp only [go_sem, Nat.reduceEqDiff, Bool.false_eq_true, Nat.reduceBEq, ↓reduceIte]
    refine ev_loop (fun n s => ∃ (k y : Nat), n = y ∧ k + bl y = bl (val l) ∧ y < 4294967296 ∧ s = ⟨[(4, .v (.int .u32 (y : Nat))), (3, .v (.int .i64 (k : Nat)))], [], H, PH.no⟩)
      _ _ ⟨32 * (l.length - 1), l.getD (l.length - 1) 0, rfl, e.symm, hx, rfl⟩ ⟨rfl, by simp only [go_sem, Nat.reduceEqDiff, Bool.false_eq_true, Nat.reduceBEq, ↓reduceIte, and_self, Option.some.injEq, SV.v.injEq, SV.ptr.injEq, Value.int.injEq, Value.bool.injEq, Value.slice.injEq, true_and, and_true] <;> (repeat' apply And.intro) <;> first | rfl | omega | (simp (disch := omega) only [w64, wu64, wu32, wu8] <;> omega), by simp only [go_sem, Nat.reduceEqDiff, Bool.false_eq_true, Nat.reduceBEq, ↓reduceIte, and_self, Option.some.injEq, SV.v.injEq, SV.ptr.injEq, Value.int.injEq, Value.bool.injEq, Value.slice.injEq, true_and, and_true] <;> (repeat' apply And.intro) <;> rfl, rfl, PH.le.refl _⟩ ?_
    rintro n s ⟨k, y, rfl, hk, hy, rfl⟩
    simp only [go_sem, Nat.reduceEqDiff, Bool.false_eq_true, Nat.reduceBEq, ↓reduceIte]
    refine ev_if (fun h2 => ?_) (fun h2 => ?_)
    · have hbl := bl_half (x := n) (by omega)
      simp only [go_sem, Nat.reduceEqDiff, Bool.false_eq_true, Nat.reduceBEq, ↓reduceIte]
      simp (disch := omega) only [nA64, nS64, nM64, nC64, nA64l, nS64l, nM64l, nM64r, nR64l, nL64l, nAu64, nMu64, nMu64r, nSu64, nAu64l, nLu64l, nCu64, nCu32, nCu8, nAu32, nLu32l, nSu8l, toNat_cast]
      refine shr_nat (n := 1) rfl (by decide) ?_
      simp only [go_sem, Nat.reduceEqDiff, Bool.false_eq_true, Nat.reduceBEq, ↓reduceIte]
      refine k_next (n / 2) _ (by omega) ⟨k + 1, n / 2, rfl, by omega, by omega, rfl⟩ ⟨rfl, by simp only [go_sem, Nat.reduceEqDiff, Bool.false_eq_true, Nat.reduceBEq, ↓reduceIte, and_self, Option.some.injEq, SV.v.injEq, SV.ptr.injEq, Value.int.injEq, Value.bool.injEq, Value.slice.injEq, true_and, and_true] <;> (repeat' apply And.intro) <;> first | rfl | omega | (simp (disch := omega) only [w64, wu64, wu32, wu8] <;> omega), by simp only [go_sem, Nat.reduceEqDiff, Bool.false_eq_true, Nat.reduceBEq, ↓reduceIte, and_self, Option.some.injEq, SV.v.injEq, SV.ptr.injEq, Value.int.injEq, Value.bool.injEq, Value.slice.injEq, true_and, and_true] <;> (repeat' apply And.intro) <;> rfl, rfl, PH.le.refl _⟩
    · have : n = 0 := by omega
      subst this
      simp only [go_sem, Nat.reduceEqDiff, Bool.false_eq_true, Nat.reduceBEq, ↓reduceIte]
      rw [bl_zero, Nat.add_zero] at hk
      rw [hk]
      exact ⟨by trivial, by trivial⟩

theorem val_bit (l : List Nat) (i : Nat) (h : Lim l) : l.getD (i / 32) 0 / 2 ^ (i % 32) % 2 = val l / 2 ^ i % 2 := by
  rw [← val_digit l (i / 32) h]
  have e : (2 : Nat) ^ i = 4294967296 ^ (i / 32) * 2 ^ (i % 32) := by
    rw [pow32, ← Nat.pow_add]; congr 1; omega
  rw [e, ← Nat.div_div_eq_div_mul]
  generalize val l / 4294967296 ^ (i / 32) = y
  have h4 : i % 32 < 32 := Nat.mod_lt _ (by decide)
  generalize i % 32 = k at *
  have : (4294967296 : Nat) = 2 ^ k * 2 ^ (32 - k) := by rw [← Nat.pow_add, show k + (32 - k) = 32 by omega]
  rw [this, Nat.mod_mul_right_div_self, Nat.mod_mod_of_dvd]
  rw [show 32 - k = (31 - k) + 1 by omega, Nat.pow_succ]; exact Nat.dvd_mul_left _ _

theorem rbit_ok (H : PH) (v : Value) (x i : Nat) (hN : RefV H v x) (hi : i ≤ 1000000000000) : FnP Tryd.prog 54 [v, .int .i64 (i : Nat)] H fun v _ => v = .int .u32 (x / 2 ^ i % 2 : Nat) := by
  obtain ⟨A, l, c, rfl, hc, hS, hn, rfl⟩ := hN
  refine of_cinctureref1_Bit (by simp) ?_
  simp only [go_sem, Nat.reduceEqDiff, Bool.false_eq_true, Nat.reduceBEq, ↓reduceIte, p_cinctureref1_Bit]
  refine ev_neg (by omega) ?_
  simp only [go_sem, Nat.reduceEqDiff, Bool.false_eq_true, Nat.reduceBEq, ↓reduceIte]
  refine quo_nat (a := i) (m := 32) rfl (by decide) (by simp (disch := omega) only [w64, wu64, wu32, wu8]) ?_
  simp only [go_sem, Nat.reduceEqDiff, Bool.false_eq_true, Nat.reduceBEq, ↓reduceIte]
  refine ev_if (fun h => ?_) (fun h => ?_)
  · simp only [go_sem, Nat.reduceEqDiff, Bool.false_eq_true, Nat.reduceBEq, ↓reduceIte]
    refine ⟨by trivial, ?_⟩
    have h1 := val_lt hn.1
    have h2 : 2 ^ (32 * l.length) ≤ 2 ^ i := Nat.pow_le_pow_right (by decide) (by omega)
    rw [pow32] at h1
    rw [Nat.div_eq_of_lt (Nat.lt_of_lt_of_le h1 h2)]
    rfl
  · simp only [go_sem, Nat.reduceEqDiff, Bool.false_eq_true, Nat.reduceBEq, ↓reduceIte]
    obtain ⟨b, off, rfl⟩ := hS.base (by omega)
    refine quo_nat (a := i) (m := 32) rfl (by decide) (by simp (disch := omega) only [w64, wu64, wu32, wu8]) ?_
    simp only [go_sem, Nat.reduceEqDiff, Bool.false_eq_true, Nat.reduceBEq, ↓reduceIte]
    refine ev_iaN (i / 32) rfl (by omega) rfl ?_
    simp only [go_sem, Nat.reduceEqDiff, Bool.false_eq_true, Nat.reduceBEq, ↓reduceIte]
    refine ev_ldS hS rfl (by omega) ?_
    simp only [go_sem, Nat.reduceEqDiff, Bool.false_eq_true, Nat.reduceBEq, ↓reduceIte]
    refine rem_nat (a := i) (m := 32) rfl (by decide) ?_
    simp only [go_sem, Nat.reduceEqDiff, Bool.false_eq_true, Nat.reduceBEq, ↓reduceIte]
    simp (disch := omega) only [nA64, nS64, nM64, nC64, nA64l, nS64l, nM64l, nM64r, nR64l, nL64l, nAu64, nMu64, nMu64r, nSu64, nAu64l, nLu64l, nCu64, nCu32, nCu8, nAu32, nLu32l, nSu8l, toNat_cast]
    have hx := hn.1.getD (i / 32)
    refine shr_nat (n := i % 32) rfl (by show i % 32 ≤ 32; omega) ?_
    simp only [go_sem, Nat.reduceEqDiff, Bool.false_eq_true, Nat.reduceBEq, ↓reduceIte]
    rw [and_lo32 (Nat.lt_of_le_of_lt (Nat.div_le_self _ _) hx), val_bit l i hn.1]
    exact ⟨by trivial, by trivial⟩

theorem rzeros_ok (H : PH) (v : Value) (x : Nat) (hN : RefV H v x) (hb : bl x ≤ 4294967296) : FnP Tryd.prog 25 [v] H fun v _ => v = .int .i64 (tz x : Nat) := by
  have hN0 := hN
  obtain ⟨A, l, c, rfl, hc, hS, hn, rfl⟩ := hN
  have hlen := len_le_bl hn
  refine of_cinctureref1_Zeros (by simp) ?_
  simp only [go_sem, Nat.reduceEqDiff, Bool.false_eq_true, Nat.reduceBEq, ↓reduceIte, p_cinctureref1_Zeros]
  refine ev_loop (fun n s => ∃ (k : Nat) (H1 : PH), H.le H1 ∧ k ≤ 32 * l.length ∧ n = 32 * l.length - k ∧ val l % 2 ^ k = 0 ∧ s = ⟨[(3, .v (.int .i64 (k : Nat))), (0, .v (.slice A l.length c))], [], H1, PH.no⟩)
    _ _ ⟨0, H, PH.le.refl _, by omega, rfl, Nat.mod_one _, rfl⟩ ⟨rfl, by simp only [go_sem, Nat.reduceEqDiff, Bool.false_eq_true, Nat.reduceBEq, ↓reduceIte, and_self, Option.some.injEq, SV.v.injEq, SV.ptr.injEq, Value.int.injEq, Value.bool.injEq, Value.slice.injEq, true_and, and_true] <;> (repeat' apply And.intro) <;> first | rfl | omega | (simp (disch := omega) only [w64, wu64, wu32, wu8] <;> omega), by simp only [go_sem, Nat.reduceEqDiff, Bool.false_eq_true, Nat.reduceBEq, ↓reduceIte, and_self, Option.some.injEq, SV.v.injEq, SV.ptr.injEq, Value.int.injEq, Value.bool.injEq, Value.slice.injEq, true_and, and_true] <;> (repeat' apply And.intro) <;> rfl, rfl, PH.le.refl _⟩ ?_
  rintro n s ⟨k, H1, hle, hk, rfl, hv, rfl⟩
  simp only [go_sem, Nat.reduceEqDiff, Bool.false_eq_true, Nat.reduceBEq, ↓reduceIte]
  simp (disch := omega) only [nA64, nS64, nM64, nC64, nA64l, nS64l, nM64l, nM64r, nR64l, nL64l, nAu64, nMu64, nMu64r, nSu64, nAu64l, nLu64l, nCu64, nCu32, nCu8, nAu32, nLu32l, nSu8l, toNat_cast]
  have hdm := Nat.div_add_mod (val l) (2 ^ k)
  rw [hv, Nat.add_zero] at hdm
  refine ev_if (fun h => ?_) (fun h => ?_)
  · simp only [go_sem, Nat.reduceEqDiff, Bool.false_eq_true, Nat.reduceBEq, ↓reduceIte]
    refine ev_call (rbit_ok H1 _ (val l) k (hN0.le hle) (by omega)) ?_
    rintro v H2 hle2 rfl _
    simp only [go_sem, Nat.reduceEqDiff, Bool.false_eq_true, Nat.reduceBEq, ↓reduceIte]
    refine ev_if (fun h2 => ?_) (fun h2 => ?_)
    · simp only [go_sem, Nat.reduceEqDiff, Bool.false_eq_true, Nat.reduceBEq, ↓reduceIte]
      simp (disch := omega) only [nA64, nS64, nM64, nC64, nA64l, nS64l, nM64l, nM64r, nR64l, nL64l, nAu64, nMu64, nMu64r, nSu64, nAu64l, nLu64l, nCu64, nCu32, nCu8, nAu32, nLu32l, nSu8l, toNat_cast]
      refine k_next (32 * l.length - (k + 1)) _ (by omega) ⟨k + 1, H2, hle.trans hle2, by omega, rfl, ?_, rfl⟩ ⟨rfl, by simp only [go_sem, Nat.reduceEqDiff, Bool.false_eq_true, Nat.reduceBEq, ↓reduceIte, and_self, Option.some.injEq, SV.v.injEq, SV.ptr.injEq, Value.int.injEq, Value.bool.injEq, Value.slice.injEq, true_and, and_true] <;> (repeat' apply And.intro) <;> first | rfl | omega | (simp (disch := omega) only [w64, wu64, wu32, wu8] <;> omega), by simp only [go_sem, Nat.reduceEqDiff, Bool.false_eq_true, Nat.reduceBEq, ↓reduceIte, and_self, Option.some.injEq, SV.v.injEq, SV.ptr.injEq, Value.int.injEq, Value.bool.injEq, Value.slice.injEq, true_and, and_true] <;> (repeat' apply And.intro) <;> rfl, rfl, PH.le.refl _⟩
      have : val l / 2 ^ k % 2 = 0 := by omega
      rw [Nat.pow_succ, Nat.mod_mul, hv, this]; rfl
    · simp only [go_sem, Nat.reduceEqDiff, Bool.false_eq_true, Nat.reduceBEq, ↓reduceIte]
      refine ⟨by trivial, ?_⟩
      have : tz (val l) = k := by
        refine tz_uniq (m := val l / 2 ^ k / 2) ?_
        conv => lhs; rw [← hdm]
        congr 1
        omega
      rw [this]
  · have hk2 : k = 32 * l.length := by omega
    have h1 := val_lt hn.1
    rw [pow32, ← hk2] at h1
    rw [Nat.mod_eq_of_lt h1] at hv
    simp only [go_sem, Nat.reduceEqDiff, Bool.false_eq_true, Nat.reduceBEq, ↓reduceIte]
    refine ⟨by trivial, ?_⟩
    have : l = [] := (val_eq_zero hn).1 hv
    subst this
    rw [hk2, show val [] = 0 from rfl, tz_zero]; rfl

theorem rlow_ok (H : PH) (v : Value) (x : Nat) (hN : RefV H v x) (hb : bl x ≤ 4294967296) : FnP Tryd.prog 27 [v] H fun v _ => v = .int .u64 (x % 18446744073709551616 : Nat) := by
  obtain ⟨A, l, c, rfl, hc, hS, hn, rfl⟩ := hN
  have hlen := len_le_bl hn
  refine of_cinctureref1_Low (by simp) ?_
  simp only [go_sem, Nat.reduceEqDiff, Bool.false_eq_true, Nat.reduceBEq, ↓reduceIte, p_cinctureref1_Low]
  refine ev_if (fun h => ?_) (fun h => ?_)
  · simp only [go_sem, Nat.reduceEqDiff, Bool.false_eq_true, Nat.reduceBEq, ↓reduceIte]
    obtain ⟨b, off, rfl⟩ := hS.base (by omega)
    refine ev_iaN 0 rfl (by omega) rfl ?_
    simp only [go_sem, Nat.reduceEqDiff, Bool.false_eq_true, Nat.reduceBEq, ↓reduceIte]
    refine ev_ldS hS rfl (by omega) ?_
    simp only [go_sem, Nat.reduceEqDiff, Bool.false_eq_true, Nat.reduceBEq, ↓reduceIte]
    have hx := hn.1.getD 0
    simp (disch := omega) only [nA64, nS64, nM64, nC64, nA64l, nS64l, nM64l, nM64r, nR64l, nL64l, nAu64, nMu64, nMu64r, nSu64, nAu64l, nLu64l, nCu64, nCu32, nCu8, nAu32, nLu32l, nSu8l, toNat_cast]
    have e1 := val_take_succ l 0 (by omega)
    have e0 : val (l.take 0) = 0 := rfl
    rw [e0, Nat.pow_zero, Nat.one_mul, Nat.zero_add] at e1
    refine ev_if (fun h2 => ?_) (fun h2 => ?_)
    · simp only [go_sem, Nat.reduceEqDiff, Bool.false_eq_true, Nat.reduceBEq, ↓reduceIte]
      refine ev_iaN 1 rfl (by omega) rfl ?_
      simp only [go_sem, Nat.reduceEqDiff, Bool.false_eq_true, Nat.reduceBEq, ↓reduceIte]
      refine ev_ldS hS rfl (by omega) ?_
      simp only [go_sem, Nat.reduceEqDiff, Bool.false_eq_true, Nat.reduceBEq, ↓reduceIte]
      have hy := hn.1.getD 1
      have e2 := val_take_succ l 1 (by omega)
      have e3 := val_take_drop l 2 (by omega)
      simp (disch := omega) only [nA64, nS64, nM64, nC64, nA64l, nS64l, nM64l, nM64r, nR64l, nL64l, nAu64, nMu64, nMu64r, nSu64, nAu64l, nLu64l, nCu64, nCu32, nCu8, nAu32, nLu32l, nSu8l, toNat_cast]
      refine shl_nat (n := 32) (y := l.getD 1 0 * 2 ^ 32) rfl (by decide) (wu64n _ rfl (by omega)) ?_
      simp only [go_sem, Nat.reduceEqDiff, Bool.false_eq_true, Nat.reduceBEq, ↓reduceIte]
      rw [or64 (by omega) (by omega), or_add _ _ _ hx]
      refine ⟨by trivial, ?_⟩
      rw [e3, e2, e1]
      congr 2
      omega
    · simp only [go_sem, Nat.reduceEqDiff, Bool.false_eq_true, Nat.reduceBEq, ↓reduceIte]
      refine ⟨by trivial, ?_⟩
      have : l.length = 1 := by omega
      rw [List.take_of_length_le (by omega)] at e1
      rw [e1]
      congr 2
      omega
  · simp only [go_sem, Nat.reduceEqDiff, Bool.false_eq_true, Nat.reduceBEq, ↓reduceIte]
    refine ev_neg (by omega) ?_
    simp only [go_sem, Nat.reduceEqDiff, Bool.false_eq_true, Nat.reduceBEq, ↓reduceIte]
    have : l = [] := List.eq_nil_of_length_eq_zero (by omega)
    subst this
    exact ⟨by trivial, rfl⟩

end Go.Proofs.YtlhhdlhnpgiamaaDoor.X
