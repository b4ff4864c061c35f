/- Package nat: Text. -/
import Derived.Test.YtlhhdlhnpgiamaaDoorNJ
set_option linter.unusedVariables false
set_option linter.unusedSimpArgs false
namespace Go.Proofs.YtlhhdlhnpgiamaaDoor.X
open Go Go.RowKit Go.Proofs

theorem getD_set {l : List Nat} {i j x : Nat} (hi : i < l.length) : (l.set i x).getD j 0 = if j = i then x else l.getD j 0 := by
  simp only [List.getD]
  split
  · rename_i h; subst h; simp [hi]
  · rename_i h; rw [List.getElem?_set_ne (fun e => h e.symm)]
theorem ext_getD {a b : List Nat} (hl : a.length = b.length) (h : ∀ j, j < a.length → a.getD j 0 = b.getD j 0) : a = b := by
  apply List.ext_getElem hl
  intro j h1 h2
  have := h j h1
  simpa [List.getD, h1, h2] using this
theorem rev_getD {l : List Nat} {j : Nat} (h : j < l.length) : l.reverse.getD j 0 = l.getD (l.length - 1 - j) 0 := by
  simp only [List.getD]
  rw [List.getElem?_reverse h]

/-- slices.Reverse of bytes of one's own -/
theorem reverse_ok (H M : PH) (T : TypeId) (A : Option Addr) (l : List Nat) (c : Nat) (hO : Own .u8 T M A l c) (hl : l.length ≤ 1000000000000) (hd : PH.disj H M) :
    Fn Tryd.prog 50 [.slice A l.length c] H M fun v H' M' => v = .tuple #[] ∧ H' = H ∧ PH.disj H' M' ∧ Own .u8 T M' A l.reverse c ∧ But M M' A := by
  refine of_slices_Reverse_byte_byte (by simp) ?_
  simp only [go_sem, Nat.reduceEqDiff, Bool.false_eq_true, Nat.reduceBEq, ↓reduceIte, p_slices_Reverse_byte_byte]
  refine ev_loop (fun n s => ∃ (i : Nat) (k : Int) (o : List Nat) (M1 : PH), i ≤ l.length ∧ k = (l.length : Int) - 1 - i ∧ n = l.length - i ∧ o.length = l.length ∧ (l.length = 0 ∨ 2 * i ≤ l.length) ∧
      (∀ j, j < l.length → o.getD j 0 = if j < i ∨ l.length - 1 - j < i then l.getD (l.length - 1 - j) 0 else l.getD j 0) ∧ Own .u8 T M1 A o c ∧ PH.disj H M1 ∧ But M M1 A ∧
    s = ⟨[(3, .v (.int .i64 k)), (2, .v (.int .i64 (i : Nat))), (0, .v (.slice A l.length c))], [], H, M1⟩)
    l.length _ ⟨0, (l.length : Int) - 1, l, M, by omega, by simp, by omega, rfl, by omega, fun j hj => by simp, hO, hd, But.refl _ _, rfl⟩ ⟨rfl, by simp only [go_sem, Nat.reduceEqDiff, Bool.false_eq_true, Nat.reduceBEq, ↓reduceIte, and_self, Option.some.injEq, SV.v.injEq, SV.ptr.injEq, Value.int.injEq, Value.bool.injEq, Value.slice.injEq, true_and, and_true] <;> (repeat' apply And.intro) <;> first | rfl | omega | (simp (disch := omega) only [w64, wu64, wu32, wu8] <;> omega), by simp only [go_sem, Nat.reduceEqDiff, Bool.false_eq_true, Nat.reduceBEq, ↓reduceIte, and_self, Option.some.injEq, SV.v.injEq, SV.ptr.injEq, Value.int.injEq, Value.bool.injEq, Value.slice.injEq, true_and, and_true] <;> (repeat' apply And.intro) <;> rfl, rfl, PH.le.refl _⟩ ?_
  clear hO hd
  rintro n s ⟨i, k, o, M1, hi, rfl, rfl, ho, h2i, hv, hO, hd, hB, rfl⟩
  simp only [go_sem, Nat.reduceEqDiff, Bool.false_eq_true, Nat.reduceBEq, ↓reduceIte]
  refine ev_if (fun h2 => ?_) (fun h2 => ?_)
  · obtain ⟨g, rfl⟩ := hO.base (by have := hO.le_cap; omega)
    have e : (l.length : Int) - 1 - i = ((l.length - 1 - i : Nat) : Int) := by omega
    rw [e]
    obtain ⟨q, hq⟩ : ∃ q, l.length - 1 - i = q := ⟨_, rfl⟩
    rw [hq]
    simp only [go_sem, Nat.reduceEqDiff, Bool.false_eq_true, Nat.reduceBEq, ↓reduceIte]
    refine ev_iaN q rfl (by omega) rfl ?_
    simp only [go_sem, Nat.reduceEqDiff, Bool.false_eq_true, Nat.reduceBEq, ↓reduceIte]
    refine ev_ldO hO (by omega) ?_
    simp only [go_sem, Nat.reduceEqDiff, Bool.false_eq_true, Nat.reduceBEq, ↓reduceIte]
    refine ev_iaN i rfl (by omega) rfl ?_
    simp only [go_sem, Nat.reduceEqDiff, Bool.false_eq_true, Nat.reduceBEq, ↓reduceIte]
    refine ev_ldO hO (by omega) ?_
    simp only [go_sem, Nat.reduceEqDiff, Bool.false_eq_true, Nat.reduceBEq, ↓reduceIte]
    refine ev_iaN i rfl (by omega) rfl ?_
    simp only [go_sem, Nat.reduceEqDiff, Bool.false_eq_true, Nat.reduceBEq, ↓reduceIte]
    refine ev_stO hO (by omega) ?_
    intro M2 hO2 hB2 hd2
    simp only [go_sem, Nat.reduceEqDiff, Bool.false_eq_true, Nat.reduceBEq, ↓reduceIte]
    refine ev_iaN q rfl (by omega) rfl ?_
    simp only [go_sem, Nat.reduceEqDiff, Bool.false_eq_true, Nat.reduceBEq, ↓reduceIte]
    refine ev_stO hO2 (by simp; omega) ?_
    intro M3 hO3 hB3 hd3
    simp only [go_sem, Nat.reduceEqDiff, Bool.false_eq_true, Nat.reduceBEq, ↓reduceIte]
    simp (disch := omega) only [nA64, nS64, nM64, nC64, nA64l, nS64l, nM64l, nM64r, nR64l, nL64l, nAu64, nMu64, nMu64r, nSu64, nAu64l, nLu64l, nCu64, nCu32, nCu8, nAu32, nLu32l, nSu8l, toNat_cast]
    refine k_next (l.length - (i + 1)) _ (by omega) ⟨i + 1, _, _, M3, by omega, rfl, rfl, by simp; omega, by omega, fun j hj => ?_, hO3, hd3 _ (hd2 _ hd), (hB.trans hB2).trans hB3, rfl⟩ ⟨rfl, by simp only [go_sem, Nat.reduceEqDiff, Bool.false_eq_true, Nat.reduceBEq, ↓reduceIte, and_self, Option.some.injEq, SV.v.injEq, SV.ptr.injEq, Value.int.injEq, Value.bool.injEq, Value.slice.injEq, true_and, and_true] <;> (repeat' apply And.intro) <;> first | rfl | omega | (simp (disch := omega) only [w64, wu64, wu32, wu8] <;> omega), by simp only [go_sem, Nat.reduceEqDiff, Bool.false_eq_true, Nat.reduceBEq, ↓reduceIte, and_self, Option.some.injEq, SV.v.injEq, SV.ptr.injEq, Value.int.injEq, Value.bool.injEq, Value.slice.injEq, true_and, and_true] <;> (repeat' apply And.intro) <;> rfl, rfl, PH.le.refl _⟩
    rw [getD_set (by simp; omega), getD_set (by omega), hv i (by omega), hv q (by omega), hv j hj]
    by_cases hj1 : j = q
    · subst hj1
      rw [if_pos rfl, if_neg (by omega), if_pos (by omega)]
      congr 1; omega
    · rw [if_neg hj1]
      by_cases hj2 : j = i
      · subst hj2
        rw [if_pos rfl, if_neg (by omega), if_pos (by omega)]
        congr 1; omega
      · rw [if_neg hj2]
        by_cases hj3 : j < i ∨ l.length - 1 - j < i
        · rw [if_pos hj3, if_pos (by omega)]
        · rw [if_neg hj3, if_neg (by omega)]
  · simp only [go_sem, Nat.reduceEqDiff, Bool.false_eq_true, Nat.reduceBEq, ↓reduceIte]
    refine ⟨by trivial, by trivial, hd, ?_, hB⟩
    have : o = l.reverse := by
      refine ext_getD (by simp [ho]) fun j hj => ?_
      rw [hv j (by omega), rev_getD (by omega)]
      by_cases hj3 : j < i ∨ l.length - 1 - j < i
      · rw [if_pos hj3]
      · rw [if_neg hj3]; congr 1; omega
    rw [← this]
    exact hO

theorem digit_char {r : Nat} : IntKind.u8.wrap (IntKind.u32.wrap (48 + ((r % 10 : Nat) : Int))) = ((48 + r % 10 : Nat) : Int) := by
  rw [wu32n (48 + r % 10) (by omega) (by omega), wu8n (48 + r % 10) rfl (by omega)]

theorem chunk_bound {x k : Nat} (h : x / 10 ^ (9 * k) ≠ 0) : 9 * k < bl x := by
  rw [lt_bl_iff]
  have h1 : 10 ^ (9 * k) ≤ x := (Nat.div_pos_iff.1 (Nat.pos_of_ne_zero h)).2
  exact Nat.le_trans (Nat.pow_le_pow_left (by decide) _) h1

theorem nd_eq_zero {x : Nat} (h : nd x = 0) : x = 0 := by
  rcases Nat.eq_zero_or_pos x with h0 | h0
  · exact h0
  · rw [nd_pos (by omega)] at h; omega

set_option maxHeartbeats 1000000 in
theorem text_ok (H : PH) (v : Value) (x : Nat) (hN : NatV H v x) (hb : bl x ≤ 4294967296) : FnP Tryd.prog 16 [v] H fun v _ => v = .string (ofB (txt x)) := by
  obtain ⟨A0, l0, c0, rfl, hc, hS, hn, rfl⟩ := hN
  have hlen := len_le_bl hn
  refine Fn.release (of_nat_Nat_Text (by simp) ?_)
  simp only [go_sem, Nat.reduceEqDiff, Bool.false_eq_true, Nat.reduceBEq, ↓reduceIte, p_nat_Nat_Text]
  refine ev_callM (clone_own H A0 l0 c0 hS (by omega) hc) ?_
  rintro v H1 M1 _ ⟨hd1, A, c, rfl, hO⟩ _
  obtain ⟨x, hx⟩ : ∃ x, val l0 = x := ⟨_, rfl⟩
  rw [hx] at hb hlen ⊢
  have hvx : val l0 = x / 10 ^ (9 * 0) := by simp [hx]
  simp only [go_sem, Nat.reduceEqDiff, Bool.false_eq_true, Nat.reduceBEq, ↓reduceIte]
  have h00 : ds (9 * 0) x = [] := rfl
  clear hS hc
  refine ev_loop (fun n s => ∃ k A l c B o e H1 M1, n = x / 10 ^ (9 * k) ∧ val l = x / 10 ^ (9 * k) ∧ Norm l ∧ l.length ≤ l0.length ∧ o = ds (9 * k) x ∧ (k = 0 ∨ 9 * k < bl x + 9) ∧ Own .u32 60 M1 A l c ∧ Own .u8 5 M1 B o e ∧ (B = none ∨ B ≠ A) ∧ PH.disj H1 M1 ∧
    s = ⟨[(4, .v (.slice B o.length e)), (3, .v (.slice A l.length c))], [], H1, M1⟩)
    _ _ ⟨0, A, l0, c, none, [], 0, H1, M1, rfl, hvx, hn, Nat.le_refl _, h00.symm, .inl rfl, hO, Own.nil _ _ _, .inl rfl, hd1, rfl⟩ ⟨rfl, by simp only [go_sem, Nat.reduceEqDiff, Bool.false_eq_true, Nat.reduceBEq, ↓reduceIte, and_self, Option.some.injEq, SV.v.injEq, SV.ptr.injEq, Value.int.injEq, Value.bool.injEq, Value.slice.injEq, true_and, and_true] <;> (repeat' apply And.intro) <;> first | rfl | omega | (simp (disch := omega) only [w64, wu64, wu32, wu8] <;> omega), by simp only [go_sem, Nat.reduceEqDiff, Bool.false_eq_true, Nat.reduceBEq, ↓reduceIte, and_self, Option.some.injEq, SV.v.injEq, SV.ptr.injEq, Value.int.injEq, Value.bool.injEq, Value.slice.injEq, true_and, and_true] <;> (repeat' apply And.intro) <;> rfl, rfl, PH.le.refl _⟩ ?_
  clear hO hd1 hvx h00 hn
  rintro n s ⟨k, A, l, c, B, o, e, H1, M1, rfl, hv, hn, hll, ho, hk, hO, hP, hne, hd, rfl⟩
  simp only [go_sem, Nat.reduceEqDiff, Bool.false_eq_true, Nat.reduceBEq, ↓reduceIte]
  refine ev_if (fun h2 => ?_) (fun h2 => ?_)
  · have hl0 : l ≠ [] := fun h => by rw [h] at h2; simp at h2
    have hvl : x / 10 ^ (9 * k) ≠ 0 := by rw [← hv]; exact fun h => hl0 ((val_eq_zero hn).1 h)
    have hk9 := chunk_bound hvl
    simp only [go_sem, Nat.reduceEqDiff, Bool.false_eq_true, Nat.reduceBEq, ↓reduceIte]
    refine ev_callM (short_ok H1 60 M1 A l c 1000000000 hO hn.1 hl0 (by omega) (by decide) (by decide)) ?_
    rintro v H2 M2 _ ⟨l2, rfl, rfl, hl2, hlim2, hv2, hO2, hB2⟩ hd2
    replace hP := hP.but hB2 hne
    have hr : ds 9 (val l % 1000000000) = ds 9 (x / 10 ^ (9 * k)) := by
      rw [hv, show (1000000000 : Nat) = 10 ^ 9 from rfl]
      unfold ds
      congr 1
      refine ext_getD (by simp [dg_length]) fun j hj => ?_
      rw [dg_length] at hj
      rw [dg_getD _ _ _ _ hj, dg_getD _ _ _ _ hj]
      generalize x / 10 ^ (9 * k) = y
      have : (10 : Nat) ^ 9 = 10 ^ j * 10 ^ (9 - j) := by rw [← Nat.pow_add]; congr 1; omega
      rw [this, Nat.mod_mul_right_div_self, Nat.mod_mod_of_dvd]
      exact Nat.dvd_trans (Nat.dvd_refl 10) (by rw [show 9 - j = (8 - j) + 1 by omega, Nat.pow_succ]; exact Nat.dvd_mul_left _ _)
    have hrlt : val l % 1000000000 < 1000000000 := Nat.mod_lt _ (by decide)
    generalize val l % 1000000000 = r0 at *
    simp only [go_sem, Nat.reduceEqDiff, Bool.false_eq_true, Nat.reduceBEq, ↓reduceIte]
    refine ev_loop (fun n s => ∃ i B o2 e M2, i ≤ 9 ∧ n = 9 - i ∧ o2 = o ++ ds i r0 ∧ Own .u32 60 M2 A l2 c ∧ Own .u8 5 M2 B o2 e ∧ (B = none ∨ B ≠ A) ∧ PH.disj H2 M2 ∧
      s = ⟨[(14, .v (.int .i64 (i : Nat))), (5, .v (.int .u32 (r0 / 10 ^ i : Nat))), (4, .v (.slice B o2.length e)), (3, .v (.slice A l2.length c))], [], H2, M2⟩)
      9 _ ⟨0, B, o, e, M2, by omega, rfl, by simp [ds, dg], hO2, hP, hne, hd2, rfl⟩ ⟨rfl, ?_, by simp only [go_sem, Nat.reduceEqDiff, Bool.false_eq_true, Nat.reduceBEq, ↓reduceIte, and_self, Option.some.injEq, SV.v.injEq, SV.ptr.injEq, Value.int.injEq, Value.bool.injEq, Value.slice.injEq, true_and, and_true], rfl, PH.le.refl _⟩ ?_
    · simp only [go_sem, Nat.reduceEqDiff, Bool.false_eq_true, Nat.reduceBEq, ↓reduceIte, and_self, Option.some.injEq, SV.v.injEq, SV.ptr.injEq, Value.int.injEq, Value.bool.injEq, Value.slice.injEq, true_and, and_true]
      simp [hl2]
    clear hO2 hP hne hd2 hB2 hO hd
    rintro n s ⟨i, B, o2, e, M2, hi, rfl, ho2, hO2, hP, hne, hd, rfl⟩
    have hol : o2.length = 9 * k + i := by rw [ho2, ho, List.length_append, ds_length, ds_length]
    simp only [go_sem, Nat.reduceEqDiff, Bool.false_eq_true, Nat.reduceBEq, ↓reduceIte]
    refine ev_if (fun h3 => ?_) (fun h3 => ?_)
    · simp only [go_sem, Nat.reduceEqDiff, Bool.false_eq_true, Nat.reduceBEq, ↓reduceIte]
      have hri : r0 / 10 ^ i ≤ r0 := Nat.div_le_self _ _
      have hr1 : r0 / 10 ^ (i + 1) = r0 / 10 ^ i / 10 := by rw [Nat.pow_succ, Nat.div_div_eq_div_mul]
      have hds : ds (i + 1) r0 = ds i r0 ++ [48 + r0 / 10 ^ i % 10] := ds_snoc i r0
      generalize r0 / 10 ^ i = r at *
      refine rem_nat (a := r) (m := 10) rfl (by decide) ?_
      simp only [go_sem, Nat.reduceEqDiff, Bool.false_eq_true, Nat.reduceBEq, ↓reduceIte]
      rw [digit_char]
      refine ev_bslO (k := .u8) (l := [48 + r % 10]) rfl rfl (by simp) hd ?_
      intro g M3 hO3 hle3 hg3 hd3
      simp only [go_sem, Nat.reduceEqDiff, Bool.false_eq_true, Nat.reduceBEq, ↓reduceIte]
      refine ev_appO (hP.le hle3) (m := [48 + r % 10]) (hO3.sl hd3) rfl rfl (by simp) (by simp; omega) (by simp; omega) hd3 ?_
      intro B' e' M4 hO4 hB4 hne4 hd4
      simp only [go_sem, Nat.reduceEqDiff, Bool.false_eq_true, Nat.reduceBEq, ↓reduceIte]
      refine quo_nat (a := r) (m := 10) rfl (by decide) (nCu32 (by omega)) ?_
      simp only [go_sem, Nat.reduceEqDiff, Bool.false_eq_true, Nat.reduceBEq, ↓reduceIte]
      simp (disch := omega) only [nA64, nS64, nM64, nC64, nA64l, nS64l, nM64l, nM64r, nR64l, nL64l, nAu64, nMu64, nMu64r, nSu64, nAu64l, nLu64l, nCu64, nCu32, nCu8, nAu32, nLu32l, nSu8l, toNat_cast]
      have hA : A = none ∨ A ≠ B := by
        rcases hne with h | h
        · rcases hO2 with ⟨h', _⟩ | ⟨g', _, h', _⟩
          · exact .inl h'
          · right; rw [h', h]; exact fun e => by cases e
        · exact .inr (Ne.symm h)
      have hO2' := (hO2.le hle3).but hB4 hA
      refine k_next (9 - (i + 1)) _ (by omega) ⟨i + 1, B', _, e', M4, by omega, rfl, ?_, hO2', hO4, ?_, hd4, rfl⟩ ⟨rfl, ?_, by simp only [go_sem, Nat.reduceEqDiff, Bool.false_eq_true, Nat.reduceBEq, ↓reduceIte, and_self, Option.some.injEq, SV.v.injEq, SV.ptr.injEq, Value.int.injEq, Value.bool.injEq, Value.slice.injEq, true_and, and_true], rfl, PH.le.refl _⟩
      · rw [ho2, hds, List.append_assoc]
      · rcases hne4 with h | h
        · rw [h]; exact hne
        · rcases hO2 with ⟨h', _⟩ | ⟨g', rest', h', h'', _⟩
          · by_cases hB' : B' = none
            · exact .inl hB'
            · right; rw [h']; exact hB'
          · right; rw [h']; exact h g' _ (hle3 _ _ h'')
      · simp only [go_sem, Nat.reduceEqDiff, Bool.false_eq_true, Nat.reduceBEq, ↓reduceIte, and_self, Option.some.injEq, SV.v.injEq, SV.ptr.injEq, Value.int.injEq, Value.bool.injEq, Value.slice.injEq, true_and, and_true]
        simp [hr1]
    · have hi9 : i = 9 := by omega
      subst hi9
      have hlen2 := hO2.le_cap
      simp only [go_sem, Nat.reduceEqDiff, Bool.false_eq_true, Nat.reduceBEq, ↓reduceIte]
      refine ev_callB (cut_ok _ A l2 l2.length c rfl hlen2 (hO2.sl hd) hlim2 (by omega)) ?_
      rintro v H3 hle3 ⟨m, hm, rfl, hN3, hv3⟩ hd3
      simp only [go_sem, Nat.reduceEqDiff, Bool.false_eq_true, Nat.reduceBEq, ↓reduceIte]
      have e1 : x / 10 ^ (9 * (k + 1)) = x / 10 ^ (9 * k) / 1000000000 := by
        rw [Nat.div_div_eq_div_mul, show (1000000000 : Nat) = 10 ^ 9 from rfl, ← Nat.pow_add]; rfl
      refine k_next (x / 10 ^ (9 * (k + 1))) _ ?_ ⟨k + 1, A, l2.take m, c, B, o2, e, H3, M2, rfl, ?_, hN3, ?_, ?_, .inr (by omega), hO2.take m, hP, hne, hd3, rfl⟩ ⟨rfl, ?_, by simp only [go_sem, Nat.reduceEqDiff, Bool.false_eq_true, Nat.reduceBEq, ↓reduceIte, and_self, Option.some.injEq, SV.v.injEq, SV.ptr.injEq, Value.int.injEq, Value.bool.injEq, Value.slice.injEq, true_and, and_true], rfl, PH.le.refl _⟩
      · rw [e1]; omega
      · rw [hv3, hv2, e1, hv]
      · rw [List.length_take]; omega
      · rw [ho2, ho, hr, show 9 * (k + 1) = 9 * k + 9 by omega, ds_add]
      · simp only [go_sem, Nat.reduceEqDiff, Bool.false_eq_true, Nat.reduceBEq, ↓reduceIte, and_self, Option.some.injEq, SV.v.injEq, SV.ptr.injEq, Value.int.injEq, Value.bool.injEq, Value.slice.injEq, true_and, and_true]
        rw [List.length_take, Nat.min_eq_left hm]
  · have hl0 : l = [] := List.eq_nil_of_length_eq_zero (by omega)
    have hlt : x < 10 ^ (9 * k) := by
      rw [hl0] at hv
      exact (Nat.div_eq_zero_iff.1 hv.symm).resolve_left (Nat.ne_of_gt (Nat.pow_pos (by decide)))
    have hol : o.length = 9 * k := by rw [ho, ds_length]
    simp only [go_sem, Nat.reduceEqDiff, Bool.false_eq_true, Nat.reduceBEq, ↓reduceIte]
    refine ev_loop (fun n s => n ≤ 9 * k ∧ (∀ i, n ≤ i → i < 9 * k → o.getD i 0 = 48) ∧ s = ⟨[(4, .v (.slice B n e))], [], H1, M1⟩)
      (9 * k) _ ⟨Nat.le_refl _, fun i h1 h2 => by omega, rfl⟩ ⟨rfl, ?_, by simp only [go_sem, Nat.reduceEqDiff, Bool.false_eq_true, Nat.reduceBEq, ↓reduceIte, and_self, Option.some.injEq, SV.v.injEq, SV.ptr.injEq, Value.int.injEq, Value.bool.injEq, Value.slice.injEq, true_and, and_true], rfl, PH.le.refl _⟩ ?_
    · simp only [go_sem, Nat.reduceEqDiff, Bool.false_eq_true, Nat.reduceBEq, ↓reduceIte, and_self, Option.some.injEq, SV.v.injEq, SV.ptr.injEq, Value.int.injEq, Value.bool.injEq, Value.slice.injEq, true_and, and_true]
      rw [hol]
    rintro m s ⟨hm, hz, rfl⟩
    have fin : (m = 0 ∨ o.getD (m - 1) 0 ≠ 48) → m = nd x ∧ o.take m = ds (nd x) x := by
      rw [ho]; rw [ho] at hz
      exact fun ht => ds_strip hlt hm hz ht
    simp only [go_sem, Nat.reduceEqDiff, Bool.false_eq_true, Nat.reduceBEq, ↓reduceIte]
    refine ev_if (fun h3 => ?_) (fun h3 => ?_)
    · have hcap := hP.le_cap
      obtain ⟨g, rfl⟩ := hP.base (by omega)
      simp only [go_sem, Nat.reduceEqDiff, Bool.false_eq_true, Nat.reduceBEq, ↓reduceIte]
      simp (disch := omega) only [nA64, nS64, nM64, nC64, nA64l, nS64l, nM64l, nM64r, nR64l, nL64l, nAu64, nMu64, nMu64r, nSu64, nAu64l, nLu64l, nCu64, nCu32, nCu8, nAu32, nLu32l, nSu8l, toNat_cast]
      refine ev_iaN (m - 1) rfl (by omega) rfl ?_
      simp only [go_sem, Nat.reduceEqDiff, Bool.false_eq_true, Nat.reduceBEq, ↓reduceIte]
      refine ev_ldO hP (by omega) ?_
      simp only [go_sem, Nat.reduceEqDiff, Bool.false_eq_true, Nat.reduceBEq, ↓reduceIte]
      refine ev_if (fun h4 => ?_) (fun h4 => ?_)
      · simp only [go_sem, Nat.reduceEqDiff, Bool.false_eq_true, Nat.reduceBEq, ↓reduceIte]
        simp (disch := omega) only [nA64, nS64, nM64, nC64, nA64l, nS64l, nM64l, nM64r, nR64l, nL64l, nAu64, nMu64, nMu64r, nSu64, nAu64l, nLu64l, nCu64, nCu32, nCu8, nAu32, nLu32l, nSu8l, toNat_cast]
        refine ev_slhN (m - 1) rfl (by omega) ?_
        simp only [go_sem, Nat.reduceEqDiff, Bool.false_eq_true, Nat.reduceBEq, ↓reduceIte]
        refine k_next (m - 1) _ (by omega) ⟨by omega, fun i h5 h6 => ?_, rfl⟩ ⟨rfl, by simp only [go_sem, Nat.reduceEqDiff, Bool.false_eq_true, Nat.reduceBEq, ↓reduceIte, and_self, Option.some.injEq, SV.v.injEq, SV.ptr.injEq, Value.int.injEq, Value.bool.injEq, Value.slice.injEq, true_and, and_true] <;> (repeat' apply And.intro) <;> first | rfl | omega | (simp (disch := omega) only [w64, wu64, wu32, wu8] <;> omega), by simp only [go_sem, Nat.reduceEqDiff, Bool.false_eq_true, Nat.reduceBEq, ↓reduceIte, and_self, Option.some.injEq, SV.v.injEq, SV.ptr.injEq, Value.int.injEq, Value.bool.injEq, Value.slice.injEq, true_and, and_true] <;> (repeat' apply And.intro) <;> rfl, rfl, PH.le.refl _⟩
        by_cases h7 : i = m - 1
        · rw [h7]; omega
        · exact hz i (by omega) h6
      · obtain ⟨f1, f2⟩ := fin (.inr (by omega))
        simp only [go_sem, Nat.reduceEqDiff, Bool.false_eq_true, Nat.reduceBEq, ↓reduceIte]
        refine ev_if (fun h5 => ?_) (fun h5 => ?_)
        · simp only [go_sem, Nat.reduceEqDiff, Bool.false_eq_true, Nat.reduceBEq, ↓reduceIte]
          intro _
          rw [show x = 0 from nd_eq_zero (by omega)]
          rfl
        · simp only [go_sem, Nat.reduceEqDiff, Bool.false_eq_true, Nat.reduceBEq, ↓reduceIte]
          have hm' : m = (o.take m).length := by rw [List.length_take]; omega
          have hrev := reverse_ok H1 M1 5 _ (o.take m) e (hP.take m) (by rw [← hm']; omega) hd
          rw [← hm'] at hrev
          refine ev_callM hrev ?_
          rintro v H3 M3 _ ⟨rfl, rfl, _, hO3, _⟩ hd3
          simp only [go_sem, Nat.reduceEqDiff, Bool.false_eq_true, Nat.reduceBEq, ↓reduceIte]
          have hxt : (o.take m).reverse = txt x := by
            unfold txt
            rw [if_neg, f2]
            intro h0
            rw [h0, nd_zero] at f1
            omega
          refine ev_b2sO hO3 (by rw [List.length_reverse]; exact hm') (by rw [hxt]; exact txt_lt x) ?_
          simp only [go_sem, Nat.reduceEqDiff, Bool.false_eq_true, Nat.reduceBEq, ↓reduceIte]
          intro _
          rw [hxt]
    · obtain ⟨f1, f2⟩ := fin (.inl (by omega))
      simp only [go_sem, Nat.reduceEqDiff, Bool.false_eq_true, Nat.reduceBEq, ↓reduceIte]
      refine ev_if (fun h5 => ?_) (fun h5 => ?_)
      · simp only [go_sem, Nat.reduceEqDiff, Bool.false_eq_true, Nat.reduceBEq, ↓reduceIte]
        intro _
        rw [show x = 0 from nd_eq_zero (by omega)]
        rfl
      · simp only [go_sem, Nat.reduceEqDiff, Bool.false_eq_true, Nat.reduceBEq, ↓reduceIte]
        have hm' : m = (o.take m).length := by rw [List.length_take]; omega
        have hrev := reverse_ok H1 M1 5 _ (o.take m) e (hP.take m) (by rw [← hm']; omega) hd
        rw [← hm'] at hrev
        refine ev_callM hrev ?_
        rintro v H3 M3 _ ⟨rfl, rfl, _, hO3, _⟩ hd3
        simp only [go_sem, Nat.reduceEqDiff, Bool.false_eq_true, Nat.reduceBEq, ↓reduceIte]
        have hxt : (o.take m).reverse = txt x := by
          unfold txt
          rw [if_neg, f2]
          intro h0
          rw [h0, nd_zero] at f1
          omega
        refine ev_b2sO hO3 (by rw [List.length_reverse]; exact hm') (by rw [hxt]; exact txt_lt x) ?_
        simp only [go_sem, Nat.reduceEqDiff, Bool.false_eq_true, Nat.reduceBEq, ↓reduceIte]
        intro _
        rw [hxt]

end Go.Proofs.YtlhhdlhnpgiamaaDoor.X
