/- The reference's naturals: their text. -/
import Derived.Test.YtlhhdlhnpgiamaaDoorSD
set_option linter.unusedVariables false
set_option linter.unusedSimpArgs false
namespace Go.Proofs.YtlhhdlhnpgiamaaDoor.X
open Go Go.RowKit Go.Proofs

theorem or_shift (r x : Nat) (hr : r < 4294967296) (hx : x < 4294967296) : bitsV .or .u64 ((r * 2 ^ 32 : Nat) : Int) (x : Int) = ((r * 4294967296 + x : Nat) : Int) := by
  rw [or64 (by omega) (by omega), Nat.or_comm, or_add _ _ _ hx, Nat.add_comm]

set_option maxHeartbeats 1000000 in
theorem rtext_ok (H : PH) (v : Value) (x : Nat) (hN : RefV H v x) (hb : bl x ≤ 4294967296) : FnP Tryd.prog 18 [v] H fun v _ => v = .string (ofB (txt x)) := by
  obtain ⟨A0, l0, c0, rfl, hc, hS, hn, rfl⟩ := hN
  have hlen := len_le_bl hn
  refine Fn.release (of_cinctureref1_NatText (by simp) ?_)
  simp only [go_sem, Nat.reduceEqDiff, Bool.false_eq_true, Nat.reduceBEq, ↓reduceIte, p_cinctureref1_NatText]
  refine ev_if (fun h => ?_) (fun h => ?_)
  · simp only [go_sem, Nat.reduceEqDiff, Bool.false_eq_true, Nat.reduceBEq, ↓reduceIte]
    have : l0 = [] := List.eq_nil_of_length_eq_zero (by omega)
    subst this
    intro _
    rfl
  · have hl0 : l0 ≠ [] := fun e => h (by rw [e]; rfl)
    have hx0 : val l0 ≠ 0 := fun e => hl0 ((val_eq_zero hn).1 e)
    simp only [go_sem, Nat.reduceEqDiff, Bool.false_eq_true, Nat.reduceBEq, ↓reduceIte]
    refine ev_appO (k := .u32) (l := []) (m := l0) (Own.nil _ _ _) (by rw [PH.join_no]; exact hS) rfl rfl hl0 (by simp; omega) (by simp; omega) (PH.disj_no _) ?_
    intro A c M1 hO _ _ hd1
    rw [List.nil_append] at hO
    simp only [go_sem, Nat.reduceEqDiff, Bool.false_eq_true, Nat.reduceBEq, ↓reduceIte]
    obtain ⟨x, hx⟩ : ∃ x, val l0 = x := ⟨_, rfl⟩
    rw [hx] at hb hlen hx0 ⊢
    have hvx : val l0 = x / 10 ^ 0 := by simp [hx]
    have h00 : ds 0 x = [] := rfl
    clear hS hc
    refine ev_loop (fun n s => ∃ k A l c B o e H1 M1, n = x / 10 ^ k ∧ val l = x / 10 ^ k ∧ Norm l ∧ l.length ≤ l0.length ∧ o = ds k x ∧ (k = 0 ∨ x / 10 ^ (k - 1) ≠ 0) ∧ Own .u32 60 M1 A l c ∧ Own .u8 5 M1 B o e ∧ (B = none ∨ B ≠ A) ∧ PH.disj H1 M1 ∧
      s = ⟨[(4, .v (.slice B o.length e)), (3, .v (.slice A l.length c))], [], H1, M1⟩)
      _ _ ⟨0, A, l0, c, none, [], 0, H, M1, rfl, hvx, hn, Nat.le_refl _, h00.symm, .inl rfl, hO, Own.nil _ _ _, .inl rfl, hd1, rfl⟩ ⟨rfl, by simp only [go_sem, Nat.reduceEqDiff, Bool.false_eq_true, Nat.reduceBEq, ↓reduceIte, and_self, Option.some.injEq, SV.v.injEq, SV.ptr.injEq, Value.int.injEq, Value.bool.injEq, Value.slice.injEq, true_and, and_true] <;> (repeat' apply And.intro) <;> first | rfl | omega | (simp (disch := omega) only [w64, wu64, wu32, wu8] <;> omega), by simp only [go_sem, Nat.reduceEqDiff, Bool.false_eq_true, Nat.reduceBEq, ↓reduceIte, and_self, Option.some.injEq, SV.v.injEq, SV.ptr.injEq, Value.int.injEq, Value.bool.injEq, Value.slice.injEq, true_and, and_true] <;> (repeat' apply And.intro) <;> rfl, rfl, PH.le.refl _⟩ ?_
    clear hO hd1 hvx h00 hn hl0 h
    rintro n s ⟨k, A, l, c, B, o, e, H1, M1, rfl, hv, hn, hll, ho, hk, hO, hP, hne, hd, rfl⟩
    have hkb : ∀ j, x / 10 ^ j ≠ 0 → j < bl x := fun j hj => by
      rw [lt_bl_iff]
      exact Nat.le_trans (Nat.pow_le_pow_left (by decide) _) (Nat.div_pos_iff.1 (Nat.pos_of_ne_zero hj)).2
    have hol : o.length = k := by rw [ho, ds_length]
    simp only [go_sem, Nat.reduceEqDiff, Bool.false_eq_true, Nat.reduceBEq, ↓reduceIte]
    refine ev_if (fun h2 => ?_) (fun h2 => ?_)
    · have hl0 : l ≠ [] := fun h => by rw [h] at h2; simp at h2
      have hvl : x / 10 ^ k ≠ 0 := by rw [← hv]; exact fun h => hl0 ((val_eq_zero hn).1 h)
      have hk9 := hkb k hvl
      simp only [go_sem, Nat.reduceEqDiff, Bool.false_eq_true, Nat.reduceBEq, ↓reduceIte]
      refine ev_loop (fun n s => ∃ (i : Nat) (z : Int) (o2 : List Nat) (r : Nat) (M2 : PH), z = (i : Int) - 1 ∧ i ≤ l.length ∧ n = i ∧ o2.length = l.length ∧ Lim o2 ∧ r < 10 ∧ val (l.drop i) = val (o2.drop i) * 10 + r ∧ (∀ j, j < i → o2.getD j 0 = l.getD j 0) ∧ Own .u32 60 M2 A o2 c ∧ Own .u8 5 M2 B o e ∧ PH.disj H1 M2 ∧
        s = ⟨[(6, .v (.int .i64 z)), (5, .v (.int .u64 (r : Nat))), (4, .v (.slice B o.length e)), (3, .v (.slice A l.length c))], [], H1, M2⟩)
        l.length _ ⟨l.length, (l.length : Int) - 1, l, 0, M1, rfl, by omega, rfl, rfl, hn.1, by omega, by simp [val], fun j _ => rfl, hO, hP, hd, rfl⟩ ⟨rfl, by simp only [go_sem, Nat.reduceEqDiff, Bool.false_eq_true, Nat.reduceBEq, ↓reduceIte, and_self, Option.some.injEq, SV.v.injEq, SV.ptr.injEq, Value.int.injEq, Value.bool.injEq, Value.slice.injEq, true_and, and_true] <;> (repeat' apply And.intro) <;> first | rfl | omega | (simp (disch := omega) only [w64, wu64, wu32, wu8] <;> omega), by simp only [go_sem, Nat.reduceEqDiff, Bool.false_eq_true, Nat.reduceBEq, ↓reduceIte, and_self, Option.some.injEq, SV.v.injEq, SV.ptr.injEq, Value.int.injEq, Value.bool.injEq, Value.slice.injEq, true_and, and_true] <;> (repeat' apply And.intro) <;> rfl, rfl, PH.le.refl _⟩ ?_
      clear hO hP hd
      rintro i s ⟨_, z, o2, r, M2, rfl, hi, rfl, ho2, hlo, hr, hvd, he, hO, hP, hd, rfl⟩
      simp only [go_sem, Nat.reduceEqDiff, Bool.false_eq_true, Nat.reduceBEq, ↓reduceIte]
      refine ev_if (fun h3 => ?_) (fun h3 => ?_)
      · obtain ⟨g, rfl⟩ := hO.base (by have := hO.le_cap; omega)
        have ei : (i : Int) - 1 = ((i - 1 : Nat) : Int) := by omega
        rw [ei]
        obtain ⟨z1, z2, z3, z4⟩ := short_step l.length (i - 1) 10 r l o2 hn.1 hlo rfl ho2 (by omega) (by decide) (by decide) hr (by rw [show i - 1 + 1 = i by omega]; exact hvd) (fun j hj => he j (by omega))
        have hy := hlo.getD (i - 1)
        rw [← he (i - 1) (by omega)] at z1 z2 z3 z4
        simp only [go_sem, Nat.reduceEqDiff, Bool.false_eq_true, Nat.reduceBEq, ↓reduceIte]
        refine shl_nat (n := 32) (y := r * 2 ^ 32) rfl (by decide) (wu64n _ rfl (by omega)) ?_
        simp only [go_sem, Nat.reduceEqDiff, Bool.false_eq_true, Nat.reduceBEq, ↓reduceIte]
        refine ev_iaN (i - 1) rfl (by omega) rfl ?_
        simp only [go_sem, Nat.reduceEqDiff, Bool.false_eq_true, Nat.reduceBEq, ↓reduceIte]
        refine ev_ldO hO (by omega) ?_
        simp only [go_sem, Nat.reduceEqDiff, Bool.false_eq_true, Nat.reduceBEq, ↓reduceIte]
        simp (disch := omega) only [nA64, nS64, nM64, nC64, nA64l, nS64l, nM64l, nM64r, nR64l, nL64l, nAu64, nMu64, nMu64r, nSu64, nAu64l, nLu64l, nCu64, nCu32, nCu8, nAu32, nLu32l, nSu8l, toNat_cast]
        rw [or_shift r _ (by omega) hy]
        generalize r * 4294967296 + o2.getD (i - 1) 0 = w at *
        refine quo_nat (a := w) (m := 10) rfl (by decide) (nCu64 (by omega)) ?_
        simp only [go_sem, Nat.reduceEqDiff, Bool.false_eq_true, Nat.reduceBEq, ↓reduceIte]
        simp (disch := omega) only [nA64, nS64, nM64, nC64, nA64l, nS64l, nM64l, nM64r, nR64l, nL64l, nAu64, nMu64, nMu64r, nSu64, nAu64l, nLu64l, nCu64, nCu32, nCu8, nAu32, nLu32l, nSu8l, toNat_cast]
        refine ev_iaN (i - 1) rfl (by omega) rfl ?_
        simp only [go_sem, Nat.reduceEqDiff, Bool.false_eq_true, Nat.reduceBEq, ↓reduceIte]
        refine ev_stO hO (by omega) ?_
        intro M' hO' hB' hd'
        have hP' := hP.but hB' hne
        simp only [go_sem, Nat.reduceEqDiff, Bool.false_eq_true, Nat.reduceBEq, ↓reduceIte]
        refine rem_nat (a := w) (m := 10) rfl (by decide) ?_
        simp only [go_sem, Nat.reduceEqDiff, Bool.false_eq_true, Nat.reduceBEq, ↓reduceIte]
        refine k_next (i - 1) _ (by omega) ⟨i - 1, ((i - 1 : Nat) : Int) - 1, _, w % 10, M', rfl, by omega, rfl, by simp; omega, hlo.set z2, z3, z4, fun j hj => ?_, hO', hP', hd' _ hd, rfl⟩ ⟨rfl, by simp only [go_sem, Nat.reduceEqDiff, Bool.false_eq_true, Nat.reduceBEq, ↓reduceIte, and_self, Option.some.injEq, SV.v.injEq, SV.ptr.injEq, Value.int.injEq, Value.bool.injEq, Value.slice.injEq, true_and, and_true] <;> (repeat' apply And.intro) <;> first | rfl | omega | (simp (disch := omega) only [w64, wu64, wu32, wu8] <;> omega), by simp only [go_sem, Nat.reduceEqDiff, Bool.false_eq_true, Nat.reduceBEq, ↓reduceIte, and_self, Option.some.injEq, SV.v.injEq, SV.ptr.injEq, Value.int.injEq, Value.bool.injEq, Value.slice.injEq, true_and, and_true] <;> (repeat' apply And.intro) <;> rfl, rfl, PH.le.refl _⟩
        rw [getD_set (by omega), if_neg (by omega)]
        exact he j (by omega)
      · have hi0 : i = 0 := by omega
        subst hi0
        rw [List.drop_zero, List.drop_zero] at hvd
        have hdiv : val o2 = val l / 10 ∧ r = val l % 10 := by omega
        have hds : ds (k + 1) x = ds k x ++ [48 + r] := by rw [ds_snoc, ← hv, hdiv.2]
        have hvx : val o2 = x / 10 ^ (k + 1) := by rw [hdiv.1, hv, Nat.div_div_eq_div_mul, ← Nat.pow_succ]
        have hcap := hO.le_cap
        simp only [go_sem, Nat.reduceEqDiff, Bool.false_eq_true, Nat.reduceBEq, ↓reduceIte]
        rw [show IntKind.u8.wrap (IntKind.u64.wrap (48 + (r : Int))) = ((48 + r : Nat) : Int) by rw [wu64n (48 + r) (by omega) (by omega), wu8n (48 + r) rfl (by omega)]]
        refine ev_bslO (k := .u8) (l := [48 + r]) rfl rfl (by simp) hd ?_
        intro g M3 hO3 hle3 hg3 hd3
        simp only [go_sem, Nat.reduceEqDiff, Bool.false_eq_true, Nat.reduceBEq, ↓reduceIte]
        refine ev_appO (hP.le hle3) (m := [48 + r]) (hO3.sl hd3) rfl rfl (by simp) (by simp; omega) (by simp; omega) hd3 ?_
        intro B' e' M4 hO4 hB4 hne4 hd4
        simp only [go_sem, Nat.reduceEqDiff, Bool.false_eq_true, Nat.reduceBEq, ↓reduceIte]
        have hA : A = none ∨ A ≠ B := by
          rcases hne with h | h
          · rcases hO with ⟨h', _⟩ | ⟨g', _, h', _⟩
            · exact .inl h'
            · right; rw [h', h]; exact fun e => by cases e
          · exact .inr (Ne.symm h)
        have hO2' := (hO.le hle3).but hB4 hA
        have hneB : B' = none ∨ B' ≠ A := by
          rcases hne4 with h | h
          · rw [h]; exact hne
          · rcases hO with ⟨h', _⟩ | ⟨g', rest', h', h'', _⟩
            · by_cases hB' : B' = none
              · exact .inl hB'
              · right; rw [h']; exact hB'
            · right; rw [h']; exact h g' _ (hle3 _ _ h'')
        refine ev_callB (trim_ok _ A o2 l.length c ho2.symm (by omega) (hO2'.sl hd4) hlo (by omega)) ?_
        rintro v H3 hle3' ⟨m, hm, rfl, hN3, hv3⟩ hd3'
        simp only [go_sem, Nat.reduceEqDiff, Bool.false_eq_true, Nat.reduceBEq, ↓reduceIte]
        refine k_next (x / 10 ^ (k + 1)) _ ?_ ⟨k + 1, A, o2.take m, c, B', _, e', H3, M4, rfl, ?_, hN3, ?_, ?_, .inr ?_, hO2'.take m, hO4, hneB, hd3', rfl⟩ ⟨rfl, ?_, by simp only [go_sem, Nat.reduceEqDiff, Bool.false_eq_true, Nat.reduceBEq, ↓reduceIte, and_self, Option.some.injEq, SV.v.injEq, SV.ptr.injEq, Value.int.injEq, Value.bool.injEq, Value.slice.injEq, true_and, and_true], rfl, PH.le.refl _⟩
        · rw [Nat.pow_succ, ← Nat.div_div_eq_div_mul]; omega
        · rw [hv3, hvx]
        · rw [List.length_take]; omega
        · rw [hds, ho]
        · rw [Nat.add_sub_cancel]; exact hvl
        · simp only [go_sem, Nat.reduceEqDiff, Bool.false_eq_true, Nat.reduceBEq, ↓reduceIte, and_self, Option.some.injEq, SV.v.injEq, SV.ptr.injEq, Value.int.injEq, Value.bool.injEq, Value.slice.injEq, true_and, and_true]
          rw [List.length_take, Nat.min_eq_left hm]
          simp
    · have hl0 : l = [] := List.eq_nil_of_length_eq_zero (by omega)
      have hlt : x < 10 ^ k := by
        rw [hl0] at hv
        exact (Nat.div_eq_zero_iff.1 hv.symm).resolve_left (Nat.ne_of_gt (Nat.pow_pos (by decide)))
      have hnd : nd x = k := nd_uniq hlt (hk.imp_right fun h => (Nat.div_pos_iff.1 (Nat.pos_of_ne_zero h)).2)
      have hkk : k ≤ bl x := by
        rcases hk with h | h
        · omega
        · have := hkb _ h; omega
      have htx : txt x = o.reverse := by unfold txt; rw [if_neg hx0, hnd, ho]
      have hol' : (o.length : Nat) = k := hol
      clear hO hne hv ho
      simp only [go_sem, Nat.reduceEqDiff, Bool.false_eq_true, Nat.reduceBEq, ↓reduceIte]
      refine ev_loop (fun n s => ∃ (i : Nat) (p : List Nat) (M2 : PH), i ≤ k / 2 ∧ n = k / 2 - i ∧ p.length = k ∧ (∀ j, j < k → p.getD j 0 = if j < i ∨ k - 1 - j < i then o.getD (k - 1 - j) 0 else o.getD j 0) ∧ Own .u8 5 M2 B p e ∧ PH.disj H1 M2 ∧
        s = ⟨[(8, .v (.int .i64 (i : Nat))), (4, .v (.slice B k e))], [], H1, M2⟩)
        (k / 2) _ ⟨0, o, M1, by omega, by omega, hol, fun j hj => by simp, hP, hd, rfl⟩ ⟨rfl, ?_, by simp only [go_sem, Nat.reduceEqDiff, Bool.false_eq_true, Nat.reduceBEq, ↓reduceIte, and_self, Option.some.injEq, SV.v.injEq, SV.ptr.injEq, Value.int.injEq, Value.bool.injEq, Value.slice.injEq, true_and, and_true], rfl, PH.le.refl _⟩ ?_
      · simp only [go_sem, Nat.reduceEqDiff, Bool.false_eq_true, Nat.reduceBEq, ↓reduceIte, and_self, Option.some.injEq, SV.v.injEq, SV.ptr.injEq, Value.int.injEq, Value.bool.injEq, Value.slice.injEq, true_and, and_true]
        simp [hol]
      clear hP hd
      rintro n s ⟨i, p, M2, hi, rfl, hp, hpv, hP, hd, rfl⟩
      simp only [go_sem, Nat.reduceEqDiff, Bool.false_eq_true, Nat.reduceBEq, ↓reduceIte]
      refine quo_nat (a := k) (m := 2) rfl (by decide) (w64 _ (by omega) (by omega)) ?_
      simp only [go_sem, Nat.reduceEqDiff, Bool.false_eq_true, Nat.reduceBEq, ↓reduceIte]
      refine ev_if (fun h3 => ?_) (fun h3 => ?_)
      · obtain ⟨g, rfl⟩ := hP.base (by have := hP.le_cap; omega)
        simp only [go_sem, Nat.reduceEqDiff, Bool.false_eq_true, Nat.reduceBEq, ↓reduceIte]
        simp (disch := omega) only [nA64, nS64, nM64, nC64, nA64l, nS64l, nM64l, nM64r, nR64l, nL64l, nAu64, nMu64, nMu64r, nSu64, nAu64l, nLu64l, nCu64, nCu32, nCu8, nAu32, nLu32l, nSu8l, toNat_cast]
        obtain ⟨q, hq⟩ : ∃ q, k - 1 - i = q := ⟨_, rfl⟩
        rw [hq]
        refine ev_iaN q rfl (by omega) rfl ?_
        simp only [go_sem, Nat.reduceEqDiff, Bool.false_eq_true, Nat.reduceBEq, ↓reduceIte]
        refine ev_ldO hP (by omega) ?_
        simp only [go_sem, Nat.reduceEqDiff, Bool.false_eq_true, Nat.reduceBEq, ↓reduceIte]
        refine ev_iaN i rfl (by omega) rfl ?_
        simp only [go_sem, Nat.reduceEqDiff, Bool.false_eq_true, Nat.reduceBEq, ↓reduceIte]
        refine ev_ldO hP (by omega) ?_
        simp only [go_sem, Nat.reduceEqDiff, Bool.false_eq_true, Nat.reduceBEq, ↓reduceIte]
        refine ev_iaN i rfl (by omega) rfl ?_
        simp only [go_sem, Nat.reduceEqDiff, Bool.false_eq_true, Nat.reduceBEq, ↓reduceIte]
        refine ev_stO hP (by omega) ?_
        intro M3 hO3 hB3 hd3
        simp only [go_sem, Nat.reduceEqDiff, Bool.false_eq_true, Nat.reduceBEq, ↓reduceIte]
        refine ev_iaN q rfl (by omega) rfl ?_
        simp only [go_sem, Nat.reduceEqDiff, Bool.false_eq_true, Nat.reduceBEq, ↓reduceIte]
        refine ev_stO hO3 (by simp; omega) ?_
        intro M4 hO4 hB4 hd4
        simp only [go_sem, Nat.reduceEqDiff, Bool.false_eq_true, Nat.reduceBEq, ↓reduceIte]
        simp (disch := omega) only [nA64, nS64, nM64, nC64, nA64l, nS64l, nM64l, nM64r, nR64l, nL64l, nAu64, nMu64, nMu64r, nSu64, nAu64l, nLu64l, nCu64, nCu32, nCu8, nAu32, nLu32l, nSu8l, toNat_cast]
        refine k_next (k / 2 - (i + 1)) _ (by omega) ⟨i + 1, _, M4, by omega, rfl, by simp; omega, fun j hj => ?_, hO4, hd4 _ (hd3 _ hd), rfl⟩ ⟨rfl, by simp only [go_sem, Nat.reduceEqDiff, Bool.false_eq_true, Nat.reduceBEq, ↓reduceIte, and_self, Option.some.injEq, SV.v.injEq, SV.ptr.injEq, Value.int.injEq, Value.bool.injEq, Value.slice.injEq, true_and, and_true] <;> (repeat' apply And.intro) <;> first | rfl | omega | (simp (disch := omega) only [w64, wu64, wu32, wu8] <;> omega), by simp only [go_sem, Nat.reduceEqDiff, Bool.false_eq_true, Nat.reduceBEq, ↓reduceIte, and_self, Option.some.injEq, SV.v.injEq, SV.ptr.injEq, Value.int.injEq, Value.bool.injEq, Value.slice.injEq, true_and, and_true] <;> (repeat' apply And.intro) <;> rfl, rfl, PH.le.refl _⟩
        rw [getD_set (by simp; omega), getD_set (by omega), hpv i (by omega), hpv q (by omega), hpv j hj]
        by_cases hj1 : j = q
        · subst hj1
          rw [if_pos rfl, if_neg (by omega), if_pos (by omega)]
          congr 1; omega
        · rw [if_neg hj1]
          by_cases hj2 : j = i
          · subst hj2
            rw [if_pos rfl, if_neg (by omega), if_pos (by omega)]
            congr 1; omega
          · rw [if_neg hj2]
            by_cases hj3 : j < i ∨ k - 1 - j < i
            · rw [if_pos hj3, if_pos (by omega)]
            · rw [if_neg hj3, if_neg (by omega)]
      · simp only [go_sem, Nat.reduceEqDiff, Bool.false_eq_true, Nat.reduceBEq, ↓reduceIte]
        have hpr : p = o.reverse := by
          refine ext_getD (by simp [hp, hol]) fun j hj => ?_
          rw [hpv j (by omega), rev_getD (by omega)]
          by_cases hj3 : j < i ∨ k - 1 - j < i
          · rw [if_pos hj3, hol]
          · rw [if_neg hj3, hol]; congr 1; omega
        refine ev_b2sO hP hp.symm (by rw [hpr, ← htx]; exact txt_lt x) ?_
        simp only [go_sem, Nat.reduceEqDiff, Bool.false_eq_true, Nat.reduceBEq, ↓reduceIte]
        intro _
        rw [hpr, htx]

end Go.Proofs.YtlhhdlhnpgiamaaDoor.X
