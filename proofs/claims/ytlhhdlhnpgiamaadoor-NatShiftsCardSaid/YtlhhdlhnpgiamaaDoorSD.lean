/- The reference's naturals: decimal text. -/
import Derived.Test.YtlhhdlhnpgiamaaDoorSC
set_option linter.unusedVariables false
set_option linter.unusedSimpArgs false
namespace Go.Proofs.YtlhhdlhnpgiamaaDoor.X
open Go Go.RowKit Go.Proofs

/-- a slice of one's own that is a number of the reference -/
theorem Own.ref {T : TypeId} {H M : PH} {A : Option Addr} {l : List Nat} {c : Nat} (h : Own .u32 T M A l c) (hn : Norm l) (hd : PH.disj H M) : RefV (H.join M) (.slice A l.length c) (val l) :=
  ⟨A, l, c, rfl, h.le_cap, h.sl hd, hn, rfl⟩

set_option maxHeartbeats 1000000 in
theorem rparse_ok (H : PH) (t : ByteArray) : FnP Tryd.prog 20 [.string t] H fun v H' => ∃ v', v = .tuple #[v', .bool (decOk (bs t))] ∧ RefV H' v' (if decOk (bs t) then dv (bs t) else 0) := by
  have hsz := bs_length t
  have bad : decOk (bs t) = false → ∀ H' M' : PH, PH.disj H' M' → ∃ v', (Value.tuple #[.slice none 0 0, .bool false]) = .tuple #[v', .bool (decOk (bs t))] ∧ RefV (H'.join M') v' (if decOk (bs t) then dv (bs t) else 0) := by
    intro h H' M' hd
    rw [h]
    exact ⟨_, rfl, RefV.zero _⟩
  refine Fn.release (of_cinctureref1_NatParse (by simp) ?_)
  simp only [go_sem, Nat.reduceEqDiff, Bool.false_eq_true, Nat.reduceBEq, ↓reduceIte, p_cinctureref1_NatParse]
  refine ev_if (fun h => ?_) (fun h => ?_)
  · simp only [go_sem, Nat.reduceEqDiff, Bool.false_eq_true, Nat.reduceBEq, ↓reduceIte]
    exact fun hd => bad (by rw [show bs t = [] from List.eq_nil_of_length_eq_zero (by omega)]; rfl) _ _ hd
  · simp only [go_sem, Nat.reduceEqDiff, Bool.false_eq_true, Nat.reduceBEq, ↓reduceIte]
    refine ev_if (fun h2 => ?_) (fun h2 => ?_)
    · simp only [go_sem, Nat.reduceEqDiff, Bool.false_eq_true, Nat.reduceBEq, ↓reduceIte]
      exact fun hd => bad (by unfold decOk; rw [decide_eq_false (show ¬ (bs t).length ≤ 4000 by omega)]; simp) _ _ hd
    · simp only [go_sem, Nat.reduceEqDiff, Bool.false_eq_true, Nat.reduceBEq, ↓reduceIte]
      refine ev_ix (by omega) (by omega) ?_
      simp only [go_sem, Nat.reduceEqDiff, Bool.false_eq_true, Nat.reduceBEq, ↓reduceIte]
      rw [show (0 : Int).toNat = 0 from rfl]
      have hb0 := bs_getD t 0
      refine ev_if (fun h3 => ?_) (fun h3 => ?_)
      · simp only [go_sem, Nat.reduceEqDiff, Bool.false_eq_true, Nat.reduceBEq, ↓reduceIte]
        refine ev_if (fun h4 => ?_) (fun h4 => ?_)
        · simp only [go_sem, Nat.reduceEqDiff, Bool.false_eq_true, Nat.reduceBEq, ↓reduceIte]
          refine fun hd => bad ?_ _ _ hd
          have e1 : (bs t).getD 0 0 = 48 := by rw [← hb0]; omega
          unfold decOk
          rw [e1, decide_eq_false (show ¬ (bs t).length ≤ 1 by omega)]
          simp
        · have hz : ((bs t).getD 0 0 != 48 || decide ((bs t).length ≤ 1)) = true := by rw [decide_eq_true (show (bs t).length ≤ 1 by omega)]; simp
          simp only [go_sem, Nat.reduceEqDiff, Bool.false_eq_true, Nat.reduceBEq, ↓reduceIte]
          refine ev_loop (fun n s => ∃ i A l c H1 M1, i ≤ t.size ∧ n = t.size - i ∧ Own .u32 60 M1 A l c ∧ Norm l ∧ val l = dv ((bs t).take i) ∧ (∀ d ∈ (bs t).take i, isDig d = true) ∧ PH.disj H1 M1 ∧
            s = ⟨[(5, .v (.int .i64 (i : Nat))), (4, .v (.slice A l.length c)), (0, .v (.string t))], [], H1, M1⟩)
            t.size _ ⟨0, none, [], 0, H, PH.no, by omega, by omega, Own.nil _ _ _, .nil, rfl, by simp, PH.disj_no _, rfl⟩ ⟨rfl, by simp only [go_sem, Nat.reduceEqDiff, Bool.false_eq_true, Nat.reduceBEq, ↓reduceIte, and_self, Option.some.injEq, SV.v.injEq, SV.ptr.injEq, Value.int.injEq, Value.bool.injEq, Value.slice.injEq, true_and, and_true] <;> (repeat' apply And.intro) <;> first | rfl | omega | (simp (disch := omega) only [w64, wu64, wu32, wu8] <;> omega), by simp only [go_sem, Nat.reduceEqDiff, Bool.false_eq_true, Nat.reduceBEq, ↓reduceIte, and_self, Option.some.injEq, SV.v.injEq, SV.ptr.injEq, Value.int.injEq, Value.bool.injEq, Value.slice.injEq, true_and, and_true] <;> (repeat' apply And.intro) <;> rfl, rfl, PH.le.refl _⟩ ?_
          rintro n s ⟨i, A, l, c, H1, M1, hi, rfl, hO, hn, hv, hdig, hd, rfl⟩
          simp only [go_sem, Nat.reduceEqDiff, Bool.false_eq_true, Nat.reduceBEq, ↓reduceIte]
          refine ev_if (fun h2 => ?_) (fun h2 => ?_)
          · have hb := bs_getD t i
            have hlt : i < (bs t).length := by omega
            have hmem : (bs t).getD i 0 ∈ bs t := by rw [List.getD, List.getElem?_eq_getElem hlt]; exact List.getElem_mem hlt
            have hblt : bAt t i < 256 := by rw [hb]; exact bs_lt t _ hmem
            have nd : ¬ (48 ≤ bAt t i ∧ bAt t i ≤ 57) → decOk (bs t) = false := fun h => by
              have : (bs t).all isDig = false := by
                rw [List.all_eq_false]
                refine ⟨_, hmem, ?_⟩
                rw [← hb]
                unfold isDig
                simp only [Bool.and_eq_true, decide_eq_true_eq]
                exact h
              unfold decOk
              rw [this]; simp
            have htk := take_snoc_of (bs t) i hlt
            rw [← hb] at htk
            generalize hbb : bAt t i = b at *
            simp only [go_sem, Nat.reduceEqDiff, Bool.false_eq_true, Nat.reduceBEq, ↓reduceIte]
            refine ev_ix (by omega) (by omega) ?_
            simp only [go_sem, Nat.reduceEqDiff, Bool.false_eq_true, Nat.reduceBEq, ↓reduceIte]
            rw [toNat_cast, hbb]
            refine ev_if (fun h3 => ?_) (fun h3 => ?_)
            · simp only [go_sem, Nat.reduceEqDiff, Bool.false_eq_true, Nat.reduceBEq, ↓reduceIte]
              exact fun _ => bad (nd (by omega)) _ _ hd
            · simp only [go_sem, Nat.reduceEqDiff, Bool.false_eq_true, Nat.reduceBEq, ↓reduceIte]
              refine ev_ix (by omega) (by omega) ?_
              simp only [go_sem, Nat.reduceEqDiff, Bool.false_eq_true, Nat.reduceBEq, ↓reduceIte]
              rw [toNat_cast, hbb]
              refine ev_if (fun h4 => ?_) (fun h4 => ?_)
              · simp only [go_sem, Nat.reduceEqDiff, Bool.false_eq_true, Nat.reduceBEq, ↓reduceIte]
                exact fun _ => bad (nd (by omega)) _ _ hd
              · simp only [go_sem, Nat.reduceEqDiff, Bool.false_eq_true, Nat.reduceBEq, ↓reduceIte]
                refine ev_ix (by omega) (by omega) ?_
                simp only [go_sem, Nat.reduceEqDiff, Bool.false_eq_true, Nat.reduceBEq, ↓reduceIte]
                rw [toNat_cast, hbb]
                simp (disch := omega) only [nA64, nS64, nM64, nC64, nA64l, nS64l, nM64l, nM64r, nR64l, nL64l, nAu64, nMu64, nMu64r, nSu64, nAu64l, nLu64l, nCu64, nCu32, nCu8, nAu32, nLu32l, nSu8l, toNat_cast]
                have hll : l.length ≤ 1000000 := by
                  have h5 := len_le_bl hn
                  rw [hv] at h5
                  have h6 := bl_dv (l := (bs t).take i) fun d hd => by have := hdig d hd; simp [isDig] at this; omega
                  rw [List.length_take] at h6
                  omega
                refine ev_loop (fun n s => ∃ k o q M2, k ≤ l.length ∧ n = l.length - k ∧ o.length = l.length ∧ Lim o ∧ q < 4294967296 ∧ val (o.take k) + 4294967296 ^ k * q = val (l.take k) * 10 + (b - 48) ∧ (∀ j, k ≤ j → o.getD j 0 = l.getD j 0) ∧ Own .u32 60 M2 A o c ∧ PH.disj H1 M2 ∧
                  s = ⟨[(7, .v (.int .i64 (k : Nat))), (6, .v (.int .u64 (q : Nat))), (5, .v (.int .i64 (i : Nat))), (4, .v (.slice A l.length c)), (0, .v (.string t))], [], H1, M2⟩)
                  l.length _ ⟨0, l, b - 48, M1, by omega, by omega, rfl, hn.1, by omega, by simp [val], fun j _ => rfl, hO, hd, rfl⟩ ⟨rfl, by simp only [go_sem, Nat.reduceEqDiff, Bool.false_eq_true, Nat.reduceBEq, ↓reduceIte, and_self, Option.some.injEq, SV.v.injEq, SV.ptr.injEq, Value.int.injEq, Value.bool.injEq, Value.slice.injEq, true_and, and_true] <;> (repeat' apply And.intro) <;> first | rfl | omega | (simp (disch := omega) only [w64, wu64, wu32, wu8] <;> omega), by simp only [go_sem, Nat.reduceEqDiff, Bool.false_eq_true, Nat.reduceBEq, ↓reduceIte, and_self, Option.some.injEq, SV.v.injEq, SV.ptr.injEq, Value.int.injEq, Value.bool.injEq, Value.slice.injEq, true_and, and_true] <;> (repeat' apply And.intro) <;> rfl, rfl, PH.le.refl _⟩ ?_
                clear hO hd
                rintro n s ⟨k, o, q, M2, hk, rfl, ho, hlo, hq, hv2, he, hO, hd, rfl⟩
                simp only [go_sem, Nat.reduceEqDiff, Bool.false_eq_true, Nat.reduceBEq, ↓reduceIte]
                refine ev_if (fun h5 => ?_) (fun h5 => ?_)
                · obtain ⟨g, rfl⟩ := hO.base (by have := hO.le_cap; omega)
                  simp only [go_sem, Nat.reduceEqDiff, Bool.false_eq_true, Nat.reduceBEq, ↓reduceIte]
                  refine ev_iaN k rfl (by omega) rfl ?_
                  simp only [go_sem, Nat.reduceEqDiff, Bool.false_eq_true, Nat.reduceBEq, ↓reduceIte]
                  refine ev_ldO hO (by omega) ?_
                  have hx := hlo.getD k
                  simp only [go_sem, Nat.reduceEqDiff, Bool.false_eq_true, Nat.reduceBEq, ↓reduceIte]
                  simp (disch := omega) only [nA64, nS64, nM64, nC64, nA64l, nS64l, nM64l, nM64r, nR64l, nL64l, nAu64, nMu64, nMu64r, nSu64, nAu64l, nLu64l, nCu64, nCu32, nCu8, nAu32, nLu32l, nSu8l, toNat_cast]
                  generalize ht : q + o.getD k 0 * 10 = w
                  have hw : w < 4294967296 * 4294967296 := by omega
                  rw [and_lo (by omega), u32mod, Nat.mod_mod]
                  refine ev_iaN k rfl (by omega) rfl ?_
                  simp only [go_sem, Nat.reduceEqDiff, Bool.false_eq_true, Nat.reduceBEq, ↓reduceIte]
                  refine ev_stO hO (by omega) ?_
                  intro M' hO' hB' hd'
                  simp only [go_sem, Nat.reduceEqDiff, Bool.false_eq_true, Nat.reduceBEq, ↓reduceIte]
                  refine shr_nat (n := 32) rfl (by decide) ?_
                  simp only [go_sem, Nat.reduceEqDiff, Bool.false_eq_true, Nat.reduceBEq, ↓reduceIte]
                  simp (disch := omega) only [nA64, nS64, nM64, nC64, nA64l, nS64l, nM64l, nM64r, nR64l, nL64l, nAu64, nMu64, nMu64r, nSu64, nAu64l, nLu64l, nCu64, nCu32, nCu8, nAu32, nLu32l, nSu8l, toNat_cast]
                  refine k_next (l.length - (k + 1)) _ (by omega) ⟨k + 1, _, w / 4294967296, M', by omega, rfl, by simp; omega, hlo.set (by omega), by omega, ?_, fun j hj => ?_, hO', hd' _ hd, rfl⟩ ⟨rfl, by simp only [go_sem, Nat.reduceEqDiff, Bool.false_eq_true, Nat.reduceBEq, ↓reduceIte, and_self, Option.some.injEq, SV.v.injEq, SV.ptr.injEq, Value.int.injEq, Value.bool.injEq, Value.slice.injEq, true_and, and_true] <;> (repeat' apply And.intro) <;> first | rfl | omega | (simp (disch := omega) only [w64, wu64, wu32, wu8] <;> omega), by simp only [go_sem, Nat.reduceEqDiff, Bool.false_eq_true, Nat.reduceBEq, ↓reduceIte, and_self, Option.some.injEq, SV.v.injEq, SV.ptr.injEq, Value.int.injEq, Value.bool.injEq, Value.slice.injEq, true_and, and_true] <;> (repeat' apply And.intro) <;> rfl, rfl, PH.le.refl _⟩
                  · have el := val_take_succ l k (by omega)
                    rw [val_take_set o k _ (by omega), el, Nat.pow_succ, Nat.mul_assoc, Nat.add_assoc, ← Nat.mul_add, show w % 4294967296 + 4294967296 * (w / 4294967296) = w by omega, ← ht, he k (Nat.le_refl _), Nat.mul_add, Nat.add_mul, Nat.mul_assoc]
                    omega
                  · rw [getD_set (by omega), if_neg (by omega)]
                    exact he j (by omega)
                · have hkl : k = l.length := by omega
                  subst hkl
                  rw [List.take_length, List.take_of_length_le (by omega)] at hv2
                  have hdig' : ∀ d ∈ (bs t).take (i + 1), isDig d = true := by
                    rw [htk]
                    intro d hd
                    rcases List.mem_append.1 hd with hd | hd
                    · exact hdig d hd
                    · rw [List.mem_singleton.1 hd]
                      simp [isDig]; omega
                  have hdv : dv ((bs t).take (i + 1)) = val l * 10 + (b - 48) := by rw [htk, dv_snoc, hv]
                  rw [← hdv] at hv2
                  simp only [go_sem, Nat.reduceEqDiff, Bool.false_eq_true, Nat.reduceBEq, ↓reduceIte]
                  refine ev_if (fun h6 => ?_) (fun h6 => ?_)
                  · simp only [go_sem, Nat.reduceEqDiff, Bool.false_eq_true, Nat.reduceBEq, ↓reduceIte]
                    simp (disch := omega) only [nA64, nS64, nM64, nC64, nA64l, nS64l, nM64l, nM64r, nR64l, nL64l, nAu64, nMu64, nMu64r, nSu64, nAu64l, nLu64l, nCu64, nCu32, nCu8, nAu32, nLu32l, nSu8l, toNat_cast]
                    refine ev_bslO (k := .u32) (l := [q]) rfl rfl (by simp) hd ?_
                    intro g M3 hO3 hle3 hg3 hd3
                    simp only [go_sem, Nat.reduceEqDiff, Bool.false_eq_true, Nat.reduceBEq, ↓reduceIte]
                    refine ev_appO (hO.le hle3) (m := [q]) (hO3.sl hd3) (by omega) rfl (by simp) (by simp; omega) (by simp; omega) hd3 ?_
                    intro A' c' M' hO' hBut' _ hd'
                    simp only [go_sem, Nat.reduceEqDiff, Bool.false_eq_true, Nat.reduceBEq, ↓reduceIte]
                    simp (disch := omega) only [nA64, nS64, nM64, nC64, nA64l, nS64l, nM64l, nM64r, nR64l, nL64l, nAu64, nMu64, nMu64r, nSu64, nAu64l, nLu64l, nCu64, nCu32, nCu8, nAu32, nLu32l, nSu8l, toNat_cast]
                    refine k_next (t.size - (i + 1)) _ (by omega) ⟨i + 1, A', o ++ [q], c', H1, M', by omega, rfl, hO', norm_snoc hlo hq (by omega), ?_, hdig', hd', rfl⟩ ⟨rfl, ?_, by simp only [go_sem, Nat.reduceEqDiff, Bool.false_eq_true, Nat.reduceBEq, ↓reduceIte, and_self, Option.some.injEq, SV.v.injEq, SV.ptr.injEq, Value.int.injEq, Value.bool.injEq, Value.slice.injEq, true_and, and_true], rfl, PH.le.refl _⟩
                    · rw [val_append, ho]
                      simp only [val, Nat.mul_zero, Nat.add_zero]
                      exact hv2
                    · simp only [go_sem, Nat.reduceEqDiff, Bool.false_eq_true, Nat.reduceBEq, ↓reduceIte, and_self, Option.some.injEq, SV.v.injEq, SV.ptr.injEq, Value.int.injEq, Value.bool.injEq, Value.slice.injEq, true_and, and_true]
                      simp
                  · have h0 : q = 0 := by omega
                    rw [h0, Nat.mul_zero, Nat.add_zero] at hv2
                    simp only [go_sem, Nat.reduceEqDiff, Bool.false_eq_true, Nat.reduceBEq, ↓reduceIte]
                    simp (disch := omega) only [nA64, nS64, nM64, nC64, nA64l, nS64l, nM64l, nM64r, nR64l, nL64l, nAu64, nMu64, nMu64r, nSu64, nAu64l, nLu64l, nCu64, nCu32, nCu8, nAu32, nLu32l, nSu8l, toNat_cast]
                    refine k_next (t.size - (i + 1)) _ (by omega) ⟨i + 1, A, o, c, H1, M2, by omega, rfl, hO, norm_of_val hlo fun hne => ?_, hv2, hdig', hd, rfl⟩ ⟨rfl, ?_, by simp only [go_sem, Nat.reduceEqDiff, Bool.false_eq_true, Nat.reduceBEq, ↓reduceIte, and_self, Option.some.injEq, SV.v.injEq, SV.ptr.injEq, Value.int.injEq, Value.bool.injEq, Value.slice.injEq, true_and, and_true], rfl, PH.le.refl _⟩
                    · have h3 := val_pos hn (fun e => hne (List.eq_nil_of_length_eq_zero (by rw [ho, e]; rfl)))
                      rw [ho]; omega
                    · simp only [go_sem, Nat.reduceEqDiff, Bool.false_eq_true, Nat.reduceBEq, ↓reduceIte, and_self, Option.some.injEq, SV.v.injEq, SV.ptr.injEq, Value.int.injEq, Value.bool.injEq, Value.slice.injEq, true_and, and_true]
                      rw [ho]
          · have hil : i = t.size := by omega
            subst hil
            rw [List.take_of_length_le (by omega)] at hv hdig
            have hok : decOk (bs t) = true := by
              unfold decOk
              rw [hz, decide_eq_true (show (bs t).length ≤ 4000 by omega), List.all_eq_true.2 hdig]
              cases hq : bs t with
              | nil => rw [hq] at hsz; simp only [List.length_nil] at hsz; omega
              | cons _ _ => rfl
            simp only [go_sem, Nat.reduceEqDiff, Bool.false_eq_true, Nat.reduceBEq, ↓reduceIte]
            rw [hok]
            intro _
            refine ⟨_, rfl, ?_⟩
            have := hO.ref hn hd
            rw [hv] at this
            exact this
      · have hz : ((bs t).getD 0 0 != 48 || decide ((bs t).length ≤ 1)) = true := by
          have : (bs t).getD 0 0 ≠ 48 := by rw [← hb0]; omega
          rw [bne_iff_ne.2 this, Bool.true_or]
        simp only [go_sem, Nat.reduceEqDiff, Bool.false_eq_true, Nat.reduceBEq, ↓reduceIte]
        refine ev_loop (fun n s => ∃ i A l c H1 M1, i ≤ t.size ∧ n = t.size - i ∧ Own .u32 60 M1 A l c ∧ Norm l ∧ val l = dv ((bs t).take i) ∧ (∀ d ∈ (bs t).take i, isDig d = true) ∧ PH.disj H1 M1 ∧
          s = ⟨[(5, .v (.int .i64 (i : Nat))), (4, .v (.slice A l.length c)), (0, .v (.string t))], [], H1, M1⟩)
          t.size _ ⟨0, none, [], 0, H, PH.no, by omega, by omega, Own.nil _ _ _, .nil, rfl, by simp, PH.disj_no _, rfl⟩ ⟨rfl, by simp only [go_sem, Nat.reduceEqDiff, Bool.false_eq_true, Nat.reduceBEq, ↓reduceIte, and_self, Option.some.injEq, SV.v.injEq, SV.ptr.injEq, Value.int.injEq, Value.bool.injEq, Value.slice.injEq, true_and, and_true] <;> (repeat' apply And.intro) <;> first | rfl | omega | (simp (disch := omega) only [w64, wu64, wu32, wu8] <;> omega), by simp only [go_sem, Nat.reduceEqDiff, Bool.false_eq_true, Nat.reduceBEq, ↓reduceIte, and_self, Option.some.injEq, SV.v.injEq, SV.ptr.injEq, Value.int.injEq, Value.bool.injEq, Value.slice.injEq, true_and, and_true] <;> (repeat' apply And.intro) <;> rfl, rfl, PH.le.refl _⟩ ?_
        rintro n s ⟨i, A, l, c, H1, M1, hi, rfl, hO, hn, hv, hdig, hd, rfl⟩
        simp only [go_sem, Nat.reduceEqDiff, Bool.false_eq_true, Nat.reduceBEq, ↓reduceIte]
        refine ev_if (fun h2 => ?_) (fun h2 => ?_)
        · have hb := bs_getD t i
          have hlt : i < (bs t).length := by omega
          have hmem : (bs t).getD i 0 ∈ bs t := by rw [List.getD, List.getElem?_eq_getElem hlt]; exact List.getElem_mem hlt
          have hblt : bAt t i < 256 := by rw [hb]; exact bs_lt t _ hmem
          have nd : ¬ (48 ≤ bAt t i ∧ bAt t i ≤ 57) → decOk (bs t) = false := fun h => by
            have : (bs t).all isDig = false := by
              rw [List.all_eq_false]
              refine ⟨_, hmem, ?_⟩
              rw [← hb]
              unfold isDig
              simp only [Bool.and_eq_true, decide_eq_true_eq]
              exact h
            unfold decOk
            rw [this]; simp
          have htk := take_snoc_of (bs t) i hlt
          rw [← hb] at htk
          generalize hbb : bAt t i = b at *
          simp only [go_sem, Nat.reduceEqDiff, Bool.false_eq_true, Nat.reduceBEq, ↓reduceIte]
          refine ev_ix (by omega) (by omega) ?_
          simp only [go_sem, Nat.reduceEqDiff, Bool.false_eq_true, Nat.reduceBEq, ↓reduceIte]
          rw [toNat_cast, hbb]
          refine ev_if (fun h3 => ?_) (fun h3 => ?_)
          · simp only [go_sem, Nat.reduceEqDiff, Bool.false_eq_true, Nat.reduceBEq, ↓reduceIte]
            exact fun _ => bad (nd (by omega)) _ _ hd
          · simp only [go_sem, Nat.reduceEqDiff, Bool.false_eq_true, Nat.reduceBEq, ↓reduceIte]
            refine ev_ix (by omega) (by omega) ?_
            simp only [go_sem, Nat.reduceEqDiff, Bool.false_eq_true, Nat.reduceBEq, ↓reduceIte]
            rw [toNat_cast, hbb]
            refine ev_if (fun h4 => ?_) (fun h4 => ?_)
            · simp only [go_sem, Nat.reduceEqDiff, Bool.false_eq_true, Nat.reduceBEq, ↓reduceIte]
              exact fun _ => bad (nd (by omega)) _ _ hd
            · simp only [go_sem, Nat.reduceEqDiff, Bool.false_eq_true, Nat.reduceBEq, ↓reduceIte]
              refine ev_ix (by omega) (by omega) ?_
              simp only [go_sem, Nat.reduceEqDiff, Bool.false_eq_true, Nat.reduceBEq, ↓reduceIte]
              rw [toNat_cast, hbb]
              simp (disch := omega) only [nA64, nS64, nM64, nC64, nA64l, nS64l, nM64l, nM64r, nR64l, nL64l, nAu64, nMu64, nMu64r, nSu64, nAu64l, nLu64l, nCu64, nCu32, nCu8, nAu32, nLu32l, nSu8l, toNat_cast]
              have hll : l.length ≤ 1000000 := by
                have h5 := len_le_bl hn
                rw [hv] at h5
                have h6 := bl_dv (l := (bs t).take i) fun d hd => by have := hdig d hd; simp [isDig] at this; omega
                rw [List.length_take] at h6
                omega
              refine ev_loop (fun n s => ∃ k o q M2, k ≤ l.length ∧ n = l.length - k ∧ o.length = l.length ∧ Lim o ∧ q < 4294967296 ∧ val (o.take k) + 4294967296 ^ k * q = val (l.take k) * 10 + (b - 48) ∧ (∀ j, k ≤ j → o.getD j 0 = l.getD j 0) ∧ Own .u32 60 M2 A o c ∧ PH.disj H1 M2 ∧
                s = ⟨[(7, .v (.int .i64 (k : Nat))), (6, .v (.int .u64 (q : Nat))), (5, .v (.int .i64 (i : Nat))), (4, .v (.slice A l.length c)), (0, .v (.string t))], [], H1, M2⟩)
                l.length _ ⟨0, l, b - 48, M1, by omega, by omega, rfl, hn.1, by omega, by simp [val], fun j _ => rfl, hO, hd, rfl⟩ ⟨rfl, by simp only [go_sem, Nat.reduceEqDiff, Bool.false_eq_true, Nat.reduceBEq, ↓reduceIte, and_self, Option.some.injEq, SV.v.injEq, SV.ptr.injEq, Value.int.injEq, Value.bool.injEq, Value.slice.injEq, true_and, and_true] <;> (repeat' apply And.intro) <;> first | rfl | omega | (simp (disch := omega) only [w64, wu64, wu32, wu8] <;> omega), by simp only [go_sem, Nat.reduceEqDiff, Bool.false_eq_true, Nat.reduceBEq, ↓reduceIte, and_self, Option.some.injEq, SV.v.injEq, SV.ptr.injEq, Value.int.injEq, Value.bool.injEq, Value.slice.injEq, true_and, and_true] <;> (repeat' apply And.intro) <;> rfl, rfl, PH.le.refl _⟩ ?_
              clear hO hd
              rintro n s ⟨k, o, q, M2, hk, rfl, ho, hlo, hq, hv2, he, hO, hd, rfl⟩
              simp only [go_sem, Nat.reduceEqDiff, Bool.false_eq_true, Nat.reduceBEq, ↓reduceIte]
              refine ev_if (fun h5 => ?_) (fun h5 => ?_)
              · obtain ⟨g, rfl⟩ := hO.base (by have := hO.le_cap; omega)
                simp only [go_sem, Nat.reduceEqDiff, Bool.false_eq_true, Nat.reduceBEq, ↓reduceIte]
                refine ev_iaN k rfl (by omega) rfl ?_
                simp only [go_sem, Nat.reduceEqDiff, Bool.false_eq_true, Nat.reduceBEq, ↓reduceIte]
                refine ev_ldO hO (by omega) ?_
                have hx := hlo.getD k
                simp only [go_sem, Nat.reduceEqDiff, Bool.false_eq_true, Nat.reduceBEq, ↓reduceIte]
                simp (disch := omega) only [nA64, nS64, nM64, nC64, nA64l, nS64l, nM64l, nM64r, nR64l, nL64l, nAu64, nMu64, nMu64r, nSu64, nAu64l, nLu64l, nCu64, nCu32, nCu8, nAu32, nLu32l, nSu8l, toNat_cast]
                generalize ht : q + o.getD k 0 * 10 = w
                have hw : w < 4294967296 * 4294967296 := by omega
                rw [and_lo (by omega), u32mod, Nat.mod_mod]
                refine ev_iaN k rfl (by omega) rfl ?_
                simp only [go_sem, Nat.reduceEqDiff, Bool.false_eq_true, Nat.reduceBEq, ↓reduceIte]
                refine ev_stO hO (by omega) ?_
                intro M' hO' hB' hd'
                simp only [go_sem, Nat.reduceEqDiff, Bool.false_eq_true, Nat.reduceBEq, ↓reduceIte]
                refine shr_nat (n := 32) rfl (by decide) ?_
                simp only [go_sem, Nat.reduceEqDiff, Bool.false_eq_true, Nat.reduceBEq, ↓reduceIte]
                simp (disch := omega) only [nA64, nS64, nM64, nC64, nA64l, nS64l, nM64l, nM64r, nR64l, nL64l, nAu64, nMu64, nMu64r, nSu64, nAu64l, nLu64l, nCu64, nCu32, nCu8, nAu32, nLu32l, nSu8l, toNat_cast]
                refine k_next (l.length - (k + 1)) _ (by omega) ⟨k + 1, _, w / 4294967296, M', by omega, rfl, by simp; omega, hlo.set (by omega), by omega, ?_, fun j hj => ?_, hO', hd' _ hd, rfl⟩ ⟨rfl, by simp only [go_sem, Nat.reduceEqDiff, Bool.false_eq_true, Nat.reduceBEq, ↓reduceIte, and_self, Option.some.injEq, SV.v.injEq, SV.ptr.injEq, Value.int.injEq, Value.bool.injEq, Value.slice.injEq, true_and, and_true] <;> (repeat' apply And.intro) <;> first | rfl | omega | (simp (disch := omega) only [w64, wu64, wu32, wu8] <;> omega), by simp only [go_sem, Nat.reduceEqDiff, Bool.false_eq_true, Nat.reduceBEq, ↓reduceIte, and_self, Option.some.injEq, SV.v.injEq, SV.ptr.injEq, Value.int.injEq, Value.bool.injEq, Value.slice.injEq, true_and, and_true] <;> (repeat' apply And.intro) <;> rfl, rfl, PH.le.refl _⟩
                · have el := val_take_succ l k (by omega)
                  rw [val_take_set o k _ (by omega), el, Nat.pow_succ, Nat.mul_assoc, Nat.add_assoc, ← Nat.mul_add, show w % 4294967296 + 4294967296 * (w / 4294967296) = w by omega, ← ht, he k (Nat.le_refl _), Nat.mul_add, Nat.add_mul, Nat.mul_assoc]
                  omega
                · rw [getD_set (by omega), if_neg (by omega)]
                  exact he j (by omega)
              · have hkl : k = l.length := by omega
                subst hkl
                rw [List.take_length, List.take_of_length_le (by omega)] at hv2
                have hdig' : ∀ d ∈ (bs t).take (i + 1), isDig d = true := by
                  rw [htk]
                  intro d hd
                  rcases List.mem_append.1 hd with hd | hd
                  · exact hdig d hd
                  · rw [List.mem_singleton.1 hd]
                    simp [isDig]; omega
                have hdv : dv ((bs t).take (i + 1)) = val l * 10 + (b - 48) := by rw [htk, dv_snoc, hv]
                rw [← hdv] at hv2
                simp only [go_sem, Nat.reduceEqDiff, Bool.false_eq_true, Nat.reduceBEq, ↓reduceIte]
                refine ev_if (fun h6 => ?_) (fun h6 => ?_)
                · simp only [go_sem, Nat.reduceEqDiff, Bool.false_eq_true, Nat.reduceBEq, ↓reduceIte]
                  simp (disch := omega) only [nA64, nS64, nM64, nC64, nA64l, nS64l, nM64l, nM64r, nR64l, nL64l, nAu64, nMu64, nMu64r, nSu64, nAu64l, nLu64l, nCu64, nCu32, nCu8, nAu32, nLu32l, nSu8l, toNat_cast]
                  refine ev_bslO (k := .u32) (l := [q]) rfl rfl (by simp) hd ?_
                  intro g M3 hO3 hle3 hg3 hd3
                  simp only [go_sem, Nat.reduceEqDiff, Bool.false_eq_true, Nat.reduceBEq, ↓reduceIte]
                  refine ev_appO (hO.le hle3) (m := [q]) (hO3.sl hd3) (by omega) rfl (by simp) (by simp; omega) (by simp; omega) hd3 ?_
                  intro A' c' M' hO' hBut' _ hd'
                  simp only [go_sem, Nat.reduceEqDiff, Bool.false_eq_true, Nat.reduceBEq, ↓reduceIte]
                  simp (disch := omega) only [nA64, nS64, nM64, nC64, nA64l, nS64l, nM64l, nM64r, nR64l, nL64l, nAu64, nMu64, nMu64r, nSu64, nAu64l, nLu64l, nCu64, nCu32, nCu8, nAu32, nLu32l, nSu8l, toNat_cast]
                  refine k_next (t.size - (i + 1)) _ (by omega) ⟨i + 1, A', o ++ [q], c', H1, M', by omega, rfl, hO', norm_snoc hlo hq (by omega), ?_, hdig', hd', rfl⟩ ⟨rfl, ?_, by simp only [go_sem, Nat.reduceEqDiff, Bool.false_eq_true, Nat.reduceBEq, ↓reduceIte, and_self, Option.some.injEq, SV.v.injEq, SV.ptr.injEq, Value.int.injEq, Value.bool.injEq, Value.slice.injEq, true_and, and_true], rfl, PH.le.refl _⟩
                  · rw [val_append, ho]
                    simp only [val, Nat.mul_zero, Nat.add_zero]
                    exact hv2
                  · simp only [go_sem, Nat.reduceEqDiff, Bool.false_eq_true, Nat.reduceBEq, ↓reduceIte, and_self, Option.some.injEq, SV.v.injEq, SV.ptr.injEq, Value.int.injEq, Value.bool.injEq, Value.slice.injEq, true_and, and_true]
                    simp
                · have h0 : q = 0 := by omega
                  rw [h0, Nat.mul_zero, Nat.add_zero] at hv2
                  simp only [go_sem, Nat.reduceEqDiff, Bool.false_eq_true, Nat.reduceBEq, ↓reduceIte]
                  simp (disch := omega) only [nA64, nS64, nM64, nC64, nA64l, nS64l, nM64l, nM64r, nR64l, nL64l, nAu64, nMu64, nMu64r, nSu64, nAu64l, nLu64l, nCu64, nCu32, nCu8, nAu32, nLu32l, nSu8l, toNat_cast]
                  refine k_next (t.size - (i + 1)) _ (by omega) ⟨i + 1, A, o, c, H1, M2, by omega, rfl, hO, norm_of_val hlo fun hne => ?_, hv2, hdig', hd, rfl⟩ ⟨rfl, ?_, by simp only [go_sem, Nat.reduceEqDiff, Bool.false_eq_true, Nat.reduceBEq, ↓reduceIte, and_self, Option.some.injEq, SV.v.injEq, SV.ptr.injEq, Value.int.injEq, Value.bool.injEq, Value.slice.injEq, true_and, and_true], rfl, PH.le.refl _⟩
                  · have h3 := val_pos hn (fun e => hne (List.eq_nil_of_length_eq_zero (by rw [ho, e]; rfl)))
                    rw [ho]; omega
                  · simp only [go_sem, Nat.reduceEqDiff, Bool.false_eq_true, Nat.reduceBEq, ↓reduceIte, and_self, Option.some.injEq, SV.v.injEq, SV.ptr.injEq, Value.int.injEq, Value.bool.injEq, Value.slice.injEq, true_and, and_true]
                    rw [ho]
        · have hil : i = t.size := by omega
          subst hil
          rw [List.take_of_length_le (by omega)] at hv hdig
          have hok : decOk (bs t) = true := by
            unfold decOk
            rw [hz, decide_eq_true (show (bs t).length ≤ 4000 by omega), List.all_eq_true.2 hdig]
            cases hq : bs t with
            | nil => rw [hq] at hsz; simp only [List.length_nil] at hsz; omega
            | cons _ _ => rfl
          simp only [go_sem, Nat.reduceEqDiff, Bool.false_eq_true, Nat.reduceBEq, ↓reduceIte]
          rw [hok]
          intro _
          refine ⟨_, rfl, ?_⟩
          have := hO.ref hn hd
          rw [hv] at this
          exact this

end Go.Proofs.YtlhhdlhnpgiamaaDoor.X
