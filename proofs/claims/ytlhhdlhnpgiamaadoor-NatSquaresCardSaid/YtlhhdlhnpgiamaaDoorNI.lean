/- Package nat: Parse and Read. -/
import Derived.Test.YtlhhdlhnpgiamaaDoorNH
import Derived.Test.YtlhhdlhnpgiamaaDoorMD
set_option linter.unusedVariables false
set_option linter.unusedSimpArgs false
namespace Go.Proofs.YtlhhdlhnpgiamaaDoor.X
open Go Go.RowKit Go.Proofs

theorem NatO.zero (M : PH) : NatO M (.agg #[.slice none 0 0]) 0 := ⟨none, [], 0, rfl, Own.nil _ _ _, .nil, rfl⟩

theorem take_snoc_of (l : List Nat) (i : Nat) (h : i < l.length) : l.take (i + 1) = l.take i ++ [l.getD i 0] := take_succ' l i h

theorem parse_own (H : PH) (t : ByteArray) : Fn Tryd.prog 19 [.string t] H PH.no fun v H' M' => PH.disj H' M' ∧ ∃ v', v = .tuple #[v', .int .i64 (if decOk (bs t) then 0 else 2)] ∧ NatO M' v' (if decOk (bs t) then dv (bs t) else 0) := by
  have hsz := bs_length t
  have bad : decOk (bs t) = false → ∀ H' M' : PH, PH.disj H' M' → PH.disj H' M' ∧ ∃ v', (Value.tuple #[.agg #[.slice none 0 0], .int .i64 2]) = .tuple #[v', .int .i64 (if decOk (bs t) then 0 else 2)] ∧ NatO M' v' (if decOk (bs t) then dv (bs t) else 0) := by
    intro h H' M' hd
    rw [h]
    exact ⟨hd, _, rfl, NatO.zero _⟩
  refine of_nat_Parse (by simp) ?_
  simp only [go_sem, Nat.reduceEqDiff, Bool.false_eq_true, Nat.reduceBEq, ↓reduceIte, p_nat_Parse]
  refine ev_if (fun h => ?_) (fun h => ?_)
  · simp only [go_sem, Nat.reduceEqDiff, Bool.false_eq_true, Nat.reduceBEq, ↓reduceIte]
    exact bad (by rw [h]; rfl) _ _ (PH.disj_no _)
  · simp only [go_sem, Nat.reduceEqDiff, Bool.false_eq_true, Nat.reduceBEq, ↓reduceIte]
    have hne : t.size ≠ 0 := fun h0 => h (by apply bs_inj; rw [List.eq_nil_of_length_eq_zero (by omega : (bs t).length = 0)]; rfl)
    refine ev_if (fun h2 => ?_) (fun h2 => ?_)
    · simp only [go_sem, Nat.reduceEqDiff, Bool.false_eq_true, Nat.reduceBEq, ↓reduceIte]
      exact bad (by unfold decOk; rw [decide_eq_false (show ¬ (bs t).length ≤ 4000 by omega)]; simp) _ _ (PH.disj_no _)
    · simp only [go_sem, Nat.reduceEqDiff, Bool.false_eq_true, Nat.reduceBEq, ↓reduceIte]
      refine ev_ix (by omega) (by omega) ?_
      simp only [go_sem, Nat.reduceEqDiff, Bool.false_eq_true, Nat.reduceBEq, ↓reduceIte]
      have hb0 := bs_getD t 0
      refine ev_if (fun h3 => ?_) (fun h3 => ?_)
      · simp only [go_sem, Nat.reduceEqDiff, Bool.false_eq_true, Nat.reduceBEq, ↓reduceIte]
        refine ev_if (fun h4 => ?_) (fun h4 => ?_)
        · simp only [go_sem, Nat.reduceEqDiff, Bool.false_eq_true, Nat.reduceBEq, ↓reduceIte]
          refine bad ?_ _ _ (PH.disj_no _)
          have e1 : (bs t).getD 0 0 = 48 := by rw [← hb0]; rw [show (0 : Int).toNat = 0 from rfl] at h3; omega
          unfold decOk
          rw [e1, decide_eq_false (show ¬ (bs t).length ≤ 1 by omega)]
          simp
        · have hz : ((bs t).getD 0 0 != 48 || decide ((bs t).length ≤ 1)) = true := by rw [decide_eq_true (show (bs t).length ≤ 1 by omega)]; simp
          simp only [go_sem, Nat.reduceEqDiff, Bool.false_eq_true, Nat.reduceBEq, ↓reduceIte]
          refine ev_loop (fun n s => ∃ i A l c H1 M1, i ≤ t.size ∧ n = t.size - i ∧ Own .u32 60 M1 A l c ∧ Norm l ∧ val l = dv ((bs t).take i) ∧ (∀ d ∈ (bs t).take i, isDig d = true) ∧ PH.disj H1 M1 ∧
            s = ⟨[(26, .v (.int .i64 (i : Nat))), (25, .v (.int .i64 (t.size : Nat))), (4, .v (.slice A l.length c)), (2, .ptr 2 0), (0, .v (.string t))], [(2, [.slice none 0 0])], H1, M1⟩)
            t.size _ ⟨0, none, [], 0, H, PH.no, by omega, by omega, Own.nil _ _ _, .nil, rfl, by simp, PH.disj_no _, rfl⟩ ⟨rfl, by simp only [go_sem, Nat.reduceEqDiff, Bool.false_eq_true, Nat.reduceBEq, ↓reduceIte, and_self, Option.some.injEq, SV.v.injEq, SV.ptr.injEq, Value.int.injEq, Value.bool.injEq, Value.slice.injEq, true_and, and_true] <;> (repeat' apply And.intro) <;> first | rfl | omega | (simp (disch := omega) only [w64, wu64, wu32, wu8] <;> omega), by simp only [go_sem, Nat.reduceEqDiff, Bool.false_eq_true, Nat.reduceBEq, ↓reduceIte, and_self, Option.some.injEq, SV.v.injEq, SV.ptr.injEq, Value.int.injEq, Value.bool.injEq, Value.slice.injEq, true_and, and_true] <;> (repeat' apply And.intro) <;> rfl, rfl, PH.le.refl _⟩ ?_
          rintro n s ⟨i, A, l, c, H1, M1, hi, rfl, hO, hn, hv, hdig, hd, rfl⟩
          simp only [go_sem, Nat.reduceEqDiff, Bool.false_eq_true, Nat.reduceBEq, ↓reduceIte]
          refine ev_if (fun h2 => ?_) (fun h2 => ?_)
          · have hb := bs_getD t i
            have hlt : i < (bs t).length := by omega
            have hmem : (bs t).getD i 0 ∈ bs t := by rw [List.getD, List.getElem?_eq_getElem hlt]; exact List.getElem_mem hlt
            have hblt : bAt t i < 256 := by rw [hb]; exact bs_lt t _ hmem
            have nd : ¬ (48 ≤ bAt t i ∧ bAt t i ≤ 57) → decOk (bs t) = false := fun h => by
              have : (bs t).all isDig = false := by
                rw [List.all_eq_false]
                refine ⟨_, hmem, ?_⟩
                rw [← hb]
                unfold isDig
                simp only [Bool.and_eq_true, decide_eq_true_eq]
                exact h
              unfold decOk
              rw [this]; simp
            have htk := take_snoc_of (bs t) i hlt
            rw [← hb] at htk
            generalize hbb : bAt t i = b at *
            simp only [go_sem, Nat.reduceEqDiff, Bool.false_eq_true, Nat.reduceBEq, ↓reduceIte]
            refine ev_ix (by omega) (by omega) ?_
            simp only [go_sem, Nat.reduceEqDiff, Bool.false_eq_true, Nat.reduceBEq, ↓reduceIte]
            rw [toNat_cast, hbb]
            refine ev_if (fun h3 => ?_) (fun h3 => ?_)
            · simp only [go_sem, Nat.reduceEqDiff, Bool.false_eq_true, Nat.reduceBEq, ↓reduceIte]
              exact bad (nd (by omega)) _ _ hd
            · simp only [go_sem, Nat.reduceEqDiff, Bool.false_eq_true, Nat.reduceBEq, ↓reduceIte]
              refine ev_ix (by omega) (by omega) ?_
              simp only [go_sem, Nat.reduceEqDiff, Bool.false_eq_true, Nat.reduceBEq, ↓reduceIte]
              rw [toNat_cast, hbb]
              refine ev_if (fun h4 => ?_) (fun h4 => ?_)
              · simp only [go_sem, Nat.reduceEqDiff, Bool.false_eq_true, Nat.reduceBEq, ↓reduceIte]
                exact bad (nd (by omega)) _ _ hd
              · simp only [go_sem, Nat.reduceEqDiff, Bool.false_eq_true, Nat.reduceBEq, ↓reduceIte]
                refine ev_ix (by omega) (by omega) ?_
                simp only [go_sem, Nat.reduceEqDiff, Bool.false_eq_true, Nat.reduceBEq, ↓reduceIte]
                rw [toNat_cast, hbb]
                simp (disch := omega) only [nA64, nS64, nM64, nC64, nA64l, nS64l, nM64l, nM64r, nR64l, nL64l, nAu64, nMu64, nMu64r, nSu64, nAu64l, nLu64l, nCu64, nCu32, nCu8, nAu32, nLu32l, nSu8l, toNat_cast]
                have hll : l.length ≤ 1000000 := by
                  have h5 := len_le_bl hn
                  rw [hv] at h5
                  have h6 := bl_dv (l := (bs t).take i) fun d hd => by have := hdig d hd; simp [isDig] at this; omega
                  rw [List.length_take] at h6
                  omega
                refine ev_callM (grow_ok H1 M1 A l c 10 (b - 48) hO hn (by omega) (by decide) (by decide) (by omega) hd) ?_
                rintro v H2 M2 hle ⟨hd2, A', l', c', rfl, hO2, hn2, hv2, _⟩ _
                simp only [go_sem, Nat.reduceEqDiff, Bool.false_eq_true, Nat.reduceBEq, ↓reduceIte]
                refine k_next (t.size - (i + 1)) _ (by omega) ⟨i + 1, A', l', c', H2, M2, by omega, rfl, hO2, hn2, ?_, ?_, hd2, rfl⟩ ⟨rfl, by simp only [go_sem, Nat.reduceEqDiff, Bool.false_eq_true, Nat.reduceBEq, ↓reduceIte, and_self, Option.some.injEq, SV.v.injEq, SV.ptr.injEq, Value.int.injEq, Value.bool.injEq, Value.slice.injEq, true_and, and_true] <;> (repeat' apply And.intro) <;> first | rfl | omega | (simp (disch := omega) only [w64, wu64, wu32, wu8] <;> omega), by simp only [go_sem, Nat.reduceEqDiff, Bool.false_eq_true, Nat.reduceBEq, ↓reduceIte, and_self, Option.some.injEq, SV.v.injEq, SV.ptr.injEq, Value.int.injEq, Value.bool.injEq, Value.slice.injEq, true_and, and_true] <;> (repeat' apply And.intro) <;> rfl, rfl, PH.le.refl _⟩
                · rw [hv2, hv, htk, dv_snoc]
                · rw [htk]
                  intro d hd
                  rcases List.mem_append.1 hd with hd | hd
                  · exact hdig d hd
                  · rw [List.mem_singleton.1 hd]
                    simp [isDig]; omega
          · have hil : i = t.size := by omega
            subst hil
            rw [List.take_of_length_le (by omega)] at hv hdig
            have hok : decOk (bs t) = true := by
              unfold decOk
              rw [hz, decide_eq_true (show (bs t).length ≤ 4000 by omega), List.all_eq_true.2 hdig]
              cases hq : bs t with
              | nil => rw [hq] at hsz; simp only [List.length_nil] at hsz; omega
              | cons _ _ => rfl
            simp only [go_sem, Nat.reduceEqDiff, Bool.false_eq_true, Nat.reduceBEq, ↓reduceIte]
            rw [hok]
            exact ⟨hd, _, rfl, A, l, c, rfl, hO, hn, hv⟩
      · have hz : ((bs t).getD 0 0 != 48 || decide ((bs t).length ≤ 1)) = true := by
          have : (bs t).getD 0 0 ≠ 48 := by
            rw [← hb0]
            intro e
            apply h3
            rw [show (0 : Int).toNat = 0 from rfl, e]; rfl
          rw [bne_iff_ne.2 this, Bool.true_or]
        simp only [go_sem, Nat.reduceEqDiff, Bool.false_eq_true, Nat.reduceBEq, ↓reduceIte]
        refine ev_loop (fun n s => ∃ i A l c H1 M1, i ≤ t.size ∧ n = t.size - i ∧ Own .u32 60 M1 A l c ∧ Norm l ∧ val l = dv ((bs t).take i) ∧ (∀ d ∈ (bs t).take i, isDig d = true) ∧ PH.disj H1 M1 ∧
          s = ⟨[(26, .v (.int .i64 (i : Nat))), (25, .v (.int .i64 (t.size : Nat))), (4, .v (.slice A l.length c)), (2, .ptr 2 0), (0, .v (.string t))], [(2, [.slice none 0 0])], H1, M1⟩)
          t.size _ ⟨0, none, [], 0, H, PH.no, by omega, by omega, Own.nil _ _ _, .nil, rfl, by simp, PH.disj_no _, rfl⟩ ⟨rfl, by simp only [go_sem, Nat.reduceEqDiff, Bool.false_eq_true, Nat.reduceBEq, ↓reduceIte, and_self, Option.some.injEq, SV.v.injEq, SV.ptr.injEq, Value.int.injEq, Value.bool.injEq, Value.slice.injEq, true_and, and_true] <;> (repeat' apply And.intro) <;> first | rfl | omega | (simp (disch := omega) only [w64, wu64, wu32, wu8] <;> omega), by simp only [go_sem, Nat.reduceEqDiff, Bool.false_eq_true, Nat.reduceBEq, ↓reduceIte, and_self, Option.some.injEq, SV.v.injEq, SV.ptr.injEq, Value.int.injEq, Value.bool.injEq, Value.slice.injEq, true_and, and_true] <;> (repeat' apply And.intro) <;> rfl, rfl, PH.le.refl _⟩ ?_
        rintro n s ⟨i, A, l, c, H1, M1, hi, rfl, hO, hn, hv, hdig, hd, rfl⟩
        simp only [go_sem, Nat.reduceEqDiff, Bool.false_eq_true, Nat.reduceBEq, ↓reduceIte]
        refine ev_if (fun h2 => ?_) (fun h2 => ?_)
        · have hb := bs_getD t i
          have hlt : i < (bs t).length := by omega
          have hmem : (bs t).getD i 0 ∈ bs t := by rw [List.getD, List.getElem?_eq_getElem hlt]; exact List.getElem_mem hlt
          have hblt : bAt t i < 256 := by rw [hb]; exact bs_lt t _ hmem
          have nd : ¬ (48 ≤ bAt t i ∧ bAt t i ≤ 57) → decOk (bs t) = false := fun h => by
            have : (bs t).all isDig = false := by
              rw [List.all_eq_false]
              refine ⟨_, hmem, ?_⟩
              rw [← hb]
              unfold isDig
              simp only [Bool.and_eq_true, decide_eq_true_eq]
              exact h
            unfold decOk
            rw [this]; simp
          have htk := take_snoc_of (bs t) i hlt
          rw [← hb] at htk
          generalize hbb : bAt t i = b at *
          simp only [go_sem, Nat.reduceEqDiff, Bool.false_eq_true, Nat.reduceBEq, ↓reduceIte]
          refine ev_ix (by omega) (by omega) ?_
          simp only [go_sem, Nat.reduceEqDiff, Bool.false_eq_true, Nat.reduceBEq, ↓reduceIte]
          rw [toNat_cast, hbb]
          refine ev_if (fun h3 => ?_) (fun h3 => ?_)
          · simp only [go_sem, Nat.reduceEqDiff, Bool.false_eq_true, Nat.reduceBEq, ↓reduceIte]
            exact bad (nd (by omega)) _ _ hd
          · simp only [go_sem, Nat.reduceEqDiff, Bool.false_eq_true, Nat.reduceBEq, ↓reduceIte]
            refine ev_ix (by omega) (by omega) ?_
            simp only [go_sem, Nat.reduceEqDiff, Bool.false_eq_true, Nat.reduceBEq, ↓reduceIte]
            rw [toNat_cast, hbb]
            refine ev_if (fun h4 => ?_) (fun h4 => ?_)
            · simp only [go_sem, Nat.reduceEqDiff, Bool.false_eq_true, Nat.reduceBEq, ↓reduceIte]
              exact bad (nd (by omega)) _ _ hd
            · simp only [go_sem, Nat.reduceEqDiff, Bool.false_eq_true, Nat.reduceBEq, ↓reduceIte]
              refine ev_ix (by omega) (by omega) ?_
              simp only [go_sem, Nat.reduceEqDiff, Bool.false_eq_true, Nat.reduceBEq, ↓reduceIte]
              rw [toNat_cast, hbb]
              simp (disch := omega) only [nA64, nS64, nM64, nC64, nA64l, nS64l, nM64l, nM64r, nR64l, nL64l, nAu64, nMu64, nMu64r, nSu64, nAu64l, nLu64l, nCu64, nCu32, nCu8, nAu32, nLu32l, nSu8l, toNat_cast]
              have hll : l.length ≤ 1000000 := by
                have h5 := len_le_bl hn
                rw [hv] at h5
                have h6 := bl_dv (l := (bs t).take i) fun d hd => by have := hdig d hd; simp [isDig] at this; omega
                rw [List.length_take] at h6
                omega
              refine ev_callM (grow_ok H1 M1 A l c 10 (b - 48) hO hn (by omega) (by decide) (by decide) (by omega) hd) ?_
              rintro v H2 M2 hle ⟨hd2, A', l', c', rfl, hO2, hn2, hv2, _⟩ _
              simp only [go_sem, Nat.reduceEqDiff, Bool.false_eq_true, Nat.reduceBEq, ↓reduceIte]
              refine k_next (t.size - (i + 1)) _ (by omega) ⟨i + 1, A', l', c', H2, M2, by omega, rfl, hO2, hn2, ?_, ?_, hd2, rfl⟩ ⟨rfl, by simp only [go_sem, Nat.reduceEqDiff, Bool.false_eq_true, Nat.reduceBEq, ↓reduceIte, and_self, Option.some.injEq, SV.v.injEq, SV.ptr.injEq, Value.int.injEq, Value.bool.injEq, Value.slice.injEq, true_and, and_true] <;> (repeat' apply And.intro) <;> first | rfl | omega | (simp (disch := omega) only [w64, wu64, wu32, wu8] <;> omega), by simp only [go_sem, Nat.reduceEqDiff, Bool.false_eq_true, Nat.reduceBEq, ↓reduceIte, and_self, Option.some.injEq, SV.v.injEq, SV.ptr.injEq, Value.int.injEq, Value.bool.injEq, Value.slice.injEq, true_and, and_true] <;> (repeat' apply And.intro) <;> rfl, rfl, PH.le.refl _⟩
              · rw [hv2, hv, htk, dv_snoc]
              · rw [htk]
                intro d hd
                rcases List.mem_append.1 hd with hd | hd
                · exact hdig d hd
                · rw [List.mem_singleton.1 hd]
                  simp [isDig]; omega
        · have hil : i = t.size := by omega
          subst hil
          rw [List.take_of_length_le (by omega)] at hv hdig
          have hok : decOk (bs t) = true := by
            unfold decOk
            rw [hz, decide_eq_true (show (bs t).length ≤ 4000 by omega), List.all_eq_true.2 hdig]
            cases hq : bs t with
            | nil => rw [hq] at hsz; simp only [List.length_nil] at hsz; omega
            | cons _ _ => rfl
          simp only [go_sem, Nat.reduceEqDiff, Bool.false_eq_true, Nat.reduceBEq, ↓reduceIte]
          rw [hok]
          exact ⟨hd, _, rfl, A, l, c, rfl, hO, hn, hv⟩

theorem parse_ok (H : PH) (t : ByteArray) : FnP Tryd.prog 19 [.string t] H fun v H' => ∃ v', v = .tuple #[v', .int .i64 (if decOk (bs t) then 0 else 2)] ∧ NatV H' v' (if decOk (bs t) then dv (bs t) else 0) :=
  Fn.release ((parse_own H t).mono fun v H' M' hl hd hR hd' => by
    obtain ⟨_, v', h1, h2⟩ := hR
    exact ⟨v', h1, h2.nat hd'⟩)

/-- the value of bytes, the greatest first -/
def bv (l : List Nat) : Nat := l.foldl (fun v d => v * 256 + d) 0
theorem bv_cons_aux : ∀ (l : List Nat) (v : Nat), l.foldl (fun v d => v * 256 + d) v = v * 256 ^ l.length + bv l
  | [], v => by simp [bv]
  | d :: l, v => by
    have h1 := bv_cons_aux l (v * 256 + d)
    have h2 := bv_cons_aux l (0 * 256 + d)
    simp only [bv, List.foldl_cons, List.length_cons] at *
    rw [h1, h2, Nat.pow_succ]
    rw [Nat.add_mul, Nat.zero_mul, Nat.zero_add, Nat.mul_comm (256 ^ l.length) 256, Nat.mul_assoc]
    omega
theorem bv_cons (d : Nat) (l : List Nat) : bv (d :: l) = d * 256 ^ l.length + bv l := by
  have := bv_cons_aux l (0 * 256 + d)
  simp only [bv, List.foldl_cons] at *
  rw [this, Nat.zero_mul, Nat.zero_add]
theorem bv_lt {l : List Nat} (h : ∀ d ∈ l, d < 256) : bv l < 256 ^ l.length := by
  induction l with
  | nil => simp [bv]
  | cons d l ih =>
    have h1 := ih fun x hx => h x (List.mem_cons_of_mem _ hx)
    have h2 := h d List.mem_cons_self
    rw [bv_cons, List.length_cons, Nat.pow_succ]
    have := Nat.mul_le_mul_right (256 ^ l.length) (Nat.succ_le_of_lt h2)
    rw [Nat.succ_mul, Nat.mul_comm 256] at this
    omega

theorem read_step (V i x : Nat) (o : List Nat) (hx : x < 256) (hV : V < 256 ^ i) (ho : val o = V) (hlo : Lim o) (hl : i / 4 < o.length) :
    (o.getD (i / 4) 0 ||| x * 2 ^ (8 * (i % 4))) = o.getD (i / 4) 0 + x * 2 ^ (8 * (i % 4)) ∧ o.getD (i / 4) 0 + x * 2 ^ (8 * (i % 4)) < 4294967296 ∧ x * 2 ^ (8 * (i % 4)) < 4294967296 ∧
    val (o.set (i / 4) (o.getD (i / 4) 0 + x * 2 ^ (8 * (i % 4)))) = x * 256 ^ i + V := by
  have h256 : (256 : Nat) ^ i = 4294967296 ^ (i / 4) * 2 ^ (8 * (i % 4)) := by
    rw [pow32, ← Nat.pow_add, show (256 : Nat) = 2 ^ 8 from rfl, ← Nat.pow_mul]
    congr 1; omega
  have h1 : o.getD (i / 4) 0 < 2 ^ (8 * (i % 4)) := getD_lt (by rw [ho, ← h256]; exact hV)
  have h2 : x * 2 ^ (8 * (i % 4)) + 2 ^ (8 * (i % 4)) ≤ 4294967296 := by
    have := Nat.mul_le_mul_right (2 ^ (8 * (i % 4))) (Nat.succ_le_of_lt hx)
    rw [Nat.succ_mul] at this
    refine Nat.le_trans this ?_
    rw [show (256 : Nat) = 2 ^ 8 from rfl, ← Nat.pow_add]
    exact Nat.pow_le_pow_right (by decide : 0 < 2) (show 8 + 8 * (i % 4) ≤ 32 by omega)
  refine ⟨or_add _ _ _ h1, by omega, by omega, ?_⟩
  have := val_set o (i / 4) (o.getD (i / 4) 0 + x * 2 ^ (8 * (i % 4))) hl
  rw [Nat.mul_add] at this
  rw [h256, ← ho, Nat.mul_left_comm]
  omega

end Go.Proofs.YtlhhdlhnpgiamaaDoor.X
