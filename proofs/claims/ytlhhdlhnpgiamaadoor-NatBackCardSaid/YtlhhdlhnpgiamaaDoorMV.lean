/- The laws of chapter 1: what they share; the first two. -/
import Derived.Test.YtlhhdlhnpgiamaaDoorMS
import Derived.Test.YtlhhdlhnpgiamaaDoorML
import Derived.Test.YtlhhdlhnpgiamaaDoorMT
set_option linter.unusedVariables false
set_option linter.unusedSimpArgs false
namespace Go.Proofs.YtlhhdlhnpgiamaaDoor.X
open Go Go.RowKit Go.Proofs

theorem nbits_ok (H : PH) (v : Value) (x : Nat) (hN : NatV H v x) (hb : bl x ≤ 4294967296) : FnP Tryd.prog 22 [v] H fun v _ => v = .int .i64 (bl x : Nat) := by
  obtain ⟨A, l, c, rfl, hc, hS, hn, rfl⟩ := hN
  exact bits_ok H A l c hS hn (by have := len_le_bl hn; omega)

theorem bl_lt_of {x n : Nat} (h : x < 2 ^ n) : bl x ≤ n := bl_le_iff.2 h
theorem txt_zero : txt 0 = [48] := rfl
theorem txt_seven : txt 7 = [55] := by
  have : nd 7 = 1 := nd_uniq (by decide) (.inr (by decide))
  unfold txt; rw [this]; rfl
theorem ofB_zero : ofB (txt 0) = ⟨#[48]⟩ := rfl
theorem ofB_seven : ofB (txt 7) = ⟨#[55]⟩ := by rw [txt_seven]; rfl
theorem ofB_inj {l m : List Nat} (hl : ∀ d ∈ l, d < 256) (hm : ∀ d ∈ m, d < 256) (h : ofB l = ofB m) : l = m := by
  rw [← bs_ofB hl, ← bs_ofB hm, h]
theorem ofB_txt_inj {x y : Nat} : ofB (txt x) = ofB (txt y) ↔ x = y :=
  ⟨fun h => txt_inj (ofB_inj (txt_lt x) (txt_lt y) h), fun h => by rw [h]⟩

theorem alive_ok (H : PH) (hT : Tab H) : FnP Tryd.prog 13 [] H fun v _ => v = .bool true := by
  refine of_cincturelaw1_alive (by simp) ?_
  simp only [go_sem, Nat.reduceEqDiff, Bool.false_eq_true, Nat.reduceBEq, ↓reduceIte, p_cincturelaw1_alive]
  refine ev_call (of_ok H 3 (by decide)) ?_
  intro v1 H1 hle1 h1 _
  simp only [go_sem, Nat.reduceEqDiff, Bool.false_eq_true, Nat.reduceBEq, ↓reduceIte]
  refine ev_call (shl_ok H1 v1 3 70 h1 (by decide)) ?_
  intro v2 H2 hle2 h2 _
  have e70 : clip 70 = 70 := by decide
  have hbl : bl (3 * 2 ^ 70) = 72 := by rw [bl_shift _ _ (by decide)]; decide
  have htz : tz (3 * 2 ^ 70) = 70 := tz_uniq (m := 1) (by decide)
  rw [e70] at h2
  generalize 3 * 2 ^ 70 = y at *
  obtain ⟨A, l, c, rfl⟩ := h2.form
  simp only [go_sem, Nat.reduceEqDiff, Bool.false_eq_true, Nat.reduceBEq, ↓reduceIte]
  refine ev_call (nbits_ok H2 _ y h2 (by omega)) ?_
  rintro v3 H3 hle3 rfl _
  rw [hbl]
  simp only [go_sem, Nat.reduceEqDiff, Bool.false_eq_true, Nat.reduceBEq, ↓reduceIte]
  refine ev_pos (by decide) ?_
  simp only [go_sem, Nat.reduceEqDiff, Bool.false_eq_true, Nat.reduceBEq, ↓reduceIte]
  refine ev_call (zeros_ok H3 (hT.le (hle1.trans (hle2.trans hle3))) _ y (h2.le hle3) (by omega)) ?_
  rintro v4 H4 hle4 rfl _
  rw [htz]
  simp only [go_sem, Nat.reduceEqDiff, Bool.false_eq_true, Nat.reduceBEq, ↓reduceIte]
  refine ev_pos (by decide) ?_
  simp only [go_sem, Nat.reduceEqDiff, Bool.false_eq_true, Nat.reduceBEq, ↓reduceIte]
  refine ev_call (of_ok H4 7 (by decide)) ?_
  intro v5 H5 hle5 h5 _
  simp only [go_sem, Nat.reduceEqDiff, Bool.false_eq_true, Nat.reduceBEq, ↓reduceIte]
  refine ev_call (text_ok H5 v5 7 h5 (by decide)) ?_
  rintro v6 H6 hle6 rfl _
  simp only [go_sem, Nat.reduceEqDiff, Bool.false_eq_true, Nat.reduceBEq, ↓reduceIte]
  refine ev_pos ofB_seven ?_
  simp only [go_sem, Nat.reduceEqDiff, Bool.false_eq_true, Nat.reduceBEq, ↓reduceIte]
  exact ⟨by trivial, by trivial⟩

/-- both texts are numbers, not too long -/
def pok (a b : ByteArray) : Bool := (decOk (bs a) && decOk (bs b)) && (decide (a.size ≤ 200) && decide (b.size ≤ 200))

theorem pair_ok (H : PH) (a b : ByteArray) : FnP Tryd.prog 32 [.string a, .string b] H fun v H' => ∃ va vb ra rb, v = .tuple #[va, vb, ra, rb, .bool (pok a b)] ∧ NatV H' va (if pok a b then dv (bs a) else 0) ∧ NatV H' vb (if pok a b then dv (bs b) else 0) ∧ RefV H' ra (if pok a b then dv (bs a) else 0) ∧ RefV H' rb (if pok a b then dv (bs b) else 0) := by
  refine of_cincturelaw1_pair (by simp) ?_
  simp only [go_sem, Nat.reduceEqDiff, Bool.false_eq_true, Nat.reduceBEq, ↓reduceIte, p_cincturelaw1_pair]
  refine ev_call (rparse_ok H a) ?_
  rintro v1 H1 hle1 ⟨ra, rfl, h1⟩ _
  simp only [go_sem, Nat.reduceEqDiff, Bool.false_eq_true, Nat.reduceBEq, ↓reduceIte]
  refine ev_call (rparse_ok H1 b) ?_
  rintro v2 H2 hle2 ⟨rb, rfl, h2⟩ _
  have bad : pok a b = false → ∃ va vb ra rb, (Value.tuple #[.agg #[.slice none 0 0], .agg #[.slice none 0 0], .slice none 0 0, .slice none 0 0, .bool false]) = .tuple #[va, vb, ra, rb, .bool (pok a b)] ∧ NatV H2 va (if pok a b then dv (bs a) else 0) ∧ NatV H2 vb (if pok a b then dv (bs b) else 0) ∧ RefV H2 ra (if pok a b then dv (bs a) else 0) ∧ RefV H2 rb (if pok a b then dv (bs b) else 0) := by
    intro h
    rw [h]
    exact ⟨_, _, _, _, rfl, NatV.zero _ _, NatV.zero _ _, RefV.zero _, RefV.zero _⟩
  cases ha : decOk (bs a) with
  | false =>
    simp only [go_sem, Nat.reduceEqDiff, Bool.false_eq_true, Nat.reduceBEq, ↓reduceIte, ha]
    exact ⟨by trivial, bad (by unfold pok; rw [ha]; rfl)⟩
  | true =>
    cases hb : decOk (bs b) with
    | false =>
      simp only [go_sem, Nat.reduceEqDiff, Bool.false_eq_true, Nat.reduceBEq, ↓reduceIte, ha, hb]
      exact ⟨by trivial, bad (by unfold pok; rw [ha, hb]; rfl)⟩
    | true =>
      simp only [go_sem, Nat.reduceEqDiff, Bool.false_eq_true, Nat.reduceBEq, ↓reduceIte, ha, hb]
      refine ev_if (fun h3 => ?_) (fun h3 => ?_)
      · simp only [go_sem, Nat.reduceEqDiff, Bool.false_eq_true, Nat.reduceBEq, ↓reduceIte]
        exact ⟨by trivial, bad (by unfold pok; rw [ha, hb, decide_eq_false (show ¬ a.size ≤ 200 by omega)]; rfl)⟩
      · simp only [go_sem, Nat.reduceEqDiff, Bool.false_eq_true, Nat.reduceBEq, ↓reduceIte]
        refine ev_if (fun h4 => ?_) (fun h4 => ?_)
        · simp only [go_sem, Nat.reduceEqDiff, Bool.false_eq_true, Nat.reduceBEq, ↓reduceIte]
          exact ⟨by trivial, bad (by unfold pok; rw [ha, hb, decide_eq_false (show ¬ b.size ≤ 200 by omega)]; simp)⟩
        · have hp : pok a b = true := by unfold pok; rw [ha, hb, decide_eq_true (show a.size ≤ 200 by omega), decide_eq_true (show b.size ≤ 200 by omega)]; rfl
          simp only [go_sem, Nat.reduceEqDiff, Bool.false_eq_true, Nat.reduceBEq, ↓reduceIte]
          refine ev_call (parse_ok H2 a) ?_
          rintro v3 H3 hle3 ⟨va, rfl, h5⟩ _
          obtain ⟨A, l, c, rfl⟩ := h5.form
          simp only [go_sem, Nat.reduceEqDiff, Bool.false_eq_true, Nat.reduceBEq, ↓reduceIte]
          refine ev_call (parse_ok H3 b) ?_
          rintro v4 H4 hle4 ⟨vb, rfl, h6⟩ _
          obtain ⟨B, m, e, rfl⟩ := h6.form
          rw [ha, if_pos rfl] at h1 h5
          rw [hb, if_pos rfl] at h2 h6
          have fin : ∃ va vb ra' rb', (Value.tuple #[.agg #[.slice A l c], .agg #[.slice B m e], ra, rb, .bool true]) = .tuple #[va, vb, ra', rb', .bool (pok a b)] ∧ NatV H4 va (if pok a b then dv (bs a) else 0) ∧ NatV H4 vb (if pok a b then dv (bs b) else 0) ∧ RefV H4 ra' (if pok a b then dv (bs a) else 0) ∧ RefV H4 rb' (if pok a b then dv (bs b) else 0) := by
            rw [hp]
            exact ⟨_, _, _, _, rfl, h5.le hle4, h6, h1.le (hle2.trans (hle3.trans hle4)), h2.le (hle3.trans hle4)⟩
          simp only [go_sem, Nat.reduceEqDiff, Bool.false_eq_true, Nat.reduceBEq, ↓reduceIte]
          exact ⟨⟨⟨by trivial, fin⟩, by trivial, fin⟩, by trivial, fin⟩

theorem bl_dec {l : List Nat} (h : decOk l = true) : bl (dv l) ≤ 16000 := by
  simp only [decOk, Bool.and_eq_true, List.all_eq_true, decide_eq_true_eq] at h
  have := bl_dv (l := l) fun d hd => by have := h.2.2 d hd; simp [isDig] at this; omega
  omega
theorem bl_dec' (l : List Nat) : bl (if decOk l then dv l else 0) ≤ 16000 := by
  split
  · rename_i h; exact bl_dec h
  · exact Nat.zero_le _
theorem bl_bv {l : List Nat} (h : ∀ d ∈ l, d < 256) : bl (bv l) ≤ 8 * l.length := by
  rw [bl_le_iff, Nat.pow_mul]
  exact bv_lt h
theorem bv_rev : ∀ (l : List Nat), bv l.reverse = lv 256 l
  | [] => rfl
  | d :: l => by
    have ih := bv_rev l
    simp only [bv] at ih
    simp only [bv, List.reverse_cons, List.foldl_append, ih, List.foldl_cons, List.foldl_nil, lv]
    omega
theorem btx_bv {l : List Nat} (h : ∀ d ∈ l, d < 256) (hk : rdOk l = true) : btx (bv l) = l := by
  have hlen : (bl (bv l) + 7) / 8 = l.length := by
    cases l with
    | nil => rfl
    | cons d l =>
      have hd : d ≠ 0 := by simpa [rdOk] using hk
      have h1 := bl_bv h
      have h2 : 2 ^ (8 * l.length) ≤ bv (d :: l) := by
        rw [bv_cons, Nat.pow_mul]
        exact Nat.le_trans (Nat.le_mul_of_pos_left _ (Nat.pos_of_ne_zero hd)) (Nat.le_add_right _ _)
      have h3 := lt_bl_iff.2 h2
      simp only [List.length_cons] at h1 ⊢
      omega
  have e : bv l = lv 256 l.reverse := by rw [← bv_rev, List.reverse_reverse]
  unfold btx
  rw [hlen, e]
  have := dg_lv 256 (by decide) l.reverse (fun d hd => h d (by simpa using hd))
  rw [List.length_reverse] at this
  rw [this, List.reverse_reverse]

theorem NatReads_ok (H : PH) (hT : Tab H) (b : ByteArray) : FnP Tryd.prog 3 [.string b] H fun v _ => v = .bool true := by
  have hsz := bs_length b
  refine of_cincturelaw1_NatReads (by simp) ?_
  simp only [go_sem, Nat.reduceEqDiff, Bool.false_eq_true, Nat.reduceBEq, ↓reduceIte, p_cincturelaw1_NatReads]
  refine ev_call (alive_ok H hT) ?_
  rintro v0 H0 hle0 rfl _
  simp only [go_sem, Nat.reduceEqDiff, Bool.false_eq_true, Nat.reduceBEq, ↓reduceIte]
  refine ev_if (fun h => ?_) (fun h => ?_)
  · simp only [go_sem, Nat.reduceEqDiff, Bool.false_eq_true, Nat.reduceBEq, ↓reduceIte]
    exact ⟨by trivial, by trivial⟩
  · simp only [go_sem, Nat.reduceEqDiff, Bool.false_eq_true, Nat.reduceBEq, ↓reduceIte]
    refine ev_call (read_ok H0 b (by omega)) ?_
    rintro v1 H1 hle1 ⟨v1', rfl, h1⟩ _
    obtain ⟨A, l, c, rfl⟩ := h1.form
    simp only [go_sem, Nat.reduceEqDiff, Bool.false_eq_true, Nat.reduceBEq, ↓reduceIte]
    refine ev_call (rread_ok H1 b (by omega)) ?_
    rintro v2 H2 hle2 ⟨v2', rfl, h2⟩ _
    replace h1 := h1.le hle2
    cases hk : rdOk (bs b) with
    | false =>
      rw [hk] at h1 h2
      simp only [go_sem, Nat.reduceEqDiff, Bool.false_eq_true, Nat.reduceBEq, ↓reduceIte, hk]
      refine ev_pos (by trivial) ?_
      simp only [go_sem, Nat.reduceEqDiff, Bool.false_eq_true, Nat.reduceBEq, ↓reduceIte]
      refine ev_call (text_ok H2 _ 0 h1 (by decide)) ?_
      rintro v3 H3 hle3 rfl _
      simp only [go_sem, Nat.reduceEqDiff, Bool.false_eq_true, Nat.reduceBEq, ↓reduceIte]
      refine ev_pos ofB_zero ?_
      simp only [go_sem, Nat.reduceEqDiff, Bool.false_eq_true, Nat.reduceBEq, ↓reduceIte]
      exact ⟨by trivial, by trivial⟩
    | true =>
      rw [hk, if_pos rfl] at h1 h2
      have hbl := bl_bv (bs_lt b)
      have hbt := btx_bv (bs_lt b) hk
      generalize bv (bs b) = x at *
      simp only [go_sem, Nat.reduceEqDiff, Bool.false_eq_true, Nat.reduceBEq, ↓reduceIte, hk]
      refine ev_pos (by trivial) ?_
      simp only [go_sem, Nat.reduceEqDiff, Bool.false_eq_true, Nat.reduceBEq, ↓reduceIte]
      refine ev_call (bytes_ok H2 _ x h1 (by omega)) ?_
      rintro v3 H3 hle3 rfl _
      simp only [go_sem, Nat.reduceEqDiff, Bool.false_eq_true, Nat.reduceBEq, ↓reduceIte]
      refine ev_pos (by rw [hbt, ofB_bs]) ?_
      simp only [go_sem, Nat.reduceEqDiff, Bool.false_eq_true, Nat.reduceBEq, ↓reduceIte]
      refine ev_call (text_ok H3 _ x (h1.le hle3) (by omega)) ?_
      rintro v4 H4 hle4 rfl _
      simp only [go_sem, Nat.reduceEqDiff, Bool.false_eq_true, Nat.reduceBEq, ↓reduceIte]
      refine ev_call (rtext_ok H4 _ x (h2.le (hle3.trans hle4)) (by omega)) ?_
      rintro v5 H5 hle5 rfl _
      simp only [go_sem, Nat.reduceEqDiff, Bool.false_eq_true, Nat.reduceBEq, ↓reduceIte]
      refine ev_pos (by trivial) ?_
      simp only [go_sem, Nat.reduceEqDiff, Bool.false_eq_true, Nat.reduceBEq, ↓reduceIte]
      exact ⟨by trivial, by trivial⟩

theorem NatTells_ok (H : PH) (hT : Tab H) (s : ByteArray) : FnP Tryd.prog 4 [.string s] H fun v _ => v = .bool true := by
  refine of_cincturelaw1_NatTells (by simp) ?_
  simp only [go_sem, Nat.reduceEqDiff, Bool.false_eq_true, Nat.reduceBEq, ↓reduceIte, p_cincturelaw1_NatTells]
  refine ev_call (alive_ok H hT) ?_
  rintro v0 H0 hle0 rfl _
  replace hT := hT.le hle0
  simp only [go_sem, Nat.reduceEqDiff, Bool.false_eq_true, Nat.reduceBEq, ↓reduceIte]
  refine ev_if (fun h => ?_) (fun h => ?_)
  · simp only [go_sem, Nat.reduceEqDiff, Bool.false_eq_true, Nat.reduceBEq, ↓reduceIte]
    exact ⟨by trivial, by trivial⟩
  · simp only [go_sem, Nat.reduceEqDiff, Bool.false_eq_true, Nat.reduceBEq, ↓reduceIte]
    refine ev_call (parse_ok H0 s) ?_
    rintro v1 H1 hle1 ⟨v1', rfl, h1⟩ _
    obtain ⟨A, l, c, rfl⟩ := h1.form
    simp only [go_sem, Nat.reduceEqDiff, Bool.false_eq_true, Nat.reduceBEq, ↓reduceIte]
    refine ev_call (rparse_ok H1 s) ?_
    rintro v2 H2 hle2 ⟨v2', rfl, h2⟩ _
    replace h1 := h1.le hle2
    replace hT := (hT.le hle1).le hle2
    cases hk : decOk (bs s) with
    | false =>
      rw [hk] at h1 h2
      simp only [go_sem, Nat.reduceEqDiff, Bool.false_eq_true, Nat.reduceBEq, ↓reduceIte, hk]
      refine ev_pos (by trivial) ?_
      simp only [go_sem, Nat.reduceEqDiff, Bool.false_eq_true, Nat.reduceBEq, ↓reduceIte]
      refine ev_call (text_ok H2 _ 0 h1 (by decide)) ?_
      rintro v3 H3 hle3 rfl _
      simp only [go_sem, Nat.reduceEqDiff, Bool.false_eq_true, Nat.reduceBEq, ↓reduceIte]
      refine ev_pos ofB_zero ?_
      simp only [go_sem, Nat.reduceEqDiff, Bool.false_eq_true, Nat.reduceBEq, ↓reduceIte]
      exact ⟨by trivial, by trivial⟩
    | true =>
      rw [hk, if_pos rfl] at h1 h2
      have hbl := bl_dec hk
      have htx := txt_dv hk
      generalize dv (bs s) = x at *
      simp only [go_sem, Nat.reduceEqDiff, Bool.false_eq_true, Nat.reduceBEq, ↓reduceIte, hk]
      refine ev_pos (by trivial) ?_
      simp only [go_sem, Nat.reduceEqDiff, Bool.false_eq_true, Nat.reduceBEq, ↓reduceIte]
      refine ev_call (text_ok H2 _ x h1 (by omega)) ?_
      rintro v3 H3 hle3 rfl _
      replace h1 := h1.le hle3; replace h2 := h2.le hle3; replace hT := hT.le hle3
      simp only [go_sem, Nat.reduceEqDiff, Bool.false_eq_true, Nat.reduceBEq, ↓reduceIte]
      refine ev_pos (by rw [htx, ofB_bs]) ?_
      simp only [go_sem, Nat.reduceEqDiff, Bool.false_eq_true, Nat.reduceBEq, ↓reduceIte]
      refine ev_call (bytes_ok H3 _ x h1 (by omega)) ?_
      rintro v4 H4 hle4 rfl _
      replace h1 := h1.le hle4; replace h2 := h2.le hle4; replace hT := hT.le hle4
      simp only [go_sem, Nat.reduceEqDiff, Bool.false_eq_true, Nat.reduceBEq, ↓reduceIte]
      refine ev_call (rbytes_ok H4 _ x h2 (by omega)) ?_
      rintro v4 H5 hle4 rfl _
      replace h1 := h1.le hle4; replace h2 := h2.le hle4; replace hT := hT.le hle4
      simp only [go_sem, Nat.reduceEqDiff, Bool.false_eq_true, Nat.reduceBEq, ↓reduceIte]
      refine ev_pos (by trivial) ?_
      simp only [go_sem, Nat.reduceEqDiff, Bool.false_eq_true, Nat.reduceBEq, ↓reduceIte]
      refine ev_call (nbits_ok H5 _ x h1 (by omega)) ?_
      rintro v4 H6 hle4 rfl _
      replace h1 := h1.le hle4; replace h2 := h2.le hle4; replace hT := hT.le hle4
      simp only [go_sem, Nat.reduceEqDiff, Bool.false_eq_true, Nat.reduceBEq, ↓reduceIte]
      refine ev_call (rbits_ok H6 _ x h2 (by omega)) ?_
      rintro v4 H7 hle4 rfl _
      replace h1 := h1.le hle4; replace h2 := h2.le hle4; replace hT := hT.le hle4
      simp only [go_sem, Nat.reduceEqDiff, Bool.false_eq_true, Nat.reduceBEq, ↓reduceIte]
      refine ev_pos (by trivial) ?_
      simp only [go_sem, Nat.reduceEqDiff, Bool.false_eq_true, Nat.reduceBEq, ↓reduceIte]
      refine ev_call (zeros_ok H7 hT _ x h1 (by omega)) ?_
      rintro v4 H8 hle4 rfl _
      replace h1 := h1.le hle4; replace h2 := h2.le hle4; replace hT := hT.le hle4
      simp only [go_sem, Nat.reduceEqDiff, Bool.false_eq_true, Nat.reduceBEq, ↓reduceIte]
      refine ev_call (rzeros_ok H8 _ x h2 (by omega)) ?_
      rintro v4 H9 hle4 rfl _
      replace h1 := h1.le hle4; replace h2 := h2.le hle4; replace hT := hT.le hle4
      simp only [go_sem, Nat.reduceEqDiff, Bool.false_eq_true, Nat.reduceBEq, ↓reduceIte]
      refine ev_pos (by trivial) ?_
      simp only [go_sem, Nat.reduceEqDiff, Bool.false_eq_true, Nat.reduceBEq, ↓reduceIte]
      refine ev_call (low_ok H9 _ x h1 (by omega)) ?_
      rintro v4 H10 hle4 rfl _
      replace h1 := h1.le hle4; replace h2 := h2.le hle4; replace hT := hT.le hle4
      simp only [go_sem, Nat.reduceEqDiff, Bool.false_eq_true, Nat.reduceBEq, ↓reduceIte]
      refine ev_call (rlow_ok H10 _ x h2 (by omega)) ?_
      rintro v4 H11 hle4 rfl _
      replace h1 := h1.le hle4; replace h2 := h2.le hle4; replace hT := hT.le hle4
      simp only [go_sem, Nat.reduceEqDiff, Bool.false_eq_true, Nat.reduceBEq, ↓reduceIte]
      refine ev_pos (by trivial) ?_
      simp only [go_sem, Nat.reduceEqDiff, Bool.false_eq_true, Nat.reduceBEq, ↓reduceIte]
      exact ⟨by trivial, by trivial⟩

end Go.Proofs.YtlhhdlhnpgiamaaDoor.X
set_option linter.unusedVariables false
set_option linter.unusedSimpArgs false
namespace Go.Proofs.YtlhhdlhnpgiamaaDoor.X
open Go Go.RowKit Go.Proofs

theorem u64_of_wf {a : Int} (h : (Lit.int .u64 a).wf = true) : 0 ≤ a ∧ a < 18446744073709551616 := by
  simp only [Lit.wf, IntKind.min, IntKind.max, IntKind.signed, IntKind.bits, Bool.and_eq_true, decide_eq_true_eq] at h
  simp at h; omega
theorem i64_of_wf {a : Int} (h : (Lit.int .i64 a).wf = true) : -9223372036854775808 ≤ a ∧ a < 9223372036854775808 := by
  simp only [Lit.wf, IntKind.min, IntKind.max, IntKind.signed, IntKind.bits, Bool.and_eq_true, decide_eq_true_eq] at h
  simp at h; omega

theorem bl_shl {x n k : Nat} (h : bl x ≤ n) : bl (x * 2 ^ k) ≤ n + k := by
  by_cases h0 : x = 0
  · subst h0; simp [bl_zero]
  · rw [bl_shift _ _ h0]; omega
theorem bl_div {x n k : Nat} (h : bl x ≤ n) : bl (x / k) ≤ n := Nat.le_trans (bl_mono (Nat.div_le_self _ _)) h
theorem pok_bl {a b : ByteArray} (h : pok a b = true) : bl (dv (bs a)) ≤ 800 ∧ bl (dv (bs b)) ≤ 800 := by
  simp only [pok, Bool.and_eq_true, decide_eq_true_eq] at h
  have key : ∀ c : ByteArray, decOk (bs c) = true → c.size ≤ 200 → bl (dv (bs c)) ≤ 800 := by
    intro c h1 h2
    simp only [decOk, Bool.and_eq_true, List.all_eq_true, decide_eq_true_eq] at h1
    have h3 := bl_dv (l := bs c) fun d hd => by have := h1.2.2 d hd; simp [isDig] at this; omega
    rw [bs_length] at h3
    omega
  exact ⟨key a h.1.1 h.2.1, key b h.1.2 h.2.2⟩
theorem RefV.form {H : PH} {v : Value} {x : Nat} (h : RefV H v x) : ∃ A l c, v = .slice A l c ∧ (l = 0 ↔ x = 0) := by
  obtain ⟨A, l, c, rfl, _, _, h4, h5⟩ := h
  refine ⟨A, l.length, c, rfl, ?_⟩
  rw [← h5, val_eq_zero h4]
  exact ⟨fun h => List.eq_nil_of_length_eq_zero h, fun h => by rw [h]; rfl⟩
theorem clip_max (n : Int) (h : n ≤ 3000) : clip n = n.toNat := by unfold clip; omega

theorem NatShifts_ok (H : PH) (hT : Tab H) (a : ByteArray) (n : Int) (w : (Lit.int .i64 n).wf = true) : FnP Tryd.prog 6 [.string a, .int .i64 n] H fun v _ => v = .bool true := by
  have hn := i64_of_wf w
  refine of_cincturelaw1_NatShifts (by simp) ?_
  simp only [go_sem, Nat.reduceEqDiff, Bool.false_eq_true, Nat.reduceBEq, ↓reduceIte, p_cincturelaw1_NatShifts]
  refine ev_call (alive_ok _ hT) ?_
  rintro v_1 H_1 le_1 rfl _
  replace hT := hT.le le_1
  simp only [go_sem, Nat.reduceEqDiff, Bool.false_eq_true, Nat.reduceBEq, ↓reduceIte]
  refine ev_call (pair_ok _ a ⟨#[48]⟩) ?_
  rintro v_2 H_2 le_2 ⟨va, vb, ra, rb, rfl, h1, h2, h3, h4⟩ _
  replace hT := hT.le le_2
  simp only [go_sem, Nat.reduceEqDiff, Bool.false_eq_true, Nat.reduceBEq, ↓reduceIte]
  obtain ⟨A, l, c, rfl⟩ := h1.form
  obtain ⟨B, m, e, rfl⟩ := h2.form
  cases hk : pok a ⟨#[48]⟩ with
  | false =>
    simp only [go_sem, Nat.reduceEqDiff, Bool.false_eq_true, Nat.reduceBEq, ↓reduceIte, hk]
    refine ev_call (alive_ok _ hT) ?_
    rintro v_3 H_3 le_3 rfl _
    simp only [go_sem, Nat.reduceEqDiff, Bool.false_eq_true, Nat.reduceBEq, ↓reduceIte]
    exact ⟨by trivial, by trivial⟩
  | true =>
    rw [hk, if_pos rfl] at h1 h3
    have hbl := (pok_bl hk).1
    generalize dv (bs a) = x at *
    simp only [go_sem, Nat.reduceEqDiff, Bool.false_eq_true, Nat.reduceBEq, ↓reduceIte, hk]
    refine ev_if (fun h => ?_) (fun h => ?_)
    · simp only [go_sem, Nat.reduceEqDiff, Bool.false_eq_true, Nat.reduceBEq, ↓reduceIte]
      refine ev_call (alive_ok _ hT) ?_
      rintro v_4 H_4 le_4 rfl _
      simp only [go_sem, Nat.reduceEqDiff, Bool.false_eq_true, Nat.reduceBEq, ↓reduceIte]
      exact ⟨by trivial, by trivial⟩
    · simp only [go_sem, Nat.reduceEqDiff, Bool.false_eq_true, Nat.reduceBEq, ↓reduceIte]
      rw [show (if n < 0 then 0 else n) = (n.toNat : Int) by split <;> omega]
      have hc := clip_max n (by omega)
      have hb2 : bl (x * 2 ^ n.toNat) ≤ 800 + n.toNat := bl_shl hbl
      have hb3 : bl (x / 2 ^ n.toNat) ≤ 800 := bl_div hbl
      refine ev_call (shl_ok _ _ x n h1 (by omega)) ?_
      rintro v_5 H_5 le_5 h5 _
      replace h1 := h1.le le_5
      replace h3 := h3.le le_5
      simp only [go_sem, Nat.reduceEqDiff, Bool.false_eq_true, Nat.reduceBEq, ↓reduceIte]
      rw [hc] at h5
      refine ev_call (text_ok _ _ _ h5 (by omega)) ?_
      rintro v_6 H_6 le_6 rfl _
      replace h1 := h1.le le_6
      replace h3 := h3.le le_6
      simp only [go_sem, Nat.reduceEqDiff, Bool.false_eq_true, Nat.reduceBEq, ↓reduceIte]
      refine ev_call (rshl_ok _ _ x n.toNat h3 (by omega) (by omega)) ?_
      rintro v_7 H_7 le_7 h6 _
      replace h1 := h1.le le_7
      replace h3 := h3.le le_7
      simp only [go_sem, Nat.reduceEqDiff, Bool.false_eq_true, Nat.reduceBEq, ↓reduceIte]
      refine ev_call (rtext_ok _ _ _ h6 (by omega)) ?_
      rintro v_8 H_8 le_8 rfl _
      replace h1 := h1.le le_8
      replace h3 := h3.le le_8
      simp only [go_sem, Nat.reduceEqDiff, Bool.false_eq_true, Nat.reduceBEq, ↓reduceIte]
      refine ev_pos (by trivial) ?_
      simp only [go_sem, Nat.reduceEqDiff, Bool.false_eq_true, Nat.reduceBEq, ↓reduceIte]
      refine ev_call (shr_ok _ _ x n h1 (by omega)) ?_
      rintro v_9 H_9 le_9 h7 _
      replace h1 := h1.le le_9
      replace h3 := h3.le le_9
      simp only [go_sem, Nat.reduceEqDiff, Bool.false_eq_true, Nat.reduceBEq, ↓reduceIte]
      rw [hc] at h7
      refine ev_call (text_ok _ _ _ h7 (by omega)) ?_
      rintro v_10 H_10 le_10 rfl _
      replace h1 := h1.le le_10
      replace h3 := h3.le le_10
      simp only [go_sem, Nat.reduceEqDiff, Bool.false_eq_true, Nat.reduceBEq, ↓reduceIte]
      refine ev_call (rshr_ok _ _ x n.toNat h3 (by omega) (by omega)) ?_
      rintro v_11 H_11 le_11 h8 _
      replace h1 := h1.le le_11
      replace h3 := h3.le le_11
      simp only [go_sem, Nat.reduceEqDiff, Bool.false_eq_true, Nat.reduceBEq, ↓reduceIte]
      refine ev_call (rtext_ok _ _ _ h8 (by omega)) ?_
      rintro v_12 H_12 le_12 rfl _
      replace h1 := h1.le le_12
      replace h3 := h3.le le_12
      simp only [go_sem, Nat.reduceEqDiff, Bool.false_eq_true, Nat.reduceBEq, ↓reduceIte]
      refine ev_pos (by trivial) ?_
      simp only [go_sem, Nat.reduceEqDiff, Bool.false_eq_true, Nat.reduceBEq, ↓reduceIte]
      exact ⟨by trivial, by trivial⟩

theorem bl_prod {x y : Nat} (hx : x ≠ 0) (hy : y ≠ 0) : bl (x * y) = bl x + bl y ∨ bl (x * y) + 1 = bl x + bl y := by
  have h1 := bl_mul x y
  have h2 := two_pow_le_bl hx
  have h3 := two_pow_le_bl hy
  have h4 := bl_pos hx
  have h5 := bl_pos hy
  have h6 := Nat.mul_le_mul h2 h3
  rw [← Nat.pow_add] at h6
  have h7 := lt_bl_iff.2 h6
  omega
theorem btx_length (x : Nat) : (btx x).length = (bl x + 7) / 8 := by simp [btx, dg_length]
theorem ofB_size (l : List Nat) : (ofB l).size = l.length := by
  show (l.map UInt8.ofNat).toArray.size = _
  simp

theorem NatLengths_ok (H : PH) (hT : Tab H) (a b : ByteArray) : FnP Tryd.prog 7 [.string a, .string b] H fun v _ => v = .bool true := by
  refine of_cincturelaw1_NatLengths (by simp) ?_
  simp only [go_sem, Nat.reduceEqDiff, Bool.false_eq_true, Nat.reduceBEq, ↓reduceIte, p_cincturelaw1_NatLengths]
  refine ev_call (alive_ok _ hT) ?_
  rintro v_13 H_13 le_13 rfl _
  replace hT := hT.le le_13
  simp only [go_sem, Nat.reduceEqDiff, Bool.false_eq_true, Nat.reduceBEq, ↓reduceIte]
  refine ev_call (pair_ok _ a b) ?_
  rintro v_14 H_14 le_14 ⟨va, vb, ra, rb, rfl, h1, h2, h3, h4⟩ _
  replace hT := hT.le le_14
  simp only [go_sem, Nat.reduceEqDiff, Bool.false_eq_true, Nat.reduceBEq, ↓reduceIte]
  obtain ⟨A, l, c, rfl⟩ := h1.form
  obtain ⟨B, m, e, rfl⟩ := h2.form
  obtain ⟨A', l', c', rfl, hl'⟩ := h3.form
  obtain ⟨B', m', e', rfl, hm'⟩ := h4.form
  cases hk : pok a b with
  | false =>
    simp only [go_sem, Nat.reduceEqDiff, Bool.false_eq_true, Nat.reduceBEq, ↓reduceIte, hk]
    exact ⟨by trivial, by trivial⟩
  | true =>
    rw [hk, if_pos rfl] at h1 h2 h3 h4 hl' hm'
    obtain ⟨hbx, hby⟩ := pok_bl hk
    generalize dv (bs a) = x at *
    generalize dv (bs b) = y at *
    simp only [go_sem, Nat.reduceEqDiff, Bool.false_eq_true, Nat.reduceBEq, ↓reduceIte, hk]
    refine ev_if (fun h => ?_) (fun h => ?_)
    · simp only [go_sem, Nat.reduceEqDiff, Bool.false_eq_true, Nat.reduceBEq, ↓reduceIte]
      exact ⟨by trivial, by trivial⟩
    · simp only [go_sem, Nat.reduceEqDiff, Bool.false_eq_true, Nat.reduceBEq, ↓reduceIte]
      refine ev_if (fun h0 => ?_) (fun h0 => ?_)
      · simp only [go_sem, Nat.reduceEqDiff, Bool.false_eq_true, Nat.reduceBEq, ↓reduceIte]
        exact ⟨by trivial, by trivial⟩
      · have hx0 : x ≠ 0 := fun e => h (by rw [hl'.2 e]; rfl)
        have hy0 : y ≠ 0 := fun e => h0 (by rw [hm'.2 e]; rfl)
        have hpr := bl_prod hx0 hy0
        have htz := tz_prod x y hx0 hy0
        have t1 := tz_lt_bl hx0
        have t2 := tz_lt_bl hy0
        simp only [go_sem, Nat.reduceEqDiff, Bool.false_eq_true, Nat.reduceBEq, ↓reduceIte]
        refine ev_call (mul_ok _ _ _ x y h1 h2 (by omega) (by omega)) ?_
        rintro v_15 H_15 le_15 h5 _
        replace h1 := h1.le le_15
        replace h2 := h2.le le_15
        replace hT := hT.le le_15
        simp only [go_sem, Nat.reduceEqDiff, Bool.false_eq_true, Nat.reduceBEq, ↓reduceIte]
        obtain ⟨C, k, g, rfl⟩ := h5.form
        generalize x * y = z at *
        simp only [go_sem, Nat.reduceEqDiff, Bool.false_eq_true, Nat.reduceBEq, ↓reduceIte]
        refine ev_callP (nbits_ok _ _ x h1 (by omega)) ?_
        rintro v_16 H_16 le_16 rfl _
        replace h1 := h1.le le_16
        replace h2 := h2.le le_16
        replace h5 := h5.le le_16
        replace hT := hT.le le_16
        simp only [go_sem, Nat.reduceEqDiff, Bool.false_eq_true, Nat.reduceBEq, ↓reduceIte]
        refine ev_callP (nbits_ok _ _ y h2 (by omega)) ?_
        rintro v_17 H_17 le_17 rfl _
        replace h1 := h1.le le_17
        replace h2 := h2.le le_17
        replace h5 := h5.le le_17
        replace hT := hT.le le_17
        simp only [go_sem, Nat.reduceEqDiff, Bool.false_eq_true, Nat.reduceBEq, ↓reduceIte]
        simp (disch := omega) only [nA64, nS64, nM64, nC64, nA64l, nS64l, nM64l, nM64r, nR64l, nL64l, nAu64, nMu64, nMu64r, nSu64, nAu64l, nLu64l, nCu64, nCu32, nCu8, nAu32, nLu32l, nSu8l, toNat_cast]
        refine ev_callP (nbits_ok _ _ z h5 (by omega)) ?_
        rintro v_18 H_18 le_18 rfl _
        replace h1 := h1.le le_18
        replace h2 := h2.le le_18
        replace h5 := h5.le le_18
        replace hT := hT.le le_18
        simp only [go_sem, Nat.reduceEqDiff, Bool.false_eq_true, Nat.reduceBEq, ↓reduceIte]
        refine ev_if (fun h6 => ?_) (fun h6 => ?_)
        · simp only [go_sem, Nat.reduceEqDiff, Bool.false_eq_true, Nat.reduceBEq, ↓reduceIte]
          refine ev_callP (bytes_ok _ _ z h5 (by omega)) ?_
          rintro v_19 H_19 le_19 rfl _
          replace h1 := h1.le le_19
          replace h2 := h2.le le_19
          replace h5 := h5.le le_19
          replace hT := hT.le le_19
          simp only [go_sem, Nat.reduceEqDiff, Bool.false_eq_true, Nat.reduceBEq, ↓reduceIte]
          refine ev_callP (nbits_ok _ _ z h5 (by omega)) ?_
          rintro v_20 H_20 le_20 rfl _
          replace h1 := h1.le le_20
          replace h2 := h2.le le_20
          replace h5 := h5.le le_20
          replace hT := hT.le le_20
          simp only [go_sem, Nat.reduceEqDiff, Bool.false_eq_true, Nat.reduceBEq, ↓reduceIte]
          simp (disch := omega) only [nA64, nS64, nM64, nC64, nA64l, nS64l, nM64l, nM64r, nR64l, nL64l, nAu64, nMu64, nMu64r, nSu64, nAu64l, nLu64l, nCu64, nCu32, nCu8, nAu32, nLu32l, nSu8l, toNat_cast]
          refine quo_nat (a := bl z + 7) (m := 8) rfl (by decide) (by simp (disch := omega) only [w64, wu64, wu32, wu8]) ?_
          simp only [go_sem, Nat.reduceEqDiff, Bool.false_eq_true, Nat.reduceBEq, ↓reduceIte]
          refine ev_pos (by rw [ofB_size, btx_length]) ?_
          simp only [go_sem, Nat.reduceEqDiff, Bool.false_eq_true, Nat.reduceBEq, ↓reduceIte]
          refine ev_callP (zeros_ok _ hT _ z h5 (by omega)) ?_
          rintro v_21 H_21 le_21 rfl _
          replace h1 := h1.le le_21
          replace h2 := h2.le le_21
          replace h5 := h5.le le_21
          replace hT := hT.le le_21
          simp only [go_sem, Nat.reduceEqDiff, Bool.false_eq_true, Nat.reduceBEq, ↓reduceIte]
          refine ev_callP (zeros_ok _ hT _ x h1 (by omega)) ?_
          rintro v_22 H_22 le_22 rfl _
          replace h1 := h1.le le_22
          replace h2 := h2.le le_22
          replace h5 := h5.le le_22
          replace hT := hT.le le_22
          simp only [go_sem, Nat.reduceEqDiff, Bool.false_eq_true, Nat.reduceBEq, ↓reduceIte]
          refine ev_callP (zeros_ok _ hT _ y h2 (by omega)) ?_
          rintro v_23 H_23 le_23 rfl _
          replace h1 := h1.le le_23
          replace h2 := h2.le le_23
          replace h5 := h5.le le_23
          replace hT := hT.le le_23
          simp only [go_sem, Nat.reduceEqDiff, Bool.false_eq_true, Nat.reduceBEq, ↓reduceIte]
          simp (disch := omega) only [nA64, nS64, nM64, nC64, nA64l, nS64l, nM64l, nM64r, nR64l, nL64l, nAu64, nMu64, nMu64r, nSu64, nAu64l, nLu64l, nCu64, nCu32, nCu8, nAu32, nLu32l, nSu8l, toNat_cast]
          refine ev_pos (by rw [htz]) ?_
          simp only [go_sem, Nat.reduceEqDiff, Bool.false_eq_true, Nat.reduceBEq, ↓reduceIte]
          exact ⟨by trivial, by trivial⟩
        · simp only [go_sem, Nat.reduceEqDiff, Bool.false_eq_true, Nat.reduceBEq, ↓reduceIte]
          simp (disch := omega) only [nA64, nS64, nM64, nC64, nA64l, nS64l, nM64l, nM64r, nR64l, nL64l, nAu64, nMu64, nMu64r, nSu64, nAu64l, nLu64l, nCu64, nCu32, nCu8, nAu32, nLu32l, nSu8l, toNat_cast]
          refine ev_callP (nbits_ok _ _ z h5 (by omega)) ?_
          rintro v_24 H_24 le_24 rfl _
          replace h1 := h1.le le_24
          replace h2 := h2.le le_24
          replace h5 := h5.le le_24
          replace hT := hT.le le_24
          simp only [go_sem, Nat.reduceEqDiff, Bool.false_eq_true, Nat.reduceBEq, ↓reduceIte]
          refine ev_pos (by omega) ?_
          simp only [go_sem, Nat.reduceEqDiff, Bool.false_eq_true, Nat.reduceBEq, ↓reduceIte]
          refine ev_callP (bytes_ok _ _ z h5 (by omega)) ?_
          rintro v_19 H_19 le_19 rfl _
          replace h1 := h1.le le_19
          replace h2 := h2.le le_19
          replace h5 := h5.le le_19
          replace hT := hT.le le_19
          simp only [go_sem, Nat.reduceEqDiff, Bool.false_eq_true, Nat.reduceBEq, ↓reduceIte]
          refine ev_callP (nbits_ok _ _ z h5 (by omega)) ?_
          rintro v_20 H_20 le_20 rfl _
          replace h1 := h1.le le_20
          replace h2 := h2.le le_20
          replace h5 := h5.le le_20
          replace hT := hT.le le_20
          simp only [go_sem, Nat.reduceEqDiff, Bool.false_eq_true, Nat.reduceBEq, ↓reduceIte]
          simp (disch := omega) only [nA64, nS64, nM64, nC64, nA64l, nS64l, nM64l, nM64r, nR64l, nL64l, nAu64, nMu64, nMu64r, nSu64, nAu64l, nLu64l, nCu64, nCu32, nCu8, nAu32, nLu32l, nSu8l, toNat_cast]
          refine quo_nat (a := bl z + 7) (m := 8) rfl (by decide) (by simp (disch := omega) only [w64, wu64, wu32, wu8]) ?_
          simp only [go_sem, Nat.reduceEqDiff, Bool.false_eq_true, Nat.reduceBEq, ↓reduceIte]
          refine ev_pos (by rw [ofB_size, btx_length]) ?_
          simp only [go_sem, Nat.reduceEqDiff, Bool.false_eq_true, Nat.reduceBEq, ↓reduceIte]
          refine ev_callP (zeros_ok _ hT _ z h5 (by omega)) ?_
          rintro v_21 H_21 le_21 rfl _
          replace h1 := h1.le le_21
          replace h2 := h2.le le_21
          replace h5 := h5.le le_21
          replace hT := hT.le le_21
          simp only [go_sem, Nat.reduceEqDiff, Bool.false_eq_true, Nat.reduceBEq, ↓reduceIte]
          refine ev_callP (zeros_ok _ hT _ x h1 (by omega)) ?_
          rintro v_22 H_22 le_22 rfl _
          replace h1 := h1.le le_22
          replace h2 := h2.le le_22
          replace h5 := h5.le le_22
          replace hT := hT.le le_22
          simp only [go_sem, Nat.reduceEqDiff, Bool.false_eq_true, Nat.reduceBEq, ↓reduceIte]
          refine ev_callP (zeros_ok _ hT _ y h2 (by omega)) ?_
          rintro v_23 H_23 le_23 rfl _
          replace h1 := h1.le le_23
          replace h2 := h2.le le_23
          replace h5 := h5.le le_23
          replace hT := hT.le le_23
          simp only [go_sem, Nat.reduceEqDiff, Bool.false_eq_true, Nat.reduceBEq, ↓reduceIte]
          simp (disch := omega) only [nA64, nS64, nM64, nC64, nA64l, nS64l, nM64l, nM64r, nR64l, nL64l, nAu64, nMu64, nMu64r, nSu64, nAu64l, nLu64l, nCu64, nCu32, nCu8, nAu32, nLu32l, nSu8l, toNat_cast]
          refine ev_pos (by rw [htz]) ?_
          simp only [go_sem, Nat.reduceEqDiff, Bool.false_eq_true, Nat.reduceBEq, ↓reduceIte]
          exact ⟨by trivial, by trivial⟩

theorem cmpN_self (x : Nat) : cmpN x x = 0 := by unfold cmpN; simp

theorem NatRings_ok (H : PH) (hT : Tab H) (a b c : ByteArray) : FnP Tryd.prog 8 [.string a, .string b, .string c] H fun v _ => v = .bool true := by
  refine of_cincturelaw1_NatRings (by simp) ?_
  simp only [go_sem, Nat.reduceEqDiff, Bool.false_eq_true, Nat.reduceBEq, ↓reduceIte, p_cincturelaw1_NatRings]
  refine ev_call (alive_ok _ hT) ?_
  rintro v_25 H_25 le_25 rfl _
  replace hT := hT.le le_25
  simp only [go_sem, Nat.reduceEqDiff, Bool.false_eq_true, Nat.reduceBEq, ↓reduceIte]
  refine ev_call (pair_ok _ a b) ?_
  rintro v_26 H_26 le_26 ⟨va, vb, ra, rb, rfl, h1, h2, h3, h4⟩ _
  simp only [go_sem, Nat.reduceEqDiff, Bool.false_eq_true, Nat.reduceBEq, ↓reduceIte]
  obtain ⟨A, l, c1, rfl⟩ := h1.form
  obtain ⟨B, m, e, rfl⟩ := h2.form
  simp only [go_sem, Nat.reduceEqDiff, Bool.false_eq_true, Nat.reduceBEq, ↓reduceIte]
  refine ev_call (pair_ok _ c ⟨#[48]⟩) ?_
  rintro v_27 H_27 le_27 ⟨vc, vd, rc, rd, rfl, h5, h6, h7, h8⟩ _
  replace h1 := h1.le le_27
  replace h2 := h2.le le_27
  simp only [go_sem, Nat.reduceEqDiff, Bool.false_eq_true, Nat.reduceBEq, ↓reduceIte]
  obtain ⟨C, k, g, rfl⟩ := h5.form
  obtain ⟨D, k', g', rfl⟩ := h6.form
  cases hk : pok a b with
  | false =>
    simp only [go_sem, Nat.reduceEqDiff, Bool.false_eq_true, Nat.reduceBEq, ↓reduceIte, hk]
    exact ⟨by trivial, by trivial⟩
  | true =>
    cases hk2 : pok c ⟨#[48]⟩ with
    | false =>
      simp only [go_sem, Nat.reduceEqDiff, Bool.false_eq_true, Nat.reduceBEq, ↓reduceIte, hk, hk2]
      exact ⟨by trivial, by trivial⟩
    | true =>
      rw [hk, if_pos rfl] at h1 h2
      rw [hk2, if_pos rfl] at h5
      obtain ⟨hbx, hby⟩ := pok_bl hk
      have hbz := (pok_bl hk2).1
      generalize dv (bs a) = x at *
      generalize dv (bs b) = y at *
      generalize dv (bs c) = z at *
      have s1 := bl_add x y
      have s2 := bl_add y z
      have m1 := bl_mul x y
      have m2 := bl_mul z x
      have m3 := bl_mul z y
      have m4 := bl_mul (x + y) z
      have s3 := bl_add (z * x) (z * y)
      have s4 := bl_add (x + y) z
      have s5 := bl_add z y
      have s6 := bl_add x (z + y)
      have m5 := bl_mul (x * y) z
      have m6 := bl_mul x (z * y)
      simp only [go_sem, Nat.reduceEqDiff, Bool.false_eq_true, Nat.reduceBEq, ↓reduceIte, hk, hk2]
      refine ev_callP (add_ok _ _ _ x y h1 h2 (by omega) (by omega)) ?_
      rintro v_28 H_28 le_28 g1 _
      replace h1 := h1.le le_28
      replace h2 := h2.le le_28
      replace h5 := h5.le le_28
      simp only [go_sem, Nat.reduceEqDiff, Bool.false_eq_true, Nat.reduceBEq, ↓reduceIte]
      refine ev_callP (mul_ok _ _ _ _ z g1 h5 (by omega) (by omega)) ?_
      rintro v_29 H_29 le_29 g2 _
      replace h1 := h1.le le_29
      replace h2 := h2.le le_29
      replace h5 := h5.le le_29
      simp only [go_sem, Nat.reduceEqDiff, Bool.false_eq_true, Nat.reduceBEq, ↓reduceIte]
      refine ev_callP (mul_ok _ _ _ z x h5 h1 (by omega) (by omega)) ?_
      rintro v_30 H_30 le_30 g3 _
      replace h1 := h1.le le_30
      replace h2 := h2.le le_30
      replace h5 := h5.le le_30
      replace g2 := g2.le le_30
      simp only [go_sem, Nat.reduceEqDiff, Bool.false_eq_true, Nat.reduceBEq, ↓reduceIte]
      refine ev_callP (mul_ok _ _ _ z y h5 h2 (by omega) (by omega)) ?_
      rintro v_31 H_31 le_31 g4 _
      replace h1 := h1.le le_31
      replace h2 := h2.le le_31
      replace h5 := h5.le le_31
      replace g2 := g2.le le_31
      replace g3 := g3.le le_31
      simp only [go_sem, Nat.reduceEqDiff, Bool.false_eq_true, Nat.reduceBEq, ↓reduceIte]
      refine ev_callP (add_ok _ _ _ _ _ g3 g4 (by omega) (by omega)) ?_
      rintro v_32 H_32 le_32 g5 _
      replace h1 := h1.le le_32
      replace h2 := h2.le le_32
      replace h5 := h5.le le_32
      replace g2 := g2.le le_32
      simp only [go_sem, Nat.reduceEqDiff, Bool.false_eq_true, Nat.reduceBEq, ↓reduceIte]
      refine ev_callP (cmp_ok _ _ _ _ _ g2 g5 (by omega) (by omega)) ?_
      rintro v_33 H_33 le_33 rfl _
      replace h1 := h1.le le_33
      replace h2 := h2.le le_33
      replace h5 := h5.le le_33
      simp only [go_sem, Nat.reduceEqDiff, Bool.false_eq_true, Nat.reduceBEq, ↓reduceIte]
      refine ev_pos (by rw [show (x + y) * z = z * x + z * y by rw [Nat.mul_comm, Nat.mul_add]]; exact cmpN_self _) ?_
      simp only [go_sem, Nat.reduceEqDiff, Bool.false_eq_true, Nat.reduceBEq, ↓reduceIte]
      refine ev_callP (add_ok _ _ _ x y h1 h2 (by omega) (by omega)) ?_
      rintro v_34 H_34 le_34 g1 _
      replace h1 := h1.le le_34
      replace h2 := h2.le le_34
      replace h5 := h5.le le_34
      simp only [go_sem, Nat.reduceEqDiff, Bool.false_eq_true, Nat.reduceBEq, ↓reduceIte]
      refine ev_callP (add_ok _ _ _ _ z g1 h5 (by omega) (by omega)) ?_
      rintro v_35 H_35 le_35 g2 _
      replace h1 := h1.le le_35
      replace h2 := h2.le le_35
      replace h5 := h5.le le_35
      simp only [go_sem, Nat.reduceEqDiff, Bool.false_eq_true, Nat.reduceBEq, ↓reduceIte]
      refine ev_callP (add_ok _ _ _ z y h5 h2 (by omega) (by omega)) ?_
      rintro v_36 H_36 le_36 g3 _
      replace h1 := h1.le le_36
      replace h2 := h2.le le_36
      replace h5 := h5.le le_36
      replace g2 := g2.le le_36
      simp only [go_sem, Nat.reduceEqDiff, Bool.false_eq_true, Nat.reduceBEq, ↓reduceIte]
      refine ev_callP (add_ok _ _ _ x _ h1 g3 (by omega) (by omega)) ?_
      rintro v_37 H_37 le_37 g4 _
      replace h1 := h1.le le_37
      replace h2 := h2.le le_37
      replace h5 := h5.le le_37
      replace g2 := g2.le le_37
      simp only [go_sem, Nat.reduceEqDiff, Bool.false_eq_true, Nat.reduceBEq, ↓reduceIte]
      refine ev_callP (cmp_ok _ _ _ _ _ g2 g4 (by omega) (by omega)) ?_
      rintro v_38 H_38 le_38 rfl _
      replace h1 := h1.le le_38
      replace h2 := h2.le le_38
      replace h5 := h5.le le_38
      simp only [go_sem, Nat.reduceEqDiff, Bool.false_eq_true, Nat.reduceBEq, ↓reduceIte]
      refine ev_pos (by rw [show (x + y) + z = x + (z + y) by omega]; exact cmpN_self _) ?_
      simp only [go_sem, Nat.reduceEqDiff, Bool.false_eq_true, Nat.reduceBEq, ↓reduceIte]
      refine ev_callP (mul_ok _ _ _ x y h1 h2 (by omega) (by omega)) ?_
      rintro v_39 H_39 le_39 g1 _
      replace h1 := h1.le le_39
      replace h2 := h2.le le_39
      replace h5 := h5.le le_39
      simp only [go_sem, Nat.reduceEqDiff, Bool.false_eq_true, Nat.reduceBEq, ↓reduceIte]
      refine ev_callP (mul_ok _ _ _ _ z g1 h5 (by omega) (by omega)) ?_
      rintro v_40 H_40 le_40 g2 _
      replace h1 := h1.le le_40
      replace h2 := h2.le le_40
      replace h5 := h5.le le_40
      simp only [go_sem, Nat.reduceEqDiff, Bool.false_eq_true, Nat.reduceBEq, ↓reduceIte]
      refine ev_callP (mul_ok _ _ _ z y h5 h2 (by omega) (by omega)) ?_
      rintro v_41 H_41 le_41 g3 _
      replace h1 := h1.le le_41
      replace h2 := h2.le le_41
      replace h5 := h5.le le_41
      replace g2 := g2.le le_41
      simp only [go_sem, Nat.reduceEqDiff, Bool.false_eq_true, Nat.reduceBEq, ↓reduceIte]
      refine ev_callP (mul_ok _ _ _ x _ h1 g3 (by omega) (by omega)) ?_
      rintro v_42 H_42 le_42 g4 _
      replace h1 := h1.le le_42
      replace h2 := h2.le le_42
      replace h5 := h5.le le_42
      replace g2 := g2.le le_42
      simp only [go_sem, Nat.reduceEqDiff, Bool.false_eq_true, Nat.reduceBEq, ↓reduceIte]
      refine ev_callP (cmp_ok _ _ _ _ _ g2 g4 (by omega) (by omega)) ?_
      rintro v_43 H_43 le_43 rfl _
      replace h1 := h1.le le_43
      replace h2 := h2.le le_43
      replace h5 := h5.le le_43
      simp only [go_sem, Nat.reduceEqDiff, Bool.false_eq_true, Nat.reduceBEq, ↓reduceIte]
      refine ev_pos (by rw [show (x * y) * z = x * (z * y) by rw [Nat.mul_comm z y, Nat.mul_assoc]]; exact cmpN_self _) ?_
      simp only [go_sem, Nat.reduceEqDiff, Bool.false_eq_true, Nat.reduceBEq, ↓reduceIte]
      exact ⟨by trivial, by trivial⟩

end Go.Proofs.YtlhhdlhnpgiamaaDoor.X
set_option linter.unusedVariables false
set_option linter.unusedSimpArgs false
namespace Go.Proofs.YtlhhdlhnpgiamaaDoor.X
open Go Go.RowKit Go.Proofs

theorem bne_tt : (true != true) = false := of_eq_true (eq_self _)
theorem bne_tf : (true != false) = true := of_eq_true (eq_self _)
theorem bne_ft : (false != true) = true := of_eq_true (eq_self _)
theorem bne_ff : (false != false) = false := of_eq_true (eq_self _)
theorem beq_tt : (true == true) = true := of_eq_true (eq_self _)
theorem beq_tf : (true == false) = false := of_eq_true (eq_self _)
theorem beq_ft : (false == true) = false := of_eq_true (eq_self _)
theorem beq_ff : (false == false) = true := of_eq_true (eq_self _)
attribute [go_sem] bne_tt bne_tf bne_ft bne_ff beq_tt beq_tf beq_ft beq_ff

theorem sub_okT (H : PH) (va vb : Value) (x y : Nat) (ha : NatV H va x) (hb : NatV H vb y) (hbx : bl x ≤ 4294967296) (hby : bl y ≤ 4294967296) (h : y ≤ x) : FnP Tryd.prog 37 [va, vb] H fun v H' => ∃ v', v = .tuple #[v', .bool true] ∧ NatV H' v' (x - y) :=
  (sub_ok H va vb x y ha hb hbx hby).mono fun v H' _ hR => by rw [decide_eq_true h] at hR; exact hR
theorem sub_okF (H : PH) (va vb : Value) (x y : Nat) (ha : NatV H va x) (hb : NatV H vb y) (hbx : bl x ≤ 4294967296) (hby : bl y ≤ 4294967296) (h : ¬ y ≤ x) : FnP Tryd.prog 37 [va, vb] H fun v H' => ∃ v', v = .tuple #[v', .bool false] ∧ NatV H' v' 0 :=
  (sub_ok H va vb x y ha hb hbx hby).mono fun v H' _ hR => by rw [decide_eq_false h, Nat.sub_eq_zero_of_le (by omega)] at hR; exact hR

theorem NatWords_ok (H : PH) (hT : Tab H) (v : Int) (wv : (Lit.int .u64 v).wf = true) (n : Int) (wn : (Lit.int .i64 n).wf = true) : FnP Tryd.prog 5 [.int .u64 v, .int .i64 n] H fun v _ => v = .bool true := by
  obtain ⟨hv0, hv1⟩ := u64_of_wf wv
  obtain ⟨x, rfl⟩ := Int.eq_ofNat_of_zero_le hv0
  clear wv wn hv0
  have hbx : bl x ≤ 64 := bl_le_iff.2 (by omega)
  refine of_cincturelaw1_NatWords (by simp) ?_
  simp only [go_sem, Nat.reduceEqDiff, Bool.false_eq_true, Nat.reduceBEq, ↓reduceIte, p_cincturelaw1_NatWords]
  refine ev_call (of_ok _ x (by omega)) ?_
  rintro v_1 H_1 le_1 h1 _
  replace hT := hT.le le_1
  simp only [go_sem, Nat.reduceEqDiff, Bool.false_eq_true, Nat.reduceBEq, ↓reduceIte]
  obtain ⟨A, l, c, rfl⟩ := h1.form
  simp only [go_sem, Nat.reduceEqDiff, Bool.false_eq_true, Nat.reduceBEq, ↓reduceIte]
  refine ev_loop (fun n' s => ∃ (k y : Nat), n' = y ∧ k + bl y = bl x ∧ y < 18446744073709551616 ∧ s = ⟨[(7, .v (.int .u64 (y : Nat))), (6, .v (.int .i64 (k : Nat))), (5, .ptr 5 0), (1, .v (.int .i64 n)), (0, .v (.int .u64 (x : Nat)))], [(5, [.slice A l c])], H_1, PH.no⟩)
    _ _ ⟨0, x, rfl, by omega, by omega, rfl⟩ ⟨rfl, by simp only [go_sem, Nat.reduceEqDiff, Bool.false_eq_true, Nat.reduceBEq, ↓reduceIte, and_self, Option.some.injEq, SV.v.injEq, SV.ptr.injEq, Value.int.injEq, Value.bool.injEq, Value.slice.injEq, true_and, and_true] <;> (repeat' apply And.intro) <;> first | rfl | omega | (simp (disch := omega) only [w64, wu64, wu32, wu8] <;> omega), by simp only [go_sem, Nat.reduceEqDiff, Bool.false_eq_true, Nat.reduceBEq, ↓reduceIte, and_self, Option.some.injEq, SV.v.injEq, SV.ptr.injEq, Value.int.injEq, Value.bool.injEq, Value.slice.injEq, true_and, and_true] <;> (repeat' apply And.intro) <;> rfl, rfl, PH.le.refl _⟩ ?_
  rintro y s ⟨k, _, rfl, hk, hy, rfl⟩
  simp only [go_sem, Nat.reduceEqDiff, Bool.false_eq_true, Nat.reduceBEq, ↓reduceIte]
  refine ev_if (fun h2 => ?_) (fun h2 => ?_)
  · have hbl := bl_half (x := y) (by omega)
    simp only [go_sem, Nat.reduceEqDiff, Bool.false_eq_true, Nat.reduceBEq, ↓reduceIte]
    simp (disch := omega) only [nA64, nS64, nM64, nC64, nA64l, nS64l, nM64l, nM64r, nR64l, nL64l, nAu64, nMu64, nMu64r, nSu64, nAu64l, nLu64l, nCu64, nCu32, nCu8, nAu32, nLu32l, nSu8l, toNat_cast]
    refine shr_nat (n := 1) rfl (by decide) ?_
    simp only [go_sem, Nat.reduceEqDiff, Bool.false_eq_true, Nat.reduceBEq, ↓reduceIte]
    refine k_next (y / 2) _ (by omega) ⟨k + 1, y / 2, rfl, by omega, by omega, rfl⟩ ⟨rfl, by simp only [go_sem, Nat.reduceEqDiff, Bool.false_eq_true, Nat.reduceBEq, ↓reduceIte, and_self, Option.some.injEq, SV.v.injEq, SV.ptr.injEq, Value.int.injEq, Value.bool.injEq, Value.slice.injEq, true_and, and_true] <;> (repeat' apply And.intro) <;> first | rfl | omega | (simp (disch := omega) only [w64, wu64, wu32, wu8] <;> omega), by simp only [go_sem, Nat.reduceEqDiff, Bool.false_eq_true, Nat.reduceBEq, ↓reduceIte, and_self, Option.some.injEq, SV.v.injEq, SV.ptr.injEq, Value.int.injEq, Value.bool.injEq, Value.slice.injEq, true_and, and_true] <;> (repeat' apply And.intro) <;> rfl, rfl, PH.le.refl _⟩
  · have h0 : y = 0 := by omega
    subst h0
    rw [bl_zero, Nat.add_zero] at hk
    subst hk
    simp only [go_sem, Nat.reduceEqDiff, Bool.false_eq_true, Nat.reduceBEq, ↓reduceIte]
    refine ev_if (fun h3 => ?_) (fun h3 => ?_)
    · simp only [go_sem, Nat.reduceEqDiff, Bool.false_eq_true, Nat.reduceBEq, ↓reduceIte]
      obtain ⟨N, hN, hN2⟩ : ∃ N : Nat, (64 : Int) = N ∧ N ≤ 500 := ⟨64, rfl, by decide⟩
      rw [hN]
      have hcl : clip (N : Int) = N := clip_nat N (by omega)
      have hb2 : bl (x * 2 ^ N) ≤ 64 + N := bl_shl hbx
      have hback : x * 2 ^ N / 2 ^ N = x := Nat.mul_div_cancel _ (Nat.two_pow_pos _)
      refine ev_call (shl_ok _ _ x (N : Int) h1 (by omega)) ?_
      rintro v_2 H_2 le_2 h5 _
      replace h1 := h1.le le_2
      replace hT := hT.le le_2
      simp only [go_sem, Nat.reduceEqDiff, Bool.false_eq_true, Nat.reduceBEq, ↓reduceIte]
      rw [hcl] at h5
      refine ev_call (shr_ok _ _ _ (N : Int) h5 (by omega)) ?_
      rintro v_3 H_3 le_3 h6 _
      replace h1 := h1.le le_3
      replace hT := hT.le le_3
      simp only [go_sem, Nat.reduceEqDiff, Bool.false_eq_true, Nat.reduceBEq, ↓reduceIte]
      rw [hcl, hback] at h6
      obtain ⟨B, m, e, rfl⟩ := h6.form
      simp only [go_sem, Nat.reduceEqDiff, Bool.false_eq_true, Nat.reduceBEq, ↓reduceIte]
      refine ev_callP (alive_ok _ hT) ?_
      rintro v_4 H_4 le_4 rfl _
      replace h1 := h1.le le_4
      replace h6 := h6.le le_4
      replace hT := hT.le le_4
      simp only [go_sem, Nat.reduceEqDiff, Bool.false_eq_true, Nat.reduceBEq, ↓reduceIte]
      refine ev_callP (low_ok _ _ x h1 (by omega)) ?_
      rintro v_5 H_5 le_5 rfl _
      replace h1 := h1.le le_5
      replace h6 := h6.le le_5
      replace hT := hT.le le_5
      simp only [go_sem, Nat.reduceEqDiff, Bool.false_eq_true, Nat.reduceBEq, ↓reduceIte]
      rw [Nat.mod_eq_of_lt (show x < 18446744073709551616 by omega)]
      refine ev_pos rfl ?_
      simp only [go_sem, Nat.reduceEqDiff, Bool.false_eq_true, Nat.reduceBEq, ↓reduceIte]
      refine ev_callP (nbits_ok _ _ x h1 (by omega)) ?_
      rintro v_6 H_6 le_6 rfl _
      replace h1 := h1.le le_6
      replace h6 := h6.le le_6
      replace hT := hT.le le_6
      simp only [go_sem, Nat.reduceEqDiff, Bool.false_eq_true, Nat.reduceBEq, ↓reduceIte]
      refine ev_pos (by trivial) ?_
      simp only [go_sem, Nat.reduceEqDiff, Bool.false_eq_true, Nat.reduceBEq, ↓reduceIte]
      refine ev_callP (cmp_ok _ _ _ x x h1 h6 (by omega) (by omega)) ?_
      rintro v_7 H_7 le_7 rfl _
      replace h1 := h1.le le_7
      replace hT := hT.le le_7
      simp only [go_sem, Nat.reduceEqDiff, Bool.false_eq_true, Nat.reduceBEq, ↓reduceIte]
      refine ev_pos (cmpN_self _) ?_
      simp only [go_sem, Nat.reduceEqDiff, Bool.false_eq_true, Nat.reduceBEq, ↓reduceIte]
      refine ev_if (fun h7 => ?_) (fun h7 => ?_)
      · simp only [go_sem, Nat.reduceEqDiff, Bool.false_eq_true, Nat.reduceBEq, ↓reduceIte]
        exact ⟨by trivial, by trivial⟩
      · have hx0 : x ≠ 0 := by omega
        have htz := tz_shift x N hx0
        have t1 := tz_lt_bl hx0
        simp only [go_sem, Nat.reduceEqDiff, Bool.false_eq_true, Nat.reduceBEq, ↓reduceIte]
        refine ev_callP (shl_ok _ _ x (N : Int) h1 (by omega)) ?_
        rintro v_8 H_8 le_8 h8 _
        replace h1 := h1.le le_8
        replace hT := hT.le le_8
        simp only [go_sem, Nat.reduceEqDiff, Bool.false_eq_true, Nat.reduceBEq, ↓reduceIte]
        rw [hcl] at h8
        refine ev_callP (zeros_ok _ hT _ _ h8 (by omega)) ?_
        rintro v_9 H_9 le_9 rfl _
        replace h1 := h1.le le_9
        replace hT := hT.le le_9
        simp only [go_sem, Nat.reduceEqDiff, Bool.false_eq_true, Nat.reduceBEq, ↓reduceIte]
        refine ev_callP (zeros_ok _ hT _ x h1 (by omega)) ?_
        rintro v_10 H_10 le_10 rfl _
        replace h1 := h1.le le_10
        replace hT := hT.le le_10
        simp only [go_sem, Nat.reduceEqDiff, Bool.false_eq_true, Nat.reduceBEq, ↓reduceIte]
        simp (disch := omega) only [nA64, nS64, nM64, nC64, nA64l, nS64l, nM64l, nM64r, nR64l, nL64l, nAu64, nMu64, nMu64r, nSu64, nAu64l, nLu64l, nCu64, nCu32, nCu8, nAu32, nLu32l, nSu8l, toNat_cast]
        refine ev_pos (by rw [htz]; omega) ?_
        simp only [go_sem, Nat.reduceEqDiff, Bool.false_eq_true, Nat.reduceBEq, ↓reduceIte]
        exact ⟨by trivial, by trivial⟩
    · simp only [go_sem, Nat.reduceEqDiff, Bool.false_eq_true, Nat.reduceBEq, ↓reduceIte]
      refine ev_if (fun h4 => ?_) (fun h4 => ?_)
      · simp only [go_sem, Nat.reduceEqDiff, Bool.false_eq_true, Nat.reduceBEq, ↓reduceIte]
        obtain ⟨N, hN, hN2⟩ : ∃ N : Nat, (64 : Int) = N ∧ N ≤ 500 := ⟨64, rfl, by decide⟩
        rw [hN]
        have hcl : clip (N : Int) = N := clip_nat N (by omega)
        have hb2 : bl (x * 2 ^ N) ≤ 64 + N := bl_shl hbx
        have hback : x * 2 ^ N / 2 ^ N = x := Nat.mul_div_cancel _ (Nat.two_pow_pos _)
        refine ev_call (shl_ok _ _ x (N : Int) h1 (by omega)) ?_
        rintro v_2 H_2 le_2 h5 _
        replace h1 := h1.le le_2
        replace hT := hT.le le_2
        simp only [go_sem, Nat.reduceEqDiff, Bool.false_eq_true, Nat.reduceBEq, ↓reduceIte]
        rw [hcl] at h5
        refine ev_call (shr_ok _ _ _ (N : Int) h5 (by omega)) ?_
        rintro v_3 H_3 le_3 h6 _
        replace h1 := h1.le le_3
        replace hT := hT.le le_3
        simp only [go_sem, Nat.reduceEqDiff, Bool.false_eq_true, Nat.reduceBEq, ↓reduceIte]
        rw [hcl, hback] at h6
        obtain ⟨B, m, e, rfl⟩ := h6.form
        simp only [go_sem, Nat.reduceEqDiff, Bool.false_eq_true, Nat.reduceBEq, ↓reduceIte]
        refine ev_callP (alive_ok _ hT) ?_
        rintro v_4 H_4 le_4 rfl _
        replace h1 := h1.le le_4
        replace h6 := h6.le le_4
        replace hT := hT.le le_4
        simp only [go_sem, Nat.reduceEqDiff, Bool.false_eq_true, Nat.reduceBEq, ↓reduceIte]
        refine ev_callP (low_ok _ _ x h1 (by omega)) ?_
        rintro v_5 H_5 le_5 rfl _
        replace h1 := h1.le le_5
        replace h6 := h6.le le_5
        replace hT := hT.le le_5
        simp only [go_sem, Nat.reduceEqDiff, Bool.false_eq_true, Nat.reduceBEq, ↓reduceIte]
        rw [Nat.mod_eq_of_lt (show x < 18446744073709551616 by omega)]
        refine ev_pos rfl ?_
        simp only [go_sem, Nat.reduceEqDiff, Bool.false_eq_true, Nat.reduceBEq, ↓reduceIte]
        refine ev_callP (nbits_ok _ _ x h1 (by omega)) ?_
        rintro v_6 H_6 le_6 rfl _
        replace h1 := h1.le le_6
        replace h6 := h6.le le_6
        replace hT := hT.le le_6
        simp only [go_sem, Nat.reduceEqDiff, Bool.false_eq_true, Nat.reduceBEq, ↓reduceIte]
        refine ev_pos (by trivial) ?_
        simp only [go_sem, Nat.reduceEqDiff, Bool.false_eq_true, Nat.reduceBEq, ↓reduceIte]
        refine ev_callP (cmp_ok _ _ _ x x h1 h6 (by omega) (by omega)) ?_
        rintro v_7 H_7 le_7 rfl _
        replace h1 := h1.le le_7
        replace hT := hT.le le_7
        simp only [go_sem, Nat.reduceEqDiff, Bool.false_eq_true, Nat.reduceBEq, ↓reduceIte]
        refine ev_pos (cmpN_self _) ?_
        simp only [go_sem, Nat.reduceEqDiff, Bool.false_eq_true, Nat.reduceBEq, ↓reduceIte]
        refine ev_if (fun h7 => ?_) (fun h7 => ?_)
        · simp only [go_sem, Nat.reduceEqDiff, Bool.false_eq_true, Nat.reduceBEq, ↓reduceIte]
          exact ⟨by trivial, by trivial⟩
        · have hx0 : x ≠ 0 := by omega
          have htz := tz_shift x N hx0
          have t1 := tz_lt_bl hx0
          simp only [go_sem, Nat.reduceEqDiff, Bool.false_eq_true, Nat.reduceBEq, ↓reduceIte]
          refine ev_callP (shl_ok _ _ x (N : Int) h1 (by omega)) ?_
          rintro v_8 H_8 le_8 h8 _
          replace h1 := h1.le le_8
          replace hT := hT.le le_8
          simp only [go_sem, Nat.reduceEqDiff, Bool.false_eq_true, Nat.reduceBEq, ↓reduceIte]
          rw [hcl] at h8
          refine ev_callP (zeros_ok _ hT _ _ h8 (by omega)) ?_
          rintro v_9 H_9 le_9 rfl _
          replace h1 := h1.le le_9
          replace hT := hT.le le_9
          simp only [go_sem, Nat.reduceEqDiff, Bool.false_eq_true, Nat.reduceBEq, ↓reduceIte]
          refine ev_callP (zeros_ok _ hT _ x h1 (by omega)) ?_
          rintro v_10 H_10 le_10 rfl _
          replace h1 := h1.le le_10
          replace hT := hT.le le_10
          simp only [go_sem, Nat.reduceEqDiff, Bool.false_eq_true, Nat.reduceBEq, ↓reduceIte]
          simp (disch := omega) only [nA64, nS64, nM64, nC64, nA64l, nS64l, nM64l, nM64r, nR64l, nL64l, nAu64, nMu64, nMu64r, nSu64, nAu64l, nLu64l, nCu64, nCu32, nCu8, nAu32, nLu32l, nSu8l, toNat_cast]
          refine ev_pos (by rw [htz]; omega) ?_
          simp only [go_sem, Nat.reduceEqDiff, Bool.false_eq_true, Nat.reduceBEq, ↓reduceIte]
          exact ⟨by trivial, by trivial⟩
      · simp only [go_sem, Nat.reduceEqDiff, Bool.false_eq_true, Nat.reduceBEq, ↓reduceIte]
        obtain ⟨N, rfl⟩ := Int.eq_ofNat_of_zero_le (show 0 ≤ n by omega)
        have hN2 : N ≤ 500 := by omega
        have hcl : clip (N : Int) = N := clip_nat N (by omega)
        have hb2 : bl (x * 2 ^ N) ≤ 64 + N := bl_shl hbx
        have hback : x * 2 ^ N / 2 ^ N = x := Nat.mul_div_cancel _ (Nat.two_pow_pos _)
        refine ev_call (shl_ok _ _ x (N : Int) h1 (by omega)) ?_
        rintro v_2 H_2 le_2 h5 _
        replace h1 := h1.le le_2
        replace hT := hT.le le_2
        simp only [go_sem, Nat.reduceEqDiff, Bool.false_eq_true, Nat.reduceBEq, ↓reduceIte]
        rw [hcl] at h5
        refine ev_call (shr_ok _ _ _ (N : Int) h5 (by omega)) ?_
        rintro v_3 H_3 le_3 h6 _
        replace h1 := h1.le le_3
        replace hT := hT.le le_3
        simp only [go_sem, Nat.reduceEqDiff, Bool.false_eq_true, Nat.reduceBEq, ↓reduceIte]
        rw [hcl, hback] at h6
        obtain ⟨B, m, e, rfl⟩ := h6.form
        simp only [go_sem, Nat.reduceEqDiff, Bool.false_eq_true, Nat.reduceBEq, ↓reduceIte]
        refine ev_callP (alive_ok _ hT) ?_
        rintro v_4 H_4 le_4 rfl _
        replace h1 := h1.le le_4
        replace h6 := h6.le le_4
        replace hT := hT.le le_4
        simp only [go_sem, Nat.reduceEqDiff, Bool.false_eq_true, Nat.reduceBEq, ↓reduceIte]
        refine ev_callP (low_ok _ _ x h1 (by omega)) ?_
        rintro v_5 H_5 le_5 rfl _
        replace h1 := h1.le le_5
        replace h6 := h6.le le_5
        replace hT := hT.le le_5
        simp only [go_sem, Nat.reduceEqDiff, Bool.false_eq_true, Nat.reduceBEq, ↓reduceIte]
        rw [Nat.mod_eq_of_lt (show x < 18446744073709551616 by omega)]
        refine ev_pos rfl ?_
        simp only [go_sem, Nat.reduceEqDiff, Bool.false_eq_true, Nat.reduceBEq, ↓reduceIte]
        refine ev_callP (nbits_ok _ _ x h1 (by omega)) ?_
        rintro v_6 H_6 le_6 rfl _
        replace h1 := h1.le le_6
        replace h6 := h6.le le_6
        replace hT := hT.le le_6
        simp only [go_sem, Nat.reduceEqDiff, Bool.false_eq_true, Nat.reduceBEq, ↓reduceIte]
        refine ev_pos (by trivial) ?_
        simp only [go_sem, Nat.reduceEqDiff, Bool.false_eq_true, Nat.reduceBEq, ↓reduceIte]
        refine ev_callP (cmp_ok _ _ _ x x h1 h6 (by omega) (by omega)) ?_
        rintro v_7 H_7 le_7 rfl _
        replace h1 := h1.le le_7
        replace hT := hT.le le_7
        simp only [go_sem, Nat.reduceEqDiff, Bool.false_eq_true, Nat.reduceBEq, ↓reduceIte]
        refine ev_pos (cmpN_self _) ?_
        simp only [go_sem, Nat.reduceEqDiff, Bool.false_eq_true, Nat.reduceBEq, ↓reduceIte]
        refine ev_if (fun h7 => ?_) (fun h7 => ?_)
        · simp only [go_sem, Nat.reduceEqDiff, Bool.false_eq_true, Nat.reduceBEq, ↓reduceIte]
          exact ⟨by trivial, by trivial⟩
        · have hx0 : x ≠ 0 := by omega
          have htz := tz_shift x N hx0
          have t1 := tz_lt_bl hx0
          simp only [go_sem, Nat.reduceEqDiff, Bool.false_eq_true, Nat.reduceBEq, ↓reduceIte]
          refine ev_callP (shl_ok _ _ x (N : Int) h1 (by omega)) ?_
          rintro v_8 H_8 le_8 h8 _
          replace h1 := h1.le le_8
          replace hT := hT.le le_8
          simp only [go_sem, Nat.reduceEqDiff, Bool.false_eq_true, Nat.reduceBEq, ↓reduceIte]
          rw [hcl] at h8
          refine ev_callP (zeros_ok _ hT _ _ h8 (by omega)) ?_
          rintro v_9 H_9 le_9 rfl _
          replace h1 := h1.le le_9
          replace hT := hT.le le_9
          simp only [go_sem, Nat.reduceEqDiff, Bool.false_eq_true, Nat.reduceBEq, ↓reduceIte]
          refine ev_callP (zeros_ok _ hT _ x h1 (by omega)) ?_
          rintro v_10 H_10 le_10 rfl _
          replace h1 := h1.le le_10
          replace hT := hT.le le_10
          simp only [go_sem, Nat.reduceEqDiff, Bool.false_eq_true, Nat.reduceBEq, ↓reduceIte]
          simp (disch := omega) only [nA64, nS64, nM64, nC64, nA64l, nS64l, nM64l, nM64r, nR64l, nL64l, nAu64, nMu64, nMu64r, nSu64, nAu64l, nLu64l, nCu64, nCu32, nCu8, nAu32, nLu32l, nSu8l, toNat_cast]
          refine ev_pos (by rw [htz]; omega) ?_
          simp only [go_sem, Nat.reduceEqDiff, Bool.false_eq_true, Nat.reduceBEq, ↓reduceIte]
          exact ⟨by trivial, by trivial⟩

theorem NatAdds_ok (H : PH) (hT : Tab H) (a b : ByteArray) : FnP Tryd.prog 9 [.string a, .string b] H fun v _ => v = .bool true := by
  refine of_cincturelaw1_NatAdds (by simp) ?_
  simp only [go_sem, Nat.reduceEqDiff, Bool.false_eq_true, Nat.reduceBEq, ↓reduceIte, p_cincturelaw1_NatAdds]
  refine ev_call (alive_ok _ hT) ?_
  rintro v_11 H_11 le_11 rfl _
  replace hT := hT.le le_11
  simp only [go_sem, Nat.reduceEqDiff, Bool.false_eq_true, Nat.reduceBEq, ↓reduceIte]
  refine ev_call (pair_ok _ a b) ?_
  rintro v_12 H_12 le_12 ⟨va, vb, ra, rb, rfl, h1, h2, h3, h4⟩ _
  replace hT := hT.le le_12
  simp only [go_sem, Nat.reduceEqDiff, Bool.false_eq_true, Nat.reduceBEq, ↓reduceIte]
  obtain ⟨A, l, c, rfl⟩ := h1.form
  obtain ⟨B, m, e, rfl⟩ := h2.form
  cases hk : pok a b with
  | false =>
    simp only [go_sem, Nat.reduceEqDiff, Bool.false_eq_true, Nat.reduceBEq, ↓reduceIte, hk]
    exact ⟨by trivial, by trivial⟩
  | true =>
    rw [hk, if_pos rfl] at h1 h2 h3 h4
    obtain ⟨hbx, hby⟩ := pok_bl hk
    generalize dv (bs a) = x at *
    generalize dv (bs b) = y at *
    have hs := bl_add x y
    have hm := bl_mul x y
    have hd := bl_mono (Nat.sub_le x y)
    simp only [go_sem, Nat.reduceEqDiff, Bool.false_eq_true, Nat.reduceBEq, ↓reduceIte, hk]
    by_cases hle : y ≤ x
    · skip
      refine ev_call (sub_okT _ _ _ x y h1 h2 (by omega) (by omega) hle) ?_
      rintro v_23 H_23 le_23 ⟨vs, rfl, g0⟩ _
      replace h1 := h1.le le_23
      replace h2 := h2.le le_23
      replace h3 := h3.le le_23
      replace h4 := h4.le le_23
      simp only [go_sem, Nat.reduceEqDiff, Bool.false_eq_true, Nat.reduceBEq, ↓reduceIte]
      obtain ⟨C, k, g, rfl⟩ := g0.form
      simp only [go_sem, Nat.reduceEqDiff, Bool.false_eq_true, Nat.reduceBEq, ↓reduceIte]
      refine ev_call (rcmp_ok _ _ _ x y h3 h4 (by omega) (by omega)) ?_
      rintro v_24 H_24 le_24 rfl _
      replace h1 := h1.le le_24
      replace h2 := h2.le le_24
      replace h3 := h3.le le_24
      replace h4 := h4.le le_24
      replace g0 := g0.le le_24
      simp only [go_sem, Nat.reduceEqDiff, Bool.false_eq_true, Nat.reduceBEq, ↓reduceIte]
      refine ev_pos (by unfold cmpN; split <;> (try split) <;> omega) ?_
      simp only [go_sem, Nat.reduceEqDiff, Bool.false_eq_true, Nat.reduceBEq, ↓reduceIte]
      refine ev_call (cmp_ok _ _ _ x y h1 h2 (by omega) (by omega)) ?_
      rintro v_21 H_21 le_21 rfl _
      replace h1 := h1.le le_21
      replace h2 := h2.le le_21
      replace h3 := h3.le le_21
      replace h4 := h4.le le_21
      replace g0 := g0.le le_21
      simp only [go_sem, Nat.reduceEqDiff, Bool.false_eq_true, Nat.reduceBEq, ↓reduceIte]
      refine ev_call (rcmp_ok _ _ _ x y h3 h4 (by omega) (by omega)) ?_
      rintro v_22 H_22 le_22 rfl _
      replace h1 := h1.le le_22
      replace h2 := h2.le le_22
      replace h3 := h3.le le_22
      replace h4 := h4.le le_22
      replace g0 := g0.le le_22
      simp only [go_sem, Nat.reduceEqDiff, Bool.false_eq_true, Nat.reduceBEq, ↓reduceIte]
      refine ev_neg (by simp) ?_
      simp only [go_sem, Nat.reduceEqDiff, Bool.false_eq_true, Nat.reduceBEq, ↓reduceIte]
      refine ev_call (text_ok _ _ _ g0 (by omega)) ?_
      rintro v_25 H_25 le_25 rfl _
      replace h1 := h1.le le_25
      replace h2 := h2.le le_25
      replace h3 := h3.le le_25
      replace h4 := h4.le le_25
      simp only [go_sem, Nat.reduceEqDiff, Bool.false_eq_true, Nat.reduceBEq, ↓reduceIte]
      refine ev_call (rsub_ok _ _ _ x y h3 h4 (by omega) hle) ?_
      rintro v_26 H_26 le_26 g5 _
      replace h1 := h1.le le_26
      replace h2 := h2.le le_26
      replace h3 := h3.le le_26
      replace h4 := h4.le le_26
      simp only [go_sem, Nat.reduceEqDiff, Bool.false_eq_true, Nat.reduceBEq, ↓reduceIte]
      refine ev_call (rtext_ok _ _ _ g5 (by omega)) ?_
      rintro v_27 H_27 le_27 rfl _
      replace h1 := h1.le le_27
      replace h2 := h2.le le_27
      replace h3 := h3.le le_27
      replace h4 := h4.le le_27
      simp only [go_sem, Nat.reduceEqDiff, Bool.false_eq_true, Nat.reduceBEq, ↓reduceIte]
      refine ev_neg (by simp) ?_
      simp only [go_sem, Nat.reduceEqDiff, Bool.false_eq_true, Nat.reduceBEq, ↓reduceIte]
      refine ev_call (add_ok _ _ _ x y h1 h2 (by omega) (by omega)) ?_
      rintro v_13 H_13 le_13 g1 _
      replace h1 := h1.le le_13
      replace h2 := h2.le le_13
      replace h3 := h3.le le_13
      replace h4 := h4.le le_13
      simp only [go_sem, Nat.reduceEqDiff, Bool.false_eq_true, Nat.reduceBEq, ↓reduceIte]
      refine ev_call (text_ok _ _ _ g1 (by omega)) ?_
      rintro v_14 H_14 le_14 rfl _
      replace h1 := h1.le le_14
      replace h2 := h2.le le_14
      replace h3 := h3.le le_14
      replace h4 := h4.le le_14
      simp only [go_sem, Nat.reduceEqDiff, Bool.false_eq_true, Nat.reduceBEq, ↓reduceIte]
      refine ev_call (radd_ok _ _ _ x y h3 h4 (by omega) (by omega)) ?_
      rintro v_15 H_15 le_15 g2 _
      replace h1 := h1.le le_15
      replace h2 := h2.le le_15
      replace h3 := h3.le le_15
      replace h4 := h4.le le_15
      simp only [go_sem, Nat.reduceEqDiff, Bool.false_eq_true, Nat.reduceBEq, ↓reduceIte]
      refine ev_call (rtext_ok _ _ _ g2 (by omega)) ?_
      rintro v_16 H_16 le_16 rfl _
      replace h1 := h1.le le_16
      replace h2 := h2.le le_16
      replace h3 := h3.le le_16
      replace h4 := h4.le le_16
      simp only [go_sem, Nat.reduceEqDiff, Bool.false_eq_true, Nat.reduceBEq, ↓reduceIte]
      refine ev_pos (by trivial) ?_
      simp only [go_sem, Nat.reduceEqDiff, Bool.false_eq_true, Nat.reduceBEq, ↓reduceIte]
      refine ev_call (mul_ok _ _ _ x y h1 h2 (by omega) (by omega)) ?_
      rintro v_17 H_17 le_17 g3 _
      replace h1 := h1.le le_17
      replace h2 := h2.le le_17
      replace h3 := h3.le le_17
      replace h4 := h4.le le_17
      simp only [go_sem, Nat.reduceEqDiff, Bool.false_eq_true, Nat.reduceBEq, ↓reduceIte]
      refine ev_call (text_ok _ _ _ g3 (by omega)) ?_
      rintro v_18 H_18 le_18 rfl _
      replace h1 := h1.le le_18
      replace h2 := h2.le le_18
      replace h3 := h3.le le_18
      replace h4 := h4.le le_18
      simp only [go_sem, Nat.reduceEqDiff, Bool.false_eq_true, Nat.reduceBEq, ↓reduceIte]
      refine ev_call (rmul_ok _ _ _ x y h3 h4 (by omega) (by omega)) ?_
      rintro v_19 H_19 le_19 g4 _
      replace h1 := h1.le le_19
      replace h2 := h2.le le_19
      replace h3 := h3.le le_19
      replace h4 := h4.le le_19
      simp only [go_sem, Nat.reduceEqDiff, Bool.false_eq_true, Nat.reduceBEq, ↓reduceIte]
      refine ev_call (rtext_ok _ _ _ g4 (by omega)) ?_
      rintro v_20 H_20 le_20 rfl _
      replace h1 := h1.le le_20
      replace h2 := h2.le le_20
      replace h3 := h3.le le_20
      replace h4 := h4.le le_20
      simp only [go_sem, Nat.reduceEqDiff, Bool.false_eq_true, Nat.reduceBEq, ↓reduceIte]
      refine ev_pos (by trivial) ?_
      simp only [go_sem, Nat.reduceEqDiff, Bool.false_eq_true, Nat.reduceBEq, ↓reduceIte]
      exact ⟨by trivial, by trivial⟩
    · skip
      refine ev_call (sub_okF _ _ _ x y h1 h2 (by omega) (by omega) hle) ?_
      rintro v_28 H_28 le_28 ⟨vs, rfl, g0⟩ _
      replace h1 := h1.le le_28
      replace h2 := h2.le le_28
      replace h3 := h3.le le_28
      replace h4 := h4.le le_28
      simp only [go_sem, Nat.reduceEqDiff, Bool.false_eq_true, Nat.reduceBEq, ↓reduceIte]
      obtain ⟨C, k, g, rfl⟩ := g0.form
      simp only [go_sem, Nat.reduceEqDiff, Bool.false_eq_true, Nat.reduceBEq, ↓reduceIte]
      refine ev_call (rcmp_ok _ _ _ x y h3 h4 (by omega) (by omega)) ?_
      rintro v_29 H_29 le_29 rfl _
      replace h1 := h1.le le_29
      replace h2 := h2.le le_29
      replace h3 := h3.le le_29
      replace h4 := h4.le le_29
      replace g0 := g0.le le_29
      simp only [go_sem, Nat.reduceEqDiff, Bool.false_eq_true, Nat.reduceBEq, ↓reduceIte]
      refine ev_neg (by unfold cmpN; rw [if_pos (by omega)]; decide) ?_
      simp only [go_sem, Nat.reduceEqDiff, Bool.false_eq_true, Nat.reduceBEq, ↓reduceIte]
      refine ev_call (cmp_ok _ _ _ x y h1 h2 (by omega) (by omega)) ?_
      rintro v_21 H_21 le_21 rfl _
      replace h1 := h1.le le_21
      replace h2 := h2.le le_21
      replace h3 := h3.le le_21
      replace h4 := h4.le le_21
      replace g0 := g0.le le_21
      simp only [go_sem, Nat.reduceEqDiff, Bool.false_eq_true, Nat.reduceBEq, ↓reduceIte]
      refine ev_call (rcmp_ok _ _ _ x y h3 h4 (by omega) (by omega)) ?_
      rintro v_22 H_22 le_22 rfl _
      replace h1 := h1.le le_22
      replace h2 := h2.le le_22
      replace h3 := h3.le le_22
      replace h4 := h4.le le_22
      replace g0 := g0.le le_22
      simp only [go_sem, Nat.reduceEqDiff, Bool.false_eq_true, Nat.reduceBEq, ↓reduceIte]
      refine ev_neg (by simp) ?_
      simp only [go_sem, Nat.reduceEqDiff, Bool.false_eq_true, Nat.reduceBEq, ↓reduceIte]
      refine ev_call (text_ok _ _ _ g0 (by decide)) ?_
      rintro v_30 H_30 le_30 rfl _
      replace h1 := h1.le le_30
      replace h2 := h2.le le_30
      replace h3 := h3.le le_30
      replace h4 := h4.le le_30
      simp only [go_sem, Nat.reduceEqDiff, Bool.false_eq_true, Nat.reduceBEq, ↓reduceIte]
      refine ev_neg (by rw [ofB_zero]; simp) ?_
      simp only [go_sem, Nat.reduceEqDiff, Bool.false_eq_true, Nat.reduceBEq, ↓reduceIte]
      refine ev_call (add_ok _ _ _ x y h1 h2 (by omega) (by omega)) ?_
      rintro v_13 H_13 le_13 g1 _
      replace h1 := h1.le le_13
      replace h2 := h2.le le_13
      replace h3 := h3.le le_13
      replace h4 := h4.le le_13
      simp only [go_sem, Nat.reduceEqDiff, Bool.false_eq_true, Nat.reduceBEq, ↓reduceIte]
      refine ev_call (text_ok _ _ _ g1 (by omega)) ?_
      rintro v_14 H_14 le_14 rfl _
      replace h1 := h1.le le_14
      replace h2 := h2.le le_14
      replace h3 := h3.le le_14
      replace h4 := h4.le le_14
      simp only [go_sem, Nat.reduceEqDiff, Bool.false_eq_true, Nat.reduceBEq, ↓reduceIte]
      refine ev_call (radd_ok _ _ _ x y h3 h4 (by omega) (by omega)) ?_
      rintro v_15 H_15 le_15 g2 _
      replace h1 := h1.le le_15
      replace h2 := h2.le le_15
      replace h3 := h3.le le_15
      replace h4 := h4.le le_15
      simp only [go_sem, Nat.reduceEqDiff, Bool.false_eq_true, Nat.reduceBEq, ↓reduceIte]
      refine ev_call (rtext_ok _ _ _ g2 (by omega)) ?_
      rintro v_16 H_16 le_16 rfl _
      replace h1 := h1.le le_16
      replace h2 := h2.le le_16
      replace h3 := h3.le le_16
      replace h4 := h4.le le_16
      simp only [go_sem, Nat.reduceEqDiff, Bool.false_eq_true, Nat.reduceBEq, ↓reduceIte]
      refine ev_pos (by trivial) ?_
      simp only [go_sem, Nat.reduceEqDiff, Bool.false_eq_true, Nat.reduceBEq, ↓reduceIte]
      refine ev_call (mul_ok _ _ _ x y h1 h2 (by omega) (by omega)) ?_
      rintro v_17 H_17 le_17 g3 _
      replace h1 := h1.le le_17
      replace h2 := h2.le le_17
      replace h3 := h3.le le_17
      replace h4 := h4.le le_17
      simp only [go_sem, Nat.reduceEqDiff, Bool.false_eq_true, Nat.reduceBEq, ↓reduceIte]
      refine ev_call (text_ok _ _ _ g3 (by omega)) ?_
      rintro v_18 H_18 le_18 rfl _
      replace h1 := h1.le le_18
      replace h2 := h2.le le_18
      replace h3 := h3.le le_18
      replace h4 := h4.le le_18
      simp only [go_sem, Nat.reduceEqDiff, Bool.false_eq_true, Nat.reduceBEq, ↓reduceIte]
      refine ev_call (rmul_ok _ _ _ x y h3 h4 (by omega) (by omega)) ?_
      rintro v_19 H_19 le_19 g4 _
      replace h1 := h1.le le_19
      replace h2 := h2.le le_19
      replace h3 := h3.le le_19
      replace h4 := h4.le le_19
      simp only [go_sem, Nat.reduceEqDiff, Bool.false_eq_true, Nat.reduceBEq, ↓reduceIte]
      refine ev_call (rtext_ok _ _ _ g4 (by omega)) ?_
      rintro v_20 H_20 le_20 rfl _
      replace h1 := h1.le le_20
      replace h2 := h2.le le_20
      replace h3 := h3.le le_20
      replace h4 := h4.le le_20
      simp only [go_sem, Nat.reduceEqDiff, Bool.false_eq_true, Nat.reduceBEq, ↓reduceIte]
      refine ev_pos (by trivial) ?_
      simp only [go_sem, Nat.reduceEqDiff, Bool.false_eq_true, Nat.reduceBEq, ↓reduceIte]
      exact ⟨by trivial, by trivial⟩

theorem square_id (y : Nat) (h : 1 ≤ y) : y * y - 1 = (y - 1) * (y + 1) := by
  obtain ⟨z, rfl⟩ : ∃ z, y = z + 1 := ⟨y - 1, by omega⟩
  simp only [Nat.add_sub_cancel, Nat.add_mul, Nat.mul_add, Nat.mul_one, Nat.one_mul]
  omega

theorem NatSquares_ok (H : PH) (hT : Tab H) (a : ByteArray) (n : Int) (wn : (Lit.int .i64 n).wf = true) : FnP Tryd.prog 10 [.string a, .int .i64 n] H fun v _ => v = .bool true := by
  refine of_cincturelaw1_NatSquares (by simp) ?_
  simp only [go_sem, Nat.reduceEqDiff, Bool.false_eq_true, Nat.reduceBEq, ↓reduceIte, p_cincturelaw1_NatSquares]
  refine ev_call (alive_ok _ hT) ?_
  rintro v_31 H_31 le_31 rfl _
  replace hT := hT.le le_31
  simp only [go_sem, Nat.reduceEqDiff, Bool.false_eq_true, Nat.reduceBEq, ↓reduceIte]
  refine ev_call (pair_ok _ a ⟨#[48]⟩) ?_
  rintro v_32 H_32 le_32 ⟨va, vb, ra, rb, rfl, h1, h2, h3, h4⟩ _
  replace hT := hT.le le_32
  simp only [go_sem, Nat.reduceEqDiff, Bool.false_eq_true, Nat.reduceBEq, ↓reduceIte]
  obtain ⟨A, l, c, rfl⟩ := h1.form
  obtain ⟨B, m, e, rfl⟩ := h2.form
  obtain ⟨A', l', c', rfl, hl'⟩ := h3.form
  cases hk : pok a ⟨#[48]⟩ with
  | false =>
    simp only [go_sem, Nat.reduceEqDiff, Bool.false_eq_true, Nat.reduceBEq, ↓reduceIte, hk]
    exact ⟨by trivial, by trivial⟩
  | true =>
    rw [hk, if_pos rfl] at h1 h3 hl'
    have hbx := (pok_bl hk).1
    generalize dv (bs a) = x at *
    simp only [go_sem, Nat.reduceEqDiff, Bool.false_eq_true, Nat.reduceBEq, ↓reduceIte, hk]
    refine ev_if (fun h => ?_) (fun h => ?_)
    · simp only [go_sem, Nat.reduceEqDiff, Bool.false_eq_true, Nat.reduceBEq, ↓reduceIte]
      exact ⟨by trivial, by trivial⟩
    · have hx0 : x ≠ 0 := fun e => h (by rw [hl'.2 e]; rfl)
      simp only [go_sem, Nat.reduceEqDiff, Bool.false_eq_true, Nat.reduceBEq, ↓reduceIte]
      refine ev_if (fun h5 => ?_) (fun h5 => ?_)
      · simp only [go_sem, Nat.reduceEqDiff, Bool.false_eq_true, Nat.reduceBEq, ↓reduceIte]
        exact ⟨by trivial, by trivial⟩
      · simp only [go_sem, Nat.reduceEqDiff, Bool.false_eq_true, Nat.reduceBEq, ↓reduceIte]
        refine ev_if (fun h6 => ?_) (fun h6 => ?_)
        · simp only [go_sem, Nat.reduceEqDiff, Bool.false_eq_true, Nat.reduceBEq, ↓reduceIte]
          exact ⟨by trivial, by trivial⟩
        · obtain ⟨N, rfl⟩ := Int.eq_ofNat_of_zero_le (show 0 ≤ n by omega)
          have hcl : clip (N : Int) = N := clip_nat N (by omega)
          have hb2 : bl (x * 2 ^ N) ≤ 800 + N := bl_shl hbx
          have hb3 := bl_add (x * 2 ^ N) x
          simp only [go_sem, Nat.reduceEqDiff, Bool.false_eq_true, Nat.reduceBEq, ↓reduceIte]
          refine ev_callP (shl_ok _ _ x (N : Int) h1 (by omega)) ?_
          rintro v_33 H_33 le_33 h5 _
          replace h1 := h1.le le_33
          simp only [go_sem, Nat.reduceEqDiff, Bool.false_eq_true, Nat.reduceBEq, ↓reduceIte]
          rw [hcl] at h5
          refine ev_callP (add_ok _ _ _ _ x h5 h1 (by omega) (by omega)) ?_
          rintro v_34 H_34 le_34 g1 _
          simp only [go_sem, Nat.reduceEqDiff, Bool.false_eq_true, Nat.reduceBEq, ↓reduceIte]
          obtain ⟨C, k, g, rfl⟩ := g1.form
          have hy1 : 1 ≤ x * 2 ^ N + x := by omega
          have hby : bl (x * 2 ^ N + x) ≤ 3000 := by omega
          generalize x * 2 ^ N + x = y at *
          clear hb2 hb3 hbx h5 h1
          have hb4 := bl_mul y y
          have hb5 := bl_add y 1
          have hb6 := bl_mono (Nat.sub_le y 1)
          have hb7 := bl_mul (y - 1) (y + 1)
          have hb8 := bl_mono (Nat.sub_le (y * y) 1)
          have one : bl 1 = 1 := rfl
          have hyy : 1 ≤ y * y := Nat.mul_le_mul hy1 hy1
          simp only [go_sem, Nat.reduceEqDiff, Bool.false_eq_true, Nat.reduceBEq, ↓reduceIte]
          refine ev_call (of_ok _ 1 (by decide)) ?_
          rintro v_35 H_35 le_35 g2 _
          replace g1 := g1.le le_35
          simp only [go_sem, Nat.reduceEqDiff, Bool.false_eq_true, Nat.reduceBEq, ↓reduceIte]
          obtain ⟨D, k2, e2, rfl⟩ := g2.form
          simp only [go_sem, Nat.reduceEqDiff, Bool.false_eq_true, Nat.reduceBEq, ↓reduceIte]
          refine ev_call (sub_okT _ _ _ y 1 g1 g2 (by omega) (by omega) hy1) ?_
          rintro v_36 H_36 le_36 ⟨vs, rfl, g3⟩ _
          replace g1 := g1.le le_36
          replace g2 := g2.le le_36
          simp only [go_sem, Nat.reduceEqDiff, Bool.false_eq_true, Nat.reduceBEq, ↓reduceIte]
          obtain ⟨E, k3, e3, rfl⟩ := g3.form
          simp only [go_sem, Nat.reduceEqDiff, Bool.false_eq_true, Nat.reduceBEq, ↓reduceIte]
          refine ⟨?_, ?_⟩
          · skip
            refine ev_callP (mul_ok _ _ _ y y g1 g1 (by omega) (by omega)) ?_
            rintro v_41 H_41 le_41 g4 _
            replace g1 := g1.le le_41
            replace g2 := g2.le le_41
            replace g3 := g3.le le_41
            simp only [go_sem, Nat.reduceEqDiff, Bool.false_eq_true, Nat.reduceBEq, ↓reduceIte]
            refine ⟨?_, ?_⟩
            · skip
              refine ev_callP (sub_okT _ _ _ (y * y) 1 g4 g2 (by omega) (by omega) hyy) ?_
              rintro v_37 H_37 le_37 ⟨vt, rfl, g5⟩ _
              replace g1 := g1.le le_37
              replace g2 := g2.le le_37
              replace g3 := g3.le le_37
              simp only [go_sem, Nat.reduceEqDiff, Bool.false_eq_true, Nat.reduceBEq, ↓reduceIte]
              obtain ⟨F, k4, e4, rfl⟩ := g5.form
              simp only [go_sem, Nat.reduceEqDiff, Bool.false_eq_true, Nat.reduceBEq, ↓reduceIte]
              refine ev_callP (add_ok _ _ _ y 1 g1 g2 (by omega) (by omega)) ?_
              rintro v_38 H_38 le_38 g6 _
              replace g3 := g3.le le_38
              replace g5 := g5.le le_38
              simp only [go_sem, Nat.reduceEqDiff, Bool.false_eq_true, Nat.reduceBEq, ↓reduceIte]
              refine ev_callP (mul_ok _ _ _ (y - 1) (y + 1) g3 g6 (by omega) (by omega)) ?_
              rintro v_39 H_39 le_39 g7 _
              replace g5 := g5.le le_39
              simp only [go_sem, Nat.reduceEqDiff, Bool.false_eq_true, Nat.reduceBEq, ↓reduceIte]
              refine ev_callP (cmp_ok _ _ _ _ _ g5 g7 (by omega) (by omega)) ?_
              rintro v_40 H_40 le_40 rfl _
              simp only [go_sem, Nat.reduceEqDiff, Bool.false_eq_true, Nat.reduceBEq, ↓reduceIte]
              refine ev_pos (by rw [square_id y hy1]; exact cmpN_self _) ?_
              simp only [go_sem, Nat.reduceEqDiff, Bool.false_eq_true, Nat.reduceBEq, ↓reduceIte]
              exact ⟨by trivial, by trivial⟩
            · skip
              refine ev_callP (sub_okT _ _ _ (y * y) 1 g4 g2 (by omega) (by omega) hyy) ?_
              rintro v_37 H_37 le_37 ⟨vt, rfl, g5⟩ _
              replace g1 := g1.le le_37
              replace g2 := g2.le le_37
              replace g3 := g3.le le_37
              simp only [go_sem, Nat.reduceEqDiff, Bool.false_eq_true, Nat.reduceBEq, ↓reduceIte]
              obtain ⟨F, k4, e4, rfl⟩ := g5.form
              simp only [go_sem, Nat.reduceEqDiff, Bool.false_eq_true, Nat.reduceBEq, ↓reduceIte]
              refine ev_callP (add_ok _ _ _ y 1 g1 g2 (by omega) (by omega)) ?_
              rintro v_38 H_38 le_38 g6 _
              replace g3 := g3.le le_38
              replace g5 := g5.le le_38
              simp only [go_sem, Nat.reduceEqDiff, Bool.false_eq_true, Nat.reduceBEq, ↓reduceIte]
              refine ev_callP (mul_ok _ _ _ (y - 1) (y + 1) g3 g6 (by omega) (by omega)) ?_
              rintro v_39 H_39 le_39 g7 _
              replace g5 := g5.le le_39
              simp only [go_sem, Nat.reduceEqDiff, Bool.false_eq_true, Nat.reduceBEq, ↓reduceIte]
              refine ev_callP (cmp_ok _ _ _ _ _ g5 g7 (by omega) (by omega)) ?_
              rintro v_40 H_40 le_40 rfl _
              simp only [go_sem, Nat.reduceEqDiff, Bool.false_eq_true, Nat.reduceBEq, ↓reduceIte]
              refine ev_pos (by rw [square_id y hy1]; exact cmpN_self _) ?_
              simp only [go_sem, Nat.reduceEqDiff, Bool.false_eq_true, Nat.reduceBEq, ↓reduceIte]
              exact ⟨by trivial, by trivial⟩
          · skip
            refine ev_callP (mul_ok _ _ _ y y g1 g1 (by omega) (by omega)) ?_
            rintro v_42 H_42 le_42 g4 _
            replace g1 := g1.le le_42
            replace g2 := g2.le le_42
            replace g3 := g3.le le_42
            simp only [go_sem, Nat.reduceEqDiff, Bool.false_eq_true, Nat.reduceBEq, ↓reduceIte]
            refine ev_callP (sub_okT _ _ _ (y * y) 1 g4 g2 (by omega) (by omega) hyy) ?_
            rintro v_37 H_37 le_37 ⟨vt, rfl, g5⟩ _
            replace g1 := g1.le le_37
            replace g2 := g2.le le_37
            replace g3 := g3.le le_37
            simp only [go_sem, Nat.reduceEqDiff, Bool.false_eq_true, Nat.reduceBEq, ↓reduceIte]
            obtain ⟨F, k4, e4, rfl⟩ := g5.form
            simp only [go_sem, Nat.reduceEqDiff, Bool.false_eq_true, Nat.reduceBEq, ↓reduceIte]
            refine ev_callP (add_ok _ _ _ y 1 g1 g2 (by omega) (by omega)) ?_
            rintro v_38 H_38 le_38 g6 _
            replace g3 := g3.le le_38
            replace g5 := g5.le le_38
            simp only [go_sem, Nat.reduceEqDiff, Bool.false_eq_true, Nat.reduceBEq, ↓reduceIte]
            refine ev_callP (mul_ok _ _ _ (y - 1) (y + 1) g3 g6 (by omega) (by omega)) ?_
            rintro v_39 H_39 le_39 g7 _
            replace g5 := g5.le le_39
            simp only [go_sem, Nat.reduceEqDiff, Bool.false_eq_true, Nat.reduceBEq, ↓reduceIte]
            refine ev_callP (cmp_ok _ _ _ _ _ g5 g7 (by omega) (by omega)) ?_
            rintro v_40 H_40 le_40 rfl _
            simp only [go_sem, Nat.reduceEqDiff, Bool.false_eq_true, Nat.reduceBEq, ↓reduceIte]
            refine ev_pos (by rw [square_id y hy1]; exact cmpN_self _) ?_
            simp only [go_sem, Nat.reduceEqDiff, Bool.false_eq_true, Nat.reduceBEq, ↓reduceIte]
            exact ⟨by trivial, by trivial⟩

end Go.Proofs.YtlhhdlhnpgiamaaDoor.X
set_option linter.unusedVariables false
set_option linter.unusedSimpArgs false
namespace Go.Proofs.YtlhhdlhnpgiamaaDoor.X
open Go Go.RowKit Go.Proofs

theorem rdiv_ok (H : PH) (va vb : Value) (x y : Nat) (ha : RefV H va x) (hb : RefV H vb y) (hbx : bl x ≤ 4294967290) (hby : bl y ≤ 4294967290) (hy : y ≠ 0) : FnP Tryd.prog 45 [va, vb] H fun v H' => ∃ vq vr, v = .tuple #[vq, vr] ∧ RefV H' vq (x / y) ∧ RefV H' vr (x % y) := by
  refine of_cinctureref1_DivNat (by simp) ?_
  simp only [go_sem, Nat.reduceEqDiff, Bool.false_eq_true, Nat.reduceBEq, ↓reduceIte, p_cinctureref1_DivNat]
  refine ev_call (rbits_ok _ _ x ha (by omega)) ?_
  rintro v_1 H_1 le_1 rfl _
  replace ha := ha.le le_1
  replace hb := hb.le le_1
  simp only [go_sem, Nat.reduceEqDiff, Bool.false_eq_true, Nat.reduceBEq, ↓reduceIte]
  refine ev_call (rbits_ok _ _ y hb (by omega)) ?_
  rintro v_2 H_2 le_2 rfl _
  replace ha := ha.le le_2
  replace hb := hb.le le_2
  simp only [go_sem, Nat.reduceEqDiff, Bool.false_eq_true, Nat.reduceBEq, ↓reduceIte]
  have hyb := bl_pos hy
  have hi : x < y * 2 ^ (bl x + 1 - bl y) := by
    have h1 := lt_two_pow_bl x
    have h2 := two_pow_le_bl hy
    refine Nat.lt_of_lt_of_le h1 (Nat.le_trans ?_ (Nat.mul_le_mul_right _ h2))
    rw [← Nat.pow_add]
    exact Nat.pow_le_pow_right (by decide) (by omega)
  refine ev_loop (fun n s => ∃ (k : Nat) (z : Int) (vq vr : Value) (q r : Nat) (H1 : PH), (k = 0 ∧ z < 0 ∨ z = (k : Int) - 1) ∧ n = k ∧ k ≤ bl x + 1 - bl y ∧ x = q * y + r ∧ r < y * 2 ^ k ∧ RefV H1 vb y ∧ RefV H1 vq q ∧ RefV H1 vr r ∧
    s = ⟨[(8, .v (.int .i64 z)), (7, .v vr), (6, .v vq), (1, .v vb)], [], H1, PH.no⟩)
    _ _ ⟨bl x + 1 - bl y, (bl x : Int) - bl y, .slice none 0 0, va, 0, x, H_2, by omega, rfl, Nat.le_refl _, by omega, hi, hb, RefV.zero _, ha, rfl⟩ ⟨rfl, by simp only [go_sem, Nat.reduceEqDiff, Bool.false_eq_true, Nat.reduceBEq, ↓reduceIte, and_self, Option.some.injEq, SV.v.injEq, SV.ptr.injEq, Value.int.injEq, Value.bool.injEq, Value.slice.injEq, true_and, and_true] <;> (repeat' apply And.intro) <;> first | rfl | omega | (simp (disch := omega) only [w64, wu64, wu32, wu8] <;> omega), by simp only [go_sem, Nat.reduceEqDiff, Bool.false_eq_true, Nat.reduceBEq, ↓reduceIte, and_self, Option.some.injEq, SV.v.injEq, SV.ptr.injEq, Value.int.injEq, Value.bool.injEq, Value.slice.injEq, true_and, and_true] <;> (repeat' apply And.intro) <;> rfl, rfl, PH.le.refl _⟩ ?_
  clear ha hb hi
  rintro n s ⟨_, z, vq, vr, q, r, H1, hz, rfl, hk, hx, hr, hb, hq, hrv, rfl⟩
  have hrx : r ≤ x := by rw [hx]; exact Nat.le_add_left _ _
  have hqx : q ≤ x := by
    rw [hx]
    exact Nat.le_trans (Nat.le_mul_of_pos_right _ (Nat.pos_of_ne_zero hy)) (Nat.le_add_right _ _)
  have hbr := bl_mono hrx
  have hbq := bl_mono hqx
  simp only [go_sem, Nat.reduceEqDiff, Bool.false_eq_true, Nat.reduceBEq, ↓reduceIte]
  refine ev_if (fun h => ?_) (fun h => ?_)
  · obtain ⟨k, rfl⟩ : ∃ k, n = k + 1 := ⟨n - 1, by omega⟩
    have hzk : z = (k : Int) := by omega
    subst hzk
    have hsh : bl (y * 2 ^ k) ≤ bl y + k := bl_shl (Nat.le_refl _)
    simp only [go_sem, Nat.reduceEqDiff, Bool.false_eq_true, Nat.reduceBEq, ↓reduceIte]
    refine ev_call (rshl_ok _ _ y k hb (by omega) (by omega)) ?_
    rintro v_3 H_3 le_3 hx2 _
    replace hb := hb.le le_3
    replace hq := hq.le le_3
    replace hrv := hrv.le le_3
    simp only [go_sem, Nat.reduceEqDiff, Bool.false_eq_true, Nat.reduceBEq, ↓reduceIte]
    refine ev_call (rcmp_ok _ _ _ _ _ hx2 hrv (by omega) (by omega)) ?_
    rintro v_4 H_4 le_4 rfl _
    replace hb := hb.le le_4
    replace hq := hq.le le_4
    replace hrv := hrv.le le_4
    replace hx2 := hx2.le le_4
    simp only [go_sem, Nat.reduceEqDiff, Bool.false_eq_true, Nat.reduceBEq, ↓reduceIte]
    refine ev_if (fun h2 => ?_) (fun h2 => ?_)
    · have hle : y * 2 ^ k ≤ r := by
        unfold cmpN at h2
        split at h2
        · omega
        · split at h2 <;> omega
      have b1 : bl 1 = 1 := rfl
      have b2 : bl (1 * 2 ^ k) ≤ 1 + k := bl_shl (by omega)
      simp only [go_sem, Nat.reduceEqDiff, Bool.false_eq_true, Nat.reduceBEq, ↓reduceIte]
      refine ev_call (rsub_ok _ _ _ _ _ hrv hx2 (by omega) hle) ?_
      rintro v_5 H_5 le_5 hr2 _
      replace hb := hb.le le_5
      replace hq := hq.le le_5
      simp only [go_sem, Nat.reduceEqDiff, Bool.false_eq_true, Nat.reduceBEq, ↓reduceIte]
      refine ev_call (rnatOf_ok _ 1 (by decide)) ?_
      rintro v_6 H_6 le_6 h1 _
      replace hb := hb.le le_6
      replace hq := hq.le le_6
      replace hr2 := hr2.le le_6
      simp only [go_sem, Nat.reduceEqDiff, Bool.false_eq_true, Nat.reduceBEq, ↓reduceIte]
      refine ev_call (rshl_ok _ _ 1 k h1 (by omega) (by omega)) ?_
      rintro v_7 H_7 le_7 h2k _
      replace hb := hb.le le_7
      replace hq := hq.le le_7
      replace hr2 := hr2.le le_7
      simp only [go_sem, Nat.reduceEqDiff, Bool.false_eq_true, Nat.reduceBEq, ↓reduceIte]
      refine ev_call (radd_ok _ _ _ q _ hq h2k (by omega) (by omega)) ?_
      rintro v_8 H_8 le_8 hq2 _
      replace hb := hb.le le_8
      replace hr2 := hr2.le le_8
      simp only [go_sem, Nat.reduceEqDiff, Bool.false_eq_true, Nat.reduceBEq, ↓reduceIte]
      rw [Nat.one_mul] at hq2
      refine k_next k _ (by omega) ⟨k, (k : Int) - 1, _, _, q + 2 ^ k, r - y * 2 ^ k, _, .inr rfl, rfl, by omega, ?_, ?_, hb, hq2, hr2, rfl⟩ ⟨rfl, by simp only [go_sem, Nat.reduceEqDiff, Bool.false_eq_true, Nat.reduceBEq, ↓reduceIte, and_self, Option.some.injEq, SV.v.injEq, SV.ptr.injEq, Value.int.injEq, Value.bool.injEq, Value.slice.injEq, true_and, and_true] <;> (repeat' apply And.intro) <;> first | rfl | omega | (simp (disch := omega) only [w64, wu64, wu32, wu8] <;> omega), by simp only [go_sem, Nat.reduceEqDiff, Bool.false_eq_true, Nat.reduceBEq, ↓reduceIte, and_self, Option.some.injEq, SV.v.injEq, SV.ptr.injEq, Value.int.injEq, Value.bool.injEq, Value.slice.injEq, true_and, and_true] <;> (repeat' apply And.intro) <;> rfl, rfl, PH.le.refl _⟩
      · rw [hx, Nat.add_mul, Nat.mul_comm (2 ^ k)]; omega
      · rw [Nat.pow_succ, ← Nat.mul_assoc] at hr; omega
    · have hlt : r < y * 2 ^ k := by
        unfold cmpN at h2
        split at h2
        · exact absurd (by decide) h2
        · split at h2
          · assumption
          · exact absurd (by decide) h2
      simp only [go_sem, Nat.reduceEqDiff, Bool.false_eq_true, Nat.reduceBEq, ↓reduceIte]
      refine k_next k _ (by omega) ⟨k, (k : Int) - 1, vq, vr, q, r, _, .inr rfl, rfl, by omega, hx, hlt, hb, hq, hrv, rfl⟩ ⟨rfl, by simp only [go_sem, Nat.reduceEqDiff, Bool.false_eq_true, Nat.reduceBEq, ↓reduceIte, and_self, Option.some.injEq, SV.v.injEq, SV.ptr.injEq, Value.int.injEq, Value.bool.injEq, Value.slice.injEq, true_and, and_true] <;> (repeat' apply And.intro) <;> first | rfl | omega | (simp (disch := omega) only [w64, wu64, wu32, wu8] <;> omega), by simp only [go_sem, Nat.reduceEqDiff, Bool.false_eq_true, Nat.reduceBEq, ↓reduceIte, and_self, Option.some.injEq, SV.v.injEq, SV.ptr.injEq, Value.int.injEq, Value.bool.injEq, Value.slice.injEq, true_and, and_true] <;> (repeat' apply And.intro) <;> rfl, rfl, PH.le.refl _⟩
  · have hk0 : n = 0 := by omega
    subst hk0
    rw [Nat.pow_zero, Nat.mul_one] at hr
    simp only [go_sem, Nat.reduceEqDiff, Bool.false_eq_true, Nat.reduceBEq, ↓reduceIte]
    have hy0 := Nat.pos_of_ne_zero hy
    have e1 : x / y = q := by rw [hx, Nat.add_comm, Nat.add_mul_div_right _ _ hy0, Nat.div_eq_of_lt hr, Nat.zero_add]
    have e2 : x % y = r := by rw [hx, Nat.add_comm, Nat.add_mul_mod_self_right, Nat.mod_eq_of_lt hr]
    exact ⟨by trivial, _, _, rfl, by rw [e1]; exact hq, by rw [e2]; exact hrv⟩

theorem rgcd_ok (H : PH) (va vb : Value) (x y : Nat) (ha : RefV H va x) (hb : RefV H vb y) (hbx : bl x ≤ 4294967290) (hby : bl y ≤ 4294967290) : FnP Tryd.prog 44 [va, vb] H fun v H' => RefV H' v (Nat.gcd x y) := by
  refine of_cinctureref1_Gcd (by simp) ?_
  simp only [go_sem, Nat.reduceEqDiff, Bool.false_eq_true, Nat.reduceBEq, ↓reduceIte, p_cinctureref1_Gcd]
  refine ev_loop (fun n s => ∃ (p q : Nat) (va vb : Value) (H1 : PH), n = q ∧ Nat.gcd p q = Nat.gcd x y ∧ bl p ≤ 4294967290 ∧ bl q ≤ 4294967290 ∧ RefV H1 va p ∧ RefV H1 vb q ∧ s = ⟨[(1, .v vb), (0, .v va)], [], H1, PH.no⟩)
    _ _ ⟨x, y, va, vb, H, rfl, rfl, hbx, hby, ha, hb, rfl⟩ ⟨rfl, by simp only [go_sem, Nat.reduceEqDiff, Bool.false_eq_true, Nat.reduceBEq, ↓reduceIte, and_self, Option.some.injEq, SV.v.injEq, SV.ptr.injEq, Value.int.injEq, Value.bool.injEq, Value.slice.injEq, true_and, and_true] <;> (repeat' apply And.intro) <;> first | rfl | omega | (simp (disch := omega) only [w64, wu64, wu32, wu8] <;> omega), by simp only [go_sem, Nat.reduceEqDiff, Bool.false_eq_true, Nat.reduceBEq, ↓reduceIte, and_self, Option.some.injEq, SV.v.injEq, SV.ptr.injEq, Value.int.injEq, Value.bool.injEq, Value.slice.injEq, true_and, and_true] <;> (repeat' apply And.intro) <;> rfl, rfl, PH.le.refl _⟩ ?_
  clear ha hb hbx hby
  rintro q s ⟨p, _, va, vb, H1, rfl, hg, hbp, hbq, ha, hb, rfl⟩
  obtain ⟨B, m, e, rfl, hm⟩ := hb.form
  simp only [go_sem, Nat.reduceEqDiff, Bool.false_eq_true, Nat.reduceBEq, ↓reduceIte]
  refine ev_if (fun h => ?_) (fun h => ?_)
  · have hq0 : q ≠ 0 := fun e0 => by have h9 := hm.2 e0; rw [h9] at h; exact absurd h (by decide)
    have hmod := Nat.mod_lt p (Nat.pos_of_ne_zero hq0)
    have hbm := bl_mono (Nat.le_of_lt hmod)
    simp only [go_sem, Nat.reduceEqDiff, Bool.false_eq_true, Nat.reduceBEq, ↓reduceIte]
    refine ev_call (rdiv_ok _ _ _ p q ha hb hbp hbq hq0) ?_
    rintro v_9 H_9 le_9 ⟨vq, vr, rfl, h1, h2⟩ _
    replace hb := hb.le le_9
    simp only [go_sem, Nat.reduceEqDiff, Bool.false_eq_true, Nat.reduceBEq, ↓reduceIte]
    refine k_next (p % q) _ hmod ⟨q, p % q, _, _, _, rfl, by rw [← hg, Nat.gcd_comm q, ← Nat.gcd_rec, Nat.gcd_comm], hbq, by omega, hb, h2, rfl⟩ ⟨rfl, by simp only [go_sem, Nat.reduceEqDiff, Bool.false_eq_true, Nat.reduceBEq, ↓reduceIte, and_self, Option.some.injEq, SV.v.injEq, SV.ptr.injEq, Value.int.injEq, Value.bool.injEq, Value.slice.injEq, true_and, and_true] <;> (repeat' apply And.intro) <;> first | rfl | omega | (simp (disch := omega) only [w64, wu64, wu32, wu8] <;> omega), by simp only [go_sem, Nat.reduceEqDiff, Bool.false_eq_true, Nat.reduceBEq, ↓reduceIte, and_self, Option.some.injEq, SV.v.injEq, SV.ptr.injEq, Value.int.injEq, Value.bool.injEq, Value.slice.injEq, true_and, and_true] <;> (repeat' apply And.intro) <;> rfl, rfl, PH.le.refl _⟩
  · have hq0 : q = 0 := hm.1 (by omega)
    subst hq0
    rw [Nat.gcd_zero_right] at hg
    simp only [go_sem, Nat.reduceEqDiff, Bool.false_eq_true, Nat.reduceBEq, ↓reduceIte]
    rw [hg] at ha
    exact ⟨by trivial, ha⟩

end Go.Proofs.YtlhhdlhnpgiamaaDoor.X
set_option linter.unusedVariables false
set_option linter.unusedSimpArgs false
namespace Go.Proofs.YtlhhdlhnpgiamaaDoor.X
open Go Go.RowKit Go.Proofs

theorem div_ok1 (H : PH) (va vb : Value) (x y : Nat) (ha : NatV H va x) (hb : NatV H vb y) (hbx : bl x ≤ 4294967200) (hby : bl y ≤ 4294967200) (hy : y ≠ 0) : FnP Tryd.prog 42 [va, vb] H fun v H' => ∃ vq vr, v = .tuple #[vq, vr, .bool true] ∧ NatV H' vq (x / y) ∧ NatV H' vr (x % y) :=
  (div_ok H va vb x y ha hb hbx hby).mono fun v H' _ hR => by
    obtain ⟨vq, vr, h1, h2, h3⟩ := hR
    rw [decide_eq_true hy] at h1
    rw [if_neg hy] at h3
    exact ⟨vq, vr, h1, h2, h3⟩
theorem div_ok0 (H : PH) (va vb : Value) (x : Nat) (ha : NatV H va x) (hb : NatV H vb 0) (hbx : bl x ≤ 4294967200) : FnP Tryd.prog 42 [va, vb] H fun v H' => ∃ vq vr, v = .tuple #[vq, vr, .bool false] ∧ NatV H' vq 0 ∧ NatV H' vr 0 :=
  (div_ok H va vb x 0 ha hb hbx (by decide)).mono fun v H' _ hR => by
    obtain ⟨vq, vr, h1, h2, h3⟩ := hR
    rw [Nat.div_zero] at h2
    exact ⟨vq, vr, h1, h2, h3⟩
theorem bl_gcd' {x y n : Nat} (hx : bl x ≤ n) (hy : bl y ≤ n) : bl (Nat.gcd x y) ≤ n := by
  by_cases h : x = 0
  · subst h; rw [Nat.gcd_zero_left]; exact hy
  · exact bl_gcd h hx

theorem NatDivides_ok (H : PH) (hT : Tab H) (a b : ByteArray) : FnP Tryd.prog 11 [.string a, .string b] H fun v _ => v = .bool true := by
  refine of_cincturelaw1_NatDivides (by simp) ?_
  simp only [go_sem, Nat.reduceEqDiff, Bool.false_eq_true, Nat.reduceBEq, ↓reduceIte, p_cincturelaw1_NatDivides]
  refine ev_call (alive_ok _ hT) ?_
  rintro v_1 H_1 le_1 rfl _
  replace hT := hT.le le_1
  simp only [go_sem, Nat.reduceEqDiff, Bool.false_eq_true, Nat.reduceBEq, ↓reduceIte]
  refine ev_call (pair_ok _ a b) ?_
  rintro v_2 H_2 le_2 ⟨va, vb, ra, rb, rfl, h1, h2, h3, h4⟩ _
  replace hT := hT.le le_2
  simp only [go_sem, Nat.reduceEqDiff, Bool.false_eq_true, Nat.reduceBEq, ↓reduceIte]
  obtain ⟨A, l, c, rfl⟩ := h1.form
  obtain ⟨B, m, e, rfl⟩ := h2.form
  obtain ⟨A', l', c', rfl, hl'⟩ := h3.form
  obtain ⟨B', m', e', rfl, hm'⟩ := h4.form
  cases hk : pok a b with
  | false =>
    simp only [go_sem, Nat.reduceEqDiff, Bool.false_eq_true, Nat.reduceBEq, ↓reduceIte, hk]
    exact ⟨by trivial, by trivial⟩
  | true =>
    rw [hk, if_pos rfl] at h1 h2 h3 h4 hl' hm'
    obtain ⟨hbx, hby⟩ := pok_bl hk
    generalize dv (bs a) = x at *
    generalize dv (bs b) = y at *
    have hg : bl (Nat.gcd x y) ≤ 800 := bl_gcd' hbx hby
    have hd : bl (x / y) ≤ 800 := bl_div hbx
    have hm := bl_mono (Nat.mod_le x y)
    simp only [go_sem, Nat.reduceEqDiff, Bool.false_eq_true, Nat.reduceBEq, ↓reduceIte, hk]
    by_cases hy : y = 0
    · subst hy
      first | refine ev_call (div_ok0 _ _ _ x h1 h2 (by omega)) ?_ | refine ev_callP (div_ok0 _ _ _ x h1 h2 (by omega)) ?_
      rintro v_7 H_7 le_7 ⟨vq, vr, rfl, g1, g2⟩ _
      replace h1 := h1.le le_7
      replace h2 := h2.le le_7
      replace h3 := h3.le le_7
      replace h4 := h4.le le_7
      simp only [go_sem, Nat.reduceEqDiff, Bool.false_eq_true, Nat.reduceBEq, ↓reduceIte]
      obtain ⟨C, k, g, rfl⟩ := g1.form
      obtain ⟨D, k2, g2', rfl⟩ := g2.form
      simp only [go_sem, Nat.reduceEqDiff, Bool.false_eq_true, Nat.reduceBEq, ↓reduceIte]
      first | refine ev_call (gcd_ok _ _ _ x _ h1 h2 (by omega) (by omega)) ?_ | refine ev_callP (gcd_ok _ _ _ x _ h1 h2 (by omega) (by omega)) ?_
      rintro v_3 H_3 le_3 g3 _
      replace h1 := h1.le le_3
      replace h2 := h2.le le_3
      replace h3 := h3.le le_3
      replace h4 := h4.le le_3
      replace g1 := g1.le le_3
      replace g2 := g2.le le_3
      simp only [go_sem, Nat.reduceEqDiff, Bool.false_eq_true, Nat.reduceBEq, ↓reduceIte]
      first | refine ev_call (text_ok _ _ _ g3 (by omega)) ?_ | refine ev_callP (text_ok _ _ _ g3 (by omega)) ?_
      rintro v_4 H_4 le_4 rfl _
      replace h1 := h1.le le_4
      replace h2 := h2.le le_4
      replace h3 := h3.le le_4
      replace h4 := h4.le le_4
      replace g1 := g1.le le_4
      replace g2 := g2.le le_4
      simp only [go_sem, Nat.reduceEqDiff, Bool.false_eq_true, Nat.reduceBEq, ↓reduceIte]
      first | refine ev_call (rgcd_ok _ _ _ x _ h3 h4 (by omega) (by omega)) ?_ | refine ev_callP (rgcd_ok _ _ _ x _ h3 h4 (by omega) (by omega)) ?_
      rintro v_5 H_5 le_5 g4 _
      replace h1 := h1.le le_5
      replace h2 := h2.le le_5
      replace h3 := h3.le le_5
      replace h4 := h4.le le_5
      replace g1 := g1.le le_5
      replace g2 := g2.le le_5
      simp only [go_sem, Nat.reduceEqDiff, Bool.false_eq_true, Nat.reduceBEq, ↓reduceIte]
      first | refine ev_call (rtext_ok _ _ _ g4 (by omega)) ?_ | refine ev_callP (rtext_ok _ _ _ g4 (by omega)) ?_
      rintro v_6 H_6 le_6 rfl _
      replace h1 := h1.le le_6
      replace h2 := h2.le le_6
      replace h3 := h3.le le_6
      replace h4 := h4.le le_6
      replace g1 := g1.le le_6
      replace g2 := g2.le le_6
      simp only [go_sem, Nat.reduceEqDiff, Bool.false_eq_true, Nat.reduceBEq, ↓reduceIte]
      refine ev_neg (by simp) ?_
      simp only [go_sem, Nat.reduceEqDiff, Bool.false_eq_true, Nat.reduceBEq, ↓reduceIte]
      refine ev_pos (by rw [hm'.2 rfl]; rfl) ?_
      simp only [go_sem, Nat.reduceEqDiff, Bool.false_eq_true, Nat.reduceBEq, ↓reduceIte]
      first | refine ev_call (text_ok _ _ _ g1 (by decide)) ?_ | refine ev_callP (text_ok _ _ _ g1 (by decide)) ?_
      rintro v_8 H_8 le_8 rfl _
      replace g2 := g2.le le_8
      simp only [go_sem, Nat.reduceEqDiff, Bool.false_eq_true, Nat.reduceBEq, ↓reduceIte]
      refine ev_pos ofB_zero ?_
      simp only [go_sem, Nat.reduceEqDiff, Bool.false_eq_true, Nat.reduceBEq, ↓reduceIte]
      first | refine ev_call (text_ok _ _ _ g2 (by decide)) ?_ | refine ev_callP (text_ok _ _ _ g2 (by decide)) ?_
      rintro v_9 H_9 le_9 rfl _
      simp only [go_sem, Nat.reduceEqDiff, Bool.false_eq_true, Nat.reduceBEq, ↓reduceIte]
      refine ev_pos ofB_zero ?_
      simp only [go_sem, Nat.reduceEqDiff, Bool.false_eq_true, Nat.reduceBEq, ↓reduceIte]
      exact ⟨by trivial, by trivial⟩
    · skip
      first | refine ev_call (div_ok1 _ _ _ x y h1 h2 (by omega) (by omega) hy) ?_ | refine ev_callP (div_ok1 _ _ _ x y h1 h2 (by omega) (by omega) hy) ?_
      rintro v_10 H_10 le_10 ⟨vq, vr, rfl, g1, g2⟩ _
      replace h1 := h1.le le_10
      replace h2 := h2.le le_10
      replace h3 := h3.le le_10
      replace h4 := h4.le le_10
      simp only [go_sem, Nat.reduceEqDiff, Bool.false_eq_true, Nat.reduceBEq, ↓reduceIte]
      obtain ⟨C, k, g, rfl⟩ := g1.form
      obtain ⟨D, k2, g2', rfl⟩ := g2.form
      simp only [go_sem, Nat.reduceEqDiff, Bool.false_eq_true, Nat.reduceBEq, ↓reduceIte]
      first | refine ev_call (gcd_ok _ _ _ x _ h1 h2 (by omega) (by omega)) ?_ | refine ev_callP (gcd_ok _ _ _ x _ h1 h2 (by omega) (by omega)) ?_
      rintro v_3 H_3 le_3 g3 _
      replace h1 := h1.le le_3
      replace h2 := h2.le le_3
      replace h3 := h3.le le_3
      replace h4 := h4.le le_3
      replace g1 := g1.le le_3
      replace g2 := g2.le le_3
      simp only [go_sem, Nat.reduceEqDiff, Bool.false_eq_true, Nat.reduceBEq, ↓reduceIte]
      first | refine ev_call (text_ok _ _ _ g3 (by omega)) ?_ | refine ev_callP (text_ok _ _ _ g3 (by omega)) ?_
      rintro v_4 H_4 le_4 rfl _
      replace h1 := h1.le le_4
      replace h2 := h2.le le_4
      replace h3 := h3.le le_4
      replace h4 := h4.le le_4
      replace g1 := g1.le le_4
      replace g2 := g2.le le_4
      simp only [go_sem, Nat.reduceEqDiff, Bool.false_eq_true, Nat.reduceBEq, ↓reduceIte]
      first | refine ev_call (rgcd_ok _ _ _ x _ h3 h4 (by omega) (by omega)) ?_ | refine ev_callP (rgcd_ok _ _ _ x _ h3 h4 (by omega) (by omega)) ?_
      rintro v_5 H_5 le_5 g4 _
      replace h1 := h1.le le_5
      replace h2 := h2.le le_5
      replace h3 := h3.le le_5
      replace h4 := h4.le le_5
      replace g1 := g1.le le_5
      replace g2 := g2.le le_5
      simp only [go_sem, Nat.reduceEqDiff, Bool.false_eq_true, Nat.reduceBEq, ↓reduceIte]
      first | refine ev_call (rtext_ok _ _ _ g4 (by omega)) ?_ | refine ev_callP (rtext_ok _ _ _ g4 (by omega)) ?_
      rintro v_6 H_6 le_6 rfl _
      replace h1 := h1.le le_6
      replace h2 := h2.le le_6
      replace h3 := h3.le le_6
      replace h4 := h4.le le_6
      replace g1 := g1.le le_6
      replace g2 := g2.le le_6
      simp only [go_sem, Nat.reduceEqDiff, Bool.false_eq_true, Nat.reduceBEq, ↓reduceIte]
      refine ev_neg (by simp) ?_
      simp only [go_sem, Nat.reduceEqDiff, Bool.false_eq_true, Nat.reduceBEq, ↓reduceIte]
      refine ev_neg (fun e0 => hy (hm'.1 (by omega))) ?_
      simp only [go_sem, Nat.reduceEqDiff, Bool.false_eq_true, Nat.reduceBEq, ↓reduceIte]
      first | refine ev_call (rdiv_ok _ _ _ x y h3 h4 (by omega) (by omega) hy) ?_ | refine ev_callP (rdiv_ok _ _ _ x y h3 h4 (by omega) (by omega) hy) ?_
      rintro v_11 H_11 le_11 ⟨wq, wr, rfl, g5, g6⟩ _
      replace g1 := g1.le le_11
      replace g2 := g2.le le_11
      simp only [go_sem, Nat.reduceEqDiff, Bool.false_eq_true, Nat.reduceBEq, ↓reduceIte]
      first | refine ev_call (text_ok _ _ _ g1 (by omega)) ?_ | refine ev_callP (text_ok _ _ _ g1 (by omega)) ?_
      rintro v_12 H_12 le_12 rfl _
      replace g2 := g2.le le_12
      replace g5 := g5.le le_12
      replace g6 := g6.le le_12
      simp only [go_sem, Nat.reduceEqDiff, Bool.false_eq_true, Nat.reduceBEq, ↓reduceIte]
      first | refine ev_call (rtext_ok _ _ _ g5 (by omega)) ?_ | refine ev_callP (rtext_ok _ _ _ g5 (by omega)) ?_
      rintro v_13 H_13 le_13 rfl _
      replace g2 := g2.le le_13
      replace g6 := g6.le le_13
      simp only [go_sem, Nat.reduceEqDiff, Bool.false_eq_true, Nat.reduceBEq, ↓reduceIte]
      refine ev_pos (by trivial) ?_
      simp only [go_sem, Nat.reduceEqDiff, Bool.false_eq_true, Nat.reduceBEq, ↓reduceIte]
      first | refine ev_call (text_ok _ _ _ g2 (by omega)) ?_ | refine ev_callP (text_ok _ _ _ g2 (by omega)) ?_
      rintro v_14 H_14 le_14 rfl _
      replace g6 := g6.le le_14
      simp only [go_sem, Nat.reduceEqDiff, Bool.false_eq_true, Nat.reduceBEq, ↓reduceIte]
      first | refine ev_call (rtext_ok _ _ _ g6 (by omega)) ?_ | refine ev_callP (rtext_ok _ _ _ g6 (by omega)) ?_
      rintro v_15 H_15 le_15 rfl _
      simp only [go_sem, Nat.reduceEqDiff, Bool.false_eq_true, Nat.reduceBEq, ↓reduceIte]
      refine ev_pos (by trivial) ?_
      simp only [go_sem, Nat.reduceEqDiff, Bool.false_eq_true, Nat.reduceBEq, ↓reduceIte]
      exact ⟨by trivial, by trivial⟩

theorem NatBack_ok (H : PH) (hT : Tab H) (a b : ByteArray) : FnP Tryd.prog 12 [.string a, .string b] H fun v _ => v = .bool true := by
  refine of_cincturelaw1_NatBack (by simp) ?_
  simp only [go_sem, Nat.reduceEqDiff, Bool.false_eq_true, Nat.reduceBEq, ↓reduceIte, p_cincturelaw1_NatBack]
  refine ev_call (alive_ok _ hT) ?_
  rintro v_16 H_16 le_16 rfl _
  replace hT := hT.le le_16
  simp only [go_sem, Nat.reduceEqDiff, Bool.false_eq_true, Nat.reduceBEq, ↓reduceIte]
  refine ev_call (pair_ok _ a b) ?_
  rintro v_17 H_17 le_17 ⟨va, vb, ra, rb, rfl, h1, h2, h3, h4⟩ _
  replace hT := hT.le le_17
  simp only [go_sem, Nat.reduceEqDiff, Bool.false_eq_true, Nat.reduceBEq, ↓reduceIte]
  obtain ⟨A, l, c, rfl⟩ := h1.form
  obtain ⟨B, m, e, rfl⟩ := h2.form
  obtain ⟨A', l', c', rfl, hl'⟩ := h3.form
  obtain ⟨B', m', e', rfl, hm'⟩ := h4.form
  cases hk : pok a b with
  | false =>
    simp only [go_sem, Nat.reduceEqDiff, Bool.false_eq_true, Nat.reduceBEq, ↓reduceIte, hk]
    exact ⟨by trivial, by trivial⟩
  | true =>
    rw [hk, if_pos rfl] at h1 h2 h3 h4 hl' hm'
    obtain ⟨hbx, hby⟩ := pok_bl hk
    generalize dv (bs a) = x at *
    generalize dv (bs b) = y at *
    have hg : bl (Nat.gcd x y) ≤ 800 := bl_gcd' hbx hby
    have hd : bl (x / y) ≤ 800 := bl_div hbx
    have hm := bl_mono (Nat.mod_le x y)
    simp only [go_sem, Nat.reduceEqDiff, Bool.false_eq_true, Nat.reduceBEq, ↓reduceIte, hk]
    refine ev_if (fun h => ?_) (fun h => ?_)
    · simp only [go_sem, Nat.reduceEqDiff, Bool.false_eq_true, Nat.reduceBEq, ↓reduceIte]
      exact ⟨by trivial, by trivial⟩
    · have hy : y ≠ 0 := fun e => h (by rw [hm'.2 e]; rfl)
      have hg0 : Nat.gcd x y ≠ 0 := fun e => hy (Nat.gcd_eq_zero_iff.1 e).2
      have e1 : x % Nat.gcd x y = 0 := Nat.mod_eq_zero_of_dvd (Nat.gcd_dvd_left x y)
      have e2 : y % Nat.gcd x y = 0 := Nat.mod_eq_zero_of_dvd (Nat.gcd_dvd_right x y)
      have e3 : x / y * y + x % y = x := by rw [Nat.mul_comm]; exact Nat.div_add_mod x y
      have e4 := Nat.mod_lt x (Nat.pos_of_ne_zero hy)
      have b1 := bl_mul (x / y) y
      clear h
      simp only [go_sem, Nat.reduceEqDiff, Bool.false_eq_true, Nat.reduceBEq, ↓reduceIte]
      first | refine ev_call (div_ok1 _ _ _ x y h1 h2 (by omega) (by omega) hy) ?_ | refine ev_callP (div_ok1 _ _ _ x y h1 h2 (by omega) (by omega) hy) ?_
      rintro v_18 H_18 le_18 ⟨vq, vr, rfl, g1, g2⟩ _
      replace h1 := h1.le le_18
      replace h2 := h2.le le_18
      simp only [go_sem, Nat.reduceEqDiff, Bool.false_eq_true, Nat.reduceBEq, ↓reduceIte]
      obtain ⟨C, k, g, rfl⟩ := g1.form
      obtain ⟨D, k2, g2', rfl⟩ := g2.form
      simp only [go_sem, Nat.reduceEqDiff, Bool.false_eq_true, Nat.reduceBEq, ↓reduceIte]
      first | refine ev_call (gcd_ok _ _ _ x y h1 h2 (by omega) (by omega)) ?_ | refine ev_callP (gcd_ok _ _ _ x y h1 h2 (by omega) (by omega)) ?_
      rintro v_19 H_19 le_19 g3 _
      replace h1 := h1.le le_19
      replace h2 := h2.le le_19
      replace g1 := g1.le le_19
      replace g2 := g2.le le_19
      simp only [go_sem, Nat.reduceEqDiff, Bool.false_eq_true, Nat.reduceBEq, ↓reduceIte]
      obtain ⟨E, k3, g3', rfl⟩ := g3.form
      simp only [go_sem, Nat.reduceEqDiff, Bool.false_eq_true, Nat.reduceBEq, ↓reduceIte]
      first | refine ev_call (div_ok1 _ _ _ x _ h1 g3 (by omega) (by omega) hg0) ?_ | refine ev_callP (div_ok1 _ _ _ x _ h1 g3 (by omega) (by omega) hg0) ?_
      rintro v_20 H_20 le_20 ⟨wq, wr, rfl, g4, g5⟩ _
      replace h1 := h1.le le_20
      replace h2 := h2.le le_20
      replace g1 := g1.le le_20
      replace g2 := g2.le le_20
      replace g3 := g3.le le_20
      simp only [go_sem, Nat.reduceEqDiff, Bool.false_eq_true, Nat.reduceBEq, ↓reduceIte]
      obtain ⟨F, k4, g4', rfl⟩ := g4.form
      obtain ⟨G, k5, g5', rfl⟩ := g5.form
      simp only [go_sem, Nat.reduceEqDiff, Bool.false_eq_true, Nat.reduceBEq, ↓reduceIte]
      first | refine ev_call (div_ok1 _ _ _ y _ h2 g3 (by omega) (by omega) hg0) ?_ | refine ev_callP (div_ok1 _ _ _ y _ h2 g3 (by omega) (by omega) hg0) ?_
      rintro v_21 H_21 le_21 ⟨uq, ur, rfl, g6, g7⟩ _
      replace h1 := h1.le le_21
      replace h2 := h2.le le_21
      replace g1 := g1.le le_21
      replace g2 := g2.le le_21
      replace g5 := g5.le le_21
      simp only [go_sem, Nat.reduceEqDiff, Bool.false_eq_true, Nat.reduceBEq, ↓reduceIte]
      obtain ⟨F2, k6, g6', rfl⟩ := g6.form
      obtain ⟨G2, k7, g7', rfl⟩ := g7.form
      rw [e1] at g5
      rw [e2] at g7
      simp only [go_sem, Nat.reduceEqDiff, Bool.false_eq_true, Nat.reduceBEq, ↓reduceIte]
      first | refine ev_call (mul_ok _ _ _ _ y g1 h2 (by omega) (by omega)) ?_ | refine ev_callP (mul_ok _ _ _ _ y g1 h2 (by omega) (by omega)) ?_
      rintro v_22 H_22 le_22 g8 _
      replace h1 := h1.le le_22
      replace h2 := h2.le le_22
      replace g2 := g2.le le_22
      replace g5 := g5.le le_22
      replace g7 := g7.le le_22
      simp only [go_sem, Nat.reduceEqDiff, Bool.false_eq_true, Nat.reduceBEq, ↓reduceIte]
      first | refine ev_call (add_ok _ _ _ _ _ g8 g2 (by omega) (by omega)) ?_ | refine ev_callP (add_ok _ _ _ _ _ g8 g2 (by omega) (by omega)) ?_
      rintro v_23 H_23 le_23 g9 _
      replace h1 := h1.le le_23
      replace h2 := h2.le le_23
      replace g2 := g2.le le_23
      replace g5 := g5.le le_23
      replace g7 := g7.le le_23
      simp only [go_sem, Nat.reduceEqDiff, Bool.false_eq_true, Nat.reduceBEq, ↓reduceIte]
      rw [e3] at g9
      first | refine ev_call (cmp_ok _ _ _ _ _ g9 h1 (by omega) (by omega)) ?_ | refine ev_callP (cmp_ok _ _ _ _ _ g9 h1 (by omega) (by omega)) ?_
      rintro v_24 H_24 le_24 rfl _
      replace h2 := h2.le le_24
      replace g2 := g2.le le_24
      replace g5 := g5.le le_24
      replace g7 := g7.le le_24
      simp only [go_sem, Nat.reduceEqDiff, Bool.false_eq_true, Nat.reduceBEq, ↓reduceIte]
      refine ev_pos (cmpN_self _) ?_
      simp only [go_sem, Nat.reduceEqDiff, Bool.false_eq_true, Nat.reduceBEq, ↓reduceIte]
      first | refine ev_call (cmp_ok _ _ _ _ _ g2 h2 (by omega) (by omega)) ?_ | refine ev_callP (cmp_ok _ _ _ _ _ g2 h2 (by omega) (by omega)) ?_
      rintro v_25 H_25 le_25 rfl _
      replace g5 := g5.le le_25
      replace g7 := g7.le le_25
      simp only [go_sem, Nat.reduceEqDiff, Bool.false_eq_true, Nat.reduceBEq, ↓reduceIte]
      refine ev_pos (by unfold cmpN; rw [if_pos e4]; decide) ?_
      simp only [go_sem, Nat.reduceEqDiff, Bool.false_eq_true, Nat.reduceBEq, ↓reduceIte]
      first | refine ev_call (nbits_ok _ _ _ g5 (by decide)) ?_ | refine ev_callP (nbits_ok _ _ _ g5 (by decide)) ?_
      rintro v_26 H_26 le_26 rfl _
      replace g7 := g7.le le_26
      simp only [go_sem, Nat.reduceEqDiff, Bool.false_eq_true, Nat.reduceBEq, ↓reduceIte]
      refine ev_pos (by trivial) ?_
      simp only [go_sem, Nat.reduceEqDiff, Bool.false_eq_true, Nat.reduceBEq, ↓reduceIte]
      first | refine ev_call (nbits_ok _ _ _ g7 (by decide)) ?_ | refine ev_callP (nbits_ok _ _ _ g7 (by decide)) ?_
      rintro v_27 H_27 le_27 rfl _
      simp only [go_sem, Nat.reduceEqDiff, Bool.false_eq_true, Nat.reduceBEq, ↓reduceIte]
      refine ev_pos (by trivial) ?_
      simp only [go_sem, Nat.reduceEqDiff, Bool.false_eq_true, Nat.reduceBEq, ↓reduceIte]
      exact ⟨by trivial, by trivial⟩

end Go.Proofs.YtlhhdlhnpgiamaaDoor.X
