/- The laws of chapter 1: what they share; the first two. -/
import Derived.Test.YtlhhdlhnpgiamaaDoorSE
import Derived.Test.YtlhhdlhnpgiamaaDoorPL
set_option linter.unusedVariables false
set_option linter.unusedSimpArgs false
namespace Go.Proofs.YtlhhdlhnpgiamaaDoor.X
open Go Go.RowKit Go.Proofs

theorem nbits_ok (H : PH) (v : Value) (x : Nat) (hN : NatV H v x) (hb : bl x ≤ 4294967296) : FnP Tryd.prog 22 [v] H fun v _ => v = .int .i64 (bl x : Nat) := by
  obtain ⟨A, l, c, rfl, hc, hS, hn, rfl⟩ := hN
  exact bits_ok H A l c hS hn (by have := len_le_bl hn; omega)

/-- the form of a number, and that it is one -/
theorem NatV.form {H : PH} {v : Value} {x : Nat} (h : NatV H v x) : ∃ A l c, v = .agg #[.slice A l c] := by
  obtain ⟨A, l, c, rfl, _⟩ := h
  exact ⟨A, l.length, c, rfl⟩

theorem bl_lt_of {x n : Nat} (h : x < 2 ^ n) : bl x ≤ n := bl_le_iff.2 h
theorem txt_zero : txt 0 = [48] := rfl
theorem txt_seven : txt 7 = [55] := by
  have : nd 7 = 1 := nd_uniq (by decide) (.inr (by decide))
  unfold txt; rw [this]; rfl
theorem ofB_zero : ofB (txt 0) = ⟨#[48]⟩ := rfl
theorem ofB_seven : ofB (txt 7) = ⟨#[55]⟩ := by rw [txt_seven]; rfl
theorem ofB_inj {l m : List Nat} (hl : ∀ d ∈ l, d < 256) (hm : ∀ d ∈ m, d < 256) (h : ofB l = ofB m) : l = m := by
  rw [← bs_ofB hl, ← bs_ofB hm, h]
theorem ofB_txt_inj {x y : Nat} : ofB (txt x) = ofB (txt y) ↔ x = y :=
  ⟨fun h => txt_inj (ofB_inj (txt_lt x) (txt_lt y) h), fun h => by rw [h]⟩

theorem alive_ok (H : PH) (hT : Tab H) : FnP Tryd.prog 13 [] H fun v _ => v = .bool true := by
  refine of_cincturelaw1_alive (by simp) ?_
  simp only [go_sem, Nat.reduceEqDiff, Bool.false_eq_true, Nat.reduceBEq, ↓reduceIte, p_cincturelaw1_alive]
  refine ev_call (of_ok H 3 (by decide)) ?_
  intro v1 H1 hle1 h1 _
  simp only [go_sem, Nat.reduceEqDiff, Bool.false_eq_true, Nat.reduceBEq, ↓reduceIte]
  refine ev_call (shl_ok H1 v1 3 70 h1 (by decide)) ?_
  intro v2 H2 hle2 h2 _
  have e70 : clip 70 = 70 := by decide
  have hbl : bl (3 * 2 ^ 70) = 72 := by rw [bl_shift _ _ (by decide)]; decide
  have htz : tz (3 * 2 ^ 70) = 70 := tz_uniq (m := 1) (by decide)
  rw [e70] at h2
  generalize 3 * 2 ^ 70 = y at *
  obtain ⟨A, l, c, rfl⟩ := h2.form
  simp only [go_sem, Nat.reduceEqDiff, Bool.false_eq_true, Nat.reduceBEq, ↓reduceIte]
  refine ev_call (nbits_ok H2 _ y h2 (by omega)) ?_
  rintro v3 H3 hle3 rfl _
  rw [hbl]
  simp only [go_sem, Nat.reduceEqDiff, Bool.false_eq_true, Nat.reduceBEq, ↓reduceIte]
  refine ev_pos (by decide) ?_
  simp only [go_sem, Nat.reduceEqDiff, Bool.false_eq_true, Nat.reduceBEq, ↓reduceIte]
  refine ev_call (zeros_ok H3 (hT.le (hle1.trans (hle2.trans hle3))) _ y (h2.le hle3) (by omega)) ?_
  rintro v4 H4 hle4 rfl _
  rw [htz]
  simp only [go_sem, Nat.reduceEqDiff, Bool.false_eq_true, Nat.reduceBEq, ↓reduceIte]
  refine ev_pos (by decide) ?_
  simp only [go_sem, Nat.reduceEqDiff, Bool.false_eq_true, Nat.reduceBEq, ↓reduceIte]
  refine ev_call (of_ok H4 7 (by decide)) ?_
  intro v5 H5 hle5 h5 _
  simp only [go_sem, Nat.reduceEqDiff, Bool.false_eq_true, Nat.reduceBEq, ↓reduceIte]
  refine ev_call (text_ok H5 v5 7 h5 (by decide)) ?_
  rintro v6 H6 hle6 rfl _
  simp only [go_sem, Nat.reduceEqDiff, Bool.false_eq_true, Nat.reduceBEq, ↓reduceIte]
  refine ev_pos ofB_seven ?_
  simp only [go_sem, Nat.reduceEqDiff, Bool.false_eq_true, Nat.reduceBEq, ↓reduceIte]
  exact ⟨by trivial, by trivial⟩

/-- both texts are numbers, not too long -/
def pok (a b : ByteArray) : Bool := (decOk (bs a) && decOk (bs b)) && (decide (a.size ≤ 200) && decide (b.size ≤ 200))

theorem pair_ok (H : PH) (a b : ByteArray) : FnP Tryd.prog 32 [.string a, .string b] H fun v H' => ∃ va vb ra rb, v = .tuple #[va, vb, ra, rb, .bool (pok a b)] ∧ NatV H' va (if pok a b then dv (bs a) else 0) ∧ NatV H' vb (if pok a b then dv (bs b) else 0) ∧ RefV H' ra (if pok a b then dv (bs a) else 0) ∧ RefV H' rb (if pok a b then dv (bs b) else 0) := by
  refine of_cincturelaw1_pair (by simp) ?_
  simp only [go_sem, Nat.reduceEqDiff, Bool.false_eq_true, Nat.reduceBEq, ↓reduceIte, p_cincturelaw1_pair]
  refine ev_call (rparse_ok H a) ?_
  rintro v1 H1 hle1 ⟨ra, rfl, h1⟩ _
  simp only [go_sem, Nat.reduceEqDiff, Bool.false_eq_true, Nat.reduceBEq, ↓reduceIte]
  refine ev_call (rparse_ok H1 b) ?_
  rintro v2 H2 hle2 ⟨rb, rfl, h2⟩ _
  have bad : pok a b = false → ∃ va vb ra rb, (Value.tuple #[.agg #[.slice none 0 0], .agg #[.slice none 0 0], .slice none 0 0, .slice none 0 0, .bool false]) = .tuple #[va, vb, ra, rb, .bool (pok a b)] ∧ NatV H2 va (if pok a b then dv (bs a) else 0) ∧ NatV H2 vb (if pok a b then dv (bs b) else 0) ∧ RefV H2 ra (if pok a b then dv (bs a) else 0) ∧ RefV H2 rb (if pok a b then dv (bs b) else 0) := by
    intro h
    rw [h]
    exact ⟨_, _, _, _, rfl, NatV.zero _ _, NatV.zero _ _, RefV.zero _, RefV.zero _⟩
  cases ha : decOk (bs a) with
  | false =>
    simp only [go_sem, Nat.reduceEqDiff, Bool.false_eq_true, Nat.reduceBEq, ↓reduceIte, ha]
    exact ⟨by trivial, bad (by unfold pok; rw [ha]; rfl)⟩
  | true =>
    cases hb : decOk (bs b) with
    | false =>
      simp only [go_sem, Nat.reduceEqDiff, Bool.false_eq_true, Nat.reduceBEq, ↓reduceIte, ha, hb]
      exact ⟨by trivial, bad (by unfold pok; rw [ha, hb]; rfl)⟩
    | true =>
      simp only [go_sem, Nat.reduceEqDiff, Bool.false_eq_true, Nat.reduceBEq, ↓reduceIte, ha, hb]
      refine ev_if (fun h3 => ?_) (fun h3 => ?_)
      · simp only [go_sem, Nat.reduceEqDiff, Bool.false_eq_true, Nat.reduceBEq, ↓reduceIte]
        exact ⟨by trivial, bad (by unfold pok; rw [ha, hb, decide_eq_false (show ¬ a.size ≤ 200 by omega)]; rfl)⟩
      · simp only [go_sem, Nat.reduceEqDiff, Bool.false_eq_true, Nat.reduceBEq, ↓reduceIte]
        refine ev_if (fun h4 => ?_) (fun h4 => ?_)
        · simp only [go_sem, Nat.reduceEqDiff, Bool.false_eq_true, Nat.reduceBEq, ↓reduceIte]
          exact ⟨by trivial, bad (by unfold pok; rw [ha, hb, decide_eq_false (show ¬ b.size ≤ 200 by omega)]; simp)⟩
        · have hp : pok a b = true := by unfold pok; rw [ha, hb, decide_eq_true (show a.size ≤ 200 by omega), decide_eq_true (show b.size ≤ 200 by omega)]; rfl
          simp only [go_sem, Nat.reduceEqDiff, Bool.false_eq_true, Nat.reduceBEq, ↓reduceIte]
          refine ev_call (parse_ok H2 a) ?_
          rintro v3 H3 hle3 ⟨va, rfl, h5⟩ _
          obtain ⟨A, l, c, rfl⟩ := h5.form
          simp only [go_sem, Nat.reduceEqDiff, Bool.false_eq_true, Nat.reduceBEq, ↓reduceIte]
          refine ev_call (parse_ok H3 b) ?_
          rintro v4 H4 hle4 ⟨vb, rfl, h6⟩ _
          obtain ⟨B, m, e, rfl⟩ := h6.form
          rw [ha, if_pos rfl] at h1 h5
          rw [hb, if_pos rfl] at h2 h6
          have fin : ∃ va vb ra' rb', (Value.tuple #[.agg #[.slice A l c], .agg #[.slice B m e], ra, rb, .bool true]) = .tuple #[va, vb, ra', rb', .bool (pok a b)] ∧ NatV H4 va (if pok a b then dv (bs a) else 0) ∧ NatV H4 vb (if pok a b then dv (bs b) else 0) ∧ RefV H4 ra' (if pok a b then dv (bs a) else 0) ∧ RefV H4 rb' (if pok a b then dv (bs b) else 0) := by
            rw [hp]
            exact ⟨_, _, _, _, rfl, h5.le hle4, h6, h1.le (hle2.trans (hle3.trans hle4)), h2.le (hle3.trans hle4)⟩
          simp only [go_sem, Nat.reduceEqDiff, Bool.false_eq_true, Nat.reduceBEq, ↓reduceIte]
          exact ⟨⟨⟨by trivial, fin⟩, by trivial, fin⟩, by trivial, fin⟩

theorem bl_dec {l : List Nat} (h : decOk l = true) : bl (dv l) ≤ 16000 := by
  simp only [decOk, Bool.and_eq_true, List.all_eq_true, decide_eq_true_eq] at h
  have := bl_dv (l := l) fun d hd => by have := h.2.2 d hd; simp [isDig] at this; omega
  omega
theorem bl_dec' (l : List Nat) : bl (if decOk l then dv l else 0) ≤ 16000 := by
  split
  · rename_i h; exact bl_dec h
  · exact Nat.zero_le _
theorem bl_bv {l : List Nat} (h : ∀ d ∈ l, d < 256) : bl (bv l) ≤ 8 * l.length := by
  rw [bl_le_iff, Nat.pow_mul]
  exact bv_lt h
theorem bv_rev : ∀ (l : List Nat), bv l.reverse = lv 256 l
  | [] => rfl
  | d :: l => by
    have ih := bv_rev l
    simp only [bv] at ih
    simp only [bv, List.reverse_cons, List.foldl_append, ih, List.foldl_cons, List.foldl_nil, lv]
    omega
theorem btx_bv {l : List Nat} (h : ∀ d ∈ l, d < 256) (hk : rdOk l = true) : btx (bv l) = l := by
  have hlen : (bl (bv l) + 7) / 8 = l.length := by
    cases l with
    | nil => rfl
    | cons d l =>
      have hd : d ≠ 0 := by simpa [rdOk] using hk
      have h1 := bl_bv h
      have h2 : 2 ^ (8 * l.length) ≤ bv (d :: l) := by
        rw [bv_cons, Nat.pow_mul]
        exact Nat.le_trans (Nat.le_mul_of_pos_left _ (Nat.pos_of_ne_zero hd)) (Nat.le_add_right _ _)
      have h3 := lt_bl_iff.2 h2
      simp only [List.length_cons] at h1 ⊢
      omega
  have e : bv l = lv 256 l.reverse := by rw [← bv_rev, List.reverse_reverse]
  unfold btx
  rw [hlen, e]
  have := dg_lv 256 (by decide) l.reverse (fun d hd => h d (by simpa using hd))
  rw [List.length_reverse] at this
  rw [this, List.reverse_reverse]

theorem NatReads_ok (H : PH) (hT : Tab H) (b : ByteArray) : FnP Tryd.prog 3 [.string b] H fun v _ => v = .bool true := by
  have hsz := bs_length b
  refine of_cincturelaw1_NatReads (by simp) ?_
  simp only [go_sem, Nat.reduceEqDiff, Bool.false_eq_true, Nat.reduceBEq, ↓reduceIte, p_cincturelaw1_NatReads]
  refine ev_call (alive_ok H hT) ?_
  rintro v0 H0 hle0 rfl _
  simp only [go_sem, Nat.reduceEqDiff, Bool.false_eq_true, Nat.reduceBEq, ↓reduceIte]
  refine ev_if (fun h => ?_) (fun h => ?_)
  · simp only [go_sem, Nat.reduceEqDiff, Bool.false_eq_true, Nat.reduceBEq, ↓reduceIte]
    exact ⟨by trivial, by trivial⟩
  · simp only [go_sem, Nat.reduceEqDiff, Bool.false_eq_true, Nat.reduceBEq, ↓reduceIte]
    refine ev_call (read_ok H0 b (by omega)) ?_
    rintro v1 H1 hle1 ⟨v1', rfl, h1⟩ _
    obtain ⟨A, l, c, rfl⟩ := h1.form
    simp only [go_sem, Nat.reduceEqDiff, Bool.false_eq_true, Nat.reduceBEq, ↓reduceIte]
    refine ev_call (rread_ok H1 b (by omega)) ?_
    rintro v2 H2 hle2 ⟨v2', rfl, h2⟩ _
    replace h1 := h1.le hle2
    cases hk : rdOk (bs b) with
    | false =>
      rw [hk] at h1 h2
      simp only [go_sem, Nat.reduceEqDiff, Bool.false_eq_true, Nat.reduceBEq, ↓reduceIte, hk]
      refine ev_pos (by trivial) ?_
      simp only [go_sem, Nat.reduceEqDiff, Bool.false_eq_true, Nat.reduceBEq, ↓reduceIte]
      refine ev_call (text_ok H2 _ 0 h1 (by decide)) ?_
      rintro v3 H3 hle3 rfl _
      simp only [go_sem, Nat.reduceEqDiff, Bool.false_eq_true, Nat.reduceBEq, ↓reduceIte]
      refine ev_pos ofB_zero ?_
      simp only [go_sem, Nat.reduceEqDiff, Bool.false_eq_true, Nat.reduceBEq, ↓reduceIte]
      exact ⟨by trivial, by trivial⟩
    | true =>
      rw [hk, if_pos rfl] at h1 h2
      have hbl := bl_bv (bs_lt b)
      have hbt := btx_bv (bs_lt b) hk
      generalize bv (bs b) = x at *
      simp only [go_sem, Nat.reduceEqDiff, Bool.false_eq_true, Nat.reduceBEq, ↓reduceIte, hk]
      refine ev_pos (by trivial) ?_
      simp only [go_sem, Nat.reduceEqDiff, Bool.false_eq_true, Nat.reduceBEq, ↓reduceIte]
      refine ev_call (bytes_ok H2 _ x h1 (by omega)) ?_
      rintro v3 H3 hle3 rfl _
      simp only [go_sem, Nat.reduceEqDiff, Bool.false_eq_true, Nat.reduceBEq, ↓reduceIte]
      refine ev_pos (by rw [hbt, ofB_bs]) ?_
      simp only [go_sem, Nat.reduceEqDiff, Bool.false_eq_true, Nat.reduceBEq, ↓reduceIte]
      refine ev_call (text_ok H3 _ x (h1.le hle3) (by omega)) ?_
      rintro v4 H4 hle4 rfl _
      simp only [go_sem, Nat.reduceEqDiff, Bool.false_eq_true, Nat.reduceBEq, ↓reduceIte]
      refine ev_call (rtext_ok H4 _ x (h2.le (hle3.trans hle4)) (by omega)) ?_
      rintro v5 H5 hle5 rfl _
      simp only [go_sem, Nat.reduceEqDiff, Bool.false_eq_true, Nat.reduceBEq, ↓reduceIte]
      refine ev_pos (by trivial) ?_
      simp only [go_sem, Nat.reduceEqDiff, Bool.false_eq_true, Nat.reduceBEq, ↓reduceIte]
      exact ⟨by trivial, by trivial⟩

theorem NatTells_ok (H : PH) (hT : Tab H) (s : ByteArray) : FnP Tryd.prog 4 [.string s] H fun v _ => v = .bool true := by
  refine of_cincturelaw1_NatTells (by simp) ?_
  simp only [go_sem, Nat.reduceEqDiff, Bool.false_eq_true, Nat.reduceBEq, ↓reduceIte, p_cincturelaw1_NatTells]
  refine ev_call (alive_ok H hT) ?_
  rintro v0 H0 hle0 rfl _
  replace hT := hT.le hle0
  simp only [go_sem, Nat.reduceEqDiff, Bool.false_eq_true, Nat.reduceBEq, ↓reduceIte]
  refine ev_if (fun h => ?_) (fun h => ?_)
  · simp only [go_sem, Nat.reduceEqDiff, Bool.false_eq_true, Nat.reduceBEq, ↓reduceIte]
    exact ⟨by trivial, by trivial⟩
  · simp only [go_sem, Nat.reduceEqDiff, Bool.false_eq_true, Nat.reduceBEq, ↓reduceIte]
    refine ev_call (parse_ok H0 s) ?_
    rintro v1 H1 hle1 ⟨v1', rfl, h1⟩ _
    obtain ⟨A, l, c, rfl⟩ := h1.form
    simp only [go_sem, Nat.reduceEqDiff, Bool.false_eq_true, Nat.reduceBEq, ↓reduceIte]
    refine ev_call (rparse_ok H1 s) ?_
    rintro v2 H2 hle2 ⟨v2', rfl, h2⟩ _
    replace h1 := h1.le hle2
    replace hT := (hT.le hle1).le hle2
    cases hk : decOk (bs s) with
    | false =>
      rw [hk] at h1 h2
      simp only [go_sem, Nat.reduceEqDiff, Bool.false_eq_true, Nat.reduceBEq, ↓reduceIte, hk]
      refine ev_pos (by trivial) ?_
      simp only [go_sem, Nat.reduceEqDiff, Bool.false_eq_true, Nat.reduceBEq, ↓reduceIte]
      refine ev_call (text_ok H2 _ 0 h1 (by decide)) ?_
      rintro v3 H3 hle3 rfl _
      simp only [go_sem, Nat.reduceEqDiff, Bool.false_eq_true, Nat.reduceBEq, ↓reduceIte]
      refine ev_pos ofB_zero ?_
      simp only [go_sem, Nat.reduceEqDiff, Bool.false_eq_true, Nat.reduceBEq, ↓reduceIte]
      exact ⟨by trivial, by trivial⟩
    | true =>
      rw [hk, if_pos rfl] at h1 h2
      have hbl := bl_dec hk
      have htx := txt_dv hk
      generalize dv (bs s) = x at *
      simp only [go_sem, Nat.reduceEqDiff, Bool.false_eq_true, Nat.reduceBEq, ↓reduceIte, hk]
      refine ev_pos (by trivial) ?_
      simp only [go_sem, Nat.reduceEqDiff, Bool.false_eq_true, Nat.reduceBEq, ↓reduceIte]
      refine ev_call (text_ok H2 _ x h1 (by omega)) ?_
      rintro v3 H3 hle3 rfl _
      replace h1 := h1.le hle3; replace h2 := h2.le hle3; replace hT := hT.le hle3
      simp only [go_sem, Nat.reduceEqDiff, Bool.false_eq_true, Nat.reduceBEq, ↓reduceIte]
      refine ev_pos (by rw [htx, ofB_bs]) ?_
      simp only [go_sem, Nat.reduceEqDiff, Bool.false_eq_true, Nat.reduceBEq, ↓reduceIte]
      refine ev_call (bytes_ok H3 _ x h1 (by omega)) ?_
      rintro v4 H4 hle4 rfl _
      replace h1 := h1.le hle4; replace h2 := h2.le hle4; replace hT := hT.le hle4
      simp only [go_sem, Nat.reduceEqDiff, Bool.false_eq_true, Nat.reduceBEq, ↓reduceIte]
      refine ev_call (rbytes_ok H4 _ x h2 (by omega)) ?_
      rintro v4 H5 hle4 rfl _
      replace h1 := h1.le hle4; replace h2 := h2.le hle4; replace hT := hT.le hle4
      simp only [go_sem, Nat.reduceEqDiff, Bool.false_eq_true, Nat.reduceBEq, ↓reduceIte]
      refine ev_pos (by trivial) ?_
      simp only [go_sem, Nat.reduceEqDiff, Bool.false_eq_true, Nat.reduceBEq, ↓reduceIte]
      refine ev_call (nbits_ok H5 _ x h1 (by omega)) ?_
      rintro v4 H6 hle4 rfl _
      replace h1 := h1.le hle4; replace h2 := h2.le hle4; replace hT := hT.le hle4
      simp only [go_sem, Nat.reduceEqDiff, Bool.false_eq_true, Nat.reduceBEq, ↓reduceIte]
      refine ev_call (rbits_ok H6 _ x h2 (by omega)) ?_
      rintro v4 H7 hle4 rfl _
      replace h1 := h1.le hle4; replace h2 := h2.le hle4; replace hT := hT.le hle4
      simp only [go_sem, Nat.reduceEqDiff, Bool.false_eq_true, Nat.reduceBEq, ↓reduceIte]
      refine ev_pos (by trivial) ?_
      simp only [go_sem, Nat.reduceEqDiff, Bool.false_eq_true, Nat.reduceBEq, ↓reduceIte]
      refine ev_call (zeros_ok H7 hT _ x h1 (by omega)) ?_
      rintro v4 H8 hle4 rfl _
      replace h1 := h1.le hle4; replace h2 := h2.le hle4; replace hT := hT.le hle4
      simp only [go_sem, Nat.reduceEqDiff, Bool.false_eq_true, Nat.reduceBEq, ↓reduceIte]
      refine ev_call (rzeros_ok H8 _ x h2 (by omega)) ?_
      rintro v4 H9 hle4 rfl _
      replace h1 := h1.le hle4; replace h2 := h2.le hle4; replace hT := hT.le hle4
      simp only [go_sem, Nat.reduceEqDiff, Bool.false_eq_true, Nat.reduceBEq, ↓reduceIte]
      refine ev_pos (by trivial) ?_
      simp only [go_sem, Nat.reduceEqDiff, Bool.false_eq_true, Nat.reduceBEq, ↓reduceIte]
      refine ev_call (low_ok H9 _ x h1 (by omega)) ?_
      rintro v4 H10 hle4 rfl _
      replace h1 := h1.le hle4; replace h2 := h2.le hle4; replace hT := hT.le hle4
      simp only [go_sem, Nat.reduceEqDiff, Bool.false_eq_true, Nat.reduceBEq, ↓reduceIte]
      refine ev_call (rlow_ok H10 _ x h2 (by omega)) ?_
      rintro v4 H11 hle4 rfl _
      replace h1 := h1.le hle4; replace h2 := h2.le hle4; replace hT := hT.le hle4
      simp only [go_sem, Nat.reduceEqDiff, Bool.false_eq_true, Nat.reduceBEq, ↓reduceIte]
      refine ev_pos (by trivial) ?_
      simp only [go_sem, Nat.reduceEqDiff, Bool.false_eq_true, Nat.reduceBEq, ↓reduceIte]
      exact ⟨by trivial, by trivial⟩

end Go.Proofs.YtlhhdlhnpgiamaaDoor.X
