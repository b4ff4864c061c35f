/- The laws of chapter 18: whole numbers, quotients. -/
import Derived.Test.YtalnnaoabhimdaaZA
import Derived.Test.YtalnnaoabhimdaaZE
set_option linter.unusedVariables false
set_option linter.unusedSimpArgs false
namespace Go.Proofs.Ytalnnaoabhimdaa.X
open Go Go.RowKit Go.Proofs

theorem vb_300 : vb 300 = [172, 2] := by rw [vb_big (by decide), vb_small (by decide)]
theorem alive18_ok (H : PH) : FnP Try.prog 9 [] H fun v _ => v = .bool true := by
  refine of_cincturelaw18_alive (by simp) ?_
  try simp only [go_sem, Nat.reduceEqDiff, Nat.reduceAdd, Bool.false_eq_true, Nat.reduceBEq, ↓reduceIte, p_cincturelaw18_alive]
  first | refine ev_call (vget_ok _ ⟨#[172, 2]⟩ (by decide) 0 (by decide) (by decide)) ?_ | refine ev_callP (vget_ok _ ⟨#[172, 2]⟩ (by decide) 0 (by decide) (by decide)) ?_
  rintro v_1 H_1 le_1 rfl _
  try simp only [go_sem, Nat.reduceEqDiff, Nat.reduceAdd, Bool.false_eq_true, Nat.reduceBEq, ↓reduceIte]
  rw [show vg (bs ⟨#[172, 2]⟩) 0 = (300, 2, 0) by decide +kernel]
  try simp only [go_sem, Nat.reduceEqDiff, Nat.reduceAdd, Bool.false_eq_true, Nat.reduceBEq, ↓reduceIte, vgV]
  first | refine ev_call (vput_ok _ 300 (by decide)) ?_ | refine ev_callP (vput_ok _ 300 (by decide)) ?_
  rintro v_2 H_2 le_2 rfl _
  try simp only [go_sem, Nat.reduceEqDiff, Nat.reduceAdd, Bool.false_eq_true, Nat.reduceBEq, ↓reduceIte]
  rw [vb_300]
  refine ev_pos (by rfl) ?_
  try simp only [go_sem, Nat.reduceEqDiff, Nat.reduceAdd, Bool.false_eq_true, Nat.reduceBEq, ↓reduceIte]
  refine ev_pos (by rfl) ?_
  try simp only [go_sem, Nat.reduceEqDiff, Nat.reduceAdd, Bool.false_eq_true, Nat.reduceBEq, ↓reduceIte]
  refine ev_pos (by rfl) ?_
  try simp only [go_sem, Nat.reduceEqDiff, Nat.reduceAdd, Bool.false_eq_true, Nat.reduceBEq, ↓reduceIte]
  refine ev_pos (by trivial) ?_
  try simp only [go_sem, Nat.reduceEqDiff, Nat.reduceAdd, Bool.false_eq_true, Nat.reduceBEq, ↓reduceIte]
  exact ⟨by trivial, by trivial⟩

theorem vpi_bi {z : Int} {n : Nat} (h : (vpi z).length ≤ n) : bi z ≤ 8 * n := by
  have hl : (btx z.natAbs).length = (bi z + 7) / 8 := btx_length _
  unfold vpi at h
  rw [List.length_append] at h
  omega
theorem vgi_bi {l : List Nat} (hl : ∀ d ∈ l, d < 256) {n : Nat} (hn : l.length ≤ n) (p bits : Int) : bi (vgi l p bits).1 ≤ 8 * n := by
  by_cases hc : (vgi l p bits).2.2 = 0
  · obtain ⟨_, _, _, h, _⟩ := vgi_once hl (p := p) (bits := bits) (z := (vgi l p bits).1) (e := (vgi l p bits).2.1) (Prod.ext rfl (Prod.ext rfl hc))
    refine vpi_bi ?_
    rw [← h, List.length_take, List.length_drop]
    omega
  · rw [vgi_code hc]
    show bi 0 ≤ _
    have : bi 0 = 0 := by decide
    omega
theorem vgr_br {l : List Nat} (hl : ∀ d ∈ l, d < 256) {n : Nat} (hn : l.length ≤ n) (h1 : 1 ≤ n) (p bits : Int) : br (vgr l p bits).1 ≤ 8 * n := by
  by_cases hc : (vgr l p bits).2.2 = 0
  · obtain ⟨_, _, _, h, _⟩ := vgr_once hl (p := p) (bits := bits) (q := (vgr l p bits).1) (e := (vgr l p bits).2.1) (Prod.ext rfl (Prod.ext rfl hc))
    have hlen : (vpr (vgr l p bits).1).length ≤ n := by
      rw [← h, List.length_take, List.length_drop]
      omega
    unfold vpr at hlen
    rw [List.length_append] at hlen
    have k1 := vpi_bi (z := (vgr l p bits).1.num) (n := n) (by omega)
    have k2 := vpi_bi (z := (vgr l p bits).1.den) (n := n) (by omega)
    rw [bi_cast'] at k2
    unfold br
    omega
  · rw [vgr_code hc]
    show br 0 ≤ _
    have : br 0 = 1 := by decide
    omega

theorem VintInts_ok (H : PH) (s : ByteArray) (hs : s.size ≤ 9223372036854775807) (b : ByteArray) (hb : b.size ≤ 9223372036854775807) (p : Int) (wp : (Lit.int .i64 p).wf = true) (t : Int) (wt : (Lit.int .i64 t).wf = true) : FnP Try.prog 4 [.string s, .string b, .int .i64 p, .int .i64 t] H fun v _ => v = .bool true := by
  have hp := i64_of_wf wp
  have ht := i64_of_wf wt
  refine of_cincturelaw18_VintInts (by simp) ?_
  try simp only [go_sem, Nat.reduceEqDiff, Nat.reduceAdd, Bool.false_eq_true, Nat.reduceBEq, ↓reduceIte, p_cincturelaw18_VintInts]
  first | refine ev_call (alive18_ok _) ?_ | refine ev_callP (alive18_ok _) ?_
  rintro v_3 H_3 le_3 rfl _
  try simp only [go_sem, Nat.reduceEqDiff, Nat.reduceAdd, Bool.false_eq_true, Nat.reduceBEq, ↓reduceIte]
  refine ev_if (fun h => ?_) (fun h => ?_)
  · try simp only [go_sem, Nat.reduceEqDiff, Nat.reduceAdd, Bool.false_eq_true, Nat.reduceBEq, ↓reduceIte]
    exact ⟨by trivial, by trivial⟩
  · try simp only [go_sem, Nat.reduceEqDiff, Nat.reduceAdd, Bool.false_eq_true, Nat.reduceBEq, ↓reduceIte]
    refine ev_if (fun h' => ?_) (fun h' => ?_)
    · try simp only [go_sem, Nat.reduceEqDiff, Nat.reduceAdd, Bool.false_eq_true, Nat.reduceBEq, ↓reduceIte]
      exact ⟨by trivial, by trivial⟩
    · have hk := vgi_bi (bs_lt b) (n := 300) (by rw [bs_length]; omega) p t
      try simp only [go_sem, Nat.reduceEqDiff, Nat.reduceAdd, Bool.false_eq_true, Nat.reduceBEq, ↓reduceIte]
      first | refine ev_call (vgetInt_ok _ b (by omega) p (by omega) (by omega) t (by omega) (by omega)) ?_ | refine ev_callP (vgetInt_ok _ b (by omega) p (by omega) (by omega) t (by omega) (by omega)) ?_
      rintro v_4 H_4 le_4 ⟨va, rfl, h1⟩ _
      try simp only [go_sem, Nat.reduceEqDiff, Nat.reduceAdd, Bool.false_eq_true, Nat.reduceBEq, ↓reduceIte]
      obtain ⟨A1, l1, c1, b1, rfl⟩ := h1.form
      try simp only [go_sem, Nat.reduceEqDiff, Nat.reduceAdd, Bool.false_eq_true, Nat.reduceBEq, ↓reduceIte]
      first | refine ev_call (vgetIntR_ok _ b (by omega) p (by omega) (by omega) t (by omega) (by omega)) ?_ | refine ev_callP (vgetIntR_ok _ b (by omega) p (by omega) (by omega) t (by omega) (by omega)) ?_
      rintro v_5 H_5 le_5 ⟨ra, rfl, h2⟩ _
      replace h1 := h1.le le_5
      try simp only [go_sem, Nat.reduceEqDiff, Nat.reduceAdd, Bool.false_eq_true, Nat.reduceBEq, ↓reduceIte]
      obtain ⟨A2, l2, c2, b2, rfl⟩ := h2.form
      generalize vgi (bs b) p t = r at *
      try simp only [go_sem, Nat.reduceEqDiff, Nat.reduceAdd, Bool.false_eq_true, Nat.reduceBEq, ↓reduceIte]
      refine ev_neg (by simp) ?_
      try simp only [go_sem, Nat.reduceEqDiff, Nat.reduceAdd, Bool.false_eq_true, Nat.reduceBEq, ↓reduceIte]
      refine ev_neg (by simp) ?_
      try simp only [go_sem, Nat.reduceEqDiff, Nat.reduceAdd, Bool.false_eq_true, Nat.reduceBEq, ↓reduceIte]
      first | refine ev_call (wtext_ok _ _ _ h1 (by omega)) ?_ | refine ev_callP (wtext_ok _ _ _ h1 (by omega)) ?_
      rintro v_6 H_6 le_6 rfl _
      replace h2 := h2.le le_6
      try simp only [go_sem, Nat.reduceEqDiff, Nat.reduceAdd, Bool.false_eq_true, Nat.reduceBEq, ↓reduceIte]
      first | refine ev_call (rtextI_ok _ _ _ h2 (by omega)) ?_ | refine ev_callP (rtextI_ok _ _ _ h2 (by omega)) ?_
      rintro v_7 H_7 le_7 rfl _
      try simp only [go_sem, Nat.reduceEqDiff, Nat.reduceAdd, Bool.false_eq_true, Nat.reduceBEq, ↓reduceIte]
      refine ev_neg (by simp) ?_
      try simp only [go_sem, Nat.reduceEqDiff, Nat.reduceAdd, Bool.false_eq_true, Nat.reduceBEq, ↓reduceIte]
      first | refine ev_call (rparseI_ok _ s) ?_ | refine ev_callP (rparseI_ok _ s) ?_
      rintro v_8 H_8 le_8 ⟨rb, rfl, h3⟩ _
      try simp only [go_sem, Nat.reduceEqDiff, Nat.reduceAdd, Bool.false_eq_true, Nat.reduceBEq, ↓reduceIte]
      obtain ⟨A3, l3, c3, b3, rfl⟩ := h3.form
      cases hi : intOk (bs s) with
      | false =>
        try simp only [go_sem, Nat.reduceEqDiff, Nat.reduceAdd, Bool.false_eq_true, Nat.reduceBEq, ↓reduceIte, hi]
        exact ⟨by trivial, by trivial⟩
      | true =>
        have hz := bi_iv hi
        rw [bs_length] at hz
        rw [hi, if_pos rfl] at h3
        try simp only [go_sem, Nat.reduceEqDiff, Nat.reduceAdd, Bool.false_eq_true, Nat.reduceBEq, ↓reduceIte, hi]
        first | refine ev_call (wparse_ok _ s) ?_ | refine ev_callP (wparse_ok _ s) ?_
        rintro v_9 H_9 le_9 ⟨vb, rfl, h4⟩ _
        replace h3 := h3.le le_9
        try simp only [go_sem, Nat.reduceEqDiff, Nat.reduceAdd, Bool.false_eq_true, Nat.reduceBEq, ↓reduceIte]
        obtain ⟨A4, l4, c4, b4, rfl⟩ := h4.form
        rw [hi, if_pos rfl] at h4
        try simp only [go_sem, Nat.reduceEqDiff, Nat.reduceAdd, Bool.false_eq_true, Nat.reduceBEq, ↓reduceIte]
        first | refine ev_call (vputInt_ok _ _ _ h4 (by omega)) ?_ | refine ev_callP (vputInt_ok _ _ _ h4 (by omega)) ?_
        rintro v_10 H_10 le_10 rfl _
        replace h3 := h3.le le_10
        try simp only [go_sem, Nat.reduceEqDiff, Nat.reduceAdd, Bool.false_eq_true, Nat.reduceBEq, ↓reduceIte]
        first | refine ev_call (vputIntR_ok _ _ _ h3 (by omega)) ?_ | refine ev_callP (vputIntR_ok _ _ _ h3 (by omega)) ?_
        rintro v_11 H_11 le_11 rfl _
        try simp only [go_sem, Nat.reduceEqDiff, Nat.reduceAdd, Bool.false_eq_true, Nat.reduceBEq, ↓reduceIte]
        refine ev_pos (by trivial) ?_
        try simp only [go_sem, Nat.reduceEqDiff, Nat.reduceAdd, Bool.false_eq_true, Nat.reduceBEq, ↓reduceIte]
        exact ⟨by trivial, by trivial⟩

theorem VintRats_ok (H : PH) (s : ByteArray) (hs : s.size ≤ 9223372036854775807) (b : ByteArray) (hb : b.size ≤ 9223372036854775807) (p : Int) (wp : (Lit.int .i64 p).wf = true) (t : Int) (wt : (Lit.int .i64 t).wf = true) : FnP Try.prog 8 [.string s, .string b, .int .i64 p, .int .i64 t] H fun v _ => v = .bool true := by
  have hp := i64_of_wf wp
  have ht := i64_of_wf wt
  refine of_cincturelaw18_VintRats (by simp) ?_
  try simp only [go_sem, Nat.reduceEqDiff, Nat.reduceAdd, Bool.false_eq_true, Nat.reduceBEq, ↓reduceIte, p_cincturelaw18_VintRats]
  first | refine ev_call (alive18_ok _) ?_ | refine ev_callP (alive18_ok _) ?_
  rintro v_12 H_12 le_12 rfl _
  try simp only [go_sem, Nat.reduceEqDiff, Nat.reduceAdd, Bool.false_eq_true, Nat.reduceBEq, ↓reduceIte]
  refine ev_if (fun h => ?_) (fun h => ?_)
  · try simp only [go_sem, Nat.reduceEqDiff, Nat.reduceAdd, Bool.false_eq_true, Nat.reduceBEq, ↓reduceIte]
    exact ⟨by trivial, by trivial⟩
  · have hk := vgr_br (bs_lt b) (n := 300) (by rw [bs_length]; omega) (by omega) p t
    try simp only [go_sem, Nat.reduceEqDiff, Nat.reduceAdd, Bool.false_eq_true, Nat.reduceBEq, ↓reduceIte]
    first | refine ev_call (vgetRat_ok _ b (by omega) p (by omega) (by omega) t (by omega) (by omega)) ?_ | refine ev_callP (vgetRat_ok _ b (by omega) p (by omega) (by omega) t (by omega) (by omega)) ?_
    rintro v_13 H_13 le_13 ⟨va, rfl, h1⟩ _
    try simp only [go_sem, Nat.reduceEqDiff, Nat.reduceAdd, Bool.false_eq_true, Nat.reduceBEq, ↓reduceIte]
    obtain ⟨A1, l1, c1, b1, B1, m1, e1, rfl⟩ := h1.form
    try simp only [go_sem, Nat.reduceEqDiff, Nat.reduceAdd, Bool.false_eq_true, Nat.reduceBEq, ↓reduceIte]
    first | refine ev_call (vgetRatR_ok _ b (by omega) p (by omega) (by omega) t (by omega) (by omega)) ?_ | refine ev_callP (vgetRatR_ok _ b (by omega) p (by omega) (by omega) t (by omega) (by omega)) ?_
    rintro v_14 H_14 le_14 ⟨ra, rfl, h2⟩ _
    replace h1 := h1.le le_14
    try simp only [go_sem, Nat.reduceEqDiff, Nat.reduceAdd, Bool.false_eq_true, Nat.reduceBEq, ↓reduceIte]
    obtain ⟨b2, A2, l2, c2, B2, m2, e2, rfl⟩ := h2.form
    generalize vgr (bs b) p t = r at *
    try simp only [go_sem, Nat.reduceEqDiff, Nat.reduceAdd, Bool.false_eq_true, Nat.reduceBEq, ↓reduceIte]
    refine ev_neg (by simp) ?_
    try simp only [go_sem, Nat.reduceEqDiff, Nat.reduceAdd, Bool.false_eq_true, Nat.reduceBEq, ↓reduceIte]
    refine ev_neg (by simp) ?_
    try simp only [go_sem, Nat.reduceEqDiff, Nat.reduceAdd, Bool.false_eq_true, Nat.reduceBEq, ↓reduceIte]
    first | refine ev_call (isQ_ok _ _ _ _ h1 h2 (by omega)) ?_ | refine ev_callP (isQ_ok _ _ _ _ h1 h2 (by omega)) ?_
    rintro v_15 H_15 le_15 rfl _
    try simp only [go_sem, Nat.reduceEqDiff, Nat.reduceAdd, Bool.false_eq_true, Nat.reduceBEq, ↓reduceIte]
    first | refine ev_call (numQ_ok _ s hs) ?_ | refine ev_callP (numQ_ok _ s hs) ?_
    rintro v_16 H_16 le_16 ⟨vb, rb, rfl, h3, h4⟩ _
    try simp only [go_sem, Nat.reduceEqDiff, Nat.reduceAdd, Bool.false_eq_true, Nat.reduceBEq, ↓reduceIte]
    obtain ⟨A3, l3, c3, b3, B3, m3, e3, rfl⟩ := h3.form
    obtain ⟨b4, A4, l4, c4, B4, m4, e4, rfl⟩ := h4.form
    cases hi : qok s with
    | false =>
      try simp only [go_sem, Nat.reduceEqDiff, Nat.reduceAdd, Bool.false_eq_true, Nat.reduceBEq, ↓reduceIte, hi]
      exact ⟨by trivial, by trivial⟩
    | true =>
      have hz := (qok_br hi).1
      rw [hi, if_pos rfl] at h3 h4
      try simp only [go_sem, Nat.reduceEqDiff, Nat.reduceAdd, Bool.false_eq_true, Nat.reduceBEq, ↓reduceIte, hi]
      first | refine ev_call (vputRat_ok _ _ _ h3 (by omega)) ?_ | refine ev_callP (vputRat_ok _ _ _ h3 (by omega)) ?_
      rintro v_17 H_17 le_17 rfl _
      replace h4 := h4.le le_17
      try simp only [go_sem, Nat.reduceEqDiff, Nat.reduceAdd, Bool.false_eq_true, Nat.reduceBEq, ↓reduceIte]
      first | refine ev_call (vputRatR_ok _ _ _ h4 (by omega)) ?_ | refine ev_callP (vputRatR_ok _ _ _ h4 (by omega)) ?_
      rintro v_18 H_18 le_18 rfl _
      try simp only [go_sem, Nat.reduceEqDiff, Nat.reduceAdd, Bool.false_eq_true, Nat.reduceBEq, ↓reduceIte]
      refine ev_pos (by trivial) ?_
      try simp only [go_sem, Nat.reduceEqDiff, Nat.reduceAdd, Bool.false_eq_true, Nat.reduceBEq, ↓reduceIte]
      exact ⟨by trivial, by trivial⟩

end Go.Proofs.Ytalnnaoabhimdaa.X
set_option linter.unusedVariables false
set_option linter.unusedSimpArgs false
namespace Go.Proofs.Ytalnnaoabhimdaa.X
open Go Go.RowKit Go.Proofs

theorem ext_eq {b : ByteArray} {p e : Nat} {l : List Nat} (h : p ≤ e) (hx : ((bs b).drop p).take (e - p) = l) : b.extract p e = ofB l := by
  obtain ⟨n, rfl⟩ := Nat.exists_eq_add_of_le h
  rw [Nat.add_sub_cancel_left] at hx
  rw [← hx, ← bs_cut, ofB_bs]

set_option maxHeartbeats 4000000 in
theorem VintOnce_ok (H : PH) (b : ByteArray) (hb : b.size ≤ 9223372036854775807) (n : Int) (wn : (Lit.int .i64 n).wf = true) : FnP Try.prog 5 [.string b, .int .i64 n] H fun v _ => v = .bool true := by
  have hn := i64_of_wf wn
  have hsz := bs_length b
  refine of_cincturelaw18_VintOnce (by simp) ?_
  try simp only [go_sem, Nat.reduceEqDiff, Nat.reduceAdd, Bool.false_eq_true, Nat.reduceBEq, ↓reduceIte, p_cincturelaw18_VintOnce]
  first | refine ev_call (alive18_ok _) ?_ | refine ev_callP (alive18_ok _) ?_
  rintro v_1 H_1 le_1 rfl _
  try simp only [go_sem, Nat.reduceEqDiff, Nat.reduceAdd, Bool.false_eq_true, Nat.reduceBEq, ↓reduceIte]
  refine ev_if (fun h => ?_) (fun h => ?_)
  · try simp only [go_sem, Nat.reduceEqDiff, Nat.reduceAdd, Bool.false_eq_true, Nat.reduceBEq, ↓reduceIte]
    exact ⟨by trivial, by trivial⟩
  · have hk1 := vgi_bi (bs_lt b) (n := 300) (by omega)
    have hk2 := vgr_br (bs_lt b) (n := 300) (by omega) (by omega)
    try simp only [go_sem, Nat.reduceEqDiff, Nat.reduceAdd, Bool.false_eq_true, Nat.reduceBEq, ↓reduceIte]
    first | refine ev_call (within_ok _ n 0 b.size (by omega) (by omega) (by decide) (by omega) (by omega)) ?_ | refine ev_callP (within_ok _ n 0 b.size (by omega) (by omega) (by decide) (by omega) (by omega)) ?_
    rintro v_2 H_2 le_2 rfl _
    try simp only [go_sem, Nat.reduceEqDiff, Nat.reduceAdd, Bool.false_eq_true, Nat.reduceBEq, ↓reduceIte]
    obtain ⟨w1, w2⟩ := wth_bd (n := n) (lo := 0) (hi := b.size) (by omega)
    generalize wth n 0 b.size = p at *
    try simp only [go_sem, Nat.reduceEqDiff, Nat.reduceAdd, Bool.false_eq_true, Nat.reduceBEq, ↓reduceIte]
    first | refine ev_call (vget_ok _ b (by omega) p (by omega) (by omega)) ?_ | refine ev_callP (vget_ok _ b (by omega) p (by omega) (by omega)) ?_
    rintro v_3 H_3 le_3 rfl _
    try simp only [go_sem, Nat.reduceEqDiff, Nat.reduceAdd, Bool.false_eq_true, Nat.reduceBEq, ↓reduceIte]
    try simp only [go_sem, Nat.reduceEqDiff, Nat.reduceAdd, Bool.false_eq_true, Nat.reduceBEq, ↓reduceIte, vgV]
    first | refine ev_call (vgetInt_ok _ b (by omega) p (by omega) (by omega) 4000 (by decide) (by decide)) ?_ | refine ev_callP (vgetInt_ok _ b (by omega) p (by omega) (by omega) 4000 (by decide) (by decide)) ?_
    rintro v_4 H_4 le_4 ⟨va, rfl, h1⟩ _
    try simp only [go_sem, Nat.reduceEqDiff, Nat.reduceAdd, Bool.false_eq_true, Nat.reduceBEq, ↓reduceIte]
    obtain ⟨A1, l1, c1, b1, rfl⟩ := h1.form
    try simp only [go_sem, Nat.reduceEqDiff, Nat.reduceAdd, Bool.false_eq_true, Nat.reduceBEq, ↓reduceIte]
    first | refine ev_call (vgetRat_ok _ b (by omega) p (by omega) (by omega) 4000 (by decide) (by decide)) ?_ | refine ev_callP (vgetRat_ok _ b (by omega) p (by omega) (by omega) 4000 (by decide) (by decide)) ?_
    rintro v_5 H_5 le_5 ⟨vr, rfl, h2⟩ _
    replace h1 := h1.le le_5
    try simp only [go_sem, Nat.reduceEqDiff, Nat.reduceAdd, Bool.false_eq_true, Nat.reduceBEq, ↓reduceIte]
    obtain ⟨A2, l2, c2, b2, B2, m2, e2, rfl⟩ := h2.form
    have f1 := @vg_once (bs b) (bs_lt b) p (vg (bs b) p).1 (vg (bs b) p).2.1
    have f2 := @vgi_once (bs b) (bs_lt b) p 4000 (vgi (bs b) p 4000).1 (vgi (bs b) p 4000).2.1
    have f3 := @vgr_once (bs b) (bs_lt b) p 4000 (vgr (bs b) p 4000).1 (vgr (bs b) p 4000).2.1
    have i1 := hk1 p 4000
    have i2 := hk2 p 4000
    clear hk1 hk2
    obtain ⟨r1, x1⟩ : ∃ r, r = vg (bs b) p := ⟨_, rfl⟩
    obtain ⟨r2, x2⟩ : ∃ r, r = vgi (bs b) p 4000 := ⟨_, rfl⟩
    obtain ⟨r3, x3⟩ : ∃ r, r = vgr (bs b) p 4000 := ⟨_, rfl⟩
    rw [← x1] at f1
    rw [← x2] at f2 i1 h1
    rw [← x3] at f3 i2 h2
    rw [← x1, ← x2, ← x3]
    clear x1 x2 x3
    obtain ⟨v1, e1', k1⟩ := r1
    obtain ⟨v2, e2', k2⟩ := r2
    obtain ⟨v3, e3', k3⟩ := r3
    dsimp only at f1 f2 f3 i1 i2 h1 h2
    try simp only [go_sem, Nat.reduceEqDiff, Nat.reduceAdd, Bool.false_eq_true, Nat.reduceBEq, ↓reduceIte]
    refine ev_if (fun y1 => ?_) (fun y1 => ?_)
    · obtain ⟨_, q1, q2, q3, q4⟩ := f1 (by rw [y1])
      have q5 := vb_pos v1
      try simp only [go_sem, Nat.reduceEqDiff, Nat.reduceAdd, Bool.false_eq_true, Nat.reduceBEq, ↓reduceIte]
      refine ev_neg (by omega) ?_
      try simp only [go_sem, Nat.reduceEqDiff, Nat.reduceAdd, Bool.false_eq_true, Nat.reduceBEq, ↓reduceIte]
      refine ev_neg (by omega) ?_
      try simp only [go_sem, Nat.reduceEqDiff, Nat.reduceAdd, Bool.false_eq_true, Nat.reduceBEq, ↓reduceIte]
      refine ev_ss (by omega) (by omega) (by omega) ?_
      try simp only [go_sem, Nat.reduceEqDiff, Nat.reduceAdd, Bool.false_eq_true, Nat.reduceBEq, ↓reduceIte]
      first | refine ev_call (vput_ok _ v1 q1) ?_ | refine ev_callP (vput_ok _ v1 q1) ?_
      rintro v_8 H_8 le_8 rfl _
      replace h1 := h1.le le_8
      replace h2 := h2.le le_8
      try simp only [go_sem, Nat.reduceEqDiff, Nat.reduceAdd, Bool.false_eq_true, Nat.reduceBEq, ↓reduceIte]
      refine ev_neg (Classical.not_not.2 (ext_eq (by omega) (by rw [Int.toNat_natCast, show e1' - p.toNat = (vb v1).length by omega]; exact q4))) ?_
      try simp only [go_sem, Nat.reduceEqDiff, Nat.reduceAdd, Bool.false_eq_true, Nat.reduceBEq, ↓reduceIte]
      refine ev_if (fun y2 => ?_) (fun y2 => ?_)
      · obtain ⟨_, q1, q2, q3, _⟩ := f2 (by rw [y2])
        try simp only [go_sem, Nat.reduceEqDiff, Nat.reduceAdd, Bool.false_eq_true, Nat.reduceBEq, ↓reduceIte]
        refine ev_neg (by omega) ?_
        try simp only [go_sem, Nat.reduceEqDiff, Nat.reduceAdd, Bool.false_eq_true, Nat.reduceBEq, ↓reduceIte]
        refine ev_neg (by omega) ?_
        try simp only [go_sem, Nat.reduceEqDiff, Nat.reduceAdd, Bool.false_eq_true, Nat.reduceBEq, ↓reduceIte]
        refine ev_ss (by omega) (by omega) (by omega) ?_
        try simp only [go_sem, Nat.reduceEqDiff, Nat.reduceAdd, Bool.false_eq_true, Nat.reduceBEq, ↓reduceIte]
        first | refine ev_call (vputInt_ok _ _ _ h1 (by omega)) ?_ | refine ev_callP (vputInt_ok _ _ _ h1 (by omega)) ?_
        rintro v_7 H_7 le_7 rfl _
        replace h2 := h2.le le_7
        try simp only [go_sem, Nat.reduceEqDiff, Nat.reduceAdd, Bool.false_eq_true, Nat.reduceBEq, ↓reduceIte]
        refine ev_neg (Classical.not_not.2 (ext_eq (by omega) (by rw [Int.toNat_natCast]; exact q3))) ?_
        try simp only [go_sem, Nat.reduceEqDiff, Nat.reduceAdd, Bool.false_eq_true, Nat.reduceBEq, ↓reduceIte]
        refine ev_if (fun y3 => ?_) (fun y3 => ?_)
        · try simp only [go_sem, Nat.reduceEqDiff, Nat.reduceAdd, Bool.false_eq_true, Nat.reduceBEq, ↓reduceIte]
          exact ⟨by trivial, by trivial⟩
        · obtain ⟨_, q1, q2, q3, _⟩ := f3 (by rw [Classical.not_not.1 y3])
          try simp only [go_sem, Nat.reduceEqDiff, Nat.reduceAdd, Bool.false_eq_true, Nat.reduceBEq, ↓reduceIte]
          refine ev_pos (by omega) ?_
          try simp only [go_sem, Nat.reduceEqDiff, Nat.reduceAdd, Bool.false_eq_true, Nat.reduceBEq, ↓reduceIte]
          refine ev_pos (by omega) ?_
          try simp only [go_sem, Nat.reduceEqDiff, Nat.reduceAdd, Bool.false_eq_true, Nat.reduceBEq, ↓reduceIte]
          refine ev_ss (by omega) (by omega) (by omega) ?_
          try simp only [go_sem, Nat.reduceEqDiff, Nat.reduceAdd, Bool.false_eq_true, Nat.reduceBEq, ↓reduceIte]
          first | refine ev_call (vputRat_ok _ _ _ h2 (by omega)) ?_ | refine ev_callP (vputRat_ok _ _ _ h2 (by omega)) ?_
          rintro v_6 H_6 le_6 rfl _
          try simp only [go_sem, Nat.reduceEqDiff, Nat.reduceAdd, Bool.false_eq_true, Nat.reduceBEq, ↓reduceIte]
          refine ev_pos (ext_eq (by omega) (by rw [Int.toNat_natCast]; exact q3)) ?_
          try simp only [go_sem, Nat.reduceEqDiff, Nat.reduceAdd, Bool.false_eq_true, Nat.reduceBEq, ↓reduceIte]
          exact ⟨by trivial, by trivial⟩
      · try simp only [go_sem, Nat.reduceEqDiff, Nat.reduceAdd, Bool.false_eq_true, Nat.reduceBEq, ↓reduceIte]
        refine ev_if (fun y3 => ?_) (fun y3 => ?_)
        · try simp only [go_sem, Nat.reduceEqDiff, Nat.reduceAdd, Bool.false_eq_true, Nat.reduceBEq, ↓reduceIte]
          exact ⟨by trivial, by trivial⟩
        · obtain ⟨_, q1, q2, q3, _⟩ := f3 (by rw [Classical.not_not.1 y3])
          try simp only [go_sem, Nat.reduceEqDiff, Nat.reduceAdd, Bool.false_eq_true, Nat.reduceBEq, ↓reduceIte]
          refine ev_pos (by omega) ?_
          try simp only [go_sem, Nat.reduceEqDiff, Nat.reduceAdd, Bool.false_eq_true, Nat.reduceBEq, ↓reduceIte]
          refine ev_pos (by omega) ?_
          try simp only [go_sem, Nat.reduceEqDiff, Nat.reduceAdd, Bool.false_eq_true, Nat.reduceBEq, ↓reduceIte]
          refine ev_ss (by omega) (by omega) (by omega) ?_
          try simp only [go_sem, Nat.reduceEqDiff, Nat.reduceAdd, Bool.false_eq_true, Nat.reduceBEq, ↓reduceIte]
          first | refine ev_call (vputRat_ok _ _ _ h2 (by omega)) ?_ | refine ev_callP (vputRat_ok _ _ _ h2 (by omega)) ?_
          rintro v_6 H_6 le_6 rfl _
          try simp only [go_sem, Nat.reduceEqDiff, Nat.reduceAdd, Bool.false_eq_true, Nat.reduceBEq, ↓reduceIte]
          refine ev_pos (ext_eq (by omega) (by rw [Int.toNat_natCast]; exact q3)) ?_
          try simp only [go_sem, Nat.reduceEqDiff, Nat.reduceAdd, Bool.false_eq_true, Nat.reduceBEq, ↓reduceIte]
          exact ⟨by trivial, by trivial⟩
    · try simp only [go_sem, Nat.reduceEqDiff, Nat.reduceAdd, Bool.false_eq_true, Nat.reduceBEq, ↓reduceIte]
      refine ev_if (fun y2 => ?_) (fun y2 => ?_)
      · obtain ⟨_, q1, q2, q3, _⟩ := f2 (by rw [y2])
        try simp only [go_sem, Nat.reduceEqDiff, Nat.reduceAdd, Bool.false_eq_true, Nat.reduceBEq, ↓reduceIte]
        refine ev_neg (by omega) ?_
        try simp only [go_sem, Nat.reduceEqDiff, Nat.reduceAdd, Bool.false_eq_true, Nat.reduceBEq, ↓reduceIte]
        refine ev_neg (by omega) ?_
        try simp only [go_sem, Nat.reduceEqDiff, Nat.reduceAdd, Bool.false_eq_true, Nat.reduceBEq, ↓reduceIte]
        refine ev_ss (by omega) (by omega) (by omega) ?_
        try simp only [go_sem, Nat.reduceEqDiff, Nat.reduceAdd, Bool.false_eq_true, Nat.reduceBEq, ↓reduceIte]
        first | refine ev_call (vputInt_ok _ _ _ h1 (by omega)) ?_ | refine ev_callP (vputInt_ok _ _ _ h1 (by omega)) ?_
        rintro v_7 H_7 le_7 rfl _
        replace h2 := h2.le le_7
        try simp only [go_sem, Nat.reduceEqDiff, Nat.reduceAdd, Bool.false_eq_true, Nat.reduceBEq, ↓reduceIte]
        refine ev_neg (Classical.not_not.2 (ext_eq (by omega) (by rw [Int.toNat_natCast]; exact q3))) ?_
        try simp only [go_sem, Nat.reduceEqDiff, Nat.reduceAdd, Bool.false_eq_true, Nat.reduceBEq, ↓reduceIte]
        refine ev_if (fun y3 => ?_) (fun y3 => ?_)
        · try simp only [go_sem, Nat.reduceEqDiff, Nat.reduceAdd, Bool.false_eq_true, Nat.reduceBEq, ↓reduceIte]
          exact ⟨by trivial, by trivial⟩
        · obtain ⟨_, q1, q2, q3, _⟩ := f3 (by rw [Classical.not_not.1 y3])
          try simp only [go_sem, Nat.reduceEqDiff, Nat.reduceAdd, Bool.false_eq_true, Nat.reduceBEq, ↓reduceIte]
          refine ev_pos (by omega) ?_
          try simp only [go_sem, Nat.reduceEqDiff, Nat.reduceAdd, Bool.false_eq_true, Nat.reduceBEq, ↓reduceIte]
          refine ev_pos (by omega) ?_
          try simp only [go_sem, Nat.reduceEqDiff, Nat.reduceAdd, Bool.false_eq_true, Nat.reduceBEq, ↓reduceIte]
          refine ev_ss (by omega) (by omega) (by omega) ?_
          try simp only [go_sem, Nat.reduceEqDiff, Nat.reduceAdd, Bool.false_eq_true, Nat.reduceBEq, ↓reduceIte]
          first | refine ev_call (vputRat_ok _ _ _ h2 (by omega)) ?_ | refine ev_callP (vputRat_ok _ _ _ h2 (by omega)) ?_
          rintro v_6 H_6 le_6 rfl _
          try simp only [go_sem, Nat.reduceEqDiff, Nat.reduceAdd, Bool.false_eq_true, Nat.reduceBEq, ↓reduceIte]
          refine ev_pos (ext_eq (by omega) (by rw [Int.toNat_natCast]; exact q3)) ?_
          try simp only [go_sem, Nat.reduceEqDiff, Nat.reduceAdd, Bool.false_eq_true, Nat.reduceBEq, ↓reduceIte]
          exact ⟨by trivial, by trivial⟩
      · try simp only [go_sem, Nat.reduceEqDiff, Nat.reduceAdd, Bool.false_eq_true, Nat.reduceBEq, ↓reduceIte]
        refine ev_if (fun y3 => ?_) (fun y3 => ?_)
        · try simp only [go_sem, Nat.reduceEqDiff, Nat.reduceAdd, Bool.false_eq_true, Nat.reduceBEq, ↓reduceIte]
          exact ⟨by trivial, by trivial⟩
        · obtain ⟨_, q1, q2, q3, _⟩ := f3 (by rw [Classical.not_not.1 y3])
          try simp only [go_sem, Nat.reduceEqDiff, Nat.reduceAdd, Bool.false_eq_true, Nat.reduceBEq, ↓reduceIte]
          refine ev_pos (by omega) ?_
          try simp only [go_sem, Nat.reduceEqDiff, Nat.reduceAdd, Bool.false_eq_true, Nat.reduceBEq, ↓reduceIte]
          refine ev_pos (by omega) ?_
          try simp only [go_sem, Nat.reduceEqDiff, Nat.reduceAdd, Bool.false_eq_true, Nat.reduceBEq, ↓reduceIte]
          refine ev_ss (by omega) (by omega) (by omega) ?_
          try simp only [go_sem, Nat.reduceEqDiff, Nat.reduceAdd, Bool.false_eq_true, Nat.reduceBEq, ↓reduceIte]
          first | refine ev_call (vputRat_ok _ _ _ h2 (by omega)) ?_ | refine ev_callP (vputRat_ok _ _ _ h2 (by omega)) ?_
          rintro v_6 H_6 le_6 rfl _
          try simp only [go_sem, Nat.reduceEqDiff, Nat.reduceAdd, Bool.false_eq_true, Nat.reduceBEq, ↓reduceIte]
          refine ev_pos (ext_eq (by omega) (by rw [Int.toNat_natCast]; exact q3)) ?_
          try simp only [go_sem, Nat.reduceEqDiff, Nat.reduceAdd, Bool.false_eq_true, Nat.reduceBEq, ↓reduceIte]
          exact ⟨by trivial, by trivial⟩

end Go.Proofs.Ytalnnaoabhimdaa.X
set_option linter.unusedVariables false
set_option linter.unusedSimpArgs false
namespace Go.Proofs.Ytalnnaoabhimdaa.X
open Go Go.RowKit Go.Proofs

theorem vgi_ahead (l : List Nat) (h : l.length ≤ 400) : vgi (vb (2 * l.length + 2) ++ (0 :: l)) 0 4000 = (0, 0, 2) := by
  have h0 := vg_put [] (0 :: l) (v := 2 * l.length + 2) (by omega)
  rw [List.nil_append, show (([] : List Nat).length : Int) = 0 from rfl, List.length_nil, Nat.zero_add] at h0
  unfold vgi
  rw [h0]
  dsimp only
  rw [if_neg (by decide), if_neg (by omega), if_neg (by rw [List.length_append, List.length_cons]; omega), if_pos]
  left
  rw [List.drop_left, show (2 * l.length + 2) / 2 = l.length + 1 by omega, List.take_succ_cons]
  rfl
theorem vgi_one : vgi [1] 0 4000 = (0, 0, 2) := by decide +kernel
theorem vgr_pair (z w : Int) (hz : bi z ≤ 4000) (hw : bi w ≤ 4000) (h : w ≤ 0 ∨ Nat.gcd w.natAbs z.natAbs ≠ 1) : vgr (vpi z ++ vpi w) 0 4000 = (0, 0, 2) := by
  have g1 := vgi_put [] (vpi w) z 4000 (by omega)
  rw [List.nil_append, show (([] : List Nat).length : Int) = 0 from rfl, List.length_nil, Nat.zero_add, if_neg (by omega)] at g1
  have g2 := vgi_put (vpi z) [] w 4000 (by omega)
  rw [List.append_nil, if_neg (by omega)] at g2
  unfold vgr
  rw [g1]
  dsimp only
  rw [g2]
  dsimp only
  rw [if_neg (by decide), if_neg (by decide), if_pos h]
theorem vpi_zero : vpi 0 = [0] := by
  unfold vpi
  rw [show btx (0 : Int).natAbs = [] from rfl, List.append_nil]
  exact vb_small (v := 0) (by decide)
theorem gcd_mulk {k : Int} (h : 2 ≤ k) (z w : Int) : Nat.gcd (w * k).natAbs (z * k).natAbs ≠ 1 := by
  rw [Int.natAbs_mul, Int.natAbs_mul, Nat.gcd_mul_right]
  intro h1
  have := Nat.eq_one_of_mul_eq_one_left h1
  omega
theorem ofB_0 : (⟨#[0]⟩ : ByteArray) = ofB [0] := rfl

set_option maxHeartbeats 16000000 in
theorem VintForms_ok (H : PH) (s : ByteArray) (hs : s.size ≤ 9223372036854775807) (n : Int) (wn : (Lit.int .i64 n).wf = true) : FnP Try.prog 6 [.string s, .int .i64 n] H fun v _ => v = .bool true := by
  have hn := i64_of_wf wn
  refine of_cincturelaw18_VintForms (by simp) ?_
  try simp only [go_sem, Nat.reduceEqDiff, Nat.reduceAdd, Bool.false_eq_true, Nat.reduceBEq, ↓reduceIte, p_cincturelaw18_VintForms]
  first | refine ev_call (numQ_ok _ s hs) ?_ | refine ev_callP (numQ_ok _ s hs) ?_
  rintro v_1 H_1 le_1 ⟨va, ra, rfl, h1, h2⟩ _
  try simp only [go_sem, Nat.reduceEqDiff, Nat.reduceAdd, Bool.false_eq_true, Nat.reduceBEq, ↓reduceIte]
  obtain ⟨A1, l1, c1, b1, B1, m1, e1, rfl⟩ := h1.form
  obtain ⟨b2, A2, l2, c2, B2, m2, e2, rfl⟩ := h2.form
  cases hi : qok s with
  | false =>
    try simp only [go_sem, Nat.reduceEqDiff, Nat.reduceAdd, Bool.false_eq_true, Nat.reduceBEq, ↓reduceIte, hi]
    first | refine ev_call (alive18_ok _) ?_ | refine ev_callP (alive18_ok _) ?_
    rintro v_2 H_2 le_2 rfl _
    try simp only [go_sem, Nat.reduceEqDiff, Nat.reduceAdd, Bool.false_eq_true, Nat.reduceBEq, ↓reduceIte]
    exact ⟨by trivial, by trivial⟩
  | true =>
    have hz := (qok_br hi).1
    rw [hi, if_pos rfl] at h1 h2
    generalize rv (bs s) = q at *
    have k1 := bi_br q
    have k2 := bl_br q
    have k3 : bi (q.den : Int) = bl q.den := by rw [bi_cast']
    try simp only [go_sem, Nat.reduceEqDiff, Nat.reduceAdd, Bool.false_eq_true, Nat.reduceBEq, ↓reduceIte, hi]
    first | refine ev_call (alive18_ok _) ?_ | refine ev_callP (alive18_ok _) ?_
    rintro v_3 H_3 le_3 rfl _
    replace h1 := h1.le le_3
    try simp only [go_sem, Nat.reduceEqDiff, Nat.reduceAdd, Bool.false_eq_true, Nat.reduceBEq, ↓reduceIte]
    first | refine ev_call (within_ok _ n 2 1000 (by omega) (by omega) (by decide) (by decide) (by decide)) ?_ | refine ev_callP (within_ok _ n 2 1000 (by omega) (by omega) (by decide) (by decide) (by decide)) ?_
    rintro v_4 H_4 le_4 rfl _
    replace h1 := h1.le le_4
    try simp only [go_sem, Nat.reduceEqDiff, Nat.reduceAdd, Bool.false_eq_true, Nat.reduceBEq, ↓reduceIte]
    obtain ⟨w1, w2⟩ := wth_bd (n := n) (lo := 2) (hi := 1000) (by decide)
    generalize wth n 2 1000 = k at *
    have hk : bi k ≤ 10 := by
      unfold bi
      exact bl_lt_of (by omega)
    try simp only [go_sem, Nat.reduceEqDiff, Nat.reduceAdd, Bool.false_eq_true, Nat.reduceBEq, ↓reduceIte]
    first | refine ev_call (wof_ok _ k (by omega) (by omega)) ?_ | refine ev_callP (wof_ok _ k (by omega) (by omega)) ?_
    rintro v_5 H_5 le_5 h3 _
    replace h1 := h1.le le_5
    try simp only [go_sem, Nat.reduceEqDiff, Nat.reduceAdd, Bool.false_eq_true, Nat.reduceBEq, ↓reduceIte]
    obtain ⟨A3, l3, c3, b3, rfl⟩ := h3.form
    try simp only [go_sem, Nat.reduceEqDiff, Nat.reduceAdd, Bool.false_eq_true, Nat.reduceBEq, ↓reduceIte]
    first | refine ev_call (rnum_ok _ _ _ h1) ?_ | refine ev_callP (rnum_ok _ _ _ h1) ?_
    rintro v_6 H_6 le_6 h4 _
    replace h1 := h1.le le_6
    replace h3 := h3.le le_6
    try simp only [go_sem, Nat.reduceEqDiff, Nat.reduceAdd, Bool.false_eq_true, Nat.reduceBEq, ↓reduceIte]
    first | refine ev_call (wabs_ok _ _ _ h4) ?_ | refine ev_callP (wabs_ok _ _ _ h4) ?_
    rintro v_7 H_7 le_7 h5 _
    replace h1 := h1.le le_7
    replace h3 := h3.le le_7
    try simp only [go_sem, Nat.reduceEqDiff, Nat.reduceAdd, Bool.false_eq_true, Nat.reduceBEq, ↓reduceIte]
    first | refine ev_call (bytes_ok _ _ _ h5 (by show bi q.num ≤ _; omega)) ?_ | refine ev_callP (bytes_ok _ _ _ h5 (by show bi q.num ≤ _; omega)) ?_
    rintro v_8 H_8 le_8 rfl _
    replace h1 := h1.le le_8
    replace h3 := h3.le le_8
    try simp only [go_sem, Nat.reduceEqDiff, Nat.reduceAdd, Bool.false_eq_true, Nat.reduceBEq, ↓reduceIte]
    have hbl : (btx q.num.natAbs).length ≤ 60 := by rw [btx_length]; show (bi q.num + 7) / 8 ≤ 60; omega
    have hbv : ∀ v : Nat, v < 18446744073709551616 → (vb v).length ≤ 10 := fun v hv => vb_len10 hv
    try simp only [go_sem, Nat.reduceEqDiff, Nat.reduceAdd, Bool.false_eq_true, Nat.reduceBEq, ↓reduceIte]
    rw [ofB_size]
    generalize hB : btx q.num.natAbs = B at *
    rw [w64 (2 * (B.length : Int)) (by omega) (by omega), w64 (2 * (B.length : Int) + 2) (by omega) (by omega), wu64 (2 * (B.length : Int) + 2) (by omega) (by omega), show 2 * (B.length : Int) + 2 = ((2 * B.length + 2 : Nat) : Int) by omega]
    first | refine ev_call (vput_ok _ (2 * B.length + 2) (by omega)) ?_ | refine ev_callP (vput_ok _ (2 * B.length + 2) (by omega)) ?_
    rintro v_9 H_9 le_9 rfl _
    replace h1 := h1.le le_9
    replace h3 := h3.le le_9
    try simp only [go_sem, Nat.reduceEqDiff, Nat.reduceAdd, Bool.false_eq_true, Nat.reduceBEq, ↓reduceIte]
    have hb2 := hbv (2 * B.length + 2) (by omega)
    rw [ofB_0]
    refine ev_cat (by rw [ofB_size, ofB_size]; simp only [List.length_cons, List.length_nil]; omega) ?_
    try simp only [go_sem, Nat.reduceEqDiff, Nat.reduceAdd, Bool.false_eq_true, Nat.reduceBEq, ↓reduceIte]
    refine ev_cat (by rw [ByteArray.size_append, ofB_size, ofB_size, ofB_size]; simp only [List.length_cons, List.length_nil]; omega) ?_
    rw [ofB_append, ofB_append]
    have hB2 : (vb (2 * B.length + 2) ++ [0]) ++ B = vb (2 * B.length + 2) ++ (0 :: B) := by rw [List.append_assoc]; rfl
    rw [hB2]
    have hB3 : ∀ d ∈ vb (2 * B.length + 2) ++ (0 :: B), d < 256 := by
      intro d hd
      rcases List.mem_append.1 hd with hd | hd
      · exact vb_lt _ d hd
      · rcases List.mem_cons.1 hd with rfl | hd
        · decide
        · exact btx_lt _ d (hB ▸ hd)
    try simp only [go_sem, Nat.reduceEqDiff, Nat.reduceAdd, Bool.false_eq_true, Nat.reduceBEq, ↓reduceIte]
    first | refine ev_call (vgetInt_ok _ (ofB (vb (2 * B.length + 2) ++ (0 :: B))) (by rw [ofB_size, List.length_append, List.length_cons]; omega) 0 (by decide) (by decide) 4000 (by decide) (by decide)) ?_ | refine ev_callP (vgetInt_ok _ (ofB (vb (2 * B.length + 2) ++ (0 :: B))) (by rw [ofB_size, List.length_append, List.length_cons]; omega) 0 (by decide) (by decide) 4000 (by decide) (by decide)) ?_
    rintro v_10 H_10 le_10 ⟨v5, rfl, h5⟩ _
    replace h1 := h1.le le_10
    replace h3 := h3.le le_10
    try simp only [go_sem, Nat.reduceEqDiff, Nat.reduceAdd, Bool.false_eq_true, Nat.reduceBEq, ↓reduceIte]
    rw [bs_ofB hB3, vgi_ahead B (by omega)] at h5 ⊢
    obtain ⟨A4, l4, c4, b4, rfl⟩ := h5.form
    try simp only [go_sem, Nat.reduceEqDiff, Nat.reduceAdd, Bool.false_eq_true, Nat.reduceBEq, ↓reduceIte]
    first | refine ev_call (vgetInt_ok _ ⟨#[1]⟩ (by decide) 0 (by decide) (by decide) 4000 (by decide) (by decide)) ?_ | refine ev_callP (vgetInt_ok _ ⟨#[1]⟩ (by decide) 0 (by decide) (by decide) 4000 (by decide) (by decide)) ?_
    rintro v_11 H_11 le_11 ⟨v6, rfl, h6⟩ _
    replace h1 := h1.le le_11
    replace h3 := h3.le le_11
    try simp only [go_sem, Nat.reduceEqDiff, Nat.reduceAdd, Bool.false_eq_true, Nat.reduceBEq, ↓reduceIte]
    rw [show bs ⟨#[1]⟩ = [1] from rfl, vgi_one] at h6 ⊢
    obtain ⟨A5, l5, c5, b5, rfl⟩ := h6.form
    try simp only [go_sem, Nat.reduceEqDiff, Nat.reduceAdd, Bool.false_eq_true, Nat.reduceBEq, ↓reduceIte]
    refine ev_cut (fun s => ∃ H', RatV H' (.agg #[.slice A1 l1 c1, .bool b1, .slice B1 m1 e1]) q ∧
      s = ⟨[(18, .v (.int .i64 2)), (15, .v (.int .i64 2)), (12, .v (.int .i64 2)), (5, .ptr 5 0)], [(5, [.slice A1 l1 c1, .bool b1, .slice B1 m1 e1])], H', PH.no⟩) ?_ ?_
    · have m1 := bi_mul q.num k
      have m2 := bi_mul q.den k
      have hgc := vgr_pair (q.num * k) (q.den * k) (by omega) (by omega) (.inr (gcd_mulk w1 _ _))
      have l1' := vpi_len (z := q.num * k) (by omega)
      have l2' := vpi_len (z := q.den * k) (by omega)
      try simp only [go_sem, Nat.reduceEqDiff, Nat.reduceAdd, Bool.false_eq_true, Nat.reduceBEq, ↓reduceIte]
      repeat' (with_reducible refine And.intro ?_ ?_)
      all_goals
        first | refine ev_call (rnum_ok _ _ _ h1) ?_ | refine ev_callP (rnum_ok _ _ _ h1) ?_
        rintro v_12 H_12 le_12 g1 _
        replace h1 := h1.le le_12
        replace h3 := h3.le le_12
        try simp only [go_sem, Nat.reduceEqDiff, Nat.reduceAdd, Bool.false_eq_true, Nat.reduceBEq, ↓reduceIte]
        repeat' (with_reducible refine And.intro ?_ ?_)
        all_goals
          first | refine ev_call (wmul_ok _ _ _ _ _ g1 h3 (by omega)) ?_ | refine ev_callP (wmul_ok _ _ _ _ _ g1 h3 (by omega)) ?_
          rintro v_13 H_13 le_13 g2 _
          replace h1 := h1.le le_13
          replace h3 := h3.le le_13
          try simp only [go_sem, Nat.reduceEqDiff, Nat.reduceAdd, Bool.false_eq_true, Nat.reduceBEq, ↓reduceIte]
          repeat' (with_reducible refine And.intro ?_ ?_)
          all_goals
            first | refine ev_call (vputInt_ok _ _ _ g2 (by omega)) ?_ | refine ev_callP (vputInt_ok _ _ _ g2 (by omega)) ?_
            rintro v_14 H_14 le_14 rfl _
            replace h1 := h1.le le_14
            replace h3 := h3.le le_14
            try simp only [go_sem, Nat.reduceEqDiff, Nat.reduceAdd, Bool.false_eq_true, Nat.reduceBEq, ↓reduceIte]
            repeat' (with_reducible refine And.intro ?_ ?_)
            all_goals
              first | refine ev_call (rden_ok _ _ _ h1 (by omega)) ?_ | refine ev_callP (rden_ok _ _ _ h1 (by omega)) ?_
              rintro v_15 H_15 le_15 g3 _
              replace h1 := h1.le le_15
              replace h3 := h3.le le_15
              try simp only [go_sem, Nat.reduceEqDiff, Nat.reduceAdd, Bool.false_eq_true, Nat.reduceBEq, ↓reduceIte]
              repeat' (with_reducible refine And.intro ?_ ?_)
              all_goals
                first | refine ev_call (wmul_ok _ _ _ _ _ g3 h3 (by omega)) ?_ | refine ev_callP (wmul_ok _ _ _ _ _ g3 h3 (by omega)) ?_
                rintro v_16 H_16 le_16 g4 _
                replace h1 := h1.le le_16
                replace h3 := h3.le le_16
                try simp only [go_sem, Nat.reduceEqDiff, Nat.reduceAdd, Bool.false_eq_true, Nat.reduceBEq, ↓reduceIte]
                repeat' (with_reducible refine And.intro ?_ ?_)
                all_goals
                  first | refine ev_call (vputInt_ok _ _ _ g4 (by omega)) ?_ | refine ev_callP (vputInt_ok _ _ _ g4 (by omega)) ?_
                  rintro v_17 H_17 le_17 rfl _
                  replace h1 := h1.le le_17
                  replace h3 := h3.le le_17
                  try simp only [go_sem, Nat.reduceEqDiff, Nat.reduceAdd, Bool.false_eq_true, Nat.reduceBEq, ↓reduceIte]
                  refine ev_cat (by rw [ofB_size, ofB_size]; omega) ?_
                  rw [ofB_append]
                  try simp only [go_sem, Nat.reduceEqDiff, Nat.reduceAdd, Bool.false_eq_true, Nat.reduceBEq, ↓reduceIte]
                  repeat' (with_reducible refine And.intro ?_ ?_)
                  all_goals
                    first | refine ev_call (vgetRat_ok _ (ofB (vpi (q.num * k) ++ vpi (q.den * k))) (by rw [ofB_size, List.length_append]; omega) 0 (by decide) (by decide) 4000 (by decide) (by decide)) ?_ | refine ev_callP (vgetRat_ok _ (ofB (vpi (q.num * k) ++ vpi (q.den * k))) (by rw [ofB_size, List.length_append]; omega) 0 (by decide) (by decide) 4000 (by decide) (by decide)) ?_
                    rintro v_18 H_18 le_18 ⟨v7, rfl, h7⟩ _
                    replace h1 := h1.le le_18
                    replace h3 := h3.le le_18
                    try simp only [go_sem, Nat.reduceEqDiff, Nat.reduceAdd, Bool.false_eq_true, Nat.reduceBEq, ↓reduceIte]
                    rw [bs_ofB (fun d hd => (List.mem_append.1 hd).elim (vpi_lt _ d) (vpi_lt _ d)), hgc] at h7 ⊢
                    obtain ⟨A6, l6, c6, b6, B6, m6, e6, rfl⟩ := h7.form
                    try simp only [go_sem, Nat.reduceEqDiff, Nat.reduceAdd, Bool.false_eq_true, Nat.reduceBEq, ↓reduceIte]
                    repeat' (with_reducible refine And.intro ?_ ?_)
                    all_goals exact k_cut _ ⟨_, h1, rfl⟩ ⟨rfl, by simp only [go_sem, Nat.reduceEqDiff, Nat.reduceAdd, Bool.false_eq_true, Nat.reduceBEq, ↓reduceIte, and_self, Option.some.injEq, SV.v.injEq, SV.ptr.injEq, Value.int.injEq, Value.bool.injEq, Value.slice.injEq, true_and, and_true] <;> (repeat' apply And.intro) <;> first | rfl | omega | (simp (disch := omega) only [w64, wu64, wu32, wu8] <;> omega), by simp only [go_sem, Nat.reduceEqDiff, Nat.reduceAdd, Bool.false_eq_true, Nat.reduceBEq, ↓reduceIte, and_self, Option.some.injEq, SV.v.injEq, SV.ptr.injEq, Value.int.injEq, Value.bool.injEq, Value.slice.injEq, true_and, and_true] <;> (repeat' apply And.intro) <;> rfl, rfl, PH.le.refl _⟩
    · rintro s ⟨H2, h1, rfl⟩
      have hgn := vgr_pair q.num (-q.den) (by omega) (by rw [bi_neg]; omega) (.inl (by omega))
      have hg0 := vgr_pair q.num 0 (by omega) (by decide) (.inl (by decide))
      rw [vpi_zero] at hg0
      have l1' := vpi_len (z := q.num) (by omega)
      have l2' := vpi_len (z := -q.den) (by rw [bi_neg]; omega)
      refine ev_cut (fun s => ∃ H', RatV H' (.agg #[.slice A1 l1 c1, .bool b1, .slice B1 m1 e1]) q ∧
        s = ⟨[(21, .v (.int .i64 2)), (18, .v (.int .i64 2)), (15, .v (.int .i64 2)), (12, .v (.int .i64 2)), (5, .ptr 5 0)], [(5, [.slice A1 l1 c1, .bool b1, .slice B1 m1 e1])], H', PH.no⟩) ?_ ?_
      · try simp only [go_sem, Nat.reduceEqDiff, Nat.reduceAdd, Bool.false_eq_true, Nat.reduceBEq, ↓reduceIte]
        repeat' (with_reducible refine And.intro ?_ ?_)
        all_goals
          first | refine ev_call (rnum_ok _ _ _ h1) ?_ | refine ev_callP (rnum_ok _ _ _ h1) ?_
          rintro v_19 H_19 le_19 g1 _
          replace h1 := h1.le le_19
          try simp only [go_sem, Nat.reduceEqDiff, Nat.reduceAdd, Bool.false_eq_true, Nat.reduceBEq, ↓reduceIte]
          repeat' (with_reducible refine And.intro ?_ ?_)
          all_goals
            first | refine ev_call (vputInt_ok _ _ _ g1 (by omega)) ?_ | refine ev_callP (vputInt_ok _ _ _ g1 (by omega)) ?_
            rintro v_20 H_20 le_20 rfl _
            replace h1 := h1.le le_20
            try simp only [go_sem, Nat.reduceEqDiff, Nat.reduceAdd, Bool.false_eq_true, Nat.reduceBEq, ↓reduceIte]
            repeat' (with_reducible refine And.intro ?_ ?_)
            all_goals
              first | refine ev_call (rden_ok _ _ _ h1 (by omega)) ?_ | refine ev_callP (rden_ok _ _ _ h1 (by omega)) ?_
              rintro v_21 H_21 le_21 g3 _
              replace h1 := h1.le le_21
              try simp only [go_sem, Nat.reduceEqDiff, Nat.reduceAdd, Bool.false_eq_true, Nat.reduceBEq, ↓reduceIte]
              repeat' (with_reducible refine And.intro ?_ ?_)
              all_goals
                first | refine ev_call (wneg_ok _ _ _ g3 (by omega)) ?_ | refine ev_callP (wneg_ok _ _ _ g3 (by omega)) ?_
                rintro v_22 H_22 le_22 g4 _
                replace h1 := h1.le le_22
                try simp only [go_sem, Nat.reduceEqDiff, Nat.reduceAdd, Bool.false_eq_true, Nat.reduceBEq, ↓reduceIte]
                repeat' (with_reducible refine And.intro ?_ ?_)
                all_goals
                  first | refine ev_call (vputInt_ok _ _ _ g4 (by rw [bi_neg]; omega)) ?_ | refine ev_callP (vputInt_ok _ _ _ g4 (by rw [bi_neg]; omega)) ?_
                  rintro v_23 H_23 le_23 rfl _
                  replace h1 := h1.le le_23
                  try simp only [go_sem, Nat.reduceEqDiff, Nat.reduceAdd, Bool.false_eq_true, Nat.reduceBEq, ↓reduceIte]
                  refine ev_cat (by rw [ofB_size, ofB_size]; omega) ?_
                  rw [ofB_append]
                  try simp only [go_sem, Nat.reduceEqDiff, Nat.reduceAdd, Bool.false_eq_true, Nat.reduceBEq, ↓reduceIte]
                  repeat' (with_reducible refine And.intro ?_ ?_)
                  all_goals
                    first | refine ev_call (vgetRat_ok _ (ofB (vpi q.num ++ vpi (-q.den))) (by rw [ofB_size, List.length_append]; omega) 0 (by decide) (by decide) 4000 (by decide) (by decide)) ?_ | refine ev_callP (vgetRat_ok _ (ofB (vpi q.num ++ vpi (-q.den))) (by rw [ofB_size, List.length_append]; omega) 0 (by decide) (by decide) 4000 (by decide) (by decide)) ?_
                    rintro v_24 H_24 le_24 ⟨v7, rfl, h7⟩ _
                    replace h1 := h1.le le_24
                    try simp only [go_sem, Nat.reduceEqDiff, Nat.reduceAdd, Bool.false_eq_true, Nat.reduceBEq, ↓reduceIte]
                    rw [bs_ofB (fun d hd => (List.mem_append.1 hd).elim (vpi_lt _ d) (vpi_lt _ d)), hgn] at h7 ⊢
                    obtain ⟨A6, l6, c6, b6, B6, m6, e6, rfl⟩ := h7.form
                    try simp only [go_sem, Nat.reduceEqDiff, Nat.reduceAdd, Bool.false_eq_true, Nat.reduceBEq, ↓reduceIte]
                    repeat' (with_reducible refine And.intro ?_ ?_)
                    all_goals exact k_cut _ ⟨_, h1, rfl⟩ ⟨rfl, by simp only [go_sem, Nat.reduceEqDiff, Nat.reduceAdd, Bool.false_eq_true, Nat.reduceBEq, ↓reduceIte, and_self, Option.some.injEq, SV.v.injEq, SV.ptr.injEq, Value.int.injEq, Value.bool.injEq, Value.slice.injEq, true_and, and_true] <;> (repeat' apply And.intro) <;> first | rfl | omega | (simp (disch := omega) only [w64, wu64, wu32, wu8] <;> omega), by simp only [go_sem, Nat.reduceEqDiff, Nat.reduceAdd, Bool.false_eq_true, Nat.reduceBEq, ↓reduceIte, and_self, Option.some.injEq, SV.v.injEq, SV.ptr.injEq, Value.int.injEq, Value.bool.injEq, Value.slice.injEq, true_and, and_true] <;> (repeat' apply And.intro) <;> rfl, rfl, PH.le.refl _⟩
      · rintro s ⟨H2, h1, rfl⟩
        try simp only [go_sem, Nat.reduceEqDiff, Nat.reduceAdd, Bool.false_eq_true, Nat.reduceBEq, ↓reduceIte]
        first | refine ev_call (rnum_ok _ _ _ h1) ?_ | refine ev_callP (rnum_ok _ _ _ h1) ?_
        rintro v_25 H_25 le_25 g1 _
        try simp only [go_sem, Nat.reduceEqDiff, Nat.reduceAdd, Bool.false_eq_true, Nat.reduceBEq, ↓reduceIte]
        first | refine ev_call (vputInt_ok _ _ _ g1 (by omega)) ?_ | refine ev_callP (vputInt_ok _ _ _ g1 (by omega)) ?_
        rintro v_26 H_26 le_26 rfl _
        try simp only [go_sem, Nat.reduceEqDiff, Nat.reduceAdd, Bool.false_eq_true, Nat.reduceBEq, ↓reduceIte]
        refine ev_cat (by rw [ofB_size, ofB_size]; simp only [List.length_cons, List.length_nil]; omega) ?_
        rw [ofB_append]
        try simp only [go_sem, Nat.reduceEqDiff, Nat.reduceAdd, Bool.false_eq_true, Nat.reduceBEq, ↓reduceIte]
        first | refine ev_call (vgetRat_ok _ (ofB (vpi q.num ++ [0])) (by rw [ofB_size, List.length_append]; simp only [List.length_cons, List.length_nil]; omega) 0 (by decide) (by decide) 4000 (by decide) (by decide)) ?_ | refine ev_callP (vgetRat_ok _ (ofB (vpi q.num ++ [0])) (by rw [ofB_size, List.length_append]; simp only [List.length_cons, List.length_nil]; omega) 0 (by decide) (by decide) 4000 (by decide) (by decide)) ?_
        rintro v_27 H_27 le_27 ⟨v7, rfl, h7⟩ _
        try simp only [go_sem, Nat.reduceEqDiff, Nat.reduceAdd, Bool.false_eq_true, Nat.reduceBEq, ↓reduceIte]
        rw [bs_ofB (fun d hd => (List.mem_append.1 hd).elim (vpi_lt _ d) (fun h => by rw [List.mem_singleton.1 h]; decide)), hg0] at h7 ⊢
        obtain ⟨A6, l6, c6, b6, B6, m6, e6, rfl⟩ := h7.form
        try simp only [go_sem, Nat.reduceEqDiff, Nat.reduceAdd, Bool.false_eq_true, Nat.reduceBEq, ↓reduceIte]
        refine ev_pos (by trivial) ?_
        try simp only [go_sem, Nat.reduceEqDiff, Nat.reduceAdd, Bool.false_eq_true, Nat.reduceBEq, ↓reduceIte]
        refine ev_pos (by trivial) ?_
        try simp only [go_sem, Nat.reduceEqDiff, Nat.reduceAdd, Bool.false_eq_true, Nat.reduceBEq, ↓reduceIte]
        refine ev_pos (by trivial) ?_
        try simp only [go_sem, Nat.reduceEqDiff, Nat.reduceAdd, Bool.false_eq_true, Nat.reduceBEq, ↓reduceIte]
        refine ev_pos (by trivial) ?_
        try simp only [go_sem, Nat.reduceEqDiff, Nat.reduceAdd, Bool.false_eq_true, Nat.reduceBEq, ↓reduceIte]
        refine ev_pos (by trivial) ?_
        try simp only [go_sem, Nat.reduceEqDiff, Nat.reduceAdd, Bool.false_eq_true, Nat.reduceBEq, ↓reduceIte]
        change KS _ _ _ Ex.normal _
        try simp only [go_sem, Nat.reduceEqDiff, Nat.reduceAdd, Bool.false_eq_true, Nat.reduceBEq, ↓reduceIte]
        exact ⟨by trivial, by trivial⟩

end Go.Proofs.Ytalnnaoabhimdaa.X
set_option linter.unusedVariables false
set_option linter.unusedSimpArgs false
namespace Go.Proofs.Ytalnnaoabhimdaa.X
open Go Go.RowKit Go.Proofs

theorem vpr_len {q : Rat} (h : br q ≤ 401) : (vpr q).length ≤ 140 ∧ 0 < (vpr q).length := by
  have k1 := bi_br q
  have k2 := bl_br q
  have k3 : bi (q.den : Int) = bl q.den := by rw [bi_cast']
  have h0 := vpi_pos q.num
  have h1 : (btx q.num.natAbs).length = (bi q.num + 7) / 8 := btx_length _
  have h2 : (btx (q.den : Int).natAbs).length = (bi (q.den : Int) + 7) / 8 := btx_length _
  have h3 := vb_len10 (v := 2 * (btx q.num.natAbs).length + (if q.num < 0 then 1 else 0)) (by split <;> omega)
  have h4 := vb_len10 (v := 2 * (btx (q.den : Int).natAbs).length + (if (q.den : Int) < 0 then 1 else 0)) (by split <;> omega)
  have e1 : (vpi q.num).length = (vb (2 * (btx q.num.natAbs).length + (if q.num < 0 then 1 else 0))).length + (btx q.num.natAbs).length := by unfold vpi; rw [List.length_append]
  have e2 : (vpi (q.den : Int)).length = (vb (2 * (btx (q.den : Int).natAbs).length + (if (q.den : Int) < 0 then 1 else 0))).length + (btx (q.den : Int).natAbs).length := by unfold vpi; rw [List.length_append]
  unfold vpr
  rw [List.length_append]
  omega
theorem vpr_lt (q : Rat) : ∀ d ∈ vpr q, d < 256 := fun d hd => (List.mem_append.1 hd).elim (vpi_lt _ d) (vpi_lt _ d)
theorem bs_app (a b : ByteArray) : bs (a ++ b) = bs a ++ bs b := by
  have h : a ++ b = ofB (bs a ++ bs b) := by rw [← ofB_append, ofB_bs, ofB_bs]
  rw [h, bs_ofB (fun d hd => (List.mem_append.1 hd).elim (bs_lt a d) (bs_lt b d))]

set_option maxHeartbeats 4000000 in
theorem VintBack_ok (H : PH) (s : ByteArray) (hs : s.size ≤ 9223372036854775807) (a : ByteArray) (ha : a.size ≤ 9223372036854775807) (b : ByteArray) (hb : b.size ≤ 9223372036854775807) (n : Int) (wn : (Lit.int .i64 n).wf = true) : FnP Try.prog 7 [.string s, .string a, .string b, .int .i64 n] H fun v _ => v = .bool true := by
  have hn := i64_of_wf wn
  refine of_cincturelaw18_VintBack (by simp) ?_
  try simp only [go_sem, Nat.reduceEqDiff, Nat.reduceAdd, Bool.false_eq_true, Nat.reduceBEq, ↓reduceIte, p_cincturelaw18_VintBack]
  first | refine ev_call (numQ_ok _ s hs) ?_ | refine ev_callP (numQ_ok _ s hs) ?_
  rintro v_1 H_1 le_1 ⟨va, ra, rfl, h1, h2⟩ _
  try simp only [go_sem, Nat.reduceEqDiff, Nat.reduceAdd, Bool.false_eq_true, Nat.reduceBEq, ↓reduceIte]
  obtain ⟨A1, l1, c1, b1, B1, m1, e1, rfl⟩ := h1.form
  obtain ⟨b2, A2, l2, c2, B2, m2, e2, rfl⟩ := h2.form
  cases hi : qok s with
  | false =>
    try simp only [go_sem, Nat.reduceEqDiff, Nat.reduceAdd, Bool.false_eq_true, Nat.reduceBEq, ↓reduceIte, hi]
    first | refine ev_call (alive18_ok _) ?_ | refine ev_callP (alive18_ok _) ?_
    rintro v_2 H_2 le_2 rfl _
    try simp only [go_sem, Nat.reduceEqDiff, Nat.reduceAdd, Bool.false_eq_true, Nat.reduceBEq, ↓reduceIte]
    exact ⟨by trivial, by trivial⟩
  | true =>
    have hz := (qok_br hi).1
    rw [hi, if_pos rfl] at h1 h2
    generalize rv (bs s) = q at *
    try simp only [go_sem, Nat.reduceEqDiff, Nat.reduceAdd, Bool.false_eq_true, Nat.reduceBEq, ↓reduceIte, hi]
    first | refine ev_call (alive18_ok _) ?_ | refine ev_callP (alive18_ok _) ?_
    rintro v_3 H_3 le_3 rfl _
    replace h1 := h1.le le_3
    try simp only [go_sem, Nat.reduceEqDiff, Nat.reduceAdd, Bool.false_eq_true, Nat.reduceBEq, ↓reduceIte]
    refine ev_if (fun x1 => ?_) (fun x1 => ?_)
    · try simp only [go_sem, Nat.reduceEqDiff, Nat.reduceAdd, Bool.false_eq_true, Nat.reduceBEq, ↓reduceIte]
      first | refine ev_call (alive18_ok _) ?_ | refine ev_callP (alive18_ok _) ?_
      rintro v_4 H_4 le_4 rfl _
      try simp only [go_sem, Nat.reduceEqDiff, Nat.reduceAdd, Bool.false_eq_true, Nat.reduceBEq, ↓reduceIte]
      exact ⟨by trivial, by trivial⟩
    · try simp only [go_sem, Nat.reduceEqDiff, Nat.reduceAdd, Bool.false_eq_true, Nat.reduceBEq, ↓reduceIte]
      refine ev_if (fun x2 => ?_) (fun x2 => ?_)
      · try simp only [go_sem, Nat.reduceEqDiff, Nat.reduceAdd, Bool.false_eq_true, Nat.reduceBEq, ↓reduceIte]
        first | refine ev_call (alive18_ok _) ?_ | refine ev_callP (alive18_ok _) ?_
        rintro v_5 H_5 le_5 rfl _
        try simp only [go_sem, Nat.reduceEqDiff, Nat.reduceAdd, Bool.false_eq_true, Nat.reduceBEq, ↓reduceIte]
        exact ⟨by trivial, by trivial⟩
      · have k1 := bi_br q
        have k2 := bl_br q
        have k3 : bi (q.den : Int) = bl q.den := by rw [bi_cast']
        obtain ⟨n1, n2⟩ := vpr_len hz
        have hla := bs_length a
        have hlb := bs_length b
        try simp only [go_sem, Nat.reduceEqDiff, Nat.reduceAdd, Bool.false_eq_true, Nat.reduceBEq, ↓reduceIte]
        first | refine ev_call (vputRat_ok _ _ q h1 (by omega)) ?_ | refine ev_callP (vputRat_ok _ _ q h1 (by omega)) ?_
        rintro v_6 H_6 le_6 rfl _
        replace h1 := h1.le le_6
        try simp only [go_sem, Nat.reduceEqDiff, Nat.reduceAdd, Bool.false_eq_true, Nat.reduceBEq, ↓reduceIte]
        refine ev_neg (fun h => by
          have h' := congrArg ByteArray.size h
          rw [ofB_size] at h'
          have h'' : (vpr q).length = 0 := h'
          omega) ?_
        try simp only [go_sem, Nat.reduceEqDiff, Nat.reduceAdd, Bool.false_eq_true, Nat.reduceBEq, ↓reduceIte]
        first | refine ev_call (rnum_ok _ _ _ h1) ?_ | refine ev_callP (rnum_ok _ _ _ h1) ?_
        rintro v_7 H_7 le_7 g1 _
        replace h1 := h1.le le_7
        try simp only [go_sem, Nat.reduceEqDiff, Nat.reduceAdd, Bool.false_eq_true, Nat.reduceBEq, ↓reduceIte]
        first | refine ev_call (wabs_ok _ _ _ g1) ?_ | refine ev_callP (wabs_ok _ _ _ g1) ?_
        rintro v_8 H_8 le_8 g2 _
        replace h1 := h1.le le_8
        try simp only [go_sem, Nat.reduceEqDiff, Nat.reduceAdd, Bool.false_eq_true, Nat.reduceBEq, ↓reduceIte]
        first | refine ev_call (nbits_ok _ _ _ g2 (by show bi q.num ≤ _; omega)) ?_ | refine ev_callP (nbits_ok _ _ _ g2 (by show bi q.num ≤ _; omega)) ?_
        rintro v_9 H_9 le_9 rfl _
        replace h1 := h1.le le_9
        try simp only [go_sem, Nat.reduceEqDiff, Nat.reduceAdd, Bool.false_eq_true, Nat.reduceBEq, ↓reduceIte]
        first | refine ev_call (rden_ok _ _ _ h1 (by omega)) ?_ | refine ev_callP (rden_ok _ _ _ h1 (by omega)) ?_
        rintro v_10 H_10 le_10 g3 _
        replace h1 := h1.le le_10
        try simp only [go_sem, Nat.reduceEqDiff, Nat.reduceAdd, Bool.false_eq_true, Nat.reduceBEq, ↓reduceIte]
        first | refine ev_call (wabs_ok _ _ _ g3) ?_ | refine ev_callP (wabs_ok _ _ _ g3) ?_
        rintro v_11 H_11 le_11 g4 _
        replace h1 := h1.le le_11
        try simp only [go_sem, Nat.reduceEqDiff, Nat.reduceAdd, Bool.false_eq_true, Nat.reduceBEq, ↓reduceIte]
        first | refine ev_call (nbits_ok _ _ _ g4 (by show bi (q.den : Int) ≤ _; omega)) ?_ | refine ev_callP (nbits_ok _ _ _ g4 (by show bi (q.den : Int) ≤ _; omega)) ?_
        rintro v_12 H_12 le_12 rfl _
        replace h1 := h1.le le_12
        try simp only [go_sem, Nat.reduceEqDiff, Nat.reduceAdd, Bool.false_eq_true, Nat.reduceBEq, ↓reduceIte]
        try simp only [go_sem, Nat.reduceEqDiff, Nat.reduceAdd, Bool.false_eq_true, Nat.reduceBEq, ↓reduceIte]
        have hmx : (if ((bl q.num.natAbs : Nat) : Int) < ((bl (q.den : Int).natAbs : Nat) : Int) then ((bl (q.den : Int).natAbs : Nat) : Int) else ((bl q.num.natAbs : Nat) : Int)) = (br q : Int) := by
          rw [Int.natAbs_natCast]
          unfold br bi
          split <;> omega
        rw [hmx]
        have f1 := vgr_put (bs a) (bs b) q (br q) (by omega) (by omega)
        have f3 := vgr_bits q (by omega)
        obtain ⟨Q, hQ⟩ : ∃ Q, Q = vpr q := ⟨_, rfl⟩
        have hQl : ∀ d ∈ Q, d < 256 := hQ ▸ vpr_lt q
        have hQs := ofB_size Q
        refine ev_cat (by rw [ofB_size]; omega) ?_
        try simp only [go_sem, Nat.reduceEqDiff, Nat.reduceAdd, Bool.false_eq_true, Nat.reduceBEq, ↓reduceIte]
        refine ev_cat (by rw [ByteArray.size_append, ofB_size]; omega) ?_
        try simp only [go_sem, Nat.reduceEqDiff, Nat.reduceAdd, Bool.false_eq_true, Nat.reduceBEq, ↓reduceIte]
        first | refine ev_call (vgetRat_ok _ (a ++ ofB (vpr q) ++ b) (by rw [ByteArray.size_append, ByteArray.size_append, ofB_size]; omega) a.size (by omega) (by omega) (br q) (by omega) (by omega)) ?_ | refine ev_callP (vgetRat_ok _ (a ++ ofB (vpr q) ++ b) (by rw [ByteArray.size_append, ByteArray.size_append, ofB_size]; omega) a.size (by omega) (by omega) (br q) (by omega) (by omega)) ?_
        rintro v_13 H_13 le_13 ⟨v3, rfl, h3⟩ _
        replace h1 := h1.le le_13
        try simp only [go_sem, Nat.reduceEqDiff, Nat.reduceAdd, Bool.false_eq_true, Nat.reduceBEq, ↓reduceIte]
        rw [bs_app, bs_app, bs_ofB (vpr_lt q), List.append_assoc, ← bs_length a, f1] at h3 ⊢
        obtain ⟨A3, l3, c3, b3, B3, m3, e3, rfl⟩ := h3.form
        dsimp only at h3
        try simp only [go_sem, Nat.reduceEqDiff, Nat.reduceAdd, Bool.false_eq_true, Nat.reduceBEq, ↓reduceIte]
        rw [w64 (((ofB (vpr q)).size : Int) - 1) (by rw [ofB_size]; omega) (by rw [ofB_size]; omega)]
        first | refine ev_call (within_ok _ n 0 (((ofB (vpr q)).size : Int) - 1) (by omega) (by omega) (by decide) (by rw [ofB_size]; omega) (by rw [ofB_size]; omega)) ?_ | refine ev_callP (within_ok _ n 0 (((ofB (vpr q)).size : Int) - 1) (by omega) (by omega) (by decide) (by rw [ofB_size]; omega) (by rw [ofB_size]; omega)) ?_
        rintro v_14 H_14 le_14 rfl _
        replace h1 := h1.le le_14
        replace h3 := h3.le le_14
        try simp only [go_sem, Nat.reduceEqDiff, Nat.reduceAdd, Bool.false_eq_true, Nat.reduceBEq, ↓reduceIte]
        obtain ⟨w1, w2⟩ := wth_bd (n := n) (lo := 0) (hi := ((ofB (vpr q)).size : Int) - 1) (by rw [ofB_size]; omega)
        generalize wth n 0 (((ofB (vpr q)).size : Int) - 1) = k at *
        rw [ofB_size] at w2
        obtain ⟨k, rfl⟩ := Int.eq_ofNat_of_zero_le w1
        try simp only [go_sem, Nat.reduceEqDiff, Nat.reduceAdd, Bool.false_eq_true, Nat.reduceBEq, ↓reduceIte]
        refine ev_ss (by omega) (by omega) (by rw [ofB_size]; omega) ?_
        have hcut : (ofB (vpr q)).extract (Int.toNat 0) (Int.toNat (k : Int)) = ofB ((vpr q).take k) := by
          refine ext_eq (by omega) ?_
          rw [bs_ofB (vpr_lt q), Int.toNat_natCast, Int.toNat_zero, List.drop_zero, Nat.sub_zero]
        rw [hcut]
        have f2 := vgr_cut (bs a) q (br q) (by omega) (by omega) (k := k) (by omega)
        have hcl : ((vpr q).take k).length ≤ 140 := by rw [List.length_take]; omega
        try simp only [go_sem, Nat.reduceEqDiff, Nat.reduceAdd, Bool.false_eq_true, Nat.reduceBEq, ↓reduceIte]
        refine ev_cat (by rw [ofB_size]; omega) ?_
        try simp only [go_sem, Nat.reduceEqDiff, Nat.reduceAdd, Bool.false_eq_true, Nat.reduceBEq, ↓reduceIte]
        first | refine ev_call (vgetRat_ok _ (a ++ ofB ((vpr q).take k)) (by rw [ByteArray.size_append, ofB_size]; omega) a.size (by omega) (by omega) (br q) (by omega) (by omega)) ?_ | refine ev_callP (vgetRat_ok _ (a ++ ofB ((vpr q).take k)) (by rw [ByteArray.size_append, ofB_size]; omega) a.size (by omega) (by omega) (br q) (by omega) (by omega)) ?_
        rintro v_15 H_15 le_15 ⟨v4, rfl, h4⟩ _
        replace h1 := h1.le le_15
        replace h3 := h3.le le_15
        try simp only [go_sem, Nat.reduceEqDiff, Nat.reduceAdd, Bool.false_eq_true, Nat.reduceBEq, ↓reduceIte]
        rw [bs_app, bs_ofB (fun d hd => vpr_lt q d (List.mem_of_mem_take hd)), ← bs_length a, f2] at h4 ⊢
        obtain ⟨A4, l4, c4, b4, B4, m4, e4, rfl⟩ := h4.form
        try simp only [go_sem, Nat.reduceEqDiff, Nat.reduceAdd, Bool.false_eq_true, Nat.reduceBEq, ↓reduceIte]
        rw [w64 ((br q : Int) - 1) (by omega) (by omega)]
        first | refine ev_call (vgetRat_ok _ (ofB (vpr q)) (by rw [ofB_size]; omega) 0 (by omega) (by omega) ((br q : Int) - 1) (by omega) (by omega)) ?_ | refine ev_callP (vgetRat_ok _ (ofB (vpr q)) (by rw [ofB_size]; omega) 0 (by omega) (by omega) ((br q : Int) - 1) (by omega) (by omega)) ?_
        rintro v_16 H_16 le_16 ⟨v5, rfl, h5⟩ _
        replace h1 := h1.le le_16
        replace h3 := h3.le le_16
        try simp only [go_sem, Nat.reduceEqDiff, Nat.reduceAdd, Bool.false_eq_true, Nat.reduceBEq, ↓reduceIte]
        rw [bs_ofB (vpr_lt q), f3] at h5 ⊢
        obtain ⟨A5, l5, c5, b5, B5, m5, e5, rfl⟩ := h5.form
        try simp only [go_sem, Nat.reduceEqDiff, Nat.reduceAdd, Bool.false_eq_true, Nat.reduceBEq, ↓reduceIte]
        refine ev_pos (by trivial) ?_
        try simp only [go_sem, Nat.reduceEqDiff, Nat.reduceAdd, Bool.false_eq_true, Nat.reduceBEq, ↓reduceIte]
        rw [w64 ((a.size : Int) + ((ofB (vpr q)).size : Int)) (by rw [ofB_size]; omega) (by rw [ofB_size]; omega), ofB_size]
        refine ev_pos (by omega) ?_
        try simp only [go_sem, Nat.reduceEqDiff, Nat.reduceAdd, Bool.false_eq_true, Nat.reduceBEq, ↓reduceIte]
        first | refine ev_call (rcmpR_ok _ _ _ q q h3 h1 (by omega)) ?_ | refine ev_callP (rcmpR_ok _ _ _ q q h3 h1 (by omega)) ?_
        rintro v_17 H_17 le_17 rfl _
        try simp only [go_sem, Nat.reduceEqDiff, Nat.reduceAdd, Bool.false_eq_true, Nat.reduceBEq, ↓reduceIte]
        rw [cmpR_self]
        refine ev_pos (by trivial) ?_
        try simp only [go_sem, Nat.reduceEqDiff, Nat.reduceAdd, Bool.false_eq_true, Nat.reduceBEq, ↓reduceIte]
        refine ev_pos (by trivial) ?_
        try simp only [go_sem, Nat.reduceEqDiff, Nat.reduceAdd, Bool.false_eq_true, Nat.reduceBEq, ↓reduceIte]
        refine ev_pos (by trivial) ?_
        try simp only [go_sem, Nat.reduceEqDiff, Nat.reduceAdd, Bool.false_eq_true, Nat.reduceBEq, ↓reduceIte]
        exact ⟨by trivial, by trivial⟩

end Go.Proofs.Ytalnnaoabhimdaa.X
