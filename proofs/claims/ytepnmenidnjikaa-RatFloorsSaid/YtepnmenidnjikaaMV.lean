/- Package whole. -/
import Derived.Test.YtepnmenidnjikaaMT
import Derived.Test.YtepnmenidnjikaaMY
import Derived.Test.YtepnmenidnjikaaMU
set_option linter.unusedVariables false
set_option linter.unusedSimpArgs false
namespace Go.Proofs.Ytepnmenidnjikaa.X
open Go Go.RowKit Go.Proofs

/-- a number of package whole -/
def IntV (H : PH) (v : Value) (z : Int) : Prop := ∃ A l c b, v = .agg #[.slice A l c, .bool b] ∧ NatV H (.agg #[.slice A l c]) z.natAbs ∧ b = decide (z < 0)
theorem IntV.le {H H' : PH} {v : Value} {z : Int} (h : IntV H v z) (hl : H.le H') : IntV H' v z := by
  obtain ⟨A, l, c, b, h1, h2, h3⟩ := h
  exact ⟨A, l, c, b, h1, h2.le hl, h3⟩
theorem IntV.zero (H : PH) : IntV H (.agg #[.slice none 0 0, .bool false]) 0 := ⟨none, 0, 0, false, rfl, NatV.zero H 0, rfl⟩
theorem IntV.open {H : PH} {v : Value} {z : Int} (h : IntV H v z) : ∃ A l c b, v = .agg #[.slice A l c, .bool b] ∧ NatV H (.agg #[.slice A l c]) z.natAbs ∧ z = sg b z.natAbs ∧ (b = true → z.natAbs ≠ 0) := by
  obtain ⟨A, l, c, b, h1, h2, rfl⟩ := h
  exact ⟨A, l, c, _, h1, h2, (sg_self z).symm, fun h => by have := of_decide_eq_true h; omega⟩
theorem IntV.mk {H : PH} {A : Option Addr} {l c : Nat} {b : Bool} {x : Nat} (h : NatV H (.agg #[.slice A l c]) x) (hb : b = true → x ≠ 0) : IntV H (.agg #[.slice A l c, .bool b]) (sg b x) := by
  refine ⟨A, l, c, b, rfl, by rw [sg_natAbs]; exact h, ?_⟩
  rw [decide_sg]
  cases b with
  | false => rfl
  | true => have := hb rfl; simp; omega
theorem IntV.form {H : PH} {v : Value} {z : Int} (h : IntV H v z) : ∃ A l c b, v = .agg #[.slice A l c, .bool b] := by
  obtain ⟨A, l, c, b, h1, _⟩ := h
  exact ⟨A, l, c, b, h1⟩

theorem from_ok (H : PH) (b : Bool) (va : Value) (x : Nat) (ha : NatV H va x) (hb : bl x ≤ 4294967296) : FnP Try.prog 60 [.bool b, va] H fun v H' => IntV H' v (sg b x) := by
  obtain ⟨A, l, c, rfl⟩ := ha.form
  refine of_whole_From (by simp) ?_
  try simp only [go_sem, Nat.reduceEqDiff, Nat.reduceAdd, Bool.false_eq_true, Nat.reduceBEq, ↓reduceIte, p_whole_From]
  cases b with
  | false =>
    try simp only [go_sem, Nat.reduceEqDiff, Nat.reduceAdd, Bool.false_eq_true, Nat.reduceBEq, ↓reduceIte]
    exact ⟨by trivial, IntV.mk ha fun h => by cases h⟩
  | true =>
    try simp only [go_sem, Nat.reduceEqDiff, Nat.reduceAdd, Bool.false_eq_true, Nat.reduceBEq, ↓reduceIte]
    first | refine ev_call (nbits_ok _ _ x ha hb) ?_ | refine ev_callP (nbits_ok _ _ x ha hb) ?_
    rintro v_1 H_1 le_1 rfl _
    replace ha := ha.le le_1
    try simp only [go_sem, Nat.reduceEqDiff, Nat.reduceAdd, Bool.false_eq_true, Nat.reduceBEq, ↓reduceIte]
    refine ev_if (fun h => ?_) (fun h => ?_)
    · try simp only [go_sem, Nat.reduceEqDiff, Nat.reduceAdd, Bool.false_eq_true, Nat.reduceBEq, ↓reduceIte]
      exact ⟨by trivial, IntV.mk ha fun _ e => by rw [e, bl_zero] at h; omega⟩
    · try simp only [go_sem, Nat.reduceEqDiff, Nat.reduceAdd, Bool.false_eq_true, Nat.reduceBEq, ↓reduceIte]
      have h0 : x = 0 := bl_eq_zero.1 (by omega)
      subst h0
      exact ⟨by trivial, IntV.mk (b := false) ha fun h => by cases h⟩

theorem wof_ok (H : PH) (n : Int) (h1 : -9223372036854775808 ≤ n) (h2 : n ≤ 9223372036854775807) : FnP Try.prog 47 [.int .i64 n] H fun v H' => IntV H' v n := by
  refine of_whole_Of (by simp) ?_
  try simp only [go_sem, Nat.reduceEqDiff, Nat.reduceAdd, Bool.false_eq_true, Nat.reduceBEq, ↓reduceIte, p_whole_Of]
  refine ev_if (fun h => ?_) (fun h => ?_)
  · try simp only [go_sem, Nat.reduceEqDiff, Nat.reduceAdd, Bool.false_eq_true, Nat.reduceBEq, ↓reduceIte]
    rw [show IntKind.u64.wrap (0 - IntKind.u64.wrap n) = ((n.natAbs : Nat) : Int) by rw [wu64_mod, wu64_mod]; omega]
    first | refine ev_call (of_ok _ n.natAbs (by omega)) ?_ | refine ev_callP (of_ok _ n.natAbs (by omega)) ?_
    rintro v_2 H_2 le_2 hN _
    try simp only [go_sem, Nat.reduceEqDiff, Nat.reduceAdd, Bool.false_eq_true, Nat.reduceBEq, ↓reduceIte]
    obtain ⟨A, l, c, rfl⟩ := hN.form
    first | refine ev_call (from_ok _ true _ _ hN (Nat.le_trans (bl_le_iff.2 (show n.natAbs < 2 ^ 64 by omega)) (by decide))) ?_ | refine ev_callP (from_ok _ true _ _ hN (Nat.le_trans (bl_le_iff.2 (show n.natAbs < 2 ^ 64 by omega)) (by decide))) ?_
    rintro v_3 H_3 le_3 hV _
    try simp only [go_sem, Nat.reduceEqDiff, Nat.reduceAdd, Bool.false_eq_true, Nat.reduceBEq, ↓reduceIte]
    obtain ⟨A, l, c, b, rfl⟩ := hV.form
    try simp only [go_sem, Nat.reduceEqDiff, Nat.reduceAdd, Bool.false_eq_true, Nat.reduceBEq, ↓reduceIte]
    rw [show sg true n.natAbs = n by rw [sg_true]; omega] at hV
    exact ⟨by trivial, hV⟩
  · try simp only [go_sem, Nat.reduceEqDiff, Nat.reduceAdd, Bool.false_eq_true, Nat.reduceBEq, ↓reduceIte]
    rw [show IntKind.u64.wrap n = ((n.natAbs : Nat) : Int) by rw [wu64_mod]; omega]
    first | refine ev_call (of_ok _ n.natAbs (by omega)) ?_ | refine ev_callP (of_ok _ n.natAbs (by omega)) ?_
    rintro v_4 H_4 le_4 hN _
    try simp only [go_sem, Nat.reduceEqDiff, Nat.reduceAdd, Bool.false_eq_true, Nat.reduceBEq, ↓reduceIte]
    obtain ⟨A, l, c, rfl⟩ := hN.form
    first | refine ev_call (from_ok _ false _ _ hN (Nat.le_trans (bl_le_iff.2 (show n.natAbs < 2 ^ 64 by omega)) (by decide))) ?_ | refine ev_callP (from_ok _ false _ _ hN (Nat.le_trans (bl_le_iff.2 (show n.natAbs < 2 ^ 64 by omega)) (by decide))) ?_
    rintro v_5 H_5 le_5 hV _
    try simp only [go_sem, Nat.reduceEqDiff, Nat.reduceAdd, Bool.false_eq_true, Nat.reduceBEq, ↓reduceIte]
    obtain ⟨A, l, c, b, rfl⟩ := hV.form
    try simp only [go_sem, Nat.reduceEqDiff, Nat.reduceAdd, Bool.false_eq_true, Nat.reduceBEq, ↓reduceIte]
    rw [show sg false n.natAbs = n by rw [sg_false]; omega] at hV
    exact ⟨by trivial, hV⟩

theorem bs_head (t : ByteArray) (h : t.size ≠ 0) : bAt t 0 = (bs t).getD 0 0 := bs_getD t 0
theorem bs_extract (t : ByteArray) : bs (t.extract 1 t.size) = (bs t).drop 1 := by
  unfold bs
  simp [List.map_drop, List.extract]
  exact List.take_of_length_le (by simp)

theorem txt_size (x : Nat) (h0 : x ≠ 0) (hb : bl x ≤ 4294967296) : (txt x).length ≤ 4294967297 := by
  unfold txt
  rw [if_neg h0, List.length_reverse, ds_length]
  have h1 := nd_le h0
  have h2 : 2 ^ (nd x - 1) ≤ x := Nat.le_trans (Nat.pow_le_pow_left (by decide) _) h1
  have h3 := lt_bl_iff.2 h2
  omega
theorem minus_txt (x : Nat) : (⟨#[45]⟩ : ByteArray) ++ ofB (txt x) = ofB (45 :: txt x) := by
  apply bs_inj
  rw [bs_ofB (fun d hd => by
    rcases List.mem_cons.1 hd with rfl | hd
    · decide
    · exact txt_lt _ d hd)]
  have h := bs_ofB (txt_lt x)
  unfold bs at h ⊢
  rw [ByteArray.data_append, Array.toList_append, List.map_append, h]
  rfl

theorem wtext_ok (H : PH) (v : Value) (z : Int) (hV : IntV H v z) (hb : bi z ≤ 4294967296) : FnP Try.prog 19 [v] H fun v _ => v = .string (ofB (itxt z)) := by
  obtain ⟨A, l, c, b, rfl, hN, hz, hb0⟩ := hV.open
  refine of_whole_Int_Text (by simp) ?_
  try simp only [go_sem, Nat.reduceEqDiff, Nat.reduceAdd, Bool.false_eq_true, Nat.reduceBEq, ↓reduceIte, p_whole_Int_Text]
  cases b with
  | false =>
    have h0 : ¬ z < 0 := by rw [hz, sg_false]; omega
    try simp only [go_sem, Nat.reduceEqDiff, Nat.reduceAdd, Bool.false_eq_true, Nat.reduceBEq, ↓reduceIte]
    first | refine ev_call (text_ok _ _ _ hN hb) ?_ | refine ev_callP (text_ok _ _ _ hN hb) ?_
    rintro v_6 H_6 le_6 rfl _
    try simp only [go_sem, Nat.reduceEqDiff, Nat.reduceAdd, Bool.false_eq_true, Nat.reduceBEq, ↓reduceIte]
    refine ⟨by trivial, ?_⟩
    unfold itxt; rw [if_neg h0]
  | true =>
    have h0 : z < 0 := by have := hb0 rfl; rw [hz, sg_true]; omega
    try simp only [go_sem, Nat.reduceEqDiff, Nat.reduceAdd, Bool.false_eq_true, Nat.reduceBEq, ↓reduceIte]
    first | refine ev_call (text_ok _ _ _ hN hb) ?_ | refine ev_callP (text_ok _ _ _ hN hb) ?_
    rintro v_7 H_7 le_7 rfl _
    try simp only [go_sem, Nat.reduceEqDiff, Nat.reduceAdd, Bool.false_eq_true, Nat.reduceBEq, ↓reduceIte]
    refine ev_cat (by rw [ofB_size]; have := txt_size z.natAbs (by omega) hb; show 1 + _ ≤ _; omega) ?_
    try simp only [go_sem, Nat.reduceEqDiff, Nat.reduceAdd, Bool.false_eq_true, Nat.reduceBEq, ↓reduceIte]
    refine ⟨by trivial, ?_⟩
    unfold itxt; rw [if_pos h0, minus_txt]

theorem wsign_ok (H : PH) (v : Value) (z : Int) (hV : IntV H v z) (hb : bi z ≤ 4294967296) : FnP Try.prog 49 [v] H fun v _ => v = .int .i64 (sgnI z) := by
  obtain ⟨A, l, c, b, rfl, hN, hz, hb0⟩ := hV.open
  refine of_whole_Int_Sign (by simp) ?_
  try simp only [go_sem, Nat.reduceEqDiff, Nat.reduceAdd, Bool.false_eq_true, Nat.reduceBEq, ↓reduceIte, p_whole_Int_Sign]
  cases b with
  | true =>
    have h0 : z < 0 := by have := hb0 rfl; rw [hz, sg_true]; omega
    try simp only [go_sem, Nat.reduceEqDiff, Nat.reduceAdd, Bool.false_eq_true, Nat.reduceBEq, ↓reduceIte]
    refine ⟨by trivial, ?_⟩
    unfold sgnI; rw [if_pos h0]
  | false =>
    have h0 : ¬ z < 0 := by rw [hz, sg_false]; omega
    try simp only [go_sem, Nat.reduceEqDiff, Nat.reduceAdd, Bool.false_eq_true, Nat.reduceBEq, ↓reduceIte]
    first | refine ev_call (nbits_ok _ _ _ hN hb) ?_ | refine ev_callP (nbits_ok _ _ _ hN hb) ?_
    rintro v_8 H_8 le_8 rfl _
    try simp only [go_sem, Nat.reduceEqDiff, Nat.reduceAdd, Bool.false_eq_true, Nat.reduceBEq, ↓reduceIte]
    refine ev_if (fun h => ?_) (fun h => ?_)
    · try simp only [go_sem, Nat.reduceEqDiff, Nat.reduceAdd, Bool.false_eq_true, Nat.reduceBEq, ↓reduceIte]
      have : z.natAbs = 0 := bl_eq_zero.1 (by omega)
      refine ⟨by trivial, ?_⟩
      unfold sgnI; rw [if_neg h0, if_neg (by omega)]
    · try simp only [go_sem, Nat.reduceEqDiff, Nat.reduceAdd, Bool.false_eq_true, Nat.reduceBEq, ↓reduceIte]
      have : z.natAbs ≠ 0 := fun e => h (by rw [e]; rfl)
      refine ⟨by trivial, ?_⟩
      unfold sgnI; rw [if_neg h0, if_pos (by omega)]

theorem wabs_ok (H : PH) (v : Value) (z : Int) (hV : IntV H v z) : FnP Try.prog 54 [v] H fun v H' => NatV H' v z.natAbs := by
  obtain ⟨A, l, c, b, rfl, hN, hz, hb0⟩ := hV.open
  refine of_whole_Int_Abs (by simp) ?_
  try simp only [go_sem, Nat.reduceEqDiff, Nat.reduceAdd, Bool.false_eq_true, Nat.reduceBEq, ↓reduceIte, p_whole_Int_Abs]
  exact ⟨by trivial, hN⟩

theorem cmpN_sg (x y : Nat) : cmpN x y = cmpI x y := by
  unfold cmpN
  rcases Nat.lt_trichotomy x y with h | h | h
  · rw [if_pos h, cmpI_lt (by omega)]
  · rw [if_neg (by omega), if_neg (by omega), cmpI_eq (by omega)]
  · rw [if_neg (by omega), if_pos h, cmpI_gt (by omega)]

theorem wcmp_ok (H : PH) (va vb : Value) (z w : Int) (ha : IntV H va z) (hb : IntV H vb w) (hbz : bi z ≤ 4294967296) (hbw : bi w ≤ 4294967296) : FnP Try.prog 77 [va, vb] H fun v _ => v = .int .i64 (cmpI z w) := by
  obtain ⟨A, l, c, b, rfl, hN, hz, hb0⟩ := ha.open
  obtain ⟨B, m, e, d, rfl, hM, hw, hd0⟩ := hb.open
  unfold bi at hbz hbw
  generalize z.natAbs = x at *
  generalize w.natAbs = y at *
  subst hz; subst hw
  refine of_whole_Cmp (by simp) ?_
  try simp only [go_sem, Nat.reduceEqDiff, Nat.reduceAdd, Bool.false_eq_true, Nat.reduceBEq, ↓reduceIte, p_whole_Cmp]
  cases b with
  | true =>
    have := hb0 rfl
    cases d with
    | true =>
      try simp only [go_sem, Nat.reduceEqDiff, Nat.reduceAdd, Bool.false_eq_true, Nat.reduceBEq, ↓reduceIte]
      first | refine ev_call (cmp_ok _ _ _ _ _ hM hN hbw hbz) ?_ | refine ev_callP (cmp_ok _ _ _ _ _ hM hN hbw hbz) ?_
      rintro v_9 H_9 le_9 rfl _
      try simp only [go_sem, Nat.reduceEqDiff, Nat.reduceAdd, Bool.false_eq_true, Nat.reduceBEq, ↓reduceIte]
      refine ⟨by trivial, ?_⟩
      rw [cmpN_sg, sg_true, sg_true, cmpI_neg]
    | false =>
      try simp only [go_sem, Nat.reduceEqDiff, Nat.reduceAdd, Bool.false_eq_true, Nat.reduceBEq, ↓reduceIte]
      refine ⟨by trivial, ?_⟩
      rw [cmpI_lt (by rw [sg_true, sg_false]; omega)]
  | false =>
    cases d with
    | true =>
      have := hd0 rfl
      try simp only [go_sem, Nat.reduceEqDiff, Nat.reduceAdd, Bool.false_eq_true, Nat.reduceBEq, ↓reduceIte]
      refine ⟨by trivial, ?_⟩
      rw [cmpI_gt (by rw [sg_true, sg_false]; omega)]
    | false =>
      try simp only [go_sem, Nat.reduceEqDiff, Nat.reduceAdd, Bool.false_eq_true, Nat.reduceBEq, ↓reduceIte]
      first | refine ev_call (cmp_ok _ _ _ _ _ hN hM hbz hbw) ?_ | refine ev_callP (cmp_ok _ _ _ _ _ hN hM hbz hbw) ?_
      rintro v_10 H_10 le_10 rfl _
      try simp only [go_sem, Nat.reduceEqDiff, Nat.reduceAdd, Bool.false_eq_true, Nat.reduceBEq, ↓reduceIte]
      refine ⟨by trivial, ?_⟩
      rw [cmpN_sg]; rfl

theorem wneg_ok (H : PH) (v : Value) (z : Int) (hV : IntV H v z) (hb : bi z ≤ 4294967296) : FnP Try.prog 63 [v] H fun v H' => IntV H' v (-z) := by
  obtain ⟨A, l, c, b, rfl, hN, hz, hb0⟩ := hV.open
  refine of_whole_Neg (by simp) ?_
  try simp only [go_sem, Nat.reduceEqDiff, Nat.reduceAdd, Bool.false_eq_true, Nat.reduceBEq, ↓reduceIte, p_whole_Neg]
  first | refine ev_call (from_ok _ (!b) _ _ hN hb) ?_ | refine ev_callP (from_ok _ (!b) _ _ hN hb) ?_
  rintro v_11 H_11 le_11 hR _
  try simp only [go_sem, Nat.reduceEqDiff, Nat.reduceAdd, Bool.false_eq_true, Nat.reduceBEq, ↓reduceIte]
  obtain ⟨A', l', c', b', rfl⟩ := hR.form
  try simp only [go_sem, Nat.reduceEqDiff, Nat.reduceAdd, Bool.false_eq_true, Nat.reduceBEq, ↓reduceIte]
  rw [← sg_neg, ← hz] at hR
  exact ⟨by trivial, hR⟩

end Go.Proofs.Ytepnmenidnjikaa.X
set_option linter.unusedVariables false
set_option linter.unusedSimpArgs false
namespace Go.Proofs.Ytepnmenidnjikaa.X
open Go Go.RowKit Go.Proofs

theorem wadd_ok (H : PH) (va vb : Value) (z w : Int) (ha : IntV H va z) (hb : IntV H vb w) (hbz : bi z ≤ 4294967290) (hbw : bi w ≤ 4294967290) : FnP Try.prog 70 [va, vb] H fun v H' => IntV H' v (z + w) := by
  obtain ⟨A, l, c, b, rfl, hN, hz, hb0⟩ := ha.open
  obtain ⟨B, m, e, d, rfl, hM, hw, hd0⟩ := hb.open
  unfold bi at hbz hbw
  generalize z.natAbs = x at *
  generalize w.natAbs = y at *
  subst hz; subst hw
  clear ha hb
  have s1 := bl_add x y
  have s2 := bl_mono (Nat.sub_le x y)
  have s3 := bl_mono (Nat.sub_le y x)
  refine of_whole_Add (by simp) ?_
  try simp only [go_sem, Nat.reduceEqDiff, Nat.reduceAdd, Bool.false_eq_true, Nat.reduceBEq, ↓reduceIte, p_whole_Add]
  cases b with
  | true =>
    cases d with
    | true =>
      try simp only [go_sem, Nat.reduceEqDiff, Nat.reduceAdd, Bool.false_eq_true, Nat.reduceBEq, ↓reduceIte]
      first | refine ev_call (add_ok _ _ _ x y hN hM (by omega) (by omega)) ?_ | refine ev_callP (add_ok _ _ _ x y hN hM (by omega) (by omega)) ?_
      rintro v_1 H_1 le_1 g0 _
      try simp only [go_sem, Nat.reduceEqDiff, Nat.reduceAdd, Bool.false_eq_true, Nat.reduceBEq, ↓reduceIte]
      obtain ⟨C, k, g, rfl⟩ := g0.form
      try simp only [go_sem, Nat.reduceEqDiff, Nat.reduceAdd, Bool.false_eq_true, Nat.reduceBEq, ↓reduceIte]
      first | refine ev_call (from_ok _ _ _ _ g0 (by omega)) ?_ | refine ev_callP (from_ok _ _ _ _ g0 (by omega)) ?_
      rintro v_2 H_2 le_2 hR _
      try simp only [go_sem, Nat.reduceEqDiff, Nat.reduceAdd, Bool.false_eq_true, Nat.reduceBEq, ↓reduceIte]
      rw [← sg_add_same] at hR
      obtain ⟨A1, l1, c1, b1, rfl⟩ := hR.form
      try simp only [go_sem, Nat.reduceEqDiff, Nat.reduceAdd, Bool.false_eq_true, Nat.reduceBEq, ↓reduceIte]
      exact ⟨by trivial, hR⟩
    | false =>
      have hge := sg_add_ge true x y
      have hlt := sg_add_lt true x y
      simp only [Bool.not_true] at hge hlt
      try simp only [go_sem, Nat.reduceEqDiff, Nat.reduceAdd, Bool.false_eq_true, Nat.reduceBEq, ↓reduceIte]
      by_cases hle : y ≤ x
      · skip
        first | refine ev_call (sub_okT _ _ _ x y hN hM (by omega) (by omega) hle) ?_ | refine ev_callP (sub_okT _ _ _ x y hN hM (by omega) (by omega) hle) ?_
        rintro v_3 H_3 le_3 ⟨vs, rfl, g0⟩ _
        replace hN := hN.le le_3
        replace hM := hM.le le_3
        try simp only [go_sem, Nat.reduceEqDiff, Nat.reduceAdd, Bool.false_eq_true, Nat.reduceBEq, ↓reduceIte]
        obtain ⟨C, k, g, rfl⟩ := g0.form
        try simp only [go_sem, Nat.reduceEqDiff, Nat.reduceAdd, Bool.false_eq_true, Nat.reduceBEq, ↓reduceIte]
        first | refine ev_call (from_ok _ _ _ _ g0 (by omega)) ?_ | refine ev_callP (from_ok _ _ _ _ g0 (by omega)) ?_
        rintro v_4 H_4 le_4 hR _
        try simp only [go_sem, Nat.reduceEqDiff, Nat.reduceAdd, Bool.false_eq_true, Nat.reduceBEq, ↓reduceIte]
        rw [← hge hle] at hR
        obtain ⟨A1, l1, c1, b1, rfl⟩ := hR.form
        try simp only [go_sem, Nat.reduceEqDiff, Nat.reduceAdd, Bool.false_eq_true, Nat.reduceBEq, ↓reduceIte]
        exact ⟨by trivial, hR⟩
      · skip
        first | refine ev_call (sub_okF _ _ _ x y hN hM (by omega) (by omega) hle) ?_ | refine ev_callP (sub_okF _ _ _ x y hN hM (by omega) (by omega) hle) ?_
        rintro v_5 H_5 le_5 ⟨vs, rfl, g0⟩ _
        replace hN := hN.le le_5
        replace hM := hM.le le_5
        try simp only [go_sem, Nat.reduceEqDiff, Nat.reduceAdd, Bool.false_eq_true, Nat.reduceBEq, ↓reduceIte]
        obtain ⟨C, k, g, rfl⟩ := g0.form
        try simp only [go_sem, Nat.reduceEqDiff, Nat.reduceAdd, Bool.false_eq_true, Nat.reduceBEq, ↓reduceIte]
        first | refine ev_call (sub_okT _ _ _ y x hM hN (by omega) (by omega) (by omega)) ?_ | refine ev_callP (sub_okT _ _ _ y x hM hN (by omega) (by omega) (by omega)) ?_
        rintro v_6 H_6 le_6 ⟨vt, rfl, g1⟩ _
        replace hN := hN.le le_6
        replace hM := hM.le le_6
        try simp only [go_sem, Nat.reduceEqDiff, Nat.reduceAdd, Bool.false_eq_true, Nat.reduceBEq, ↓reduceIte]
        obtain ⟨D, k2, g2, rfl⟩ := g1.form
        try simp only [go_sem, Nat.reduceEqDiff, Nat.reduceAdd, Bool.false_eq_true, Nat.reduceBEq, ↓reduceIte]
        first | refine ev_call (from_ok _ _ _ _ g1 (by omega)) ?_ | refine ev_callP (from_ok _ _ _ _ g1 (by omega)) ?_
        rintro v_7 H_7 le_7 hR _
        try simp only [go_sem, Nat.reduceEqDiff, Nat.reduceAdd, Bool.false_eq_true, Nat.reduceBEq, ↓reduceIte]
        rw [← hlt (by omega)] at hR
        obtain ⟨A1, l1, c1, b1, rfl⟩ := hR.form
        try simp only [go_sem, Nat.reduceEqDiff, Nat.reduceAdd, Bool.false_eq_true, Nat.reduceBEq, ↓reduceIte]
        exact ⟨by trivial, hR⟩
  | false =>
    cases d with
    | true =>
      have hge := sg_add_ge false x y
      have hlt := sg_add_lt false x y
      simp only [Bool.not_false] at hge hlt
      try simp only [go_sem, Nat.reduceEqDiff, Nat.reduceAdd, Bool.false_eq_true, Nat.reduceBEq, ↓reduceIte]
      by_cases hle : y ≤ x
      · skip
        first | refine ev_call (sub_okT _ _ _ x y hN hM (by omega) (by omega) hle) ?_ | refine ev_callP (sub_okT _ _ _ x y hN hM (by omega) (by omega) hle) ?_
        rintro v_3 H_3 le_3 ⟨vs, rfl, g0⟩ _
        replace hN := hN.le le_3
        replace hM := hM.le le_3
        try simp only [go_sem, Nat.reduceEqDiff, Nat.reduceAdd, Bool.false_eq_true, Nat.reduceBEq, ↓reduceIte]
        obtain ⟨C, k, g, rfl⟩ := g0.form
        try simp only [go_sem, Nat.reduceEqDiff, Nat.reduceAdd, Bool.false_eq_true, Nat.reduceBEq, ↓reduceIte]
        first | refine ev_call (from_ok _ _ _ _ g0 (by omega)) ?_ | refine ev_callP (from_ok _ _ _ _ g0 (by omega)) ?_
        rintro v_4 H_4 le_4 hR _
        try simp only [go_sem, Nat.reduceEqDiff, Nat.reduceAdd, Bool.false_eq_true, Nat.reduceBEq, ↓reduceIte]
        rw [← hge hle] at hR
        obtain ⟨A1, l1, c1, b1, rfl⟩ := hR.form
        try simp only [go_sem, Nat.reduceEqDiff, Nat.reduceAdd, Bool.false_eq_true, Nat.reduceBEq, ↓reduceIte]
        exact ⟨by trivial, hR⟩
      · skip
        first | refine ev_call (sub_okF _ _ _ x y hN hM (by omega) (by omega) hle) ?_ | refine ev_callP (sub_okF _ _ _ x y hN hM (by omega) (by omega) hle) ?_
        rintro v_5 H_5 le_5 ⟨vs, rfl, g0⟩ _
        replace hN := hN.le le_5
        replace hM := hM.le le_5
        try simp only [go_sem, Nat.reduceEqDiff, Nat.reduceAdd, Bool.false_eq_true, Nat.reduceBEq, ↓reduceIte]
        obtain ⟨C, k, g, rfl⟩ := g0.form
        try simp only [go_sem, Nat.reduceEqDiff, Nat.reduceAdd, Bool.false_eq_true, Nat.reduceBEq, ↓reduceIte]
        first | refine ev_call (sub_okT _ _ _ y x hM hN (by omega) (by omega) (by omega)) ?_ | refine ev_callP (sub_okT _ _ _ y x hM hN (by omega) (by omega) (by omega)) ?_
        rintro v_6 H_6 le_6 ⟨vt, rfl, g1⟩ _
        replace hN := hN.le le_6
        replace hM := hM.le le_6
        try simp only [go_sem, Nat.reduceEqDiff, Nat.reduceAdd, Bool.false_eq_true, Nat.reduceBEq, ↓reduceIte]
        obtain ⟨D, k2, g2, rfl⟩ := g1.form
        try simp only [go_sem, Nat.reduceEqDiff, Nat.reduceAdd, Bool.false_eq_true, Nat.reduceBEq, ↓reduceIte]
        first | refine ev_call (from_ok _ _ _ _ g1 (by omega)) ?_ | refine ev_callP (from_ok _ _ _ _ g1 (by omega)) ?_
        rintro v_7 H_7 le_7 hR _
        try simp only [go_sem, Nat.reduceEqDiff, Nat.reduceAdd, Bool.false_eq_true, Nat.reduceBEq, ↓reduceIte]
        rw [← hlt (by omega)] at hR
        obtain ⟨A1, l1, c1, b1, rfl⟩ := hR.form
        try simp only [go_sem, Nat.reduceEqDiff, Nat.reduceAdd, Bool.false_eq_true, Nat.reduceBEq, ↓reduceIte]
        exact ⟨by trivial, hR⟩
    | false =>
      try simp only [go_sem, Nat.reduceEqDiff, Nat.reduceAdd, Bool.false_eq_true, Nat.reduceBEq, ↓reduceIte]
      first | refine ev_call (add_ok _ _ _ x y hN hM (by omega) (by omega)) ?_ | refine ev_callP (add_ok _ _ _ x y hN hM (by omega) (by omega)) ?_
      rintro v_1 H_1 le_1 g0 _
      try simp only [go_sem, Nat.reduceEqDiff, Nat.reduceAdd, Bool.false_eq_true, Nat.reduceBEq, ↓reduceIte]
      obtain ⟨C, k, g, rfl⟩ := g0.form
      try simp only [go_sem, Nat.reduceEqDiff, Nat.reduceAdd, Bool.false_eq_true, Nat.reduceBEq, ↓reduceIte]
      first | refine ev_call (from_ok _ _ _ _ g0 (by omega)) ?_ | refine ev_callP (from_ok _ _ _ _ g0 (by omega)) ?_
      rintro v_2 H_2 le_2 hR _
      try simp only [go_sem, Nat.reduceEqDiff, Nat.reduceAdd, Bool.false_eq_true, Nat.reduceBEq, ↓reduceIte]
      rw [← sg_add_same] at hR
      obtain ⟨A1, l1, c1, b1, rfl⟩ := hR.form
      try simp only [go_sem, Nat.reduceEqDiff, Nat.reduceAdd, Bool.false_eq_true, Nat.reduceBEq, ↓reduceIte]
      exact ⟨by trivial, hR⟩

theorem wmul_ok (H : PH) (va vb : Value) (z w : Int) (ha : IntV H va z) (hb : IntV H vb w) (hbz : bi z + bi w ≤ 4294967290) : FnP Try.prog 48 [va, vb] H fun v H' => IntV H' v (z * w) := by
  obtain ⟨A, l, c, b, rfl, hN, hz, hb0⟩ := ha.open
  obtain ⟨B, m, e, d, rfl, hM, hw, hd0⟩ := hb.open
  unfold bi at hbz
  generalize z.natAbs = x at *
  generalize w.natAbs = y at *
  subst hz; subst hw
  clear ha hb
  have s1 := bl_mul x y
  refine of_whole_Mul (by simp) ?_
  try simp only [go_sem, Nat.reduceEqDiff, Nat.reduceAdd, Bool.false_eq_true, Nat.reduceBEq, ↓reduceIte, p_whole_Mul]
  first | refine ev_call (mul_ok _ _ _ x y hN hM (by omega) (by omega)) ?_ | refine ev_callP (mul_ok _ _ _ x y hN hM (by omega) (by omega)) ?_
  rintro v_10 H_10 le_10 g0 _
  try simp only [go_sem, Nat.reduceEqDiff, Nat.reduceAdd, Bool.false_eq_true, Nat.reduceBEq, ↓reduceIte]
  obtain ⟨C, k, g, rfl⟩ := g0.form
  rw [sg_mul]
  cases b <;> cases d
  all_goals
    try simp only [go_sem, Nat.reduceEqDiff, Nat.reduceAdd, Bool.false_eq_true, Nat.reduceBEq, ↓reduceIte]
    first | refine ev_call (from_ok _ _ _ _ g0 (by omega)) ?_ | refine ev_callP (from_ok _ _ _ _ g0 (by omega)) ?_
    rintro v9 H9 le9 hR _
    obtain ⟨A1, l1, c1, b1, rfl⟩ := hR.form
    try simp only [go_sem, Nat.reduceEqDiff, Nat.reduceAdd, Bool.false_eq_true, Nat.reduceBEq, ↓reduceIte]
    exact ⟨by trivial, hR⟩

theorem wparse_ok (H : PH) (t : ByteArray) : FnP Try.prog 25 [.string t] H fun v H' => ∃ v', v = .tuple #[v', .int .i64 (if intOk (bs t) then 0 else 2)] ∧ IntV H' v' (if intOk (bs t) then iv (bs t) else 0) := by
  have hsz := bs_length t
  have bad : intOk (bs t) = false → ∀ H' : PH, ∃ v', (Value.tuple #[.agg #[.slice none 0 0, .bool false], .int .i64 2]) = .tuple #[v', .int .i64 (if intOk (bs t) then 0 else 2)] ∧ IntV H' v' (if intOk (bs t) then iv (bs t) else 0) := by
    intro h H'
    rw [h]
    exact ⟨_, rfl, IntV.zero _⟩
  refine of_whole_Parse (by simp) ?_
  try simp only [go_sem, Nat.reduceEqDiff, Nat.reduceAdd, Bool.false_eq_true, Nat.reduceBEq, ↓reduceIte, p_whole_Parse]
  refine ev_if (fun h => ?_) (fun h => ?_)
  · have hne : t.size ≠ 0 := fun h0 => h (by apply bs_inj; rw [List.eq_nil_of_length_eq_zero (by omega : (bs t).length = 0)]; rfl)
    have hb0 := bs_getD t 0
    try simp only [go_sem, Nat.reduceEqDiff, Nat.reduceAdd, Bool.false_eq_true, Nat.reduceBEq, ↓reduceIte]
    refine ev_ix (by omega) (by omega) ?_
    try simp only [go_sem, Nat.reduceEqDiff, Nat.reduceAdd, Bool.false_eq_true, Nat.reduceBEq, ↓reduceIte]
    rw [show (0 : Int).toNat = 0 from rfl]
    refine ev_if (fun h2 => ?_) (fun h2 => ?_)
    · have h45 : (bs t).getD 0 0 = 45 := by rw [← hb0]; omega
      have hex := bs_extract t
      have hok : intOk (bs t) = (decOk ((bs t).drop 1) && dv ((bs t).drop 1) != 0) := by unfold intOk; rw [if_pos h45]
      have hiv : iv (bs t) = sg true (dv ((bs t).drop 1)) := by unfold iv; rw [if_pos h45]; rfl
      try simp only [go_sem, Nat.reduceEqDiff, Nat.reduceAdd, Bool.false_eq_true, Nat.reduceBEq, ↓reduceIte]
      refine ev_ss (by omega) (by omega) (by omega) ?_
      rw [show (1 : Int).toNat = 1 from rfl, toNat_cast]
      try simp only [go_sem, Nat.reduceEqDiff, Nat.reduceAdd, Bool.false_eq_true, Nat.reduceBEq, ↓reduceIte]
      first | refine ev_call (parse_ok _ (t.extract 1 t.size)) ?_ | refine ev_callP (parse_ok _ (t.extract 1 t.size)) ?_
      rintro v_13 H_13 le_13 ⟨va, rfl, hN⟩ _
      try simp only [go_sem, Nat.reduceEqDiff, Nat.reduceAdd, Bool.false_eq_true, Nat.reduceBEq, ↓reduceIte]
      rw [hex] at hN ⊢
      obtain ⟨A, l, c, rfl⟩ := hN.form
      cases hk : decOk ((bs t).drop 1) with
      | false =>
        try simp only [go_sem, Nat.reduceEqDiff, Nat.reduceAdd, Bool.false_eq_true, Nat.reduceBEq, ↓reduceIte, hk]
        refine ev_pos (by decide) ?_
        try simp only [go_sem, Nat.reduceEqDiff, Nat.reduceAdd, Bool.false_eq_true, Nat.reduceBEq, ↓reduceIte]
        exact ⟨by trivial, bad (by rw [hok, hk]; rfl) _⟩
      | true =>
        have hbl := bl_dec hk
        rw [hk, if_pos rfl] at hN
        rw [hk, Bool.true_and] at hok
        generalize dv ((bs t).drop 1) = x at *
        try simp only [go_sem, Nat.reduceEqDiff, Nat.reduceAdd, Bool.false_eq_true, Nat.reduceBEq, ↓reduceIte, hk]
        refine ev_neg (by decide) ?_
        try simp only [go_sem, Nat.reduceEqDiff, Nat.reduceAdd, Bool.false_eq_true, Nat.reduceBEq, ↓reduceIte]
        first | refine ev_call (nbits_ok _ _ _ hN (by omega)) ?_ | refine ev_callP (nbits_ok _ _ _ hN (by omega)) ?_
        rintro v_14 H_14 le_14 rfl _
        replace hN := hN.le le_14
        try simp only [go_sem, Nat.reduceEqDiff, Nat.reduceAdd, Bool.false_eq_true, Nat.reduceBEq, ↓reduceIte]
        refine ev_if (fun h3 => ?_) (fun h3 => ?_)
        · try simp only [go_sem, Nat.reduceEqDiff, Nat.reduceAdd, Bool.false_eq_true, Nat.reduceBEq, ↓reduceIte]
          have hx0 : x = 0 := bl_eq_zero.1 (by omega)
          exact ⟨by trivial, bad (by rw [hok, hx0]; rfl) _⟩
        · try simp only [go_sem, Nat.reduceEqDiff, Nat.reduceAdd, Bool.false_eq_true, Nat.reduceBEq, ↓reduceIte]
          have hx0 : x ≠ 0 := fun e => h3 (by rw [e]; rfl)
          first | refine ev_call (from_ok _ true _ _ hN (by omega)) ?_ | refine ev_callP (from_ok _ true _ _ hN (by omega)) ?_
          rintro v_15 H_15 le_15 hR _
          try simp only [go_sem, Nat.reduceEqDiff, Nat.reduceAdd, Bool.false_eq_true, Nat.reduceBEq, ↓reduceIte]
          obtain ⟨A1, l1, c1, b1, rfl⟩ := hR.form
          try simp only [go_sem, Nat.reduceEqDiff, Nat.reduceAdd, Bool.false_eq_true, Nat.reduceBEq, ↓reduceIte]
          rw [hok, bne_iff_ne.2 hx0, if_pos rfl, if_pos rfl, hiv]
          exact ⟨by trivial, _, rfl, hR⟩
    · have h45 : ¬ (bs t).getD 0 0 = 45 := by rw [← hb0]; omega
      have hok : intOk (bs t) = decOk (bs t) := by unfold intOk; rw [if_neg h45]
      have hiv : iv (bs t) = dv (bs t) := by unfold iv; rw [if_neg h45]
      try simp only [go_sem, Nat.reduceEqDiff, Nat.reduceAdd, Bool.false_eq_true, Nat.reduceBEq, ↓reduceIte]
      first | refine ev_call (parse_ok _ t) ?_ | refine ev_callP (parse_ok _ t) ?_
      rintro v_11 H_11 le_11 ⟨va, rfl, hN⟩ _
      try simp only [go_sem, Nat.reduceEqDiff, Nat.reduceAdd, Bool.false_eq_true, Nat.reduceBEq, ↓reduceIte]
      obtain ⟨A, l, c, rfl⟩ := hN.form
      cases hk : decOk (bs t) with
      | false =>
        try simp only [go_sem, Nat.reduceEqDiff, Nat.reduceAdd, Bool.false_eq_true, Nat.reduceBEq, ↓reduceIte, hk]
        refine ev_pos (by decide) ?_
        try simp only [go_sem, Nat.reduceEqDiff, Nat.reduceAdd, Bool.false_eq_true, Nat.reduceBEq, ↓reduceIte]
        exact ⟨by trivial, bad (by rw [hok, hk]) _⟩
      | true =>
        have hbl := bl_dec hk
        rw [hk, if_pos rfl] at hN
        rw [hok, hk, if_pos rfl, if_pos rfl, hiv]
        try simp only [go_sem, Nat.reduceEqDiff, Nat.reduceAdd, Bool.false_eq_true, Nat.reduceBEq, ↓reduceIte, hk]
        refine ev_neg (by decide) ?_
        try simp only [go_sem, Nat.reduceEqDiff, Nat.reduceAdd, Bool.false_eq_true, Nat.reduceBEq, ↓reduceIte]
        first | refine ev_call (from_ok _ false _ _ hN (by omega)) ?_ | refine ev_callP (from_ok _ false _ _ hN (by omega)) ?_
        rintro v_12 H_12 le_12 hR _
        try simp only [go_sem, Nat.reduceEqDiff, Nat.reduceAdd, Bool.false_eq_true, Nat.reduceBEq, ↓reduceIte]
        obtain ⟨A1, l1, c1, b1, rfl⟩ := hR.form
        try simp only [go_sem, Nat.reduceEqDiff, Nat.reduceAdd, Bool.false_eq_true, Nat.reduceBEq, ↓reduceIte]
        exact ⟨by trivial, _, rfl, hR⟩
  · have h0 : bs t = [] := by
      have : t = ⟨#[]⟩ := by simpa using h
      rw [this]; rfl
    have h45 : ¬ (bs t).getD 0 0 = 45 := by rw [h0]; decide
    have hok : intOk (bs t) = decOk (bs t) := by unfold intOk; rw [if_neg h45]
    have hiv : iv (bs t) = dv (bs t) := by unfold iv; rw [if_neg h45]
    try simp only [go_sem, Nat.reduceEqDiff, Nat.reduceAdd, Bool.false_eq_true, Nat.reduceBEq, ↓reduceIte]
    first | refine ev_call (parse_ok _ t) ?_ | refine ev_callP (parse_ok _ t) ?_
    rintro v_11 H_11 le_11 ⟨va, rfl, hN⟩ _
    try simp only [go_sem, Nat.reduceEqDiff, Nat.reduceAdd, Bool.false_eq_true, Nat.reduceBEq, ↓reduceIte]
    obtain ⟨A, l, c, rfl⟩ := hN.form
    cases hk : decOk (bs t) with
    | false =>
      try simp only [go_sem, Nat.reduceEqDiff, Nat.reduceAdd, Bool.false_eq_true, Nat.reduceBEq, ↓reduceIte, hk]
      refine ev_pos (by decide) ?_
      try simp only [go_sem, Nat.reduceEqDiff, Nat.reduceAdd, Bool.false_eq_true, Nat.reduceBEq, ↓reduceIte]
      exact ⟨by trivial, bad (by rw [hok, hk]) _⟩
    | true =>
      have hbl := bl_dec hk
      rw [hk, if_pos rfl] at hN
      rw [hok, hk, if_pos rfl, if_pos rfl, hiv]
      try simp only [go_sem, Nat.reduceEqDiff, Nat.reduceAdd, Bool.false_eq_true, Nat.reduceBEq, ↓reduceIte, hk]
      refine ev_neg (by decide) ?_
      try simp only [go_sem, Nat.reduceEqDiff, Nat.reduceAdd, Bool.false_eq_true, Nat.reduceBEq, ↓reduceIte]
      first | refine ev_call (from_ok _ false _ _ hN (by omega)) ?_ | refine ev_callP (from_ok _ false _ _ hN (by omega)) ?_
      rintro v_12 H_12 le_12 hR _
      try simp only [go_sem, Nat.reduceEqDiff, Nat.reduceAdd, Bool.false_eq_true, Nat.reduceBEq, ↓reduceIte]
      obtain ⟨A1, l1, c1, b1, rfl⟩ := hR.form
      try simp only [go_sem, Nat.reduceEqDiff, Nat.reduceAdd, Bool.false_eq_true, Nat.reduceBEq, ↓reduceIte]
      exact ⟨by trivial, _, rfl, hR⟩

/-- what a division comes to, downwards -/
def WDivR (z w : Int) (v : Value) (H : PH) : Prop := ∃ vq vr, v = .tuple #[vq, vr, .bool (decide (w ≠ 0))] ∧ IntV H vq (z.fdiv w) ∧ IntV H vr (if w = 0 then 0 else z.fmod w)

theorem wdiv_ok1 (H : PH) (va vb : Value) (z w : Int) (ha : IntV H va z) (hb : IntV H vb w) (hbz : bi z ≤ 4294967100) (hbw : bi w ≤ 4294967100) (hw0 : w ≠ 0) : FnP Try.prog 81 [va, vb] H fun v H' => ∃ vq vr, v = .tuple #[vq, vr, .bool true] ∧ IntV H' vq (z.fdiv w) ∧ IntV H' vr (z.fmod w) := by
  obtain ⟨A, l, c, b, rfl, hN, hz, hb0⟩ := ha.open
  obtain ⟨B, m, e, d, rfl, hM, hw, hd0⟩ := hb.open
  have hy : w.natAbs ≠ 0 := by omega
  unfold bi at hbz hbw
  generalize z.natAbs = x at *
  generalize w.natAbs = y at *
  subst hz; subst hw
  clear ha hb hw0
  have s1 : bl (x / y) ≤ 4294967100 := bl_div hbz
  have s2 := bl_mono (Nat.mod_le x y)
  have s3 := bl_add (x / y) 1
  have s4 := bl_mono (Nat.sub_le y (x % y))
  have b1 : bl 1 = 1 := rfl
  have hmod := Nat.mod_lt x (Nat.pos_of_ne_zero hy)
  refine of_whole_Div (by simp) ?_
  try simp only [go_sem, Nat.reduceEqDiff, Nat.reduceAdd, Bool.false_eq_true, Nat.reduceBEq, ↓reduceIte, p_whole_Div]
  first | refine ev_call (div_ok1 _ _ _ x y hN hM (by omega) (by omega) hy) ?_ | refine ev_callP (div_ok1 _ _ _ x y hN hM (by omega) (by omega) hy) ?_
  rintro v_16 H_16 le_16 ⟨vq, vr, rfl, g1, g2⟩ _
  replace hM := hM.le le_16
  try simp only [go_sem, Nat.reduceEqDiff, Nat.reduceAdd, Bool.false_eq_true, Nat.reduceBEq, ↓reduceIte]
  obtain ⟨C, k, g, rfl⟩ := g1.form
  obtain ⟨D, k2, g2', rfl⟩ := g2.form
  cases b with
  | true =>
    cases d with
    | true =>
      obtain ⟨e1, e2⟩ := sg_fdiv_same true x y hy
      rw [e1, e2]
      try simp only [go_sem, Nat.reduceEqDiff, Nat.reduceAdd, Bool.false_eq_true, Nat.reduceBEq, ↓reduceIte]
      first | refine ev_call (from_ok _ false _ _ g1 (by omega)) ?_ | refine ev_callP (from_ok _ false _ _ g1 (by omega)) ?_
      rintro v_17 H_17 le_17 r1 _
      replace g2 := g2.le le_17
      try simp only [go_sem, Nat.reduceEqDiff, Nat.reduceAdd, Bool.false_eq_true, Nat.reduceBEq, ↓reduceIte]
      rw [sg_false] at r1
      obtain ⟨A1, l1, c1, b1', rfl⟩ := r1.form
      try simp only [go_sem, Nat.reduceEqDiff, Nat.reduceAdd, Bool.false_eq_true, Nat.reduceBEq, ↓reduceIte]
      first | refine ev_call (from_ok _ _ _ _ g2 (by omega)) ?_ | refine ev_callP (from_ok _ _ _ _ g2 (by omega)) ?_
      rintro v_18 H_18 le_18 r2 _
      replace r1 := r1.le le_18
      try simp only [go_sem, Nat.reduceEqDiff, Nat.reduceAdd, Bool.false_eq_true, Nat.reduceBEq, ↓reduceIte]
      obtain ⟨A2, l2, c2, b2', rfl⟩ := r2.form
      try simp only [go_sem, Nat.reduceEqDiff, Nat.reduceAdd, Bool.false_eq_true, Nat.reduceBEq, ↓reduceIte]
      exact ⟨by trivial, _, _, rfl, r1, r2⟩
    | false =>
      have hdf := sg_fdiv_diff true x y hy
      simp only [Bool.not_true] at hdf
      try simp only [go_sem, Nat.reduceEqDiff, Nat.reduceAdd, Bool.false_eq_true, Nat.reduceBEq, ↓reduceIte]
      first | refine ev_call (nbits_ok _ _ _ g2 (by omega)) ?_ | refine ev_callP (nbits_ok _ _ _ g2 (by omega)) ?_
      rintro v_19 H_19 le_19 rfl _
      replace g1 := g1.le le_19
      replace g2 := g2.le le_19
      replace hM := hM.le le_19
      try simp only [go_sem, Nat.reduceEqDiff, Nat.reduceAdd, Bool.false_eq_true, Nat.reduceBEq, ↓reduceIte]
      refine ev_if (fun h => ?_) (fun h => ?_)
      · have hr0 : x % y ≠ 0 := fun e => by rw [e, bl_zero] at h; omega
        try simp only [go_sem, Nat.reduceEqDiff, Nat.reduceAdd, Bool.false_eq_true, Nat.reduceBEq, ↓reduceIte]
        first | refine ev_call (of_ok _ 1 (by decide)) ?_ | refine ev_callP (of_ok _ 1 (by decide)) ?_
        rintro v_20 H_20 le_20 o1 _
        replace g1 := g1.le le_20
        replace g2 := g2.le le_20
        replace hM := hM.le le_20
        try simp only [go_sem, Nat.reduceEqDiff, Nat.reduceAdd, Bool.false_eq_true, Nat.reduceBEq, ↓reduceIte]
        first | refine ev_call (add_ok _ _ _ _ _ g1 o1 (by omega) (by omega)) ?_ | refine ev_callP (add_ok _ _ _ _ _ g1 o1 (by omega) (by omega)) ?_
        rintro v_21 H_21 le_21 q1 _
        replace g2 := g2.le le_21
        replace hM := hM.le le_21
        try simp only [go_sem, Nat.reduceEqDiff, Nat.reduceAdd, Bool.false_eq_true, Nat.reduceBEq, ↓reduceIte]
        obtain ⟨C3, k3, g3, rfl⟩ := q1.form
        try simp only [go_sem, Nat.reduceEqDiff, Nat.reduceAdd, Bool.false_eq_true, Nat.reduceBEq, ↓reduceIte]
        first | refine ev_call (sub_okT _ _ _ y (x % y) hM g2 (by omega) (by omega) (by omega)) ?_ | refine ev_callP (sub_okT _ _ _ y (x % y) hM g2 (by omega) (by omega) (by omega)) ?_
        rintro v_22 H_22 le_22 ⟨vs, rfl, q2⟩ _
        replace q1 := q1.le le_22
        try simp only [go_sem, Nat.reduceEqDiff, Nat.reduceAdd, Bool.false_eq_true, Nat.reduceBEq, ↓reduceIte]
        obtain ⟨C4, k4, g4, rfl⟩ := q2.form
        try simp only [go_sem, Nat.reduceEqDiff, Nat.reduceAdd, Bool.false_eq_true, Nat.reduceBEq, ↓reduceIte]
        first | refine ev_call (from_ok _ true _ _ q1 (by omega)) ?_ | refine ev_callP (from_ok _ true _ _ q1 (by omega)) ?_
        rintro v_23 H_23 le_23 r1 _
        replace q2 := q2.le le_23
        try simp only [go_sem, Nat.reduceEqDiff, Nat.reduceAdd, Bool.false_eq_true, Nat.reduceBEq, ↓reduceIte]
        obtain ⟨A1, l1, c1, b1', rfl⟩ := r1.form
        try simp only [go_sem, Nat.reduceEqDiff, Nat.reduceAdd, Bool.false_eq_true, Nat.reduceBEq, ↓reduceIte]
        first | refine ev_call (from_ok _ _ _ _ q2 (by omega)) ?_ | refine ev_callP (from_ok _ _ _ _ q2 (by omega)) ?_
        rintro v_24 H_24 le_24 r2 _
        replace r1 := r1.le le_24
        try simp only [go_sem, Nat.reduceEqDiff, Nat.reduceAdd, Bool.false_eq_true, Nat.reduceBEq, ↓reduceIte]
        obtain ⟨A2, l2, c2, b2', rfl⟩ := r2.form
        try simp only [go_sem, Nat.reduceEqDiff, Nat.reduceAdd, Bool.false_eq_true, Nat.reduceBEq, ↓reduceIte]
        obtain ⟨e1, e2⟩ := hdf.2 hr0
        rw [e1, e2]
        exact ⟨by trivial, _, _, rfl, r1, r2⟩
      · have hr0 : x % y = 0 := bl_eq_zero.1 (by omega)
        rw [hr0] at g2
        try simp only [go_sem, Nat.reduceEqDiff, Nat.reduceAdd, Bool.false_eq_true, Nat.reduceBEq, ↓reduceIte]
        first | refine ev_call (from_ok _ true _ _ g1 (by omega)) ?_ | refine ev_callP (from_ok _ true _ _ g1 (by omega)) ?_
        rintro v_25 H_25 le_25 r1 _
        replace g2 := g2.le le_25
        try simp only [go_sem, Nat.reduceEqDiff, Nat.reduceAdd, Bool.false_eq_true, Nat.reduceBEq, ↓reduceIte]
        obtain ⟨A1, l1, c1, b1', rfl⟩ := r1.form
        try simp only [go_sem, Nat.reduceEqDiff, Nat.reduceAdd, Bool.false_eq_true, Nat.reduceBEq, ↓reduceIte]
        first | refine ev_call (from_ok _ _ _ _ g2 (by decide)) ?_ | refine ev_callP (from_ok _ _ _ _ g2 (by decide)) ?_
        rintro v_26 H_26 le_26 r2 _
        replace r1 := r1.le le_26
        try simp only [go_sem, Nat.reduceEqDiff, Nat.reduceAdd, Bool.false_eq_true, Nat.reduceBEq, ↓reduceIte]
        rw [sg_zero] at r2
        obtain ⟨A2, l2, c2, b2', rfl⟩ := r2.form
        try simp only [go_sem, Nat.reduceEqDiff, Nat.reduceAdd, Bool.false_eq_true, Nat.reduceBEq, ↓reduceIte]
        obtain ⟨e1, e2⟩ := hdf.1 hr0
        rw [e1, e2]
        exact ⟨by trivial, _, _, rfl, r1, r2⟩
  | false =>
    cases d with
    | true =>
      have hdf := sg_fdiv_diff false x y hy
      simp only [Bool.not_false] at hdf
      try simp only [go_sem, Nat.reduceEqDiff, Nat.reduceAdd, Bool.false_eq_true, Nat.reduceBEq, ↓reduceIte]
      first | refine ev_call (nbits_ok _ _ _ g2 (by omega)) ?_ | refine ev_callP (nbits_ok _ _ _ g2 (by omega)) ?_
      rintro v_19 H_19 le_19 rfl _
      replace g1 := g1.le le_19
      replace g2 := g2.le le_19
      replace hM := hM.le le_19
      try simp only [go_sem, Nat.reduceEqDiff, Nat.reduceAdd, Bool.false_eq_true, Nat.reduceBEq, ↓reduceIte]
      refine ev_if (fun h => ?_) (fun h => ?_)
      · have hr0 : x % y ≠ 0 := fun e => by rw [e, bl_zero] at h; omega
        try simp only [go_sem, Nat.reduceEqDiff, Nat.reduceAdd, Bool.false_eq_true, Nat.reduceBEq, ↓reduceIte]
        first | refine ev_call (of_ok _ 1 (by decide)) ?_ | refine ev_callP (of_ok _ 1 (by decide)) ?_
        rintro v_20 H_20 le_20 o1 _
        replace g1 := g1.le le_20
        replace g2 := g2.le le_20
        replace hM := hM.le le_20
        try simp only [go_sem, Nat.reduceEqDiff, Nat.reduceAdd, Bool.false_eq_true, Nat.reduceBEq, ↓reduceIte]
        first | refine ev_call (add_ok _ _ _ _ _ g1 o1 (by omega) (by omega)) ?_ | refine ev_callP (add_ok _ _ _ _ _ g1 o1 (by omega) (by omega)) ?_
        rintro v_21 H_21 le_21 q1 _
        replace g2 := g2.le le_21
        replace hM := hM.le le_21
        try simp only [go_sem, Nat.reduceEqDiff, Nat.reduceAdd, Bool.false_eq_true, Nat.reduceBEq, ↓reduceIte]
        obtain ⟨C3, k3, g3, rfl⟩ := q1.form
        try simp only [go_sem, Nat.reduceEqDiff, Nat.reduceAdd, Bool.false_eq_true, Nat.reduceBEq, ↓reduceIte]
        first | refine ev_call (sub_okT _ _ _ y (x % y) hM g2 (by omega) (by omega) (by omega)) ?_ | refine ev_callP (sub_okT _ _ _ y (x % y) hM g2 (by omega) (by omega) (by omega)) ?_
        rintro v_22 H_22 le_22 ⟨vs, rfl, q2⟩ _
        replace q1 := q1.le le_22
        try simp only [go_sem, Nat.reduceEqDiff, Nat.reduceAdd, Bool.false_eq_true, Nat.reduceBEq, ↓reduceIte]
        obtain ⟨C4, k4, g4, rfl⟩ := q2.form
        try simp only [go_sem, Nat.reduceEqDiff, Nat.reduceAdd, Bool.false_eq_true, Nat.reduceBEq, ↓reduceIte]
        first | refine ev_call (from_ok _ true _ _ q1 (by omega)) ?_ | refine ev_callP (from_ok _ true _ _ q1 (by omega)) ?_
        rintro v_23 H_23 le_23 r1 _
        replace q2 := q2.le le_23
        try simp only [go_sem, Nat.reduceEqDiff, Nat.reduceAdd, Bool.false_eq_true, Nat.reduceBEq, ↓reduceIte]
        obtain ⟨A1, l1, c1, b1', rfl⟩ := r1.form
        try simp only [go_sem, Nat.reduceEqDiff, Nat.reduceAdd, Bool.false_eq_true, Nat.reduceBEq, ↓reduceIte]
        first | refine ev_call (from_ok _ _ _ _ q2 (by omega)) ?_ | refine ev_callP (from_ok _ _ _ _ q2 (by omega)) ?_
        rintro v_24 H_24 le_24 r2 _
        replace r1 := r1.le le_24
        try simp only [go_sem, Nat.reduceEqDiff, Nat.reduceAdd, Bool.false_eq_true, Nat.reduceBEq, ↓reduceIte]
        obtain ⟨A2, l2, c2, b2', rfl⟩ := r2.form
        try simp only [go_sem, Nat.reduceEqDiff, Nat.reduceAdd, Bool.false_eq_true, Nat.reduceBEq, ↓reduceIte]
        obtain ⟨e1, e2⟩ := hdf.2 hr0
        rw [e1, e2]
        exact ⟨by trivial, _, _, rfl, r1, r2⟩
      · have hr0 : x % y = 0 := bl_eq_zero.1 (by omega)
        rw [hr0] at g2
        try simp only [go_sem, Nat.reduceEqDiff, Nat.reduceAdd, Bool.false_eq_true, Nat.reduceBEq, ↓reduceIte]
        first | refine ev_call (from_ok _ true _ _ g1 (by omega)) ?_ | refine ev_callP (from_ok _ true _ _ g1 (by omega)) ?_
        rintro v_25 H_25 le_25 r1 _
        replace g2 := g2.le le_25
        try simp only [go_sem, Nat.reduceEqDiff, Nat.reduceAdd, Bool.false_eq_true, Nat.reduceBEq, ↓reduceIte]
        obtain ⟨A1, l1, c1, b1', rfl⟩ := r1.form
        try simp only [go_sem, Nat.reduceEqDiff, Nat.reduceAdd, Bool.false_eq_true, Nat.reduceBEq, ↓reduceIte]
        first | refine ev_call (from_ok _ _ _ _ g2 (by decide)) ?_ | refine ev_callP (from_ok _ _ _ _ g2 (by decide)) ?_
        rintro v_26 H_26 le_26 r2 _
        replace r1 := r1.le le_26
        try simp only [go_sem, Nat.reduceEqDiff, Nat.reduceAdd, Bool.false_eq_true, Nat.reduceBEq, ↓reduceIte]
        rw [sg_zero] at r2
        obtain ⟨A2, l2, c2, b2', rfl⟩ := r2.form
        try simp only [go_sem, Nat.reduceEqDiff, Nat.reduceAdd, Bool.false_eq_true, Nat.reduceBEq, ↓reduceIte]
        obtain ⟨e1, e2⟩ := hdf.1 hr0
        rw [e1, e2]
        exact ⟨by trivial, _, _, rfl, r1, r2⟩
    | false =>
      obtain ⟨e1, e2⟩ := sg_fdiv_same false x y hy
      rw [e1, e2]
      try simp only [go_sem, Nat.reduceEqDiff, Nat.reduceAdd, Bool.false_eq_true, Nat.reduceBEq, ↓reduceIte]
      first | refine ev_call (from_ok _ false _ _ g1 (by omega)) ?_ | refine ev_callP (from_ok _ false _ _ g1 (by omega)) ?_
      rintro v_17 H_17 le_17 r1 _
      replace g2 := g2.le le_17
      try simp only [go_sem, Nat.reduceEqDiff, Nat.reduceAdd, Bool.false_eq_true, Nat.reduceBEq, ↓reduceIte]
      rw [sg_false] at r1
      obtain ⟨A1, l1, c1, b1', rfl⟩ := r1.form
      try simp only [go_sem, Nat.reduceEqDiff, Nat.reduceAdd, Bool.false_eq_true, Nat.reduceBEq, ↓reduceIte]
      first | refine ev_call (from_ok _ _ _ _ g2 (by omega)) ?_ | refine ev_callP (from_ok _ _ _ _ g2 (by omega)) ?_
      rintro v_18 H_18 le_18 r2 _
      replace r1 := r1.le le_18
      try simp only [go_sem, Nat.reduceEqDiff, Nat.reduceAdd, Bool.false_eq_true, Nat.reduceBEq, ↓reduceIte]
      obtain ⟨A2, l2, c2, b2', rfl⟩ := r2.form
      try simp only [go_sem, Nat.reduceEqDiff, Nat.reduceAdd, Bool.false_eq_true, Nat.reduceBEq, ↓reduceIte]
      exact ⟨by trivial, _, _, rfl, r1, r2⟩

theorem wdiv_ok0 (H : PH) (va vb : Value) (z : Int) (ha : IntV H va z) (hb : IntV H vb 0) (hbz : bi z ≤ 4294967100) : FnP Try.prog 81 [va, vb] H fun v H' => ∃ vq vr, v = .tuple #[vq, vr, .bool false] ∧ IntV H' vq 0 ∧ IntV H' vr 0 := by
  obtain ⟨A, l, c, b, rfl, hN, hz, hb0⟩ := ha.open
  obtain ⟨B, m, e, d, rfl, hM, hw, hd0⟩ := hb.open
  unfold bi at hbz
  refine of_whole_Div (by simp) ?_
  try simp only [go_sem, Nat.reduceEqDiff, Nat.reduceAdd, Bool.false_eq_true, Nat.reduceBEq, ↓reduceIte, p_whole_Div]
  first | refine ev_call (div_ok0 _ _ _ _ hN hM (by omega)) ?_ | refine ev_callP (div_ok0 _ _ _ _ hN hM (by omega)) ?_
  rintro v_27 H_27 le_27 ⟨vq, vr, rfl, g1, g2⟩ _
  replace hM := hM.le le_27
  try simp only [go_sem, Nat.reduceEqDiff, Nat.reduceAdd, Bool.false_eq_true, Nat.reduceBEq, ↓reduceIte]
  obtain ⟨C, k, g, rfl⟩ := g1.form
  obtain ⟨D, k2, g2', rfl⟩ := g2.form
  try simp only [go_sem, Nat.reduceEqDiff, Nat.reduceAdd, Bool.false_eq_true, Nat.reduceBEq, ↓reduceIte]
  exact ⟨by trivial, _, _, rfl, IntV.zero _, IntV.zero _⟩

/-- an exponent -/
def expN (n : Int) : Nat := (min (max n 0) 255).toNat
theorem expN_le (n : Int) : expN n ≤ 255 := by unfold expN; omega
theorem expN_eq (n : Int) : (if (255 : Int) < (if n < 0 then 0 else n) then (255 : Int) else (if n < 0 then 0 else n)) = (expN n : Nat) := by
  unfold expN; repeat' split <;> omega
theorem bi_pow (z : Int) (m : Nat) : bi (z ^ m) ≤ m * bi z + 1 := by
  induction m with
  | zero => rw [Int.pow_zero]; show bl 1 ≤ _; have : bl 1 = 1 := rfl; omega
  | succ m ih =>
    rw [Int.pow_succ, Nat.succ_mul]
    have := bi_mul (z ^ m) z
    omega
theorem and_1 {k : Nat} (hk : k < 2 ^ 32) : bitsV .and .i64 (k : Int) 1 = ((k % 2 : Nat) : Int) := by
  have h := bitsV_and (k := .i64) (a := k) (b := 1) 32 (by decide) (fun n h0 h => w64 n (by omega) (by omega)) hk (by decide)
  rw [show ((1 : Nat) : Int) = (1 : Int) from rfl, show (1 : Nat) = 2 ^ 1 - 1 from rfl, Nat.and_two_pow_sub_one_eq_mod] at h
  exact h

theorem wpow_ok (H : PH) (va : Value) (z : Int) (n : Int) (ha : IntV H va z) (hbz : bi z ≤ 1000000) : FnP Try.prog 79 [va, .int .i64 n] H fun v H' => IntV H' v (z ^ expN n) := by
  obtain ⟨A, l, c, b, rfl⟩ := ha.form
  have hN := expN_le n
  refine of_whole_Pow (by simp) ?_
  try simp only [go_sem, Nat.reduceEqDiff, Nat.reduceAdd, Bool.false_eq_true, Nat.reduceBEq, ↓reduceIte, p_whole_Pow]
  refine ev_call (wof_ok _ 1 (by decide) (by decide)) ?_
  rintro v1 H1 le1 h1 _
  replace ha := ha.le le1
  obtain ⟨A1, l1, c1, b1, rfl⟩ := h1.form
  try simp only [go_sem, Nat.reduceEqDiff, Nat.reduceAdd, Bool.false_eq_true, Nat.reduceBEq, ↓reduceIte]
  rw [expN_eq n]
  obtain ⟨N, hNN⟩ : ∃ N, expN n = N := ⟨_, rfl⟩
  rw [hNN] at hN ⊢
  refine ev_loop (fun n' s => ∃ (k m e : Nat) (A : Option Addr) (l c : Nat) (b : Bool) (A1 : Option Addr) (l1 c1 : Nat) (b1 : Bool) (H1 : PH), n' = k ∧ m + k * e = N ∧ (0 < k → 1 ≤ e) ∧ IntV H1 (.agg #[.slice A l c, .bool b]) (z ^ e) ∧ IntV H1 (.agg #[.slice A1 l1 c1, .bool b1]) (z ^ m) ∧
    s = ⟨[(5, .ptr 5 0), (4, .ptr 4 0), (2, .ptr 2 0), (1, .v (.int .i64 (k : Nat)))], [(5, [.slice A1 l1 c1, .bool b1]), (4, [.slice none 0 0, .bool false]), (2, [.slice A l c, .bool b])], H1, PH.no⟩)
    _ _ ⟨N, 0, 1, A, l, c, b, A1, l1, c1, b1, H1, rfl, by omega, by omega, by rw [Int.pow_one]; exact ha, by rw [Int.pow_zero]; exact h1, rfl⟩ ⟨rfl, by simp only [go_sem, Nat.reduceEqDiff, Nat.reduceAdd, Bool.false_eq_true, Nat.reduceBEq, ↓reduceIte, and_self, Option.some.injEq, SV.v.injEq, SV.ptr.injEq, Value.int.injEq, Value.bool.injEq, Value.slice.injEq, true_and, and_true] <;> (repeat' apply And.intro) <;> first | rfl | omega | (simp (disch := omega) only [w64, wu64, wu32, wu8] <;> omega), by simp only [go_sem, Nat.reduceEqDiff, Nat.reduceAdd, Bool.false_eq_true, Nat.reduceBEq, ↓reduceIte, and_self, Option.some.injEq, SV.v.injEq, SV.ptr.injEq, Value.int.injEq, Value.bool.injEq, Value.slice.injEq, true_and, and_true] <;> (repeat' apply And.intro) <;> rfl, rfl, PH.le.refl _⟩ ?_
  clear ha h1
  rintro k s ⟨_, m, e, A, l, c, b, A1, l1, c1, b1, H1, rfl, hm, he, ha, h1, rfl⟩
  try simp only [go_sem, Nat.reduceEqDiff, Nat.reduceAdd, Bool.false_eq_true, Nat.reduceBEq, ↓reduceIte]
  refine ev_if (fun h => ?_) (fun h => ?_)
  · have he1 := he (by omega)
    have hke : e ≤ k * e := Nat.le_mul_of_pos_left _ (by omega)
    have hkk : k ≤ k * e := Nat.le_mul_of_pos_right _ he1
    have bz1 := bi_pow z e
    have bz2 := bi_pow z m
    have m1 : e * bi z ≤ 255 * 1000000 := Nat.mul_le_mul (by omega) hbz
    have m2 : m * bi z ≤ 255 * 1000000 := Nat.mul_le_mul (by omega) hbz
    try simp only [go_sem, Nat.reduceEqDiff, Nat.reduceAdd, Bool.false_eq_true, Nat.reduceBEq, ↓reduceIte]
    rw [and_1 (by omega)]
    refine ev_if (fun h2 => ?_) (fun h2 => ?_)
    · try simp only [go_sem, Nat.reduceEqDiff, Nat.reduceAdd, Bool.false_eq_true, Nat.reduceBEq, ↓reduceIte]
      first | refine ev_call (wmul_ok _ _ _ _ _ h1 ha (by omega)) ?_ | refine ev_callP (wmul_ok _ _ _ _ _ h1 ha (by omega)) ?_
      rintro v_29 H_29 le_29 h2' _
      replace ha := ha.le le_29
      try simp only [go_sem, Nat.reduceEqDiff, Nat.reduceAdd, Bool.false_eq_true, Nat.reduceBEq, ↓reduceIte]
      obtain ⟨A2, l2, c2, b2, rfl⟩ := h2'.form
      rw [← Int.pow_add] at h2'
      clear h1
      have h1 := h2'
      clear h2'
      try simp only [go_sem, Nat.reduceEqDiff, Nat.reduceAdd, Bool.false_eq_true, Nat.reduceBEq, ↓reduceIte]
      first | refine ev_call (wmul_ok _ _ _ _ _ ha ha (by omega)) ?_ | refine ev_callP (wmul_ok _ _ _ _ _ ha ha (by omega)) ?_
      rintro v_28 H_28 le_28 h3 _
      replace h1 := h1.le le_28
      try simp only [go_sem, Nat.reduceEqDiff, Nat.reduceAdd, Bool.false_eq_true, Nat.reduceBEq, ↓reduceIte]
      obtain ⟨A3, l3, c3, b3, rfl⟩ := h3.form
      rw [← Int.pow_add] at h3
      try simp only [go_sem, Nat.reduceEqDiff, Nat.reduceAdd, Bool.false_eq_true, Nat.reduceBEq, ↓reduceIte]
      refine shr_nat (n := 1) rfl (by decide) ?_
      try simp only [go_sem, Nat.reduceEqDiff, Nat.reduceAdd, Bool.false_eq_true, Nat.reduceBEq, ↓reduceIte]
      refine k_next (k / 2) _ (by omega) ⟨k / 2, m + e, e + e, A3, l3, c3, b3, A2, l2, c2, b2, _, rfl, ?_, by omega, h3, h1, rfl⟩ ⟨rfl, by simp only [go_sem, Nat.reduceEqDiff, Nat.reduceAdd, Bool.false_eq_true, Nat.reduceBEq, ↓reduceIte, and_self, Option.some.injEq, SV.v.injEq, SV.ptr.injEq, Value.int.injEq, Value.bool.injEq, Value.slice.injEq, true_and, and_true] <;> (repeat' apply And.intro) <;> first | rfl | omega | (simp (disch := omega) only [w64, wu64, wu32, wu8] <;> omega), by simp only [go_sem, Nat.reduceEqDiff, Nat.reduceAdd, Bool.false_eq_true, Nat.reduceBEq, ↓reduceIte, and_self, Option.some.injEq, SV.v.injEq, SV.ptr.injEq, Value.int.injEq, Value.bool.injEq, Value.slice.injEq, true_and, and_true] <;> (repeat' apply And.intro) <;> rfl, rfl, PH.le.refl _⟩
      have hk2 : k = 2 * (k / 2) + 1 := by omega
      rw [← hm]
      conv => rhs; rw [hk2]
      rw [Nat.add_mul, Nat.mul_add, Nat.mul_assoc]
      omega
    · try simp only [go_sem, Nat.reduceEqDiff, Nat.reduceAdd, Bool.false_eq_true, Nat.reduceBEq, ↓reduceIte]
      first | refine ev_call (wmul_ok _ _ _ _ _ ha ha (by omega)) ?_ | refine ev_callP (wmul_ok _ _ _ _ _ ha ha (by omega)) ?_
      rintro v_28 H_28 le_28 h3 _
      replace h1 := h1.le le_28
      try simp only [go_sem, Nat.reduceEqDiff, Nat.reduceAdd, Bool.false_eq_true, Nat.reduceBEq, ↓reduceIte]
      obtain ⟨A3, l3, c3, b3, rfl⟩ := h3.form
      rw [← Int.pow_add] at h3
      try simp only [go_sem, Nat.reduceEqDiff, Nat.reduceAdd, Bool.false_eq_true, Nat.reduceBEq, ↓reduceIte]
      refine shr_nat (n := 1) rfl (by decide) ?_
      try simp only [go_sem, Nat.reduceEqDiff, Nat.reduceAdd, Bool.false_eq_true, Nat.reduceBEq, ↓reduceIte]
      refine k_next (k / 2) _ (by omega) ⟨k / 2, m, e + e, A3, l3, c3, b3, A1, l1, c1, b1, _, rfl, ?_, by omega, h3, h1, rfl⟩ ⟨rfl, by simp only [go_sem, Nat.reduceEqDiff, Nat.reduceAdd, Bool.false_eq_true, Nat.reduceBEq, ↓reduceIte, and_self, Option.some.injEq, SV.v.injEq, SV.ptr.injEq, Value.int.injEq, Value.bool.injEq, Value.slice.injEq, true_and, and_true] <;> (repeat' apply And.intro) <;> first | rfl | omega | (simp (disch := omega) only [w64, wu64, wu32, wu8] <;> omega), by simp only [go_sem, Nat.reduceEqDiff, Nat.reduceAdd, Bool.false_eq_true, Nat.reduceBEq, ↓reduceIte, and_self, Option.some.injEq, SV.v.injEq, SV.ptr.injEq, Value.int.injEq, Value.bool.injEq, Value.slice.injEq, true_and, and_true] <;> (repeat' apply And.intro) <;> rfl, rfl, PH.le.refl _⟩
      have hk2 : k = 2 * (k / 2) := by omega
      rw [← hm]
      conv => rhs; rw [hk2]
      rw [Nat.mul_add, Nat.mul_assoc]
      omega
  · have hk0 : k = 0 := by omega
    subst hk0
    rw [Nat.zero_mul, Nat.add_zero] at hm
    subst hm
    try simp only [go_sem, Nat.reduceEqDiff, Nat.reduceAdd, Bool.false_eq_true, Nat.reduceBEq, ↓reduceIte]
    exact ⟨by trivial, h1⟩

end Go.Proofs.Ytepnmenidnjikaa.X
set_option linter.unusedVariables false
set_option linter.unusedSimpArgs false
namespace Go.Proofs.Ytepnmenidnjikaa.X
open Go Go.RowKit Go.Proofs

/-- a whole number of the reference -/
def RInt (H : PH) (v : Value) (z : Int) : Prop := ∃ A l c b, v = .agg #[.bool b, .slice A l c] ∧ RefV H (.slice A l c) z.natAbs ∧ b = decide (z < 0)
theorem RInt.le {H H' : PH} {v : Value} {z : Int} (h : RInt H v z) (hl : H.le H') : RInt H' v z := by
  obtain ⟨A, l, c, b, h1, h2, h3⟩ := h
  exact ⟨A, l, c, b, h1, h2.le hl, h3⟩
theorem RInt.zero (H : PH) : RInt H (.agg #[.bool false, .slice none 0 0]) 0 := ⟨none, 0, 0, false, rfl, RefV.zero H, rfl⟩
theorem RefV.len {H : PH} {A : Option Addr} {l c : Nat} {x : Nat} (h : RefV H (.slice A l c) x) : l = 0 ↔ x = 0 := by
  obtain ⟨A', l', c', h1, h2⟩ := h.form
  injection h1 with _ h1 _
  rw [h1]; exact h2
theorem RInt.open {H : PH} {v : Value} {z : Int} (h : RInt H v z) : ∃ A l c b, v = .agg #[.bool b, .slice A l c] ∧ RefV H (.slice A l c) z.natAbs ∧ z = sg b z.natAbs ∧ (b = true → z.natAbs ≠ 0) ∧ (l = 0 ↔ z.natAbs = 0) := by
  obtain ⟨A, l, c, b, h1, h2, rfl⟩ := h
  exact ⟨A, l, c, _, h1, h2, (sg_self z).symm, fun h => by have := of_decide_eq_true h; omega, h2.len⟩
theorem RInt.mk {H : PH} {A : Option Addr} {l c : Nat} {b : Bool} {x : Nat} (h : RefV H (.slice A l c) x) (hb : b = true → x ≠ 0) : RInt H (.agg #[.bool b, .slice A l c]) (sg b x) := by
  refine ⟨A, l, c, b, rfl, by rw [sg_natAbs]; exact h, ?_⟩
  rw [decide_sg]
  cases b with
  | false => rfl
  | true => have := hb rfl; simp; omega
theorem RInt.form {H : PH} {v : Value} {z : Int} (h : RInt H v z) : ∃ A l c b, v = .agg #[.bool b, .slice A l c] := by
  obtain ⟨A, l, c, b, h1, _⟩ := h
  exact ⟨A, l, c, b, h1⟩
theorem RefV.form' {H : PH} {v : Value} {x : Nat} (h : RefV H v x) : ∃ A l c, v = .slice A l c := by
  obtain ⟨A, l, c, h1, _⟩ := h.form
  exact ⟨A, l, c, h1⟩

theorem rfrom_ok (H : PH) (b : Bool) (va : Value) (x : Nat) (ha : RefV H va x) : FnP Try.prog 68 [.bool b, va] H fun v H' => RInt H' v (sg b x) := by
  obtain ⟨A, l, c, rfl, hl⟩ := ha.form
  refine of_cinctureref1_IntFrom (by simp) ?_
  try simp only [go_sem, Nat.reduceEqDiff, Nat.reduceAdd, Bool.false_eq_true, Nat.reduceBEq, ↓reduceIte, p_cinctureref1_IntFrom]
  cases b with
  | false =>
    try simp only [go_sem, Nat.reduceEqDiff, Nat.reduceAdd, Bool.false_eq_true, Nat.reduceBEq, ↓reduceIte]
    exact ⟨by trivial, RInt.mk ha fun h => by cases h⟩
  | true =>
    try simp only [go_sem, Nat.reduceEqDiff, Nat.reduceAdd, Bool.false_eq_true, Nat.reduceBEq, ↓reduceIte]
    refine ev_if (fun h => ?_) (fun h => ?_)
    · try simp only [go_sem, Nat.reduceEqDiff, Nat.reduceAdd, Bool.false_eq_true, Nat.reduceBEq, ↓reduceIte]
      exact ⟨by trivial, RInt.mk ha fun _ e => by have := hl.2 e; omega⟩
    · try simp only [go_sem, Nat.reduceEqDiff, Nat.reduceAdd, Bool.false_eq_true, Nat.reduceBEq, ↓reduceIte]
      have h0 : x = 0 := hl.1 (by omega)
      subst h0
      exact ⟨by trivial, RInt.mk (b := false) ha fun h => by cases h⟩

theorem rsign_ok (H : PH) (v : Value) (z : Int) (hV : RInt H v z) : FnP Try.prog 17 [v] H fun v _ => v = .int .i64 (sgnI z) := by
  obtain ⟨A, l, c, b, rfl, hN, hz, hb0, hl⟩ := hV.open
  refine of_cinctureref1_Sign (by simp) ?_
  try simp only [go_sem, Nat.reduceEqDiff, Nat.reduceAdd, Bool.false_eq_true, Nat.reduceBEq, ↓reduceIte, p_cinctureref1_Sign]
  refine ev_if (fun h => ?_) (fun h => ?_)
  · have h0 : z = 0 := by have := hl.1 (by omega); omega
    subst h0
    try simp only [go_sem, Nat.reduceEqDiff, Nat.reduceAdd, Bool.false_eq_true, Nat.reduceBEq, ↓reduceIte]
    exact ⟨by trivial, rfl⟩
  · have h0 : z.natAbs ≠ 0 := fun e => h (by rw [hl.2 e]; rfl)
    cases b with
    | true =>
      try simp only [go_sem, Nat.reduceEqDiff, Nat.reduceAdd, Bool.false_eq_true, Nat.reduceBEq, ↓reduceIte]
      refine ⟨by trivial, ?_⟩
      have : z < 0 := by rw [hz, sg_true]; omega
      unfold sgnI; rw [if_pos this]
    | false =>
      try simp only [go_sem, Nat.reduceEqDiff, Nat.reduceAdd, Bool.false_eq_true, Nat.reduceBEq, ↓reduceIte]
      refine ⟨by trivial, ?_⟩
      have : 0 < z := by rw [hz, sg_false]; omega
      unfold sgnI; rw [if_neg (by omega), if_pos this]

theorem rneg_ok (H : PH) (v : Value) (z : Int) (hV : RInt H v z) : FnP Try.prog 66 [v] H fun v H' => RInt H' v (-z) := by
  obtain ⟨A, l, c, b, rfl, hN, hz, hb0, hl⟩ := hV.open
  refine of_cinctureref1_NegInt (by simp) ?_
  try simp only [go_sem, Nat.reduceEqDiff, Nat.reduceAdd, Bool.false_eq_true, Nat.reduceBEq, ↓reduceIte, p_cinctureref1_NegInt]
  first | refine ev_call (rfrom_ok _ (!b) _ _ hN) ?_ | refine ev_callP (rfrom_ok _ (!b) _ _ hN) ?_
  rintro v_1 H_1 le_1 hR _
  try simp only [go_sem, Nat.reduceEqDiff, Nat.reduceAdd, Bool.false_eq_true, Nat.reduceBEq, ↓reduceIte]
  obtain ⟨A', l', c', b', rfl⟩ := hR.form
  try simp only [go_sem, Nat.reduceEqDiff, Nat.reduceAdd, Bool.false_eq_true, Nat.reduceBEq, ↓reduceIte]
  rw [← sg_neg, ← hz] at hR
  exact ⟨by trivial, hR⟩

theorem raddI_ok (H : PH) (va vb : Value) (z w : Int) (ha : RInt H va z) (hb : RInt H vb w) (hbz : bi z ≤ 4294967280) (hbw : bi w ≤ 4294967280) : FnP Try.prog 73 [va, vb] H fun v H' => RInt H' v (z + w) := by
  obtain ⟨A, l, c, b, rfl, hN, hz, hb0, hl⟩ := ha.open
  obtain ⟨B, m, e, d, rfl, hM, hw, hd0, hm⟩ := hb.open
  unfold bi at hbz hbw
  generalize z.natAbs = x at *
  generalize w.natAbs = y at *
  subst hz; subst hw
  clear ha hb
  have s1 := bl_add x y
  have s2 := bl_mono (Nat.sub_le x y)
  have s3 := bl_mono (Nat.sub_le y x)
  refine of_cinctureref1_AddInt (by simp) ?_
  try simp only [go_sem, Nat.reduceEqDiff, Nat.reduceAdd, Bool.false_eq_true, Nat.reduceBEq, ↓reduceIte, p_cinctureref1_AddInt]
  cases b with
  | true =>
    cases d with
    | true =>
      try simp only [go_sem, Nat.reduceEqDiff, Nat.reduceAdd, Bool.false_eq_true, Nat.reduceBEq, ↓reduceIte]
      first | refine ev_call (radd_ok _ _ _ x y hN hM (by omega) (by omega)) ?_ | refine ev_callP (radd_ok _ _ _ x y hN hM (by omega) (by omega)) ?_
      rintro v_2 H_2 le_2 g0 _
      try simp only [go_sem, Nat.reduceEqDiff, Nat.reduceAdd, Bool.false_eq_true, Nat.reduceBEq, ↓reduceIte]
      first | refine ev_call (rfrom_ok _ _ _ _ g0) ?_ | refine ev_callP (rfrom_ok _ _ _ _ g0) ?_
      rintro v_3 H_3 le_3 hR _
      try simp only [go_sem, Nat.reduceEqDiff, Nat.reduceAdd, Bool.false_eq_true, Nat.reduceBEq, ↓reduceIte]
      rw [← sg_add_same] at hR
      obtain ⟨A1, l1, c1, b1, rfl⟩ := hR.form
      try simp only [go_sem, Nat.reduceEqDiff, Nat.reduceAdd, Bool.false_eq_true, Nat.reduceBEq, ↓reduceIte]
      exact ⟨by trivial, hR⟩
    | false =>
      have hge := sg_add_ge true x y
      have hlt := sg_add_lt true x y
      simp only [Bool.not_true] at hge hlt
      try simp only [go_sem, Nat.reduceEqDiff, Nat.reduceAdd, Bool.false_eq_true, Nat.reduceBEq, ↓reduceIte]
      first | refine ev_call (rcmp_ok _ _ _ x y hN hM (by omega) (by omega)) ?_ | refine ev_callP (rcmp_ok _ _ _ x y hN hM (by omega) (by omega)) ?_
      rintro v_4 H_4 le_4 rfl _
      replace hN := hN.le le_4
      replace hM := hM.le le_4
      try simp only [go_sem, Nat.reduceEqDiff, Nat.reduceAdd, Bool.false_eq_true, Nat.reduceBEq, ↓reduceIte]
      by_cases hle : y ≤ x
      · refine ev_pos (by unfold cmpN; split <;> (try split) <;> omega) ?_
        try simp only [go_sem, Nat.reduceEqDiff, Nat.reduceAdd, Bool.false_eq_true, Nat.reduceBEq, ↓reduceIte]
        first | refine ev_call (rsub_ok _ _ _ x y hN hM (by omega) hle) ?_ | refine ev_callP (rsub_ok _ _ _ x y hN hM (by omega) hle) ?_
        rintro v_5 H_5 le_5 g0 _
        try simp only [go_sem, Nat.reduceEqDiff, Nat.reduceAdd, Bool.false_eq_true, Nat.reduceBEq, ↓reduceIte]
        first | refine ev_call (rfrom_ok _ _ _ _ g0) ?_ | refine ev_callP (rfrom_ok _ _ _ _ g0) ?_
        rintro v_6 H_6 le_6 hR _
        try simp only [go_sem, Nat.reduceEqDiff, Nat.reduceAdd, Bool.false_eq_true, Nat.reduceBEq, ↓reduceIte]
        rw [← hge hle] at hR
        obtain ⟨A1, l1, c1, b1, rfl⟩ := hR.form
        try simp only [go_sem, Nat.reduceEqDiff, Nat.reduceAdd, Bool.false_eq_true, Nat.reduceBEq, ↓reduceIte]
        exact ⟨by trivial, hR⟩
      · refine ev_neg (by unfold cmpN; rw [if_pos (by omega)]; decide) ?_
        try simp only [go_sem, Nat.reduceEqDiff, Nat.reduceAdd, Bool.false_eq_true, Nat.reduceBEq, ↓reduceIte]
        first | refine ev_call (rsub_ok _ _ _ y x hM hN (by omega) (by omega)) ?_ | refine ev_callP (rsub_ok _ _ _ y x hM hN (by omega) (by omega)) ?_
        rintro v_7 H_7 le_7 g1 _
        try simp only [go_sem, Nat.reduceEqDiff, Nat.reduceAdd, Bool.false_eq_true, Nat.reduceBEq, ↓reduceIte]
        first | refine ev_call (rfrom_ok _ _ _ _ g1) ?_ | refine ev_callP (rfrom_ok _ _ _ _ g1) ?_
        rintro v_8 H_8 le_8 hR _
        try simp only [go_sem, Nat.reduceEqDiff, Nat.reduceAdd, Bool.false_eq_true, Nat.reduceBEq, ↓reduceIte]
        rw [← hlt (by omega)] at hR
        obtain ⟨A1, l1, c1, b1, rfl⟩ := hR.form
        try simp only [go_sem, Nat.reduceEqDiff, Nat.reduceAdd, Bool.false_eq_true, Nat.reduceBEq, ↓reduceIte]
        exact ⟨by trivial, hR⟩
  | false =>
    cases d with
    | true =>
      have hge := sg_add_ge false x y
      have hlt := sg_add_lt false x y
      simp only [Bool.not_false] at hge hlt
      try simp only [go_sem, Nat.reduceEqDiff, Nat.reduceAdd, Bool.false_eq_true, Nat.reduceBEq, ↓reduceIte]
      first | refine ev_call (rcmp_ok _ _ _ x y hN hM (by omega) (by omega)) ?_ | refine ev_callP (rcmp_ok _ _ _ x y hN hM (by omega) (by omega)) ?_
      rintro v_4 H_4 le_4 rfl _
      replace hN := hN.le le_4
      replace hM := hM.le le_4
      try simp only [go_sem, Nat.reduceEqDiff, Nat.reduceAdd, Bool.false_eq_true, Nat.reduceBEq, ↓reduceIte]
      by_cases hle : y ≤ x
      · refine ev_pos (by unfold cmpN; split <;> (try split) <;> omega) ?_
        try simp only [go_sem, Nat.reduceEqDiff, Nat.reduceAdd, Bool.false_eq_true, Nat.reduceBEq, ↓reduceIte]
        first | refine ev_call (rsub_ok _ _ _ x y hN hM (by omega) hle) ?_ | refine ev_callP (rsub_ok _ _ _ x y hN hM (by omega) hle) ?_
        rintro v_5 H_5 le_5 g0 _
        try simp only [go_sem, Nat.reduceEqDiff, Nat.reduceAdd, Bool.false_eq_true, Nat.reduceBEq, ↓reduceIte]
        first | refine ev_call (rfrom_ok _ _ _ _ g0) ?_ | refine ev_callP (rfrom_ok _ _ _ _ g0) ?_
        rintro v_6 H_6 le_6 hR _
        try simp only [go_sem, Nat.reduceEqDiff, Nat.reduceAdd, Bool.false_eq_true, Nat.reduceBEq, ↓reduceIte]
        rw [← hge hle] at hR
        obtain ⟨A1, l1, c1, b1, rfl⟩ := hR.form
        try simp only [go_sem, Nat.reduceEqDiff, Nat.reduceAdd, Bool.false_eq_true, Nat.reduceBEq, ↓reduceIte]
        exact ⟨by trivial, hR⟩
      · refine ev_neg (by unfold cmpN; rw [if_pos (by omega)]; decide) ?_
        try simp only [go_sem, Nat.reduceEqDiff, Nat.reduceAdd, Bool.false_eq_true, Nat.reduceBEq, ↓reduceIte]
        first | refine ev_call (rsub_ok _ _ _ y x hM hN (by omega) (by omega)) ?_ | refine ev_callP (rsub_ok _ _ _ y x hM hN (by omega) (by omega)) ?_
        rintro v_7 H_7 le_7 g1 _
        try simp only [go_sem, Nat.reduceEqDiff, Nat.reduceAdd, Bool.false_eq_true, Nat.reduceBEq, ↓reduceIte]
        first | refine ev_call (rfrom_ok _ _ _ _ g1) ?_ | refine ev_callP (rfrom_ok _ _ _ _ g1) ?_
        rintro v_8 H_8 le_8 hR _
        try simp only [go_sem, Nat.reduceEqDiff, Nat.reduceAdd, Bool.false_eq_true, Nat.reduceBEq, ↓reduceIte]
        rw [← hlt (by omega)] at hR
        obtain ⟨A1, l1, c1, b1, rfl⟩ := hR.form
        try simp only [go_sem, Nat.reduceEqDiff, Nat.reduceAdd, Bool.false_eq_true, Nat.reduceBEq, ↓reduceIte]
        exact ⟨by trivial, hR⟩
    | false =>
      try simp only [go_sem, Nat.reduceEqDiff, Nat.reduceAdd, Bool.false_eq_true, Nat.reduceBEq, ↓reduceIte]
      first | refine ev_call (radd_ok _ _ _ x y hN hM (by omega) (by omega)) ?_ | refine ev_callP (radd_ok _ _ _ x y hN hM (by omega) (by omega)) ?_
      rintro v_2 H_2 le_2 g0 _
      try simp only [go_sem, Nat.reduceEqDiff, Nat.reduceAdd, Bool.false_eq_true, Nat.reduceBEq, ↓reduceIte]
      first | refine ev_call (rfrom_ok _ _ _ _ g0) ?_ | refine ev_callP (rfrom_ok _ _ _ _ g0) ?_
      rintro v_3 H_3 le_3 hR _
      try simp only [go_sem, Nat.reduceEqDiff, Nat.reduceAdd, Bool.false_eq_true, Nat.reduceBEq, ↓reduceIte]
      rw [← sg_add_same] at hR
      obtain ⟨A1, l1, c1, b1, rfl⟩ := hR.form
      try simp only [go_sem, Nat.reduceEqDiff, Nat.reduceAdd, Bool.false_eq_true, Nat.reduceBEq, ↓reduceIte]
      exact ⟨by trivial, hR⟩

theorem rsubI_ok (H : PH) (va vb : Value) (z w : Int) (ha : RInt H va z) (hb : RInt H vb w) (hbz : bi z ≤ 4294967280) (hbw : bi w ≤ 4294967280) : FnP Try.prog 100 [va, vb] H fun v H' => RInt H' v (z - w) := by
  obtain ⟨A, l, c, b, rfl⟩ := ha.form
  obtain ⟨B, m, e, d, rfl⟩ := hb.form
  refine of_cinctureref1_SubInt (by simp) ?_
  try simp only [go_sem, Nat.reduceEqDiff, Nat.reduceAdd, Bool.false_eq_true, Nat.reduceBEq, ↓reduceIte, p_cinctureref1_SubInt]
  first | refine ev_call (rneg_ok _ _ w hb) ?_ | refine ev_callP (rneg_ok _ _ w hb) ?_
  rintro v_9 H_9 le_9 hn _
  replace ha := ha.le le_9
  try simp only [go_sem, Nat.reduceEqDiff, Nat.reduceAdd, Bool.false_eq_true, Nat.reduceBEq, ↓reduceIte]
  first | refine ev_call (raddI_ok _ _ _ z (-w) ha hn hbz (by rw [bi_neg]; exact hbw)) ?_ | refine ev_callP (raddI_ok _ _ _ z (-w) ha hn hbz (by rw [bi_neg]; exact hbw)) ?_
  rintro v_10 H_10 le_10 hR _
  try simp only [go_sem, Nat.reduceEqDiff, Nat.reduceAdd, Bool.false_eq_true, Nat.reduceBEq, ↓reduceIte]
  obtain ⟨A1, l1, c1, b1, rfl⟩ := hR.form
  try simp only [go_sem, Nat.reduceEqDiff, Nat.reduceAdd, Bool.false_eq_true, Nat.reduceBEq, ↓reduceIte]
  rw [← Int.sub_eq_add_neg] at hR
  exact ⟨by trivial, hR⟩

theorem rmulI_ok (H : PH) (va vb : Value) (z w : Int) (ha : RInt H va z) (hb : RInt H vb w) (hbz : bi z + bi w ≤ 4294967280) : FnP Try.prog 74 [va, vb] H fun v H' => RInt H' v (z * w) := by
  obtain ⟨A, l, c, b, rfl, hN, hz, hb0, hl⟩ := ha.open
  obtain ⟨B, m, e, d, rfl, hM, hw, hd0, hm⟩ := hb.open
  unfold bi at hbz
  generalize z.natAbs = x at *
  generalize w.natAbs = y at *
  subst hz; subst hw
  clear ha hb
  refine of_cinctureref1_MulInt (by simp) ?_
  try simp only [go_sem, Nat.reduceEqDiff, Nat.reduceAdd, Bool.false_eq_true, Nat.reduceBEq, ↓reduceIte, p_cinctureref1_MulInt]
  first | refine ev_call (rmul_ok _ _ _ x y hN hM (by omega) (by omega)) ?_ | refine ev_callP (rmul_ok _ _ _ x y hN hM (by omega) (by omega)) ?_
  rintro v_11 H_11 le_11 g0 _
  try simp only [go_sem, Nat.reduceEqDiff, Nat.reduceAdd, Bool.false_eq_true, Nat.reduceBEq, ↓reduceIte]
  rw [sg_mul]
  cases b <;> cases d
  all_goals
    try simp only [go_sem, Nat.reduceEqDiff, Nat.reduceAdd, Bool.false_eq_true, Nat.reduceBEq, ↓reduceIte]
    first | refine ev_call (rfrom_ok _ _ _ _ g0) ?_ | refine ev_callP (rfrom_ok _ _ _ _ g0) ?_
    rintro v9 H9 le9 hR _
    obtain ⟨A1, l1, c1, b1, rfl⟩ := hR.form
    try simp only [go_sem, Nat.reduceEqDiff, Nat.reduceAdd, Bool.false_eq_true, Nat.reduceBEq, ↓reduceIte]
    exact ⟨by trivial, hR⟩

theorem rcmpI_ok (H : PH) (va vb : Value) (z w : Int) (ha : RInt H va z) (hb : RInt H vb w) (hbz : bi z ≤ 4294967280) (hbw : bi w ≤ 4294967280) : FnP Try.prog 78 [va, vb] H fun v _ => v = .int .i64 (cmpI z w) := by
  obtain ⟨A, l, c, b, rfl⟩ := ha.form
  obtain ⟨B, m, e, d, rfl⟩ := hb.form
  refine of_cinctureref1_CmpInt (by simp) ?_
  try simp only [go_sem, Nat.reduceEqDiff, Nat.reduceAdd, Bool.false_eq_true, Nat.reduceBEq, ↓reduceIte, p_cinctureref1_CmpInt]
  first | refine ev_call (rsubI_ok _ _ _ z w ha hb hbz hbw) ?_ | refine ev_callP (rsubI_ok _ _ _ z w ha hb hbz hbw) ?_
  rintro v_12 H_12 le_12 hs _
  try simp only [go_sem, Nat.reduceEqDiff, Nat.reduceAdd, Bool.false_eq_true, Nat.reduceBEq, ↓reduceIte]
  obtain ⟨A1, l1, c1, b1, rfl⟩ := hs.form
  first | refine ev_call (rsign_ok _ _ _ hs) ?_ | refine ev_callP (rsign_ok _ _ _ hs) ?_
  rintro v_13 H_13 le_13 rfl _
  try simp only [go_sem, Nat.reduceEqDiff, Nat.reduceAdd, Bool.false_eq_true, Nat.reduceBEq, ↓reduceIte]
  rw [sgn_sub]
  exact ⟨by trivial, by trivial⟩

theorem rdivI_ok (H : PH) (va vb : Value) (z w : Int) (ha : RInt H va z) (hb : RInt H vb w) (hbz : bi z ≤ 4294967100) (hbw : bi w ≤ 4294967100) (hw0 : w ≠ 0) : FnP Try.prog 82 [va, vb] H fun v H' => ∃ vq vr, v = .tuple #[vq, vr] ∧ RInt H' vq (z.fdiv w) ∧ RInt H' vr (z.fmod w) := by
  obtain ⟨A, l, c, b, rfl, hN, hz, hb0, hl⟩ := ha.open
  obtain ⟨B, m, e, d, rfl, hM, hw, hd0, hm⟩ := hb.open
  have hy : w.natAbs ≠ 0 := by omega
  unfold bi at hbz hbw
  generalize z.natAbs = x at *
  generalize w.natAbs = y at *
  subst hz; subst hw
  clear ha hb hw0
  have s1 : bl (x / y) ≤ 4294967100 := bl_div hbz
  have s2 := bl_mono (Nat.mod_le x y)
  have s3 := bl_add (x / y) 1
  have b1 : bl 1 = 1 := rfl
  have hmod := Nat.mod_lt x (Nat.pos_of_ne_zero hy)
  refine of_cinctureref1_DivInt (by simp) ?_
  try simp only [go_sem, Nat.reduceEqDiff, Nat.reduceAdd, Bool.false_eq_true, Nat.reduceBEq, ↓reduceIte, p_cinctureref1_DivInt]
  first | refine ev_call (rdiv_ok _ _ _ x y hN hM (by omega) (by omega) hy) ?_ | refine ev_callP (rdiv_ok _ _ _ x y hN hM (by omega) (by omega) hy) ?_
  rintro v_14 H_14 le_14 ⟨vq, vr, rfl, g1, g2⟩ _
  replace hM := hM.le le_14
  try simp only [go_sem, Nat.reduceEqDiff, Nat.reduceAdd, Bool.false_eq_true, Nat.reduceBEq, ↓reduceIte]
  obtain ⟨D, k2, g2', rfl, hrl⟩ := g2.form
  cases b with
  | true =>
    cases d with
    | true =>
      obtain ⟨e1, e2⟩ := sg_fdiv_same true x y hy
      rw [e1, e2]
      try simp only [go_sem, Nat.reduceEqDiff, Nat.reduceAdd, Bool.false_eq_true, Nat.reduceBEq, ↓reduceIte]
      first | refine ev_call (rfrom_ok _ false _ _ g1) ?_ | refine ev_callP (rfrom_ok _ false _ _ g1) ?_
      rintro v_15 H_15 le_15 r1 _
      replace g2 := g2.le le_15
      try simp only [go_sem, Nat.reduceEqDiff, Nat.reduceAdd, Bool.false_eq_true, Nat.reduceBEq, ↓reduceIte]
      rw [sg_false] at r1
      obtain ⟨A1, l1, c1, b1', rfl⟩ := r1.form
      try simp only [go_sem, Nat.reduceEqDiff, Nat.reduceAdd, Bool.false_eq_true, Nat.reduceBEq, ↓reduceIte]
      first | refine ev_call (rfrom_ok _ _ _ _ g2) ?_ | refine ev_callP (rfrom_ok _ _ _ _ g2) ?_
      rintro v_16 H_16 le_16 r2 _
      replace r1 := r1.le le_16
      try simp only [go_sem, Nat.reduceEqDiff, Nat.reduceAdd, Bool.false_eq_true, Nat.reduceBEq, ↓reduceIte]
      obtain ⟨A2, l2, c2, b2', rfl⟩ := r2.form
      try simp only [go_sem, Nat.reduceEqDiff, Nat.reduceAdd, Bool.false_eq_true, Nat.reduceBEq, ↓reduceIte]
      exact ⟨by trivial, _, _, rfl, r1, r2⟩
    | false =>
      have hdf := sg_fdiv_diff true x y hy
      simp only [Bool.not_true] at hdf
      try simp only [go_sem, Nat.reduceEqDiff, Nat.reduceAdd, Bool.false_eq_true, Nat.reduceBEq, ↓reduceIte]
      refine ev_if (fun h => ?_) (fun h => ?_)
      · have hr0 : x % y ≠ 0 := fun e => by have := hrl.2 e; omega
        try simp only [go_sem, Nat.reduceEqDiff, Nat.reduceAdd, Bool.false_eq_true, Nat.reduceBEq, ↓reduceIte]
        first | refine ev_call (rnatOf_ok _ 1 (by decide)) ?_ | refine ev_callP (rnatOf_ok _ 1 (by decide)) ?_
        rintro v_17 H_17 le_17 o1 _
        replace g1 := g1.le le_17
        replace g2 := g2.le le_17
        replace hM := hM.le le_17
        try simp only [go_sem, Nat.reduceEqDiff, Nat.reduceAdd, Bool.false_eq_true, Nat.reduceBEq, ↓reduceIte]
        first | refine ev_call (radd_ok _ _ _ _ _ g1 o1 (by omega) (by omega)) ?_ | refine ev_callP (radd_ok _ _ _ _ _ g1 o1 (by omega) (by omega)) ?_
        rintro v_18 H_18 le_18 q1 _
        replace g2 := g2.le le_18
        replace hM := hM.le le_18
        try simp only [go_sem, Nat.reduceEqDiff, Nat.reduceAdd, Bool.false_eq_true, Nat.reduceBEq, ↓reduceIte]
        first | refine ev_call (rsub_ok _ _ _ y (x % y) hM g2 (by omega) (by omega)) ?_ | refine ev_callP (rsub_ok _ _ _ y (x % y) hM g2 (by omega) (by omega)) ?_
        rintro v_19 H_19 le_19 q2 _
        replace q1 := q1.le le_19
        try simp only [go_sem, Nat.reduceEqDiff, Nat.reduceAdd, Bool.false_eq_true, Nat.reduceBEq, ↓reduceIte]
        first | refine ev_call (rfrom_ok _ true _ _ q1) ?_ | refine ev_callP (rfrom_ok _ true _ _ q1) ?_
        rintro v_20 H_20 le_20 r1 _
        replace q2 := q2.le le_20
        try simp only [go_sem, Nat.reduceEqDiff, Nat.reduceAdd, Bool.false_eq_true, Nat.reduceBEq, ↓reduceIte]
        obtain ⟨A1, l1, c1, b1', rfl⟩ := r1.form
        try simp only [go_sem, Nat.reduceEqDiff, Nat.reduceAdd, Bool.false_eq_true, Nat.reduceBEq, ↓reduceIte]
        first | refine ev_call (rfrom_ok _ _ _ _ q2) ?_ | refine ev_callP (rfrom_ok _ _ _ _ q2) ?_
        rintro v_21 H_21 le_21 r2 _
        replace r1 := r1.le le_21
        try simp only [go_sem, Nat.reduceEqDiff, Nat.reduceAdd, Bool.false_eq_true, Nat.reduceBEq, ↓reduceIte]
        obtain ⟨A2, l2, c2, b2', rfl⟩ := r2.form
        try simp only [go_sem, Nat.reduceEqDiff, Nat.reduceAdd, Bool.false_eq_true, Nat.reduceBEq, ↓reduceIte]
        obtain ⟨e1, e2⟩ := hdf.2 hr0
        rw [e1, e2]
        exact ⟨by trivial, _, _, rfl, r1, r2⟩
      · have hr0 : x % y = 0 := hrl.1 (by omega)
        rw [hr0] at g2
        try simp only [go_sem, Nat.reduceEqDiff, Nat.reduceAdd, Bool.false_eq_true, Nat.reduceBEq, ↓reduceIte]
        first | refine ev_call (rfrom_ok _ true _ _ g1) ?_ | refine ev_callP (rfrom_ok _ true _ _ g1) ?_
        rintro v_22 H_22 le_22 r1 _
        replace g2 := g2.le le_22
        try simp only [go_sem, Nat.reduceEqDiff, Nat.reduceAdd, Bool.false_eq_true, Nat.reduceBEq, ↓reduceIte]
        obtain ⟨A1, l1, c1, b1', rfl⟩ := r1.form
        try simp only [go_sem, Nat.reduceEqDiff, Nat.reduceAdd, Bool.false_eq_true, Nat.reduceBEq, ↓reduceIte]
        first | refine ev_call (rfrom_ok _ _ _ _ g2) ?_ | refine ev_callP (rfrom_ok _ _ _ _ g2) ?_
        rintro v_23 H_23 le_23 r2 _
        replace r1 := r1.le le_23
        try simp only [go_sem, Nat.reduceEqDiff, Nat.reduceAdd, Bool.false_eq_true, Nat.reduceBEq, ↓reduceIte]
        rw [sg_zero] at r2
        obtain ⟨A2, l2, c2, b2', rfl⟩ := r2.form
        try simp only [go_sem, Nat.reduceEqDiff, Nat.reduceAdd, Bool.false_eq_true, Nat.reduceBEq, ↓reduceIte]
        obtain ⟨e1, e2⟩ := hdf.1 hr0
        rw [e1, e2]
        exact ⟨by trivial, _, _, rfl, r1, r2⟩
  | false =>
    cases d with
    | true =>
      have hdf := sg_fdiv_diff false x y hy
      simp only [Bool.not_false] at hdf
      try simp only [go_sem, Nat.reduceEqDiff, Nat.reduceAdd, Bool.false_eq_true, Nat.reduceBEq, ↓reduceIte]
      refine ev_if (fun h => ?_) (fun h => ?_)
      · have hr0 : x % y ≠ 0 := fun e => by have := hrl.2 e; omega
        try simp only [go_sem, Nat.reduceEqDiff, Nat.reduceAdd, Bool.false_eq_true, Nat.reduceBEq, ↓reduceIte]
        first | refine ev_call (rnatOf_ok _ 1 (by decide)) ?_ | refine ev_callP (rnatOf_ok _ 1 (by decide)) ?_
        rintro v_17 H_17 le_17 o1 _
        replace g1 := g1.le le_17
        replace g2 := g2.le le_17
        replace hM := hM.le le_17
        try simp only [go_sem, Nat.reduceEqDiff, Nat.reduceAdd, Bool.false_eq_true, Nat.reduceBEq, ↓reduceIte]
        first | refine ev_call (radd_ok _ _ _ _ _ g1 o1 (by omega) (by omega)) ?_ | refine ev_callP (radd_ok _ _ _ _ _ g1 o1 (by omega) (by omega)) ?_
        rintro v_18 H_18 le_18 q1 _
        replace g2 := g2.le le_18
        replace hM := hM.le le_18
        try simp only [go_sem, Nat.reduceEqDiff, Nat.reduceAdd, Bool.false_eq_true, Nat.reduceBEq, ↓reduceIte]
        first | refine ev_call (rsub_ok _ _ _ y (x % y) hM g2 (by omega) (by omega)) ?_ | refine ev_callP (rsub_ok _ _ _ y (x % y) hM g2 (by omega) (by omega)) ?_
        rintro v_19 H_19 le_19 q2 _
        replace q1 := q1.le le_19
        try simp only [go_sem, Nat.reduceEqDiff, Nat.reduceAdd, Bool.false_eq_true, Nat.reduceBEq, ↓reduceIte]
        first | refine ev_call (rfrom_ok _ true _ _ q1) ?_ | refine ev_callP (rfrom_ok _ true _ _ q1) ?_
        rintro v_20 H_20 le_20 r1 _
        replace q2 := q2.le le_20
        try simp only [go_sem, Nat.reduceEqDiff, Nat.reduceAdd, Bool.false_eq_true, Nat.reduceBEq, ↓reduceIte]
        obtain ⟨A1, l1, c1, b1', rfl⟩ := r1.form
        try simp only [go_sem, Nat.reduceEqDiff, Nat.reduceAdd, Bool.false_eq_true, Nat.reduceBEq, ↓reduceIte]
        first | refine ev_call (rfrom_ok _ _ _ _ q2) ?_ | refine ev_callP (rfrom_ok _ _ _ _ q2) ?_
        rintro v_21 H_21 le_21 r2 _
        replace r1 := r1.le le_21
        try simp only [go_sem, Nat.reduceEqDiff, Nat.reduceAdd, Bool.false_eq_true, Nat.reduceBEq, ↓reduceIte]
        obtain ⟨A2, l2, c2, b2', rfl⟩ := r2.form
        try simp only [go_sem, Nat.reduceEqDiff, Nat.reduceAdd, Bool.false_eq_true, Nat.reduceBEq, ↓reduceIte]
        obtain ⟨e1, e2⟩ := hdf.2 hr0
        rw [e1, e2]
        exact ⟨by trivial, _, _, rfl, r1, r2⟩
      · have hr0 : x % y = 0 := hrl.1 (by omega)
        rw [hr0] at g2
        try simp only [go_sem, Nat.reduceEqDiff, Nat.reduceAdd, Bool.false_eq_true, Nat.reduceBEq, ↓reduceIte]
        first | refine ev_call (rfrom_ok _ true _ _ g1) ?_ | refine ev_callP (rfrom_ok _ true _ _ g1) ?_
        rintro v_22 H_22 le_22 r1 _
        replace g2 := g2.le le_22
        try simp only [go_sem, Nat.reduceEqDiff, Nat.reduceAdd, Bool.false_eq_true, Nat.reduceBEq, ↓reduceIte]
        obtain ⟨A1, l1, c1, b1', rfl⟩ := r1.form
        try simp only [go_sem, Nat.reduceEqDiff, Nat.reduceAdd, Bool.false_eq_true, Nat.reduceBEq, ↓reduceIte]
        first | refine ev_call (rfrom_ok _ _ _ _ g2) ?_ | refine ev_callP (rfrom_ok _ _ _ _ g2) ?_
        rintro v_23 H_23 le_23 r2 _
        replace r1 := r1.le le_23
        try simp only [go_sem, Nat.reduceEqDiff, Nat.reduceAdd, Bool.false_eq_true, Nat.reduceBEq, ↓reduceIte]
        rw [sg_zero] at r2
        obtain ⟨A2, l2, c2, b2', rfl⟩ := r2.form
        try simp only [go_sem, Nat.reduceEqDiff, Nat.reduceAdd, Bool.false_eq_true, Nat.reduceBEq, ↓reduceIte]
        obtain ⟨e1, e2⟩ := hdf.1 hr0
        rw [e1, e2]
        exact ⟨by trivial, _, _, rfl, r1, r2⟩
    | false =>
      obtain ⟨e1, e2⟩ := sg_fdiv_same false x y hy
      rw [e1, e2]
      try simp only [go_sem, Nat.reduceEqDiff, Nat.reduceAdd, Bool.false_eq_true, Nat.reduceBEq, ↓reduceIte]
      first | refine ev_call (rfrom_ok _ false _ _ g1) ?_ | refine ev_callP (rfrom_ok _ false _ _ g1) ?_
      rintro v_15 H_15 le_15 r1 _
      replace g2 := g2.le le_15
      try simp only [go_sem, Nat.reduceEqDiff, Nat.reduceAdd, Bool.false_eq_true, Nat.reduceBEq, ↓reduceIte]
      rw [sg_false] at r1
      obtain ⟨A1, l1, c1, b1', rfl⟩ := r1.form
      try simp only [go_sem, Nat.reduceEqDiff, Nat.reduceAdd, Bool.false_eq_true, Nat.reduceBEq, ↓reduceIte]
      first | refine ev_call (rfrom_ok _ _ _ _ g2) ?_ | refine ev_callP (rfrom_ok _ _ _ _ g2) ?_
      rintro v_16 H_16 le_16 r2 _
      replace r1 := r1.le le_16
      try simp only [go_sem, Nat.reduceEqDiff, Nat.reduceAdd, Bool.false_eq_true, Nat.reduceBEq, ↓reduceIte]
      obtain ⟨A2, l2, c2, b2', rfl⟩ := r2.form
      try simp only [go_sem, Nat.reduceEqDiff, Nat.reduceAdd, Bool.false_eq_true, Nat.reduceBEq, ↓reduceIte]
      exact ⟨by trivial, _, _, rfl, r1, r2⟩

theorem rtextI_ok (H : PH) (v : Value) (z : Int) (hV : RInt H v z) (hb : bi z ≤ 4294967296) : FnP Try.prog 20 [v] H fun v _ => v = .string (ofB (itxt z)) := by
  obtain ⟨A, l, c, b, rfl, hN, hz, hb0, hl⟩ := hV.open
  refine of_cinctureref1_IntText (by simp) ?_
  try simp only [go_sem, Nat.reduceEqDiff, Nat.reduceAdd, Bool.false_eq_true, Nat.reduceBEq, ↓reduceIte, p_cinctureref1_IntText]
  cases b with
  | false =>
    have h0 : ¬ z < 0 := by rw [hz, sg_false]; omega
    try simp only [go_sem, Nat.reduceEqDiff, Nat.reduceAdd, Bool.false_eq_true, Nat.reduceBEq, ↓reduceIte]
    first | refine ev_call (rtext_ok _ _ _ hN hb) ?_ | refine ev_callP (rtext_ok _ _ _ hN hb) ?_
    rintro v_24 H_24 le_24 rfl _
    try simp only [go_sem, Nat.reduceEqDiff, Nat.reduceAdd, Bool.false_eq_true, Nat.reduceBEq, ↓reduceIte]
    refine ⟨by trivial, ?_⟩
    unfold itxt; rw [if_neg h0]
  | true =>
    have h0 : z < 0 := by have := hb0 rfl; rw [hz, sg_true]; omega
    try simp only [go_sem, Nat.reduceEqDiff, Nat.reduceAdd, Bool.false_eq_true, Nat.reduceBEq, ↓reduceIte]
    first | refine ev_call (rtext_ok _ _ _ hN hb) ?_ | refine ev_callP (rtext_ok _ _ _ hN hb) ?_
    rintro v_25 H_25 le_25 rfl _
    try simp only [go_sem, Nat.reduceEqDiff, Nat.reduceAdd, Bool.false_eq_true, Nat.reduceBEq, ↓reduceIte]
    refine ev_cat (by rw [ofB_size]; have := txt_size z.natAbs (by omega) hb; show 1 + _ ≤ _; omega) ?_
    try simp only [go_sem, Nat.reduceEqDiff, Nat.reduceAdd, Bool.false_eq_true, Nat.reduceBEq, ↓reduceIte]
    refine ⟨by trivial, ?_⟩
    unfold itxt; rw [if_pos h0, minus_txt]

theorem rintOf_ok (H : PH) (n : Int) (h1 : -9223372036854775808 ≤ n) (h2 : n ≤ 9223372036854775807) : FnP Try.prog 101 [.int .i64 n] H fun v H' => RInt H' v n := by
  refine of_cinctureref1_IntOf (by simp) ?_
  try simp only [go_sem, Nat.reduceEqDiff, Nat.reduceAdd, Bool.false_eq_true, Nat.reduceBEq, ↓reduceIte, p_cinctureref1_IntOf]
  refine ev_if (fun h => ?_) (fun h => ?_)
  · try simp only [go_sem, Nat.reduceEqDiff, Nat.reduceAdd, Bool.false_eq_true, Nat.reduceBEq, ↓reduceIte]
    rw [show IntKind.u64.wrap (IntKind.u64.wrap (IntKind.i64.wrap (0 - IntKind.i64.wrap (n + 1))) + 1) = ((n.natAbs : Nat) : Int) by
      rw [w64 (n + 1) (by omega) (by omega), w64 (0 - (n + 1)) (by omega) (by omega), wu64 (0 - (n + 1)) (by omega) (by omega), wu64 _ (by omega) (by omega)]; omega]
    first | refine ev_call (rnatOf_ok _ n.natAbs (by omega)) ?_ | refine ev_callP (rnatOf_ok _ n.natAbs (by omega)) ?_
    rintro v_26 H_26 le_26 hN _
    try simp only [go_sem, Nat.reduceEqDiff, Nat.reduceAdd, Bool.false_eq_true, Nat.reduceBEq, ↓reduceIte]
    obtain ⟨A, l, c, rfl⟩ := hN.form'
    try simp only [go_sem, Nat.reduceEqDiff, Nat.reduceAdd, Bool.false_eq_true, Nat.reduceBEq, ↓reduceIte]
    have := RInt.mk (b := true) hN fun _ => by omega
    rw [show sg true n.natAbs = n by rw [sg_true]; omega] at this
    exact ⟨by trivial, this⟩
  · try simp only [go_sem, Nat.reduceEqDiff, Nat.reduceAdd, Bool.false_eq_true, Nat.reduceBEq, ↓reduceIte]
    rw [show IntKind.u64.wrap n = ((n.natAbs : Nat) : Int) by rw [wu64_mod]; omega]
    first | refine ev_call (rnatOf_ok _ n.natAbs (by omega)) ?_ | refine ev_callP (rnatOf_ok _ n.natAbs (by omega)) ?_
    rintro v_27 H_27 le_27 hN _
    try simp only [go_sem, Nat.reduceEqDiff, Nat.reduceAdd, Bool.false_eq_true, Nat.reduceBEq, ↓reduceIte]
    obtain ⟨A, l, c, rfl⟩ := hN.form'
    try simp only [go_sem, Nat.reduceEqDiff, Nat.reduceAdd, Bool.false_eq_true, Nat.reduceBEq, ↓reduceIte]
    have := RInt.mk (b := false) hN fun h => by cases h
    rw [show sg false n.natAbs = n by rw [sg_false]; omega] at this
    exact ⟨by trivial, this⟩

theorem rparseI_ok (H : PH) (t : ByteArray) : FnP Try.prog 24 [.string t] H fun v H' => ∃ v', v = .tuple #[v', .bool (intOk (bs t))] ∧ RInt H' v' (if intOk (bs t) then iv (bs t) else 0) := by
  have hsz := bs_length t
  refine of_cinctureref1_IntParse (by simp) ?_
  try simp only [go_sem, Nat.reduceEqDiff, Nat.reduceAdd, Bool.false_eq_true, Nat.reduceBEq, ↓reduceIte, p_cinctureref1_IntParse]
  refine ev_if (fun h => ?_) (fun h => ?_)
  · have hb0 := bs_getD t 0
    try simp only [go_sem, Nat.reduceEqDiff, Nat.reduceAdd, Bool.false_eq_true, Nat.reduceBEq, ↓reduceIte]
    refine ev_ix (by omega) (by omega) ?_
    try simp only [go_sem, Nat.reduceEqDiff, Nat.reduceAdd, Bool.false_eq_true, Nat.reduceBEq, ↓reduceIte]
    rw [show (0 : Int).toNat = 0 from rfl]
    refine ev_if (fun h2 => ?_) (fun h2 => ?_)
    · have h45 : (bs t).getD 0 0 = 45 := by rw [← hb0]; omega
      have hex := bs_extract t
      have hok : intOk (bs t) = (decOk ((bs t).drop 1) && dv ((bs t).drop 1) != 0) := by unfold intOk; rw [if_pos h45]
      have hiv : iv (bs t) = sg true (dv ((bs t).drop 1)) := by unfold iv; rw [if_pos h45]; rfl
      try simp only [go_sem, Nat.reduceEqDiff, Nat.reduceAdd, Bool.false_eq_true, Nat.reduceBEq, ↓reduceIte]
      refine ev_ss (by omega) (by omega) (by omega) ?_
      rw [show (1 : Int).toNat = 1 from rfl, toNat_cast]
      try simp only [go_sem, Nat.reduceEqDiff, Nat.reduceAdd, Bool.false_eq_true, Nat.reduceBEq, ↓reduceIte]
      first | refine ev_call (rparse_ok _ (t.extract 1 t.size)) ?_ | refine ev_callP (rparse_ok _ (t.extract 1 t.size)) ?_
      rintro v_29 H_29 le_29 ⟨va, rfl, hN⟩ _
      try simp only [go_sem, Nat.reduceEqDiff, Nat.reduceAdd, Bool.false_eq_true, Nat.reduceBEq, ↓reduceIte]
      rw [hex] at hN ⊢
      obtain ⟨A, l, c, rfl, hl⟩ := hN.form
      cases hk : decOk ((bs t).drop 1) with
      | false =>
        try simp only [go_sem, Nat.reduceEqDiff, Nat.reduceAdd, Bool.false_eq_true, Nat.reduceBEq, ↓reduceIte, hk]
        refine ⟨by trivial, _, by rw [hok, hk]; rfl, ?_⟩
        rw [hok, hk]; exact RInt.zero _
      | true =>
        rw [hk, if_pos rfl] at hN hl
        rw [hk, Bool.true_and] at hok
        generalize dv ((bs t).drop 1) = x at *
        try simp only [go_sem, Nat.reduceEqDiff, Nat.reduceAdd, Bool.false_eq_true, Nat.reduceBEq, ↓reduceIte, hk]
        refine ev_if (fun h3 => ?_) (fun h3 => ?_)
        · try simp only [go_sem, Nat.reduceEqDiff, Nat.reduceAdd, Bool.false_eq_true, Nat.reduceBEq, ↓reduceIte]
          have hx0 : x = 0 := hl.1 (by omega)
          refine ⟨by trivial, _, by rw [hok, hx0]; rfl, ?_⟩
          rw [hok, hx0]; exact RInt.zero _
        · try simp only [go_sem, Nat.reduceEqDiff, Nat.reduceAdd, Bool.false_eq_true, Nat.reduceBEq, ↓reduceIte]
          have hx0 : x ≠ 0 := fun e => h3 (by rw [hl.2 e]; rfl)
          refine ⟨by trivial, _, by rw [hok, bne_iff_ne.2 hx0], ?_⟩
          rw [hok, bne_iff_ne.2 hx0, if_pos rfl, hiv]
          exact RInt.mk hN fun _ => hx0
    · have h45 : ¬ (bs t).getD 0 0 = 45 := by rw [← hb0]; omega
      have hok : intOk (bs t) = decOk (bs t) := by unfold intOk; rw [if_neg h45]
      have hiv : iv (bs t) = dv (bs t) := by unfold iv; rw [if_neg h45]
      try simp only [go_sem, Nat.reduceEqDiff, Nat.reduceAdd, Bool.false_eq_true, Nat.reduceBEq, ↓reduceIte]
      first | refine ev_call (rparse_ok _ t) ?_ | refine ev_callP (rparse_ok _ t) ?_
      rintro v_28 H_28 le_28 ⟨va, rfl, hN⟩ _
      try simp only [go_sem, Nat.reduceEqDiff, Nat.reduceAdd, Bool.false_eq_true, Nat.reduceBEq, ↓reduceIte]
      obtain ⟨A, l, c, rfl⟩ := hN.form'
      try simp only [go_sem, Nat.reduceEqDiff, Nat.reduceAdd, Bool.false_eq_true, Nat.reduceBEq, ↓reduceIte]
      refine ⟨by trivial, _, by rw [hok], ?_⟩
      have := RInt.mk (b := false) hN fun h => by cases h
      rw [sg_false] at this
      rw [hok, hiv]
      cases hk : decOk (bs t) with
      | false => rw [hk] at this; exact this
      | true => rw [hk, if_pos rfl] at this; exact this
  · have h0 : bs t = [] := List.eq_nil_of_length_eq_zero (by omega)
    have h45 : ¬ (bs t).getD 0 0 = 45 := by rw [h0]; decide
    have hok : intOk (bs t) = decOk (bs t) := by unfold intOk; rw [if_neg h45]
    have hiv : iv (bs t) = dv (bs t) := by unfold iv; rw [if_neg h45]
    try simp only [go_sem, Nat.reduceEqDiff, Nat.reduceAdd, Bool.false_eq_true, Nat.reduceBEq, ↓reduceIte]
    first | refine ev_call (rparse_ok _ t) ?_ | refine ev_callP (rparse_ok _ t) ?_
    rintro v_28 H_28 le_28 ⟨va, rfl, hN⟩ _
    try simp only [go_sem, Nat.reduceEqDiff, Nat.reduceAdd, Bool.false_eq_true, Nat.reduceBEq, ↓reduceIte]
    obtain ⟨A, l, c, rfl⟩ := hN.form'
    try simp only [go_sem, Nat.reduceEqDiff, Nat.reduceAdd, Bool.false_eq_true, Nat.reduceBEq, ↓reduceIte]
    refine ⟨by trivial, _, by rw [hok], ?_⟩
    have := RInt.mk (b := false) hN fun h => by cases h
    rw [sg_false] at this
    rw [hok, hiv]
    cases hk : decOk (bs t) with
    | false => rw [hk] at this; exact this
    | true => rw [hk, if_pos rfl] at this; exact this

end Go.Proofs.Ytepnmenidnjikaa.X
namespace Go.Proofs.Ytepnmenidnjikaa.X

/-- the denominator as package rat keeps it: 0 stands for 1 -/
def dn (q : Rat) : Nat := if q.den = 1 then 0 else q.den
theorem dn_one {q : Rat} (h : q.den = 1) : dn q = 0 := by unfold dn; rw [if_pos h]
theorem dn_ne {q : Rat} (h : q.den ≠ 1) : dn q = q.den := by unfold dn; rw [if_neg h]
theorem dn_zero_iff {q : Rat} : dn q = 0 ↔ q.den = 1 := by
  unfold dn
  have := q.den_nz
  split <;> omega
/-- how many binary digits the parts have -/
def br (q : Rat) : Nat := max (bi q.num) (bl q.den)
theorem bi_br (q : Rat) : bi q.num ≤ br q := Nat.le_max_left _ _
theorem bl_br (q : Rat) : bl q.den ≤ br q := Nat.le_max_right _ _
theorem bl_dn (q : Rat) : bl (dn q) ≤ br q := by
  unfold dn
  split
  · exact Nat.zero_le _
  · exact bl_br q

theorem ediv_sg {z : Int} {g : Nat} (hg : 0 < g) (h : g ∣ z.natAbs) : z / (g : Int) = sg (decide (z < 0)) (z.natAbs / g) := by
  obtain ⟨k, hk⟩ := h
  rw [hk, Nat.mul_div_cancel_left _ hg]
  have e := sg_self z
  rw [hk] at e
  conv => lhs; rw [← e]
  cases decide (z < 0)
  · rw [sg_false, sg_false, Int.natCast_mul]
    exact Int.mul_ediv_cancel_left _ (by omega)
  · rw [sg_true, sg_true, Int.natCast_mul, ← Int.mul_neg]
    exact Int.mul_ediv_cancel_left _ (by omega)

/-- a quotient by the least numbers -/
theorem least_num (z : Int) {y : Nat} (hy : y ≠ 0) : (mkRat z y).num = sg (decide (z < 0)) (z.natAbs / y.gcd z.natAbs) := by
  rw [Rat.num_mkRat, if_neg hy]
  exact ediv_sg (Nat.gcd_pos_of_pos_left _ (Nat.pos_of_ne_zero hy)) (Nat.gcd_dvd_right _ _)
theorem least_den (z : Int) {y : Nat} (hy : y ≠ 0) : (mkRat z y).den = y / y.gcd z.natAbs := by rw [Rat.den_mkRat, if_neg hy]
theorem least_one (z : Int) : (mkRat z 1).num = z ∧ (mkRat z 1).den = 1 := by
  rw [least_num z (by decide), least_den z (by decide), Nat.gcd_one_left, Nat.div_one, sg_self]
  exact ⟨rfl, rfl⟩
theorem br_mk (z : Int) (y : Nat) : br (mkRat z y) ≤ max (bi z) (max (bl y) 1) := by
  by_cases hy : y = 0
  · subst hy
    rw [Rat.mkRat_zero]
    show max (bi 0) (bl 1) ≤ _
    have : bi 0 = 0 := rfl
    have : bl 1 = 1 := rfl
    omega
  · have h1 : bi (mkRat z y).num ≤ bi z := by
      unfold bi
      rw [least_num z hy, sg_natAbs]
      exact bl_mono (Nat.div_le_self _ _)
    have h2 : bl (mkRat z y).den ≤ bl y := by
      rw [least_den z hy]
      exact bl_mono (Nat.div_le_self _ _)
    unfold br
    omega
theorem br_neg (q : Rat) : br (-q) = br q := by
  unfold br
  rw [Rat.neg_num, Rat.neg_den, bi_neg]
theorem br_add (p q : Rat) : br (p + q) ≤ br p + br q + 2 := by
  rw [Rat.add_def']
  have h1 := br_mk (p.num * q.den + q.num * p.den) (p.den * q.den)
  have h2 := bi_add (p.num * q.den) (q.num * p.den)
  have h3 := bi_mul p.num q.den
  have h4 := bi_mul q.num p.den
  have h5 := bl_mul p.den q.den
  have e1 : bi (q.den : Int) = bl q.den := by unfold bi; rw [Int.natAbs_natCast]
  have e2 : bi (p.den : Int) = bl p.den := by unfold bi; rw [Int.natAbs_natCast]
  have a1 := bi_br p; have a2 := bl_br p; have a3 := bi_br q; have a4 := bl_br q
  omega
theorem br_mul (p q : Rat) : br (p * q) ≤ br p + br q + 1 := by
  rw [Rat.mul_def']
  have h1 := br_mk (p.num * q.num) (p.den * q.den)
  have h3 := bi_mul p.num q.num
  have h5 := bl_mul p.den q.den
  have a1 := bi_br p; have a2 := bl_br p; have a3 := bi_br q; have a4 := bl_br q
  omega
theorem br_sub (p q : Rat) : br (p - q) ≤ br p + br q + 2 := by
  rw [Rat.sub_eq_add_neg]
  have := br_add p (-q)
  rwa [br_neg] at this

/-- which one is greater -/
def cmpR (p q : Rat) : Int := if p < q then -1 else if q < p then 1 else 0
theorem cmpI_R (p q : Rat) : cmpI (p.num * q.den) (q.num * p.den) = cmpR p q := by
  unfold cmpI cmpR
  simp only [Rat.lt_iff]

/-! ### texts -/
def rtx (q : Rat) : List Nat := if q.den = 1 then itxt q.num else itxt q.num ++ 47 :: txt q.den
theorem rtx_lt (q : Rat) : ∀ d ∈ rtx q, d < 256 := by
  unfold rtx
  split
  · exact itxt_lt _
  · intro d hd
    rcases List.mem_append.1 hd with h | h
    · exact itxt_lt _ d h
    · rcases List.mem_cons.1 h with rfl | h
      · decide
      · exact txt_lt _ d h
def sl (l : List Nat) : Nat := l.idxOf 47
def ratOk (l : List Nat) : Bool :=
  if sl l = l.length then intOk l
  else (intOk (l.take (sl l)) && decOk (l.drop (sl l + 1))) && (decide (2 ≤ dv (l.drop (sl l + 1))) && decide ((dv (l.drop (sl l + 1))).gcd (iv (l.take (sl l))).natAbs = 1))
def rv (l : List Nat) : Rat := if sl l = l.length then mkRat (iv l) 1 else mkRat (iv (l.take (sl l))) (dv (l.drop (sl l + 1)))
theorem mk_coprime {z : Int} {y : Nat} (hy : y ≠ 0) (h : y.gcd z.natAbs = 1) : (mkRat z y).num = z ∧ (mkRat z y).den = y := by
  rw [least_num z hy, least_den z hy, h, Nat.div_one, Nat.div_one, sg_self]
  exact ⟨rfl, rfl⟩
theorem sl_le (l : List Nat) : sl l ≤ l.length := List.idxOf_le_length
theorem sl_get {l : List Nat} (h : sl l ≠ l.length) : l = l.take (sl l) ++ 47 :: l.drop (sl l + 1) := by
  have h1 : sl l < l.length := by have := sl_le l; omega
  have h2 : l[sl l] = 47 := by unfold sl; exact List.getElem_idxOf h1
  conv => lhs; rw [← List.take_append_drop (sl l) l, List.drop_eq_getElem_cons h1, h2]
theorem ratOk_parts {l : List Nat} (h0 : sl l ≠ l.length) (h : ratOk l = true) : intOk (l.take (sl l)) = true ∧ decOk (l.drop (sl l + 1)) = true ∧ 2 ≤ dv (l.drop (sl l + 1)) ∧ (dv (l.drop (sl l + 1))).gcd (iv (l.take (sl l))).natAbs = 1 := by
  unfold ratOk at h
  rw [if_neg h0, Bool.and_eq_true, Bool.and_eq_true, Bool.and_eq_true, decide_eq_true_eq, decide_eq_true_eq] at h
  exact ⟨h.1.1, h.1.2, h.2.1, h.2.2⟩
theorem rtx_rv {l : List Nat} (h : ratOk l = true) : rtx (rv l) = l := by
  by_cases h0 : sl l = l.length
  · unfold ratOk at h
    rw [if_pos h0] at h
    unfold rv rtx
    obtain ⟨e1, e2⟩ := least_one (iv l)
    rw [if_pos h0, if_pos e2, e1, itxt_iv h]
  · obtain ⟨k1, k2, k3, k4⟩ := ratOk_parts h0 h
    unfold rv rtx
    obtain ⟨e1, e2⟩ := mk_coprime (by omega) k4
    rw [if_neg h0, e2, if_neg (by omega), e1, itxt_iv k1, txt_dv k2]
    exact (sl_get h0).symm

/-! ### powers, quotients, floors -/
theorem bi_cast' (n : Nat) : bi (n : Int) = bl n := by unfold bi; rw [Int.natAbs_natCast]
theorem divI_mk (z w : Int) : Rat.divInt z w = mkRat (if w < 0 then -z else z) w.natAbs := by
  by_cases h : w < 0
  · rw [if_pos h]
    have e : w = -((w.natAbs : Nat) : Int) := by omega
    conv => lhs; rw [e, Rat.divInt_neg', Rat.divInt_ofNat]
  · rw [if_neg h]
    have e : w = ((w.natAbs : Nat) : Int) := by omega
    conv => lhs; rw [e, Rat.divInt_ofNat]
theorem inv_mk (q : Rat) : q⁻¹ = mkRat (sg (decide (q.num < 0)) q.den) q.num.natAbs := by
  conv => lhs; rw [← Rat.num_divInt_den q, Rat.inv_divInt, divI_mk]
  congr 1
  by_cases h1 : q.num < 0
  · rw [if_pos h1, decide_eq_true h1, sg_true]
  · rw [if_neg h1, decide_eq_false h1, sg_false]
theorem div_divI (p q : Rat) : p / q = Rat.divInt (p.num * q.den) (p.den * q.num) := by
  conv => lhs; rw [Rat.div_def, ← Rat.num_divInt_den q, Rat.inv_divInt, ← Rat.num_divInt_den p, Rat.divInt_mul_divInt]
theorem br_divI (z w : Int) : br (Rat.divInt z w) ≤ max (bi z) (max (bi w) 1) := by
  by_cases hw : w = 0
  · subst hw
    rw [Rat.divInt_zero]
    show max (bi 0) (bl 1) ≤ _
    have : bi 0 = 0 := rfl
    have : bl 1 = 1 := rfl
    omega
  · rw [divI_mk]
    have := br_mk (if w < 0 then -z else z) w.natAbs
    have e : bi (if w < 0 then -z else z) = bi z := by
      split
      · exact bi_neg z
      · rfl
    have e2 : bi w = bl w.natAbs := rfl
    omega
theorem br_div (p q : Rat) : br (p / q) ≤ br p + br q + 1 := by
  rw [div_divI]
  have h1 := br_divI (p.num * q.den) (p.den * q.num)
  have h3 := bi_mul p.num q.den
  have h4 := bi_mul p.den q.num
  rw [bi_cast'] at h3 h4
  have a1 := bi_br p; have a2 := bl_br p; have a3 := bi_br q; have a4 := bl_br q
  omega
theorem num_eq_zero (q : Rat) : q.num = 0 ↔ q = 0 := Rat.num_eq_zero
theorem floor_eq (q : Rat) : q.floor = q.num.fdiv q.den := by
  rw [Rat.floor_def, Int.fdiv_eq_ediv_of_nonneg _ (Int.natCast_nonneg _)]
theorem bi_powI (z : Int) (m : Nat) : bi (z ^ m) ≤ m * bi z + 1 := by
  induction m with
  | zero =>
    rw [Int.pow_zero]
    have : bi 1 = 1 := rfl
    omega
  | succ m ih =>
    rw [Int.pow_succ]
    have := bi_mul (z ^ m) z
    rw [Nat.add_mul]
    omega
theorem br_pow (q : Rat) (m : Nat) : br (q ^ m) ≤ m * br q + 1 := by
  have h1 := bi_powI q.num m
  have h2 := bi_powI (q.den : Int) m
  rw [bi_cast', ← Int.natCast_pow, bi_cast'] at h2
  have h3 := Nat.mul_le_mul_left m (bi_br q)
  have h4 := Nat.mul_le_mul_left m (bl_br q)
  unfold br at h3 h4 ⊢
  rw [Rat.num_pow, Rat.den_pow]
  omega
theorem dn_pow (q : Rat) (m : Nat) : dn (q ^ m) = if q.den = 1 ∨ m = 0 then 0 else q.den ^ m := by
  unfold dn
  rw [Rat.den_pow]
  split
  · rename_i h
    rcases Nat.pow_eq_one.1 h with h1 | h1
    · rw [if_pos (.inl h1)]
    · rw [if_pos (.inr h1)]
  · rename_i h
    rw [if_neg fun h1 => h (Nat.pow_eq_one.2 h1)]

end Go.Proofs.Ytepnmenidnjikaa.X
namespace Go.Proofs.Ytepnmenidnjikaa.X

theorem rv_br {l : List Nat} (h : ratOk l = true) : br (rv l) ≤ 4 * l.length + 1 := by
  by_cases h0 : sl l = l.length
  · unfold ratOk at h
    rw [if_pos h0] at h
    unfold rv
    rw [if_pos h0]
    have h1 := br_mk (iv l) 1
    have h2 := bi_iv h
    have h3 : bl 1 = 1 := rfl
    omega
  · obtain ⟨k1, k2, k3, k4⟩ := ratOk_parts h0 h
    unfold rv
    rw [if_neg h0]
    have h1 := br_mk (iv (l.take (sl l))) (dv (l.drop (sl l + 1)))
    have h2 := bi_iv k1
    have h3 : bl (dv (l.drop (sl l + 1))) ≤ 4 * (l.drop (sl l + 1)).length := by
      simp only [decOk, Bool.and_eq_true, List.all_eq_true, decide_eq_true_eq] at k2
      exact bl_dv fun d hd => by have := k2.2.2 d hd; simp [isDig] at this; omega
    rw [List.length_take] at h2
    rw [List.length_drop] at h3
    omega
theorem cmpR_self (p : Rat) : cmpR p p = 0 := by unfold cmpR; rw [if_neg (Rat.lt_irrefl), if_neg (Rat.lt_irrefl)]
theorem cmpR_eq {p q : Rat} (h : p = q) : cmpR p q = 0 := by rw [h, cmpR_self]
theorem cmpR_lt {p q : Rat} (h : p < q) : cmpR p q = -1 := by unfold cmpR; rw [if_pos h]
theorem cmpR_gt {p q : Rat} (h : q < p) : cmpR p q = 1 := by unfold cmpR; rw [if_neg (by grind), if_pos h]
theorem cmpR_cases (p q : Rat) : (p < q ∧ cmpR p q = -1) ∨ (p = q ∧ cmpR p q = 0) ∨ (q < p ∧ cmpR p q = 1) := by
  by_cases h : p < q
  · exact .inl ⟨h, cmpR_lt h⟩
  · by_cases h2 : q < p
    · exact .inr (.inr ⟨h2, cmpR_gt h2⟩)
    · have : p = q := by grind
      exact .inr (.inl ⟨this, cmpR_eq this⟩)
theorem cmpR_bd (p q : Rat) : -1 ≤ cmpR p q ∧ cmpR p q ≤ 1 := by
  rcases cmpR_cases p q with h | h | h <;> omega
theorem sgnI_R (p : Rat) : sgnI p.num = cmpR p 0 := by
  have := cmpI_R p 0
  rw [← this]
  unfold sgnI cmpI
  simp
theorem cmpR_add (p q r : Rat) : cmpR (p + r) (q + r) = cmpR p q := by
  rcases cmpR_cases p q with h | h | h
  · rw [h.2]; exact cmpR_lt (by grind)
  · rw [h.2]; exact cmpR_eq (by grind)
  · rw [h.2]; exact cmpR_gt (by grind)
theorem cmpR_mid1 (p q : Rat) : cmpR p ((p + q) / 2) = cmpR p q := by
  have e : (p + q) / 2 * 2 = p + q := Rat.div_mul_cancel (by decide)
  rcases cmpR_cases p q with h | h | h
  · rw [h.2]; exact cmpR_lt (by grind)
  · rw [h.2]; exact cmpR_eq (by grind)
  · rw [h.2]; exact cmpR_gt (by grind)
theorem cmpR_mid2 (p q : Rat) : cmpR ((p + q) / 2) q = cmpR p q := by
  have e : (p + q) / 2 * 2 = p + q := Rat.div_mul_cancel (by decide)
  rcases cmpR_cases p q with h | h | h
  · rw [h.2]; exact cmpR_lt (by grind)
  · rw [h.2]; exact cmpR_eq (by grind)
  · rw [h.2]; exact cmpR_gt (by grind)
theorem cmpR_mul (p q r : Rat) : cmpR (p * r) (q * r) = cmpR p q * cmpR r 0 := by
  rcases cmpR_cases r 0 with h | h | h
  · rw [h.2]
    rcases cmpR_cases p q with k | k | k
    · rw [k.2]; exact cmpR_gt (by have := Rat.mul_lt_mul_of_pos_right k.1 (show 0 < -r by grind); grind)
    · rw [k.2]; exact cmpR_eq (by grind)
    · rw [k.2]; exact cmpR_lt (by have := Rat.mul_lt_mul_of_pos_right k.1 (show 0 < -r by grind); grind)
  · rw [h.2, h.1]; simp only [Rat.mul_zero, Int.mul_zero]; exact cmpR_self 0
  · rw [h.2]
    rcases cmpR_cases p q with k | k | k
    · rw [k.2]; exact cmpR_lt (by have := Rat.mul_lt_mul_of_pos_right k.1 h.1; grind)
    · rw [k.2]; exact cmpR_eq (by grind)
    · rw [k.2]; exact cmpR_gt (by have := Rat.mul_lt_mul_of_pos_right k.1 h.1; grind)
theorem ring_R (p q r : Rat) : (p + q) * r = r * p + r * q := by grind
theorem sub_R (p q : Rat) : p - q = -(q - p) := by grind

/-- times the same, the same number -/
theorem times_same (p : Rat) {k : Int} (hk : k ≠ 0) : Rat.divInt (p.num * k) ((p.den : Int) * k) = p := by
  rw [Rat.divInt_mul_right hk, Rat.num_divInt_den]
theorem floor_lt (p : Rat) : 0 ≤ p - (p.floor : Rat) ∧ p - (p.floor : Rat) < 1 := by
  have h1 : (p.floor : Rat) ≤ p := Rat.floor_le p
  have h2 : p < ((p.floor + 1 : Int) : Rat) := Rat.lt_floor_add_one p
  rw [Rat.intCast_add] at h2
  constructor
  · grind
  · have : ((1 : Int) : Rat) = 1 := rfl
    grind
theorem divInt_one (z : Int) : Rat.divInt z 1 = (z : Rat) := (Rat.divInt_ofNat z 1).trans (Rat.mkRat_one z)

theorem sl_cons (b : Nat) (l : List Nat) : sl (b :: l) = if b = 47 then 0 else sl l + 1 := by
  unfold sl
  rw [List.idxOf_cons]
  by_cases h : b = 47
  · subst h; rfl
  · rw [if_neg h, beq_false_of_ne h]; rfl
theorem sl_at : ∀ (l : List Nat) (i : Nat), i ≤ sl l → i < l.length → (l.getD i 0 = 47 ↔ sl l = i)
  | [], i, _, h => absurd h (Nat.not_lt_zero i)
  | b :: l, 0, _, _ => by
    rw [sl_cons]
    by_cases h : b = 47
    · rw [if_pos h]; simp [h]
    · rw [if_neg h]; simp [h]
  | b :: l, i + 1, h1, h2 => by
    rw [sl_cons] at h1 ⊢
    by_cases h : b = 47
    · rw [if_pos h] at h1; omega
    · rw [if_neg h] at h1 ⊢
      rw [List.length_cons] at h2
      have := sl_at l i (by omega) (by omega)
      rw [List.getD_cons_succ, this]
      omega

/-! ### the first call -/
theorem alive_ok : ratOk [45, 51, 47, 52] = true := by decide +kernel
theorem alive_rv : rv [45, 51, 47, 52] = mkRat (-3) 4 := by
  have h1 : sl [45, 51, 47, 52] = 2 := by decide
  unfold rv
  rw [h1, if_neg (by decide)]
  rfl
theorem alive_sum : mkRat (-3) 4 + ((1 : Int) : Rat) = mkRat 1 4 := by
  obtain ⟨e1, e2⟩ := mk_coprime (z := -3) (y := 4) (by decide) (by decide +kernel)
  rw [Rat.add_def', e1, e2, Rat.num_intCast, Rat.den_intCast]
  rfl
theorem alive_txt : rtx (mkRat 1 4) = [49, 47, 52] := by
  obtain ⟨e1, e2⟩ := mk_coprime (z := 1) (y := 4) (by decide) (by decide +kernel)
  unfold rtx
  rw [e1, e2, if_neg (by decide), txt_small (by decide) (by decide)]
  unfold itxt
  rw [if_neg (by decide), show (1 : Int).natAbs = 1 from rfl, txt_small (by decide) (by decide)]
  rfl
theorem rtx_zero : ofB (rtx 0) = ⟨#[48]⟩ := rfl

end Go.Proofs.Ytepnmenidnjikaa.X
