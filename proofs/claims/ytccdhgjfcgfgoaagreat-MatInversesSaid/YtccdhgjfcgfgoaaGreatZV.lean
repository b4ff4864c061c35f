/- Package whole. -/
import Derived.Test.YtccdhgjfcgfgoaaGreatZT
import Derived.Test.YtccdhgjfcgfgoaaGreatZY
import Derived.Test.YtccdhgjfcgfgoaaGreatZU
set_option linter.unusedVariables false
set_option linter.unusedSimpArgs false
namespace Go.Proofs.YtccdhgjfcgfgoaaGreat.X
open Go Go.RowKit Go.Proofs

/-- a number of package whole -/
def IntV (H : PH) (v : Value) (z : Int) : Prop := ∃ A l c b, v = .agg #[.slice A l c, .bool b] ∧ NatV H (.agg #[.slice A l c]) z.natAbs ∧ b = decide (z < 0)
theorem IntV.le {H H' : PH} {v : Value} {z : Int} (h : IntV H v z) (hl : H.le H') : IntV H' v z := by
  obtain ⟨A, l, c, b, h1, h2, h3⟩ := h
  exact ⟨A, l, c, b, h1, h2.le hl, h3⟩
theorem IntV.zero (H : PH) : IntV H (.agg #[.slice none 0 0, .bool false]) 0 := ⟨none, 0, 0, false, rfl, NatV.zero H 0, rfl⟩
theorem IntV.open {H : PH} {v : Value} {z : Int} (h : IntV H v z) : ∃ A l c b, v = .agg #[.slice A l c, .bool b] ∧ NatV H (.agg #[.slice A l c]) z.natAbs ∧ z = sg b z.natAbs ∧ (b = true → z.natAbs ≠ 0) := by
  obtain ⟨A, l, c, b, h1, h2, rfl⟩ := h
  exact ⟨A, l, c, _, h1, h2, (sg_self z).symm, fun h => by have := of_decide_eq_true h; omega⟩
theorem IntV.mk {H : PH} {A : Option Addr} {l c : Nat} {b : Bool} {x : Nat} (h : NatV H (.agg #[.slice A l c]) x) (hb : b = true → x ≠ 0) : IntV H (.agg #[.slice A l c, .bool b]) (sg b x) := by
  refine ⟨A, l, c, b, rfl, by rw [sg_natAbs]; exact h, ?_⟩
  rw [decide_sg]
  cases b with
  | false => rfl
  | true => have := hb rfl; simp; omega
theorem IntV.form {H : PH} {v : Value} {z : Int} (h : IntV H v z) : ∃ A l c b, v = .agg #[.slice A l c, .bool b] := by
  obtain ⟨A, l, c, b, h1, _⟩ := h
  exact ⟨A, l, c, b, h1⟩

theorem from_ok (H : PH) (b : Bool) (va : Value) (x : Nat) (ha : NatV H va x) (hb : bl x ≤ 4294967296) : FnP Tryz.prog 82 [.bool b, va] H fun v H' => IntV H' v (sg b x) := by
  obtain ⟨A, l, c, rfl⟩ := ha.form
  refine of_whole_From (by simp) ?_
  try simp only [go_sem, Nat.reduceEqDiff, Nat.reduceAdd, Nat.reduceBEq, ↓reduceIte, p_whole_From]
  cases b with
  | false =>
    try simp only [go_sem, Nat.reduceEqDiff, Nat.reduceAdd, Nat.reduceBEq, ↓reduceIte]
    exact ⟨by trivial, IntV.mk ha fun h => by cases h⟩
  | true =>
    try simp only [go_sem, Nat.reduceEqDiff, Nat.reduceAdd, Nat.reduceBEq, ↓reduceIte]
    first | refine ev_call (nbits_ok _ _ x ha hb) ?_ | refine ev_callP (nbits_ok _ _ x ha hb) ?_
    rintro v_1 H_1 le_1 rfl _
    replace ha := ha.le le_1
    try simp only [go_sem, Nat.reduceEqDiff, Nat.reduceAdd, Nat.reduceBEq, ↓reduceIte]
    refine ev_if (fun h => ?_) (fun h => ?_)
    · try simp only [go_sem, Nat.reduceEqDiff, Nat.reduceAdd, Nat.reduceBEq, ↓reduceIte]
      exact ⟨by trivial, IntV.mk ha fun _ e => by rw [e, bl_zero] at h; omega⟩
    · try simp only [go_sem, Nat.reduceEqDiff, Nat.reduceAdd, Nat.reduceBEq, ↓reduceIte]
      have h0 : x = 0 := bl_eq_zero.1 (by omega)
      subst h0
      exact ⟨by trivial, IntV.mk (b := false) ha fun h => by cases h⟩

theorem wof_ok (H : PH) (n : Int) (h1 : -9223372036854775808 ≤ n) (h2 : n ≤ 9223372036854775807) : FnP Tryz.prog 72 [.int .i64 n] H fun v H' => IntV H' v n := by
  refine of_whole_Of (by simp) ?_
  try simp only [go_sem, Nat.reduceEqDiff, Nat.reduceAdd, Nat.reduceBEq, ↓reduceIte, p_whole_Of]
  refine ev_if (fun h => ?_) (fun h => ?_)
  · try simp only [go_sem, Nat.reduceEqDiff, Nat.reduceAdd, Nat.reduceBEq, ↓reduceIte]
    rw [show IntKind.u64.wrap (0 - IntKind.u64.wrap n) = ((n.natAbs : Nat) : Int) by rw [wu64_mod, wu64_mod]; omega]
    first | refine ev_call (of_ok _ n.natAbs (by omega)) ?_ | refine ev_callP (of_ok _ n.natAbs (by omega)) ?_
    rintro v_2 H_2 le_2 hN _
    try simp only [go_sem, Nat.reduceEqDiff, Nat.reduceAdd, Nat.reduceBEq, ↓reduceIte]
    obtain ⟨A, l, c, rfl⟩ := hN.form
    first | refine ev_call (from_ok _ true _ _ hN (Nat.le_trans (bl_le_iff.2 (show n.natAbs < 2 ^ 64 by omega)) (by decide))) ?_ | refine ev_callP (from_ok _ true _ _ hN (Nat.le_trans (bl_le_iff.2 (show n.natAbs < 2 ^ 64 by omega)) (by decide))) ?_
    rintro v_3 H_3 le_3 hV _
    try simp only [go_sem, Nat.reduceEqDiff, Nat.reduceAdd, Nat.reduceBEq, ↓reduceIte]
    obtain ⟨A, l, c, b, rfl⟩ := hV.form
    try simp only [go_sem, Nat.reduceEqDiff, Nat.reduceAdd, Nat.reduceBEq, ↓reduceIte]
    rw [show sg true n.natAbs = n by rw [sg_true]; omega] at hV
    exact ⟨by trivial, hV⟩
  · try simp only [go_sem, Nat.reduceEqDiff, Nat.reduceAdd, Nat.reduceBEq, ↓reduceIte]
    rw [show IntKind.u64.wrap n = ((n.natAbs : Nat) : Int) by rw [wu64_mod]; omega]
    first | refine ev_call (of_ok _ n.natAbs (by omega)) ?_ | refine ev_callP (of_ok _ n.natAbs (by omega)) ?_
    rintro v_4 H_4 le_4 hN _
    try simp only [go_sem, Nat.reduceEqDiff, Nat.reduceAdd, Nat.reduceBEq, ↓reduceIte]
    obtain ⟨A, l, c, rfl⟩ := hN.form
    first | refine ev_call (from_ok _ false _ _ hN (Nat.le_trans (bl_le_iff.2 (show n.natAbs < 2 ^ 64 by omega)) (by decide))) ?_ | refine ev_callP (from_ok _ false _ _ hN (Nat.le_trans (bl_le_iff.2 (show n.natAbs < 2 ^ 64 by omega)) (by decide))) ?_
    rintro v_5 H_5 le_5 hV _
    try simp only [go_sem, Nat.reduceEqDiff, Nat.reduceAdd, Nat.reduceBEq, ↓reduceIte]
    obtain ⟨A, l, c, b, rfl⟩ := hV.form
    try simp only [go_sem, Nat.reduceEqDiff, Nat.reduceAdd, Nat.reduceBEq, ↓reduceIte]
    rw [show sg false n.natAbs = n by rw [sg_false]; omega] at hV
    exact ⟨by trivial, hV⟩

theorem bs_extract (t : ByteArray) : bs (t.extract 1 t.size) = (bs t).drop 1 := by
  unfold bs
  simp [List.map_drop, List.extract]
  exact List.take_of_length_le (by simp)

theorem txt_size (x : Nat) (h0 : x ≠ 0) (hb : bl x ≤ 4294967296) : (txt x).length ≤ 4294967297 := by
  unfold txt
  rw [if_neg h0, List.length_reverse, ds_length]
  have h1 := nd_le h0
  have h2 : 2 ^ (nd x - 1) ≤ x := Nat.le_trans (Nat.pow_le_pow_left (by decide) _) h1
  have h3 := lt_bl_iff.2 h2
  omega
theorem minus_txt (x : Nat) : (⟨#[45]⟩ : ByteArray) ++ ofB (txt x) = ofB (45 :: txt x) := by
  apply bs_inj
  rw [bs_ofB (fun d hd => by
    rcases List.mem_cons.1 hd with rfl | hd
    · decide
    · exact txt_lt _ d hd)]
  have h := bs_ofB (txt_lt x)
  unfold bs at h ⊢
  rw [ByteArray.data_append, Array.toList_append, List.map_append, h]
  rfl

theorem wtext_ok (H : PH) (v : Value) (z : Int) (hV : IntV H v z) (hb : bi z ≤ 4294967296) : FnP Tryz.prog 68 [v] H fun v _ => v = .string (ofB (itxt z)) := by
  obtain ⟨A, l, c, b, rfl, hN, hz, hb0⟩ := hV.open
  refine of_whole_Int_Text (by simp) ?_
  try simp only [go_sem, Nat.reduceEqDiff, Nat.reduceAdd, Nat.reduceBEq, ↓reduceIte, p_whole_Int_Text]
  cases b with
  | false =>
    have h0 : ¬ z < 0 := by rw [hz, sg_false]; omega
    try simp only [go_sem, Nat.reduceEqDiff, Nat.reduceAdd, Nat.reduceBEq, ↓reduceIte]
    first | refine ev_call (text_ok _ _ _ hN hb) ?_ | refine ev_callP (text_ok _ _ _ hN hb) ?_
    rintro v_6 H_6 le_6 rfl _
    try simp only [go_sem, Nat.reduceEqDiff, Nat.reduceAdd, Nat.reduceBEq, ↓reduceIte]
    refine ⟨by trivial, ?_⟩
    unfold itxt; rw [if_neg h0]
  | true =>
    have h0 : z < 0 := by have := hb0 rfl; rw [hz, sg_true]; omega
    try simp only [go_sem, Nat.reduceEqDiff, Nat.reduceAdd, Nat.reduceBEq, ↓reduceIte]
    first | refine ev_call (text_ok _ _ _ hN hb) ?_ | refine ev_callP (text_ok _ _ _ hN hb) ?_
    rintro v_7 H_7 le_7 rfl _
    try simp only [go_sem, Nat.reduceEqDiff, Nat.reduceAdd, Nat.reduceBEq, ↓reduceIte]
    refine ev_cat (by rw [ofB_size]; have := txt_size z.natAbs (by omega) hb; show 1 + _ ≤ _; omega) ?_
    try simp only [go_sem, Nat.reduceEqDiff, Nat.reduceAdd, Nat.reduceBEq, ↓reduceIte]
    refine ⟨by trivial, ?_⟩
    unfold itxt; rw [if_pos h0, minus_txt]

theorem wsign_ok (H : PH) (v : Value) (z : Int) (hV : IntV H v z) (hb : bi z ≤ 4294967296) : FnP Tryz.prog 47 [v] H fun v _ => v = .int .i64 (sgnI z) := by
  obtain ⟨A, l, c, b, rfl, hN, hz, hb0⟩ := hV.open
  refine of_whole_Int_Sign (by simp) ?_
  try simp only [go_sem, Nat.reduceEqDiff, Nat.reduceAdd, Nat.reduceBEq, ↓reduceIte, p_whole_Int_Sign]
  cases b with
  | true =>
    have h0 : z < 0 := by have := hb0 rfl; rw [hz, sg_true]; omega
    try simp only [go_sem, Nat.reduceEqDiff, Nat.reduceAdd, Nat.reduceBEq, ↓reduceIte]
    refine ⟨by trivial, ?_⟩
    unfold sgnI; rw [if_pos h0]
  | false =>
    have h0 : ¬ z < 0 := by rw [hz, sg_false]; omega
    try simp only [go_sem, Nat.reduceEqDiff, Nat.reduceAdd, Nat.reduceBEq, ↓reduceIte]
    first | refine ev_call (nbits_ok _ _ _ hN hb) ?_ | refine ev_callP (nbits_ok _ _ _ hN hb) ?_
    rintro v_8 H_8 le_8 rfl _
    try simp only [go_sem, Nat.reduceEqDiff, Nat.reduceAdd, Nat.reduceBEq, ↓reduceIte]
    refine ev_if (fun h => ?_) (fun h => ?_)
    · try simp only [go_sem, Nat.reduceEqDiff, Nat.reduceAdd, Nat.reduceBEq, ↓reduceIte]
      have : z.natAbs = 0 := bl_eq_zero.1 (by omega)
      refine ⟨by trivial, ?_⟩
      unfold sgnI; rw [if_neg h0, if_neg (by omega)]
    · try simp only [go_sem, Nat.reduceEqDiff, Nat.reduceAdd, Nat.reduceBEq, ↓reduceIte]
      have : z.natAbs ≠ 0 := fun e => h (by rw [e]; rfl)
      refine ⟨by trivial, ?_⟩
      unfold sgnI; rw [if_neg h0, if_pos (by omega)]

theorem wabs_ok (H : PH) (v : Value) (z : Int) (hV : IntV H v z) : FnP Tryz.prog 83 [v] H fun v H' => NatV H' v z.natAbs := by
  obtain ⟨A, l, c, b, rfl, hN, hz, hb0⟩ := hV.open
  refine of_whole_Int_Abs (by simp) ?_
  try simp only [go_sem, Nat.reduceEqDiff, Nat.reduceAdd, Nat.reduceBEq, ↓reduceIte, p_whole_Int_Abs]
  exact ⟨by trivial, hN⟩

theorem wneg_ok (H : PH) (v : Value) (z : Int) (hV : IntV H v z) (hb : bi z ≤ 4294967296) : FnP Tryz.prog 73 [v] H fun v H' => IntV H' v (-z) := by
  obtain ⟨A, l, c, b, rfl, hN, hz, hb0⟩ := hV.open
  refine of_whole_Neg (by simp) ?_
  try simp only [go_sem, Nat.reduceEqDiff, Nat.reduceAdd, Nat.reduceBEq, ↓reduceIte, p_whole_Neg]
  first | refine ev_call (from_ok _ (!b) _ _ hN hb) ?_ | refine ev_callP (from_ok _ (!b) _ _ hN hb) ?_
  rintro v_11 H_11 le_11 hR _
  try simp only [go_sem, Nat.reduceEqDiff, Nat.reduceAdd, Nat.reduceBEq, ↓reduceIte]
  obtain ⟨A', l', c', b', rfl⟩ := hR.form
  try simp only [go_sem, Nat.reduceEqDiff, Nat.reduceAdd, Nat.reduceBEq, ↓reduceIte]
  rw [← sg_neg, ← hz] at hR
  exact ⟨by trivial, hR⟩

end Go.Proofs.YtccdhgjfcgfgoaaGreat.X
set_option linter.unusedVariables false
set_option linter.unusedSimpArgs false
namespace Go.Proofs.YtccdhgjfcgfgoaaGreat.X
open Go Go.RowKit Go.Proofs

theorem wadd_ok (H : PH) (va vb : Value) (z w : Int) (ha : IntV H va z) (hb : IntV H vb w) (hbz : bi z ≤ 4294967290) (hbw : bi w ≤ 4294967290) : FnP Tryz.prog 91 [va, vb] H fun v H' => IntV H' v (z + w) := by
  obtain ⟨A, l, c, b, rfl, hN, hz, hb0⟩ := ha.open
  obtain ⟨B, m, e, d, rfl, hM, hw, hd0⟩ := hb.open
  unfold bi at hbz hbw
  generalize z.natAbs = x at *
  generalize w.natAbs = y at *
  subst hz; subst hw
  clear ha hb
  have s1 := bl_add x y
  have s2 := bl_mono (Nat.sub_le x y)
  have s3 := bl_mono (Nat.sub_le y x)
  refine of_whole_Add (by simp) ?_
  try simp only [go_sem, Nat.reduceEqDiff, Nat.reduceAdd, Nat.reduceBEq, ↓reduceIte, p_whole_Add]
  cases b with
  | true =>
    cases d with
    | true =>
      try simp only [go_sem, Nat.reduceEqDiff, Nat.reduceAdd, Nat.reduceBEq, ↓reduceIte]
      first | refine ev_call (add_ok _ _ _ x y hN hM (by omega) (by omega)) ?_ | refine ev_callP (add_ok _ _ _ x y hN hM (by omega) (by omega)) ?_
      rintro v_1 H_1 le_1 g0 _
      try simp only [go_sem, Nat.reduceEqDiff, Nat.reduceAdd, Nat.reduceBEq, ↓reduceIte]
      obtain ⟨C, k, g, rfl⟩ := g0.form
      try simp only [go_sem, Nat.reduceEqDiff, Nat.reduceAdd, Nat.reduceBEq, ↓reduceIte]
      first | refine ev_call (from_ok _ _ _ _ g0 (by omega)) ?_ | refine ev_callP (from_ok _ _ _ _ g0 (by omega)) ?_
      rintro v_2 H_2 le_2 hR _
      try simp only [go_sem, Nat.reduceEqDiff, Nat.reduceAdd, Nat.reduceBEq, ↓reduceIte]
      rw [← sg_add_same] at hR
      obtain ⟨A1, l1, c1, b1, rfl⟩ := hR.form
      try simp only [go_sem, Nat.reduceEqDiff, Nat.reduceAdd, Nat.reduceBEq, ↓reduceIte]
      exact ⟨by trivial, hR⟩
    | false =>
      have hge := sg_add_ge true x y
      have hlt := sg_add_lt true x y
      simp only [Bool.not_true] at hge hlt
      try simp only [go_sem, Nat.reduceEqDiff, Nat.reduceAdd, Nat.reduceBEq, ↓reduceIte]
      by_cases hle : y ≤ x
      · skip
        first | refine ev_call (sub_okT _ _ _ x y hN hM (by omega) (by omega) hle) ?_ | refine ev_callP (sub_okT _ _ _ x y hN hM (by omega) (by omega) hle) ?_
        rintro v_3 H_3 le_3 ⟨vs, rfl, g0⟩ _
        replace hN := hN.le le_3
        replace hM := hM.le le_3
        try simp only [go_sem, Nat.reduceEqDiff, Nat.reduceAdd, Nat.reduceBEq, ↓reduceIte]
        obtain ⟨C, k, g, rfl⟩ := g0.form
        try simp only [go_sem, Nat.reduceEqDiff, Nat.reduceAdd, Nat.reduceBEq, ↓reduceIte]
        first | refine ev_call (from_ok _ _ _ _ g0 (by omega)) ?_ | refine ev_callP (from_ok _ _ _ _ g0 (by omega)) ?_
        rintro v_4 H_4 le_4 hR _
        try simp only [go_sem, Nat.reduceEqDiff, Nat.reduceAdd, Nat.reduceBEq, ↓reduceIte]
        rw [← hge hle] at hR
        obtain ⟨A1, l1, c1, b1, rfl⟩ := hR.form
        try simp only [go_sem, Nat.reduceEqDiff, Nat.reduceAdd, Nat.reduceBEq, ↓reduceIte]
        exact ⟨by trivial, hR⟩
      · skip
        first | refine ev_call (sub_okF _ _ _ x y hN hM (by omega) (by omega) hle) ?_ | refine ev_callP (sub_okF _ _ _ x y hN hM (by omega) (by omega) hle) ?_
        rintro v_5 H_5 le_5 ⟨vs, rfl, g0⟩ _
        replace hN := hN.le le_5
        replace hM := hM.le le_5
        try simp only [go_sem, Nat.reduceEqDiff, Nat.reduceAdd, Nat.reduceBEq, ↓reduceIte]
        obtain ⟨C, k, g, rfl⟩ := g0.form
        try simp only [go_sem, Nat.reduceEqDiff, Nat.reduceAdd, Nat.reduceBEq, ↓reduceIte]
        first | refine ev_call (sub_okT _ _ _ y x hM hN (by omega) (by omega) (by omega)) ?_ | refine ev_callP (sub_okT _ _ _ y x hM hN (by omega) (by omega) (by omega)) ?_
        rintro v_6 H_6 le_6 ⟨vt, rfl, g1⟩ _
        replace hN := hN.le le_6
        replace hM := hM.le le_6
        try simp only [go_sem, Nat.reduceEqDiff, Nat.reduceAdd, Nat.reduceBEq, ↓reduceIte]
        obtain ⟨D, k2, g2, rfl⟩ := g1.form
        try simp only [go_sem, Nat.reduceEqDiff, Nat.reduceAdd, Nat.reduceBEq, ↓reduceIte]
        first | refine ev_call (from_ok _ _ _ _ g1 (by omega)) ?_ | refine ev_callP (from_ok _ _ _ _ g1 (by omega)) ?_
        rintro v_7 H_7 le_7 hR _
        try simp only [go_sem, Nat.reduceEqDiff, Nat.reduceAdd, Nat.reduceBEq, ↓reduceIte]
        rw [← hlt (by omega)] at hR
        obtain ⟨A1, l1, c1, b1, rfl⟩ := hR.form
        try simp only [go_sem, Nat.reduceEqDiff, Nat.reduceAdd, Nat.reduceBEq, ↓reduceIte]
        exact ⟨by trivial, hR⟩
  | false =>
    cases d with
    | true =>
      have hge := sg_add_ge false x y
      have hlt := sg_add_lt false x y
      simp only [Bool.not_false] at hge hlt
      try simp only [go_sem, Nat.reduceEqDiff, Nat.reduceAdd, Nat.reduceBEq, ↓reduceIte]
      by_cases hle : y ≤ x
      · skip
        first | refine ev_call (sub_okT _ _ _ x y hN hM (by omega) (by omega) hle) ?_ | refine ev_callP (sub_okT _ _ _ x y hN hM (by omega) (by omega) hle) ?_
        rintro v_3 H_3 le_3 ⟨vs, rfl, g0⟩ _
        replace hN := hN.le le_3
        replace hM := hM.le le_3
        try simp only [go_sem, Nat.reduceEqDiff, Nat.reduceAdd, Nat.reduceBEq, ↓reduceIte]
        obtain ⟨C, k, g, rfl⟩ := g0.form
        try simp only [go_sem, Nat.reduceEqDiff, Nat.reduceAdd, Nat.reduceBEq, ↓reduceIte]
        first | refine ev_call (from_ok _ _ _ _ g0 (by omega)) ?_ | refine ev_callP (from_ok _ _ _ _ g0 (by omega)) ?_
        rintro v_4 H_4 le_4 hR _
        try simp only [go_sem, Nat.reduceEqDiff, Nat.reduceAdd, Nat.reduceBEq, ↓reduceIte]
        rw [← hge hle] at hR
        obtain ⟨A1, l1, c1, b1, rfl⟩ := hR.form
        try simp only [go_sem, Nat.reduceEqDiff, Nat.reduceAdd, Nat.reduceBEq, ↓reduceIte]
        exact ⟨by trivial, hR⟩
      · skip
        first | refine ev_call (sub_okF _ _ _ x y hN hM (by omega) (by omega) hle) ?_ | refine ev_callP (sub_okF _ _ _ x y hN hM (by omega) (by omega) hle) ?_
        rintro v_5 H_5 le_5 ⟨vs, rfl, g0⟩ _
        replace hN := hN.le le_5
        replace hM := hM.le le_5
        try simp only [go_sem, Nat.reduceEqDiff, Nat.reduceAdd, Nat.reduceBEq, ↓reduceIte]
        obtain ⟨C, k, g, rfl⟩ := g0.form
        try simp only [go_sem, Nat.reduceEqDiff, Nat.reduceAdd, Nat.reduceBEq, ↓reduceIte]
        first | refine ev_call (sub_okT _ _ _ y x hM hN (by omega) (by omega) (by omega)) ?_ | refine ev_callP (sub_okT _ _ _ y x hM hN (by omega) (by omega) (by omega)) ?_
        rintro v_6 H_6 le_6 ⟨vt, rfl, g1⟩ _
        replace hN := hN.le le_6
        replace hM := hM.le le_6
        try simp only [go_sem, Nat.reduceEqDiff, Nat.reduceAdd, Nat.reduceBEq, ↓reduceIte]
        obtain ⟨D, k2, g2, rfl⟩ := g1.form
        try simp only [go_sem, Nat.reduceEqDiff, Nat.reduceAdd, Nat.reduceBEq, ↓reduceIte]
        first | refine ev_call (from_ok _ _ _ _ g1 (by omega)) ?_ | refine ev_callP (from_ok _ _ _ _ g1 (by omega)) ?_
        rintro v_7 H_7 le_7 hR _
        try simp only [go_sem, Nat.reduceEqDiff, Nat.reduceAdd, Nat.reduceBEq, ↓reduceIte]
        rw [← hlt (by omega)] at hR
        obtain ⟨A1, l1, c1, b1, rfl⟩ := hR.form
        try simp only [go_sem, Nat.reduceEqDiff, Nat.reduceAdd, Nat.reduceBEq, ↓reduceIte]
        exact ⟨by trivial, hR⟩
    | false =>
      try simp only [go_sem, Nat.reduceEqDiff, Nat.reduceAdd, Nat.reduceBEq, ↓reduceIte]
      first | refine ev_call (add_ok _ _ _ x y hN hM (by omega) (by omega)) ?_ | refine ev_callP (add_ok _ _ _ x y hN hM (by omega) (by omega)) ?_
      rintro v_1 H_1 le_1 g0 _
      try simp only [go_sem, Nat.reduceEqDiff, Nat.reduceAdd, Nat.reduceBEq, ↓reduceIte]
      obtain ⟨C, k, g, rfl⟩ := g0.form
      try simp only [go_sem, Nat.reduceEqDiff, Nat.reduceAdd, Nat.reduceBEq, ↓reduceIte]
      first | refine ev_call (from_ok _ _ _ _ g0 (by omega)) ?_ | refine ev_callP (from_ok _ _ _ _ g0 (by omega)) ?_
      rintro v_2 H_2 le_2 hR _
      try simp only [go_sem, Nat.reduceEqDiff, Nat.reduceAdd, Nat.reduceBEq, ↓reduceIte]
      rw [← sg_add_same] at hR
      obtain ⟨A1, l1, c1, b1, rfl⟩ := hR.form
      try simp only [go_sem, Nat.reduceEqDiff, Nat.reduceAdd, Nat.reduceBEq, ↓reduceIte]
      exact ⟨by trivial, hR⟩

theorem wmul_ok (H : PH) (va vb : Value) (z w : Int) (ha : IntV H va z) (hb : IntV H vb w) (hbz : bi z + bi w ≤ 4294967290) : FnP Tryz.prog 75 [va, vb] H fun v H' => IntV H' v (z * w) := by
  obtain ⟨A, l, c, b, rfl, hN, hz, hb0⟩ := ha.open
  obtain ⟨B, m, e, d, rfl, hM, hw, hd0⟩ := hb.open
  unfold bi at hbz
  generalize z.natAbs = x at *
  generalize w.natAbs = y at *
  subst hz; subst hw
  clear ha hb
  have s1 := bl_mul x y
  refine of_whole_Mul (by simp) ?_
  try simp only [go_sem, Nat.reduceEqDiff, Nat.reduceAdd, Nat.reduceBEq, ↓reduceIte, p_whole_Mul]
  first | refine ev_call (mul_ok _ _ _ x y hN hM (by omega) (by omega)) ?_ | refine ev_callP (mul_ok _ _ _ x y hN hM (by omega) (by omega)) ?_
  rintro v_10 H_10 le_10 g0 _
  try simp only [go_sem, Nat.reduceEqDiff, Nat.reduceAdd, Nat.reduceBEq, ↓reduceIte]
  obtain ⟨C, k, g, rfl⟩ := g0.form
  rw [sg_mul]
  cases b <;> cases d
  all_goals
    try simp only [go_sem, Nat.reduceEqDiff, Nat.reduceAdd, Nat.reduceBEq, ↓reduceIte]
    first | refine ev_call (from_ok _ _ _ _ g0 (by omega)) ?_ | refine ev_callP (from_ok _ _ _ _ g0 (by omega)) ?_
    rintro v9 H9 le9 hR _
    obtain ⟨A1, l1, c1, b1, rfl⟩ := hR.form
    try simp only [go_sem, Nat.reduceEqDiff, Nat.reduceAdd, Nat.reduceBEq, ↓reduceIte]
    exact ⟨by trivial, hR⟩

theorem wparse_ok (H : PH) (t : ByteArray) : FnP Tryz.prog 103 [.string t] H fun v H' => ∃ v', v = .tuple #[v', .int .i64 (if intOk (bs t) then 0 else 2)] ∧ IntV H' v' (if intOk (bs t) then iv (bs t) else 0) := by
  have hsz := bs_length t
  have bad : intOk (bs t) = false → ∀ H' : PH, ∃ v', (Value.tuple #[.agg #[.slice none 0 0, .bool false], .int .i64 2]) = .tuple #[v', .int .i64 (if intOk (bs t) then 0 else 2)] ∧ IntV H' v' (if intOk (bs t) then iv (bs t) else 0) := by
    intro h H'
    rw [h]
    exact ⟨_, rfl, IntV.zero _⟩
  refine of_whole_Parse (by simp) ?_
  try simp only [go_sem, Nat.reduceEqDiff, Nat.reduceAdd, Nat.reduceBEq, ↓reduceIte, p_whole_Parse]
  refine ev_if (fun h => ?_) (fun h => ?_)
  · have hne : t.size ≠ 0 := fun h0 => h (by apply bs_inj; rw [List.eq_nil_of_length_eq_zero (by omega : (bs t).length = 0)]; rfl)
    have hb0 := bs_getD t 0
    try simp only [go_sem, Nat.reduceEqDiff, Nat.reduceAdd, Nat.reduceBEq, ↓reduceIte]
    refine ev_ix (by omega) (by omega) ?_
    try simp only [go_sem, Nat.reduceEqDiff, Nat.reduceAdd, Nat.reduceBEq, ↓reduceIte]
    rw [show (0 : Int).toNat = 0 from rfl]
    refine ev_if (fun h2 => ?_) (fun h2 => ?_)
    · have h45 : (bs t).getD 0 0 = 45 := by rw [← hb0]; omega
      have hex := bs_extract t
      have hok : intOk (bs t) = (decOk ((bs t).drop 1) && dv ((bs t).drop 1) != 0) := by unfold intOk; rw [if_pos h45]
      have hiv : iv (bs t) = sg true (dv ((bs t).drop 1)) := by unfold iv; rw [if_pos h45]; rfl
      try simp only [go_sem, Nat.reduceEqDiff, Nat.reduceAdd, Nat.reduceBEq, ↓reduceIte]
      refine ev_ss (by omega) (by omega) (by omega) ?_
      rw [show (1 : Int).toNat = 1 from rfl, toNat_cast]
      try simp only [go_sem, Nat.reduceEqDiff, Nat.reduceAdd, Nat.reduceBEq, ↓reduceIte]
      first | refine ev_call (parse_ok _ (t.extract 1 t.size)) ?_ | refine ev_callP (parse_ok _ (t.extract 1 t.size)) ?_
      rintro v_13 H_13 le_13 ⟨va, rfl, hN⟩ _
      try simp only [go_sem, Nat.reduceEqDiff, Nat.reduceAdd, Nat.reduceBEq, ↓reduceIte]
      rw [hex] at hN ⊢
      obtain ⟨A, l, c, rfl⟩ := hN.form
      cases hk : decOk ((bs t).drop 1) with
      | false =>
        try simp only [go_sem, Nat.reduceEqDiff, Nat.reduceAdd, Nat.reduceBEq, ↓reduceIte, hk]
        refine ev_pos (by decide) ?_
        try simp only [go_sem, Nat.reduceEqDiff, Nat.reduceAdd, Nat.reduceBEq, ↓reduceIte]
        exact ⟨by trivial, bad (by rw [hok, hk]; rfl) _⟩
      | true =>
        have hbl := bl_dec hk
        rw [hk, if_pos rfl] at hN
        rw [hk, Bool.true_and] at hok
        generalize dv ((bs t).drop 1) = x at *
        try simp only [go_sem, Nat.reduceEqDiff, Nat.reduceAdd, Nat.reduceBEq, ↓reduceIte, hk]
        refine ev_neg (by decide) ?_
        try simp only [go_sem, Nat.reduceEqDiff, Nat.reduceAdd, Nat.reduceBEq, ↓reduceIte]
        first | refine ev_call (nbits_ok _ _ _ hN (by omega)) ?_ | refine ev_callP (nbits_ok _ _ _ hN (by omega)) ?_
        rintro v_14 H_14 le_14 rfl _
        replace hN := hN.le le_14
        try simp only [go_sem, Nat.reduceEqDiff, Nat.reduceAdd, Nat.reduceBEq, ↓reduceIte]
        refine ev_if (fun h3 => ?_) (fun h3 => ?_)
        · try simp only [go_sem, Nat.reduceEqDiff, Nat.reduceAdd, Nat.reduceBEq, ↓reduceIte]
          have hx0 : x = 0 := bl_eq_zero.1 (by omega)
          exact ⟨by trivial, bad (by rw [hok, hx0]; rfl) _⟩
        · try simp only [go_sem, Nat.reduceEqDiff, Nat.reduceAdd, Nat.reduceBEq, ↓reduceIte]
          have hx0 : x ≠ 0 := fun e => h3 (by rw [e]; rfl)
          first | refine ev_call (from_ok _ true _ _ hN (by omega)) ?_ | refine ev_callP (from_ok _ true _ _ hN (by omega)) ?_
          rintro v_15 H_15 le_15 hR _
          try simp only [go_sem, Nat.reduceEqDiff, Nat.reduceAdd, Nat.reduceBEq, ↓reduceIte]
          obtain ⟨A1, l1, c1, b1, rfl⟩ := hR.form
          try simp only [go_sem, Nat.reduceEqDiff, Nat.reduceAdd, Nat.reduceBEq, ↓reduceIte]
          rw [hok, bne_iff_ne.2 hx0, if_pos rfl, if_pos rfl, hiv]
          exact ⟨by trivial, _, rfl, hR⟩
    · have h45 : ¬ (bs t).getD 0 0 = 45 := by rw [← hb0]; omega
      have hok : intOk (bs t) = decOk (bs t) := by unfold intOk; rw [if_neg h45]
      have hiv : iv (bs t) = dv (bs t) := by unfold iv; rw [if_neg h45]
      try simp only [go_sem, Nat.reduceEqDiff, Nat.reduceAdd, Nat.reduceBEq, ↓reduceIte]
      first | refine ev_call (parse_ok _ t) ?_ | refine ev_callP (parse_ok _ t) ?_
      rintro v_11 H_11 le_11 ⟨va, rfl, hN⟩ _
      try simp only [go_sem, Nat.reduceEqDiff, Nat.reduceAdd, Nat.reduceBEq, ↓reduceIte]
      obtain ⟨A, l, c, rfl⟩ := hN.form
      cases hk : decOk (bs t) with
      | false =>
        try simp only [go_sem, Nat.reduceEqDiff, Nat.reduceAdd, Nat.reduceBEq, ↓reduceIte, hk]
        refine ev_pos (by decide) ?_
        try simp only [go_sem, Nat.reduceEqDiff, Nat.reduceAdd, Nat.reduceBEq, ↓reduceIte]
        exact ⟨by trivial, bad (by rw [hok, hk]) _⟩
      | true =>
        have hbl := bl_dec hk
        rw [hk, if_pos rfl] at hN
        rw [hok, hk, if_pos rfl, if_pos rfl, hiv]
        try simp only [go_sem, Nat.reduceEqDiff, Nat.reduceAdd, Nat.reduceBEq, ↓reduceIte, hk]
        refine ev_neg (by decide) ?_
        try simp only [go_sem, Nat.reduceEqDiff, Nat.reduceAdd, Nat.reduceBEq, ↓reduceIte]
        first | refine ev_call (from_ok _ false _ _ hN (by omega)) ?_ | refine ev_callP (from_ok _ false _ _ hN (by omega)) ?_
        rintro v_12 H_12 le_12 hR _
        try simp only [go_sem, Nat.reduceEqDiff, Nat.reduceAdd, Nat.reduceBEq, ↓reduceIte]
        obtain ⟨A1, l1, c1, b1, rfl⟩ := hR.form
        try simp only [go_sem, Nat.reduceEqDiff, Nat.reduceAdd, Nat.reduceBEq, ↓reduceIte]
        exact ⟨by trivial, _, rfl, hR⟩
  · have h0 : bs t = [] := by
      have : t = ⟨#[]⟩ := by simpa using h
      rw [this]; rfl
    have h45 : ¬ (bs t).getD 0 0 = 45 := by rw [h0]; decide
    have hok : intOk (bs t) = decOk (bs t) := by unfold intOk; rw [if_neg h45]
    have hiv : iv (bs t) = dv (bs t) := by unfold iv; rw [if_neg h45]
    try simp only [go_sem, Nat.reduceEqDiff, Nat.reduceAdd, Nat.reduceBEq, ↓reduceIte]
    first | refine ev_call (parse_ok _ t) ?_ | refine ev_callP (parse_ok _ t) ?_
    rintro v_11 H_11 le_11 ⟨va, rfl, hN⟩ _
    try simp only [go_sem, Nat.reduceEqDiff, Nat.reduceAdd, Nat.reduceBEq, ↓reduceIte]
    obtain ⟨A, l, c, rfl⟩ := hN.form
    cases hk : decOk (bs t) with
    | false =>
      try simp only [go_sem, Nat.reduceEqDiff, Nat.reduceAdd, Nat.reduceBEq, ↓reduceIte, hk]
      refine ev_pos (by decide) ?_
      try simp only [go_sem, Nat.reduceEqDiff, Nat.reduceAdd, Nat.reduceBEq, ↓reduceIte]
      exact ⟨by trivial, bad (by rw [hok, hk]) _⟩
    | true =>
      have hbl := bl_dec hk
      rw [hk, if_pos rfl] at hN
      rw [hok, hk, if_pos rfl, if_pos rfl, hiv]
      try simp only [go_sem, Nat.reduceEqDiff, Nat.reduceAdd, Nat.reduceBEq, ↓reduceIte, hk]
      refine ev_neg (by decide) ?_
      try simp only [go_sem, Nat.reduceEqDiff, Nat.reduceAdd, Nat.reduceBEq, ↓reduceIte]
      first | refine ev_call (from_ok _ false _ _ hN (by omega)) ?_ | refine ev_callP (from_ok _ false _ _ hN (by omega)) ?_
      rintro v_12 H_12 le_12 hR _
      try simp only [go_sem, Nat.reduceEqDiff, Nat.reduceAdd, Nat.reduceBEq, ↓reduceIte]
      obtain ⟨A1, l1, c1, b1, rfl⟩ := hR.form
      try simp only [go_sem, Nat.reduceEqDiff, Nat.reduceAdd, Nat.reduceBEq, ↓reduceIte]
      exact ⟨by trivial, _, rfl, hR⟩

end Go.Proofs.YtccdhgjfcgfgoaaGreat.X
set_option linter.unusedVariables false
set_option linter.unusedSimpArgs false
namespace Go.Proofs.YtccdhgjfcgfgoaaGreat.X
open Go Go.RowKit Go.Proofs

/-- a whole number of the reference -/
def RInt (H : PH) (v : Value) (z : Int) : Prop := ∃ A l c b, v = .agg #[.bool b, .slice A l c] ∧ RefV H (.slice A l c) z.natAbs ∧ b = decide (z < 0)
theorem RInt.le {H H' : PH} {v : Value} {z : Int} (h : RInt H v z) (hl : H.le H') : RInt H' v z := by
  obtain ⟨A, l, c, b, h1, h2, h3⟩ := h
  exact ⟨A, l, c, b, h1, h2.le hl, h3⟩
theorem RInt.zero (H : PH) : RInt H (.agg #[.bool false, .slice none 0 0]) 0 := ⟨none, 0, 0, false, rfl, RefV.zero H, rfl⟩
theorem RefV.len {H : PH} {A : Option Addr} {l c : Nat} {x : Nat} (h : RefV H (.slice A l c) x) : l = 0 ↔ x = 0 := by
  obtain ⟨A', l', c', h1, h2⟩ := h.form
  injection h1 with _ h1 _
  rw [h1]; exact h2
theorem RInt.open {H : PH} {v : Value} {z : Int} (h : RInt H v z) : ∃ A l c b, v = .agg #[.bool b, .slice A l c] ∧ RefV H (.slice A l c) z.natAbs ∧ z = sg b z.natAbs ∧ (b = true → z.natAbs ≠ 0) ∧ (l = 0 ↔ z.natAbs = 0) := by
  obtain ⟨A, l, c, b, h1, h2, rfl⟩ := h
  exact ⟨A, l, c, _, h1, h2, (sg_self z).symm, fun h => by have := of_decide_eq_true h; omega, h2.len⟩
theorem RInt.mk {H : PH} {A : Option Addr} {l c : Nat} {b : Bool} {x : Nat} (h : RefV H (.slice A l c) x) (hb : b = true → x ≠ 0) : RInt H (.agg #[.bool b, .slice A l c]) (sg b x) := by
  refine ⟨A, l, c, b, rfl, by rw [sg_natAbs]; exact h, ?_⟩
  rw [decide_sg]
  cases b with
  | false => rfl
  | true => have := hb rfl; simp; omega
theorem RInt.form {H : PH} {v : Value} {z : Int} (h : RInt H v z) : ∃ A l c b, v = .agg #[.bool b, .slice A l c] := by
  obtain ⟨A, l, c, b, h1, _⟩ := h
  exact ⟨A, l, c, b, h1⟩
theorem RefV.form' {H : PH} {v : Value} {x : Nat} (h : RefV H v x) : ∃ A l c, v = .slice A l c := by
  obtain ⟨A, l, c, h1, _⟩ := h.form
  exact ⟨A, l, c, h1⟩

theorem rfrom_ok (H : PH) (b : Bool) (va : Value) (x : Nat) (ha : RefV H va x) : FnP Tryz.prog 98 [.bool b, va] H fun v H' => RInt H' v (sg b x) := by
  obtain ⟨A, l, c, rfl, hl⟩ := ha.form
  refine of_cinctureref1_IntFrom (by simp) ?_
  try simp only [go_sem, Nat.reduceEqDiff, Nat.reduceAdd, Nat.reduceBEq, ↓reduceIte, p_cinctureref1_IntFrom]
  cases b with
  | false =>
    try simp only [go_sem, Nat.reduceEqDiff, Nat.reduceAdd, Nat.reduceBEq, ↓reduceIte]
    exact ⟨by trivial, RInt.mk ha fun h => by cases h⟩
  | true =>
    try simp only [go_sem, Nat.reduceEqDiff, Nat.reduceAdd, Nat.reduceBEq, ↓reduceIte]
    refine ev_if (fun h => ?_) (fun h => ?_)
    · try simp only [go_sem, Nat.reduceEqDiff, Nat.reduceAdd, Nat.reduceBEq, ↓reduceIte]
      exact ⟨by trivial, RInt.mk ha fun _ e => by have := hl.2 e; omega⟩
    · try simp only [go_sem, Nat.reduceEqDiff, Nat.reduceAdd, Nat.reduceBEq, ↓reduceIte]
      have h0 : x = 0 := hl.1 (by omega)
      subst h0
      exact ⟨by trivial, RInt.mk (b := false) ha fun h => by cases h⟩

theorem rsign_ok (H : PH) (v : Value) (z : Int) (hV : RInt H v z) : FnP Tryz.prog 40 [v] H fun v _ => v = .int .i64 (sgnI z) := by
  obtain ⟨A, l, c, b, rfl, hN, hz, hb0, hl⟩ := hV.open
  refine of_cinctureref1_Sign (by simp) ?_
  try simp only [go_sem, Nat.reduceEqDiff, Nat.reduceAdd, Nat.reduceBEq, ↓reduceIte, p_cinctureref1_Sign]
  refine ev_if (fun h => ?_) (fun h => ?_)
  · have h0 : z = 0 := by have := hl.1 (by omega); omega
    subst h0
    try simp only [go_sem, Nat.reduceEqDiff, Nat.reduceAdd, Nat.reduceBEq, ↓reduceIte]
    exact ⟨by trivial, rfl⟩
  · have h0 : z.natAbs ≠ 0 := fun e => h (by rw [hl.2 e]; rfl)
    cases b with
    | true =>
      try simp only [go_sem, Nat.reduceEqDiff, Nat.reduceAdd, Nat.reduceBEq, ↓reduceIte]
      refine ⟨by trivial, ?_⟩
      have : z < 0 := by rw [hz, sg_true]; omega
      unfold sgnI; rw [if_pos this]
    | false =>
      try simp only [go_sem, Nat.reduceEqDiff, Nat.reduceAdd, Nat.reduceBEq, ↓reduceIte]
      refine ⟨by trivial, ?_⟩
      have : 0 < z := by rw [hz, sg_false]; omega
      unfold sgnI; rw [if_neg (by omega), if_pos this]

theorem rneg_ok (H : PH) (v : Value) (z : Int) (hV : RInt H v z) : FnP Tryz.prog 95 [v] H fun v H' => RInt H' v (-z) := by
  obtain ⟨A, l, c, b, rfl, hN, hz, hb0, hl⟩ := hV.open
  refine of_cinctureref1_NegInt (by simp) ?_
  try simp only [go_sem, Nat.reduceEqDiff, Nat.reduceAdd, Nat.reduceBEq, ↓reduceIte, p_cinctureref1_NegInt]
  first | refine ev_call (rfrom_ok _ (!b) _ _ hN) ?_ | refine ev_callP (rfrom_ok _ (!b) _ _ hN) ?_
  rintro v_1 H_1 le_1 hR _
  try simp only [go_sem, Nat.reduceEqDiff, Nat.reduceAdd, Nat.reduceBEq, ↓reduceIte]
  obtain ⟨A', l', c', b', rfl⟩ := hR.form
  try simp only [go_sem, Nat.reduceEqDiff, Nat.reduceAdd, Nat.reduceBEq, ↓reduceIte]
  rw [← sg_neg, ← hz] at hR
  exact ⟨by trivial, hR⟩

theorem raddI_ok (H : PH) (va vb : Value) (z w : Int) (ha : RInt H va z) (hb : RInt H vb w) (hbz : bi z ≤ 4294967280) (hbw : bi w ≤ 4294967280) : FnP Tryz.prog 60 [va, vb] H fun v H' => RInt H' v (z + w) := by
  obtain ⟨A, l, c, b, rfl, hN, hz, hb0, hl⟩ := ha.open
  obtain ⟨B, m, e, d, rfl, hM, hw, hd0, hm⟩ := hb.open
  unfold bi at hbz hbw
  generalize z.natAbs = x at *
  generalize w.natAbs = y at *
  subst hz; subst hw
  clear ha hb
  have s1 := bl_add x y
  have s2 := bl_mono (Nat.sub_le x y)
  have s3 := bl_mono (Nat.sub_le y x)
  refine of_cinctureref1_AddInt (by simp) ?_
  try simp only [go_sem, Nat.reduceEqDiff, Nat.reduceAdd, Nat.reduceBEq, ↓reduceIte, p_cinctureref1_AddInt]
  cases b with
  | true =>
    cases d with
    | true =>
      try simp only [go_sem, Nat.reduceEqDiff, Nat.reduceAdd, Nat.reduceBEq, ↓reduceIte]
      first | refine ev_call (radd_ok _ _ _ x y hN hM (by omega) (by omega)) ?_ | refine ev_callP (radd_ok _ _ _ x y hN hM (by omega) (by omega)) ?_
      rintro v_2 H_2 le_2 g0 _
      try simp only [go_sem, Nat.reduceEqDiff, Nat.reduceAdd, Nat.reduceBEq, ↓reduceIte]
      first | refine ev_call (rfrom_ok _ _ _ _ g0) ?_ | refine ev_callP (rfrom_ok _ _ _ _ g0) ?_
      rintro v_3 H_3 le_3 hR _
      try simp only [go_sem, Nat.reduceEqDiff, Nat.reduceAdd, Nat.reduceBEq, ↓reduceIte]
      rw [← sg_add_same] at hR
      obtain ⟨A1, l1, c1, b1, rfl⟩ := hR.form
      try simp only [go_sem, Nat.reduceEqDiff, Nat.reduceAdd, Nat.reduceBEq, ↓reduceIte]
      exact ⟨by trivial, hR⟩
    | false =>
      have hge := sg_add_ge true x y
      have hlt := sg_add_lt true x y
      simp only [Bool.not_true] at hge hlt
      try simp only [go_sem, Nat.reduceEqDiff, Nat.reduceAdd, Nat.reduceBEq, ↓reduceIte]
      first | refine ev_call (rcmp_ok _ _ _ x y hN hM (by omega) (by omega)) ?_ | refine ev_callP (rcmp_ok _ _ _ x y hN hM (by omega) (by omega)) ?_
      rintro v_4 H_4 le_4 rfl _
      replace hN := hN.le le_4
      replace hM := hM.le le_4
      try simp only [go_sem, Nat.reduceEqDiff, Nat.reduceAdd, Nat.reduceBEq, ↓reduceIte]
      by_cases hle : y ≤ x
      · refine ev_pos (by unfold cmpN; split <;> (try split) <;> omega) ?_
        try simp only [go_sem, Nat.reduceEqDiff, Nat.reduceAdd, Nat.reduceBEq, ↓reduceIte]
        first | refine ev_call (rsub_ok _ _ _ x y hN hM (by omega) hle) ?_ | refine ev_callP (rsub_ok _ _ _ x y hN hM (by omega) hle) ?_
        rintro v_5 H_5 le_5 g0 _
        try simp only [go_sem, Nat.reduceEqDiff, Nat.reduceAdd, Nat.reduceBEq, ↓reduceIte]
        first | refine ev_call (rfrom_ok _ _ _ _ g0) ?_ | refine ev_callP (rfrom_ok _ _ _ _ g0) ?_
        rintro v_6 H_6 le_6 hR _
        try simp only [go_sem, Nat.reduceEqDiff, Nat.reduceAdd, Nat.reduceBEq, ↓reduceIte]
        rw [← hge hle] at hR
        obtain ⟨A1, l1, c1, b1, rfl⟩ := hR.form
        try simp only [go_sem, Nat.reduceEqDiff, Nat.reduceAdd, Nat.reduceBEq, ↓reduceIte]
        exact ⟨by trivial, hR⟩
      · refine ev_neg (by unfold cmpN; rw [if_pos (by omega)]; decide) ?_
        try simp only [go_sem, Nat.reduceEqDiff, Nat.reduceAdd, Nat.reduceBEq, ↓reduceIte]
        first | refine ev_call (rsub_ok _ _ _ y x hM hN (by omega) (by omega)) ?_ | refine ev_callP (rsub_ok _ _ _ y x hM hN (by omega) (by omega)) ?_
        rintro v_7 H_7 le_7 g1 _
        try simp only [go_sem, Nat.reduceEqDiff, Nat.reduceAdd, Nat.reduceBEq, ↓reduceIte]
        first | refine ev_call (rfrom_ok _ _ _ _ g1) ?_ | refine ev_callP (rfrom_ok _ _ _ _ g1) ?_
        rintro v_8 H_8 le_8 hR _
        try simp only [go_sem, Nat.reduceEqDiff, Nat.reduceAdd, Nat.reduceBEq, ↓reduceIte]
        rw [← hlt (by omega)] at hR
        obtain ⟨A1, l1, c1, b1, rfl⟩ := hR.form
        try simp only [go_sem, Nat.reduceEqDiff, Nat.reduceAdd, Nat.reduceBEq, ↓reduceIte]
        exact ⟨by trivial, hR⟩
  | false =>
    cases d with
    | true =>
      have hge := sg_add_ge false x y
      have hlt := sg_add_lt false x y
      simp only [Bool.not_false] at hge hlt
      try simp only [go_sem, Nat.reduceEqDiff, Nat.reduceAdd, Nat.reduceBEq, ↓reduceIte]
      first | refine ev_call (rcmp_ok _ _ _ x y hN hM (by omega) (by omega)) ?_ | refine ev_callP (rcmp_ok _ _ _ x y hN hM (by omega) (by omega)) ?_
      rintro v_4 H_4 le_4 rfl _
      replace hN := hN.le le_4
      replace hM := hM.le le_4
      try simp only [go_sem, Nat.reduceEqDiff, Nat.reduceAdd, Nat.reduceBEq, ↓reduceIte]
      by_cases hle : y ≤ x
      · refine ev_pos (by unfold cmpN; split <;> (try split) <;> omega) ?_
        try simp only [go_sem, Nat.reduceEqDiff, Nat.reduceAdd, Nat.reduceBEq, ↓reduceIte]
        first | refine ev_call (rsub_ok _ _ _ x y hN hM (by omega) hle) ?_ | refine ev_callP (rsub_ok _ _ _ x y hN hM (by omega) hle) ?_
        rintro v_5 H_5 le_5 g0 _
        try simp only [go_sem, Nat.reduceEqDiff, Nat.reduceAdd, Nat.reduceBEq, ↓reduceIte]
        first | refine ev_call (rfrom_ok _ _ _ _ g0) ?_ | refine ev_callP (rfrom_ok _ _ _ _ g0) ?_
        rintro v_6 H_6 le_6 hR _
        try simp only [go_sem, Nat.reduceEqDiff, Nat.reduceAdd, Nat.reduceBEq, ↓reduceIte]
        rw [← hge hle] at hR
        obtain ⟨A1, l1, c1, b1, rfl⟩ := hR.form
        try simp only [go_sem, Nat.reduceEqDiff, Nat.reduceAdd, Nat.reduceBEq, ↓reduceIte]
        exact ⟨by trivial, hR⟩
      · refine ev_neg (by unfold cmpN; rw [if_pos (by omega)]; decide) ?_
        try simp only [go_sem, Nat.reduceEqDiff, Nat.reduceAdd, Nat.reduceBEq, ↓reduceIte]
        first | refine ev_call (rsub_ok _ _ _ y x hM hN (by omega) (by omega)) ?_ | refine ev_callP (rsub_ok _ _ _ y x hM hN (by omega) (by omega)) ?_
        rintro v_7 H_7 le_7 g1 _
        try simp only [go_sem, Nat.reduceEqDiff, Nat.reduceAdd, Nat.reduceBEq, ↓reduceIte]
        first | refine ev_call (rfrom_ok _ _ _ _ g1) ?_ | refine ev_callP (rfrom_ok _ _ _ _ g1) ?_
        rintro v_8 H_8 le_8 hR _
        try simp only [go_sem, Nat.reduceEqDiff, Nat.reduceAdd, Nat.reduceBEq, ↓reduceIte]
        rw [← hlt (by omega)] at hR
        obtain ⟨A1, l1, c1, b1, rfl⟩ := hR.form
        try simp only [go_sem, Nat.reduceEqDiff, Nat.reduceAdd, Nat.reduceBEq, ↓reduceIte]
        exact ⟨by trivial, hR⟩
    | false =>
      try simp only [go_sem, Nat.reduceEqDiff, Nat.reduceAdd, Nat.reduceBEq, ↓reduceIte]
      first | refine ev_call (radd_ok _ _ _ x y hN hM (by omega) (by omega)) ?_ | refine ev_callP (radd_ok _ _ _ x y hN hM (by omega) (by omega)) ?_
      rintro v_2 H_2 le_2 g0 _
      try simp only [go_sem, Nat.reduceEqDiff, Nat.reduceAdd, Nat.reduceBEq, ↓reduceIte]
      first | refine ev_call (rfrom_ok _ _ _ _ g0) ?_ | refine ev_callP (rfrom_ok _ _ _ _ g0) ?_
      rintro v_3 H_3 le_3 hR _
      try simp only [go_sem, Nat.reduceEqDiff, Nat.reduceAdd, Nat.reduceBEq, ↓reduceIte]
      rw [← sg_add_same] at hR
      obtain ⟨A1, l1, c1, b1, rfl⟩ := hR.form
      try simp only [go_sem, Nat.reduceEqDiff, Nat.reduceAdd, Nat.reduceBEq, ↓reduceIte]
      exact ⟨by trivial, hR⟩

theorem rmulI_ok (H : PH) (va vb : Value) (z w : Int) (ha : RInt H va z) (hb : RInt H vb w) (hbz : bi z + bi w ≤ 4294967280) : FnP Tryz.prog 61 [va, vb] H fun v H' => RInt H' v (z * w) := by
  obtain ⟨A, l, c, b, rfl, hN, hz, hb0, hl⟩ := ha.open
  obtain ⟨B, m, e, d, rfl, hM, hw, hd0, hm⟩ := hb.open
  unfold bi at hbz
  generalize z.natAbs = x at *
  generalize w.natAbs = y at *
  subst hz; subst hw
  clear ha hb
  refine of_cinctureref1_MulInt (by simp) ?_
  try simp only [go_sem, Nat.reduceEqDiff, Nat.reduceAdd, Nat.reduceBEq, ↓reduceIte, p_cinctureref1_MulInt]
  first | refine ev_call (rmul_ok _ _ _ x y hN hM (by omega) (by omega)) ?_ | refine ev_callP (rmul_ok _ _ _ x y hN hM (by omega) (by omega)) ?_
  rintro v_11 H_11 le_11 g0 _
  try simp only [go_sem, Nat.reduceEqDiff, Nat.reduceAdd, Nat.reduceBEq, ↓reduceIte]
  rw [sg_mul]
  cases b <;> cases d
  all_goals
    try simp only [go_sem, Nat.reduceEqDiff, Nat.reduceAdd, Nat.reduceBEq, ↓reduceIte]
    first | refine ev_call (rfrom_ok _ _ _ _ g0) ?_ | refine ev_callP (rfrom_ok _ _ _ _ g0) ?_
    rintro v9 H9 le9 hR _
    obtain ⟨A1, l1, c1, b1, rfl⟩ := hR.form
    try simp only [go_sem, Nat.reduceEqDiff, Nat.reduceAdd, Nat.reduceBEq, ↓reduceIte]
    exact ⟨by trivial, hR⟩

theorem rtextI_ok (H : PH) (v : Value) (z : Int) (hV : RInt H v z) (hb : bi z ≤ 4294967296) : FnP Tryz.prog 87 [v] H fun v _ => v = .string (ofB (itxt z)) := by
  obtain ⟨A, l, c, b, rfl, hN, hz, hb0, hl⟩ := hV.open
  refine of_cinctureref1_IntText (by simp) ?_
  try simp only [go_sem, Nat.reduceEqDiff, Nat.reduceAdd, Nat.reduceBEq, ↓reduceIte, p_cinctureref1_IntText]
  cases b with
  | false =>
    have h0 : ¬ z < 0 := by rw [hz, sg_false]; omega
    try simp only [go_sem, Nat.reduceEqDiff, Nat.reduceAdd, Nat.reduceBEq, ↓reduceIte]
    first | refine ev_call (rtext_ok _ _ _ hN hb) ?_ | refine ev_callP (rtext_ok _ _ _ hN hb) ?_
    rintro v_24 H_24 le_24 rfl _
    try simp only [go_sem, Nat.reduceEqDiff, Nat.reduceAdd, Nat.reduceBEq, ↓reduceIte]
    refine ⟨by trivial, ?_⟩
    unfold itxt; rw [if_neg h0]
  | true =>
    have h0 : z < 0 := by have := hb0 rfl; rw [hz, sg_true]; omega
    try simp only [go_sem, Nat.reduceEqDiff, Nat.reduceAdd, Nat.reduceBEq, ↓reduceIte]
    first | refine ev_call (rtext_ok _ _ _ hN hb) ?_ | refine ev_callP (rtext_ok _ _ _ hN hb) ?_
    rintro v_25 H_25 le_25 rfl _
    try simp only [go_sem, Nat.reduceEqDiff, Nat.reduceAdd, Nat.reduceBEq, ↓reduceIte]
    refine ev_cat (by rw [ofB_size]; have := txt_size z.natAbs (by omega) hb; show 1 + _ ≤ _; omega) ?_
    try simp only [go_sem, Nat.reduceEqDiff, Nat.reduceAdd, Nat.reduceBEq, ↓reduceIte]
    refine ⟨by trivial, ?_⟩
    unfold itxt; rw [if_pos h0, minus_txt]

theorem rintOf_ok (H : PH) (n : Int) (h1 : -9223372036854775808 ≤ n) (h2 : n ≤ 9223372036854775807) : FnP Tryz.prog 84 [.int .i64 n] H fun v H' => RInt H' v n := by
  refine of_cinctureref1_IntOf (by simp) ?_
  try simp only [go_sem, Nat.reduceEqDiff, Nat.reduceAdd, Nat.reduceBEq, ↓reduceIte, p_cinctureref1_IntOf]
  refine ev_if (fun h => ?_) (fun h => ?_)
  · try simp only [go_sem, Nat.reduceEqDiff, Nat.reduceAdd, Nat.reduceBEq, ↓reduceIte]
    rw [show IntKind.u64.wrap (IntKind.u64.wrap (IntKind.i64.wrap (0 - IntKind.i64.wrap (n + 1))) + 1) = ((n.natAbs : Nat) : Int) by
      rw [w64 (n + 1) (by omega) (by omega), w64 (0 - (n + 1)) (by omega) (by omega), wu64 (0 - (n + 1)) (by omega) (by omega), wu64 _ (by omega) (by omega)]; omega]
    first | refine ev_call (rnatOf_ok _ n.natAbs (by omega)) ?_ | refine ev_callP (rnatOf_ok _ n.natAbs (by omega)) ?_
    rintro v_26 H_26 le_26 hN _
    try simp only [go_sem, Nat.reduceEqDiff, Nat.reduceAdd, Nat.reduceBEq, ↓reduceIte]
    obtain ⟨A, l, c, rfl⟩ := hN.form'
    try simp only [go_sem, Nat.reduceEqDiff, Nat.reduceAdd, Nat.reduceBEq, ↓reduceIte]
    have := RInt.mk (b := true) hN fun _ => by omega
    rw [show sg true n.natAbs = n by rw [sg_true]; omega] at this
    exact ⟨by trivial, this⟩
  · try simp only [go_sem, Nat.reduceEqDiff, Nat.reduceAdd, Nat.reduceBEq, ↓reduceIte]
    rw [show IntKind.u64.wrap n = ((n.natAbs : Nat) : Int) by rw [wu64_mod]; omega]
    first | refine ev_call (rnatOf_ok _ n.natAbs (by omega)) ?_ | refine ev_callP (rnatOf_ok _ n.natAbs (by omega)) ?_
    rintro v_27 H_27 le_27 hN _
    try simp only [go_sem, Nat.reduceEqDiff, Nat.reduceAdd, Nat.reduceBEq, ↓reduceIte]
    obtain ⟨A, l, c, rfl⟩ := hN.form'
    try simp only [go_sem, Nat.reduceEqDiff, Nat.reduceAdd, Nat.reduceBEq, ↓reduceIte]
    have := RInt.mk (b := false) hN fun h => by cases h
    rw [show sg false n.natAbs = n by rw [sg_false]; omega] at this
    exact ⟨by trivial, this⟩

theorem rparseI_ok (H : PH) (t : ByteArray) : FnP Tryz.prog 111 [.string t] H fun v H' => ∃ v', v = .tuple #[v', .bool (intOk (bs t))] ∧ RInt H' v' (if intOk (bs t) then iv (bs t) else 0) := by
  have hsz := bs_length t
  refine of_cinctureref1_IntParse (by simp) ?_
  try simp only [go_sem, Nat.reduceEqDiff, Nat.reduceAdd, Nat.reduceBEq, ↓reduceIte, p_cinctureref1_IntParse]
  refine ev_if (fun h => ?_) (fun h => ?_)
  · have hb0 := bs_getD t 0
    try simp only [go_sem, Nat.reduceEqDiff, Nat.reduceAdd, Nat.reduceBEq, ↓reduceIte]
    refine ev_ix (by omega) (by omega) ?_
    try simp only [go_sem, Nat.reduceEqDiff, Nat.reduceAdd, Nat.reduceBEq, ↓reduceIte]
    rw [show (0 : Int).toNat = 0 from rfl]
    refine ev_if (fun h2 => ?_) (fun h2 => ?_)
    · have h45 : (bs t).getD 0 0 = 45 := by rw [← hb0]; omega
      have hex := bs_extract t
      have hok : intOk (bs t) = (decOk ((bs t).drop 1) && dv ((bs t).drop 1) != 0) := by unfold intOk; rw [if_pos h45]
      have hiv : iv (bs t) = sg true (dv ((bs t).drop 1)) := by unfold iv; rw [if_pos h45]; rfl
      try simp only [go_sem, Nat.reduceEqDiff, Nat.reduceAdd, Nat.reduceBEq, ↓reduceIte]
      refine ev_ss (by omega) (by omega) (by omega) ?_
      rw [show (1 : Int).toNat = 1 from rfl, toNat_cast]
      try simp only [go_sem, Nat.reduceEqDiff, Nat.reduceAdd, Nat.reduceBEq, ↓reduceIte]
      first | refine ev_call (rparse_ok _ (t.extract 1 t.size)) ?_ | refine ev_callP (rparse_ok _ (t.extract 1 t.size)) ?_
      rintro v_29 H_29 le_29 ⟨va, rfl, hN⟩ _
      try simp only [go_sem, Nat.reduceEqDiff, Nat.reduceAdd, Nat.reduceBEq, ↓reduceIte]
      rw [hex] at hN ⊢
      obtain ⟨A, l, c, rfl, hl⟩ := hN.form
      cases hk : decOk ((bs t).drop 1) with
      | false =>
        try simp only [go_sem, Nat.reduceEqDiff, Nat.reduceAdd, Nat.reduceBEq, ↓reduceIte, hk]
        refine ⟨by trivial, _, by rw [hok, hk]; rfl, ?_⟩
        rw [hok, hk]; exact RInt.zero _
      | true =>
        rw [hk, if_pos rfl] at hN hl
        rw [hk, Bool.true_and] at hok
        generalize dv ((bs t).drop 1) = x at *
        try simp only [go_sem, Nat.reduceEqDiff, Nat.reduceAdd, Nat.reduceBEq, ↓reduceIte, hk]
        refine ev_if (fun h3 => ?_) (fun h3 => ?_)
        · try simp only [go_sem, Nat.reduceEqDiff, Nat.reduceAdd, Nat.reduceBEq, ↓reduceIte]
          have hx0 : x = 0 := hl.1 (by omega)
          refine ⟨by trivial, _, by rw [hok, hx0]; rfl, ?_⟩
          rw [hok, hx0]; exact RInt.zero _
        · try simp only [go_sem, Nat.reduceEqDiff, Nat.reduceAdd, Nat.reduceBEq, ↓reduceIte]
          have hx0 : x ≠ 0 := fun e => h3 (by rw [hl.2 e]; rfl)
          refine ⟨by trivial, _, by rw [hok, bne_iff_ne.2 hx0], ?_⟩
          rw [hok, bne_iff_ne.2 hx0, if_pos rfl, hiv]
          exact RInt.mk hN fun _ => hx0
    · have h45 : ¬ (bs t).getD 0 0 = 45 := by rw [← hb0]; omega
      have hok : intOk (bs t) = decOk (bs t) := by unfold intOk; rw [if_neg h45]
      have hiv : iv (bs t) = dv (bs t) := by unfold iv; rw [if_neg h45]
      try simp only [go_sem, Nat.reduceEqDiff, Nat.reduceAdd, Nat.reduceBEq, ↓reduceIte]
      first | refine ev_call (rparse_ok _ t) ?_ | refine ev_callP (rparse_ok _ t) ?_
      rintro v_28 H_28 le_28 ⟨va, rfl, hN⟩ _
      try simp only [go_sem, Nat.reduceEqDiff, Nat.reduceAdd, Nat.reduceBEq, ↓reduceIte]
      obtain ⟨A, l, c, rfl⟩ := hN.form'
      try simp only [go_sem, Nat.reduceEqDiff, Nat.reduceAdd, Nat.reduceBEq, ↓reduceIte]
      refine ⟨by trivial, _, by rw [hok], ?_⟩
      have := RInt.mk (b := false) hN fun h => by cases h
      rw [sg_false] at this
      rw [hok, hiv]
      cases hk : decOk (bs t) with
      | false => rw [hk] at this; exact this
      | true => rw [hk, if_pos rfl] at this; exact this
  · have h0 : bs t = [] := List.eq_nil_of_length_eq_zero (by omega)
    have h45 : ¬ (bs t).getD 0 0 = 45 := by rw [h0]; decide
    have hok : intOk (bs t) = decOk (bs t) := by unfold intOk; rw [if_neg h45]
    have hiv : iv (bs t) = dv (bs t) := by unfold iv; rw [if_neg h45]
    try simp only [go_sem, Nat.reduceEqDiff, Nat.reduceAdd, Nat.reduceBEq, ↓reduceIte]
    first | refine ev_call (rparse_ok _ t) ?_ | refine ev_callP (rparse_ok _ t) ?_
    rintro v_28 H_28 le_28 ⟨va, rfl, hN⟩ _
    try simp only [go_sem, Nat.reduceEqDiff, Nat.reduceAdd, Nat.reduceBEq, ↓reduceIte]
    obtain ⟨A, l, c, rfl⟩ := hN.form'
    try simp only [go_sem, Nat.reduceEqDiff, Nat.reduceAdd, Nat.reduceBEq, ↓reduceIte]
    refine ⟨by trivial, _, by rw [hok], ?_⟩
    have := RInt.mk (b := false) hN fun h => by cases h
    rw [sg_false] at this
    rw [hok, hiv]
    cases hk : decOk (bs t) with
    | false => rw [hk] at this; exact this
    | true => rw [hk, if_pos rfl] at this; exact this

end Go.Proofs.YtccdhgjfcgfgoaaGreat.X
