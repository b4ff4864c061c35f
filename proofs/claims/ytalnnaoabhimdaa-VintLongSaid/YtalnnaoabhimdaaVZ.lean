/- The law VintLong: bytes of one's own; a greater number never takes fewer. -/
import Derived.Test.YtalnnaoabhimdaaVA
import Derived.Test.YtalnnaoabhimdaaVE
set_option linter.unusedVariables false
set_option linter.unusedSimpArgs false
namespace Go.Proofs.Ytalnnaoabhimdaa.X
open Go Go.RowKit Go.Proofs

/-- a string's bytes in a block of one's own, m zeros behind them, a mark behind all -/
def rowS (T : TypeId) (l : List Nat) (m : Nat) : Obj := .cells (nums .u8 l ++ List.replicate m (Value.int .u8 0)).toArray T (l.length + m, l.length + m + 1)

theorem ev_s2b {X : XT} {fr : List (Nat × SV)} {lh : List (Nat × List Value)} {H M : PH} {K : St → Prop} {d : Nat} {T : TypeId} {t : ByteArray}
    (k1 : ∀ g m c, H g = none → M g = none → X ⟨(d, .v (.slice (some ⟨g, 0, none⟩) t.size c)) :: fr, lh, H, M.set g (rowS T (bs t) m)⟩ K) : EvS2b T t d X ⟨fr, lh, H, M⟩ K := by
  intro g m c hH hM
  have := k1 g m c hH hM
  have e : (t.data.map (fun b => Value.int .u8 b.toNat)) ++ Array.replicate m (.int .u8 0) = (nums .u8 (bs t) ++ List.replicate m (Value.int .u8 0)).toArray := by
    apply Array.ext'
    simp [nums, bs]
  unfold rowS at this
  rw [bs_length] at this
  show X ⟨_, _, _, M.set g (.cells ((t.data.map (fun b => Value.int .u8 b.toNat)) ++ Array.replicate m (.int .u8 0)) T (t.size + m, t.size + m + 1))⟩ K
  rw [e]
  exact this

theorem ev_ldR {X : XT} {fr : List (Nat × SV)} {lh : List (Nat × List Value)} {H M : PH} {K : St → Prop} {d : Nat} {T : TypeId} {l : List Nat} {g m i : Nat} (hM : M g = some (rowS T l m)) (hi : i < l.length)
    (k1 : X ⟨(d, .v (.int .u8 (l.getD i 0 : Nat))) :: fr, lh, H, M⟩ K) : EvLd false 1 (.pointer (some ⟨g, i * 1, none⟩)) d X ⟨fr, lh, H, M⟩ K :=
  ⟨g, i * 1, _, T, _, _, rfl, .inr hM, by rw [Nat.mul_one]; exact ldv_app hi, k1⟩

theorem ev_stR {X : XT} {fr : List (Nat × SV)} {lh : List (Nat × List Value)} {H M : PH} {K : St → Prop} {T : TypeId} {l : List Nat} {g m i x : Nat} (hM : M g = some (rowS T l m)) (hi : i < l.length)
    (k1 : X ⟨fr, lh, H, M.set g (rowS T (l.set i x) m)⟩ K) : EvSt 1 (.pointer (some ⟨g, i * 1, none⟩)) (.int .u8 (x : Int)) X ⟨fr, lh, H, M⟩ K := by
  refine ⟨g, i * 1, _, T, _, _, rfl, hM, .inr (by simp [nums]), rfl, by simp [cellsL, Value.oneCell'], by rw [Nat.mul_one]; exact stv_app hi, ?_⟩
  unfold rowS at k1
  rw [List.length_set] at k1
  exact k1

theorem ev_b2sR {X : XT} {fr : List (Nat × SV)} {lh : List (Nat × List Value)} {H M : PH} {K : St → Prop} {d : Nat} {T : TypeId} {l : List Nat} {g m n : Nat} (hM : M g = some (rowS T l m)) (hn : n = l.length) (hl : ∀ d ∈ l, d < 256)
    (k1 : X ⟨(d, .v (.string (ofB l))) :: fr, lh, H, M⟩ K) : EvB2s (some ⟨g, 0, none⟩) n d X ⟨fr, lh, H, M⟩ K := by
  subst hn
  refine ⟨l.map UInt8.ofNat, by simp, .inr ⟨g, 0, _, T, _, rfl, .inr hM, ?_⟩, k1⟩
  rw [List.drop_zero, takeN_of _ _ (by simp [nums])]
  simp only [List.map_map]
  rw [List.take_append_of_le_length (by simp [nums]), List.take_of_length_le (by simp [nums])]
  congr 1
  apply List.map_congr_left
  intro d hd
  simp [Nat.mod_eq_of_lt (hl d hd)]

theorem getD_get {l : List Nat} {j : Nat} (h : j < l.length) : l.getD j 0 = l[j] := by simp [List.getD, h]
theorem vb_300' : vb 300 = [172, 2] := by rw [vb_big (by decide), vb_small (by decide)]
theorem alive18'_ok (H : PH) : FnP Try.prog 9 [] H fun v _ => v = .bool true := by
  refine of_cincturelaw18_alive (by simp) ?_
  try simp only [go_sem, Nat.reduceEqDiff, Nat.reduceAdd, Bool.false_eq_true, Nat.reduceBEq, ↓reduceIte, p_cincturelaw18_alive]
  first | refine ev_call (vget_ok _ ⟨#[172, 2]⟩ (by decide) 0 (by decide) (by decide)) ?_ | refine ev_callP (vget_ok _ ⟨#[172, 2]⟩ (by decide) 0 (by decide) (by decide)) ?_
  rintro v_1 H_1 le_1 rfl _
  try simp only [go_sem, Nat.reduceEqDiff, Nat.reduceAdd, Bool.false_eq_true, Nat.reduceBEq, ↓reduceIte]
  rw [show vg (bs ⟨#[172, 2]⟩) 0 = (300, 2, 0) by decide +kernel]
  try simp only [go_sem, Nat.reduceEqDiff, Nat.reduceAdd, Bool.false_eq_true, Nat.reduceBEq, ↓reduceIte, vgV]
  first | refine ev_call (vput_ok _ 300 (by decide)) ?_ | refine ev_callP (vput_ok _ 300 (by decide)) ?_
  rintro v_2 H_2 le_2 rfl _
  try simp only [go_sem, Nat.reduceEqDiff, Nat.reduceAdd, Bool.false_eq_true, Nat.reduceBEq, ↓reduceIte]
  rw [vb_300']
  refine ev_pos (by rfl) ?_
  try simp only [go_sem, Nat.reduceEqDiff, Nat.reduceAdd, Bool.false_eq_true, Nat.reduceBEq, ↓reduceIte]
  refine ev_pos (by rfl) ?_
  try simp only [go_sem, Nat.reduceEqDiff, Nat.reduceAdd, Bool.false_eq_true, Nat.reduceBEq, ↓reduceIte]
  refine ev_pos (by rfl) ?_
  try simp only [go_sem, Nat.reduceEqDiff, Nat.reduceAdd, Bool.false_eq_true, Nat.reduceBEq, ↓reduceIte]
  refine ev_pos (by trivial) ?_
  try simp only [go_sem, Nat.reduceEqDiff, Nat.reduceAdd, Bool.false_eq_true, Nat.reduceBEq, ↓reduceIte]
  exact ⟨by trivial, by trivial⟩

set_option maxHeartbeats 2000000 in
theorem VintLong_ok (H : PH) (v : Int) (wv : (Lit.int .u64 v).wf = true) (w : Int) (ww : (Lit.int .u64 w).wf = true) (b : ByteArray) (hb : b.size ≤ 9223372036854775807) : FnP Try.prog 3 [.int .u64 v, .int .u64 w, .string b] H fun v _ => v = .bool true := by
  obtain ⟨hv0, hv1⟩ := u64_of_wf wv
  obtain ⟨x, rfl⟩ := Int.eq_ofNat_of_zero_le hv0
  obtain ⟨hw0, hw1⟩ := u64_of_wf ww
  obtain ⟨y, rfl⟩ := Int.eq_ofNat_of_zero_le hw0
  clear wv ww hv0 hw0
  have hsz := bs_length b
  refine Fn.release (of_cincturelaw18_VintLong (by simp) ?_)
  try simp only [go_sem, Nat.reduceEqDiff, Nat.reduceAdd, Bool.false_eq_true, Nat.reduceBEq, ↓reduceIte, p_cincturelaw18_VintLong]
  first | refine ev_call (alive18'_ok _) ?_ | refine ev_callP (alive18'_ok _) ?_
  rintro v_3 H_3 le_3 rfl _
  try simp only [go_sem, Nat.reduceEqDiff, Nat.reduceAdd, Bool.false_eq_true, Nat.reduceBEq, ↓reduceIte]
  refine ev_s2b ?_
  intro g m c hg _
  try simp only [go_sem, Nat.reduceEqDiff, Nat.reduceAdd, Bool.false_eq_true, Nat.reduceBEq, ↓reduceIte]
  have hd0 : ∀ o, PH.disj H_3 (PH.no.set g o) := fun o => (PH.disj_no _).set hg
  refine ev_loop (fun n s => ∃ (i : Nat) (l : List Nat) (M1 : PH), n = b.size - i ∧ i ≤ b.size ∧ l.length = b.size ∧ (∀ d ∈ l, d < 256) ∧ (∀ j, j < i → 128 ≤ l.getD j 0) ∧ M1 g = some (rowS 5 l m) ∧ PH.disj H_3 M1 ∧
    s = ⟨[(8, .v (.int .i64 (i : Int))), (7, .v (.slice (some ⟨g, 0, none⟩) b.size c)), (1, .v (.int .u64 (y : Int))), (0, .v (.int .u64 (x : Int)))], [], H_3, M1⟩) b.size _ ⟨0, bs b, _, rfl, by omega, hsz, bs_lt b, fun j hj => by omega, PH.set_self _ _ _, hd0 _, rfl⟩ ⟨rfl, by simp only [go_sem, Nat.reduceEqDiff, Nat.reduceAdd, Bool.false_eq_true, Nat.reduceBEq, ↓reduceIte, and_self, Option.some.injEq, SV.v.injEq, SV.ptr.injEq, Value.int.injEq, Value.bool.injEq, Value.slice.injEq, true_and, and_true] <;> (repeat' apply And.intro) <;> first | rfl | omega | (simp (disch := omega) only [w64, wu64, wu32, wu8] <;> omega), by simp only [go_sem, Nat.reduceEqDiff, Nat.reduceAdd, Bool.false_eq_true, Nat.reduceBEq, ↓reduceIte, and_self, Option.some.injEq, SV.v.injEq, SV.ptr.injEq, Value.int.injEq, Value.bool.injEq, Value.slice.injEq, true_and, and_true] <;> (repeat' apply And.intro) <;> rfl, rfl, PH.le.refl _⟩ ?_
  rintro n s ⟨i, l, M1, rfl, hi, hl, hlt, hge, hM, hd, rfl⟩
  try simp only [go_sem, Nat.reduceEqDiff, Nat.reduceAdd, Bool.false_eq_true, Nat.reduceBEq, ↓reduceIte]
  refine ev_if (fun hlt1 => ?_) (fun hlt1 => ?_)
  · try simp only [go_sem, Nat.reduceEqDiff, Nat.reduceAdd, Bool.false_eq_true, Nat.reduceBEq, ↓reduceIte]
    refine ev_ia rfl (by omega) (by omega) ?_
    rw [Int.toNat_natCast, Nat.zero_add]
    try simp only [go_sem, Nat.reduceEqDiff, Nat.reduceAdd, Bool.false_eq_true, Nat.reduceBEq, ↓reduceIte]
    refine ev_ldR hM (by omega) ?_
    have hx : l.getD i 0 < 256 := by
      rw [getD_get (by omega)]
      exact hlt _ (List.getElem_mem _)
    try simp only [go_sem, Nat.reduceEqDiff, Nat.reduceAdd, Bool.false_eq_true, Nat.reduceBEq, ↓reduceIte]
    rw [show bitsV .or .u8 ((l.getD i 0 : Nat) : Int) 128 = ((l.getD i 0 % 128 + 128 : Nat) : Int) by rw [show (128 : Int) = ((128 : Nat) : Int) from rfl, or8 (by omega) (by decide), or128 _ hx]]
    refine ev_ia rfl (by omega) (by omega) ?_
    rw [Int.toNat_natCast, Nat.zero_add]
    try simp only [go_sem, Nat.reduceEqDiff, Nat.reduceAdd, Bool.false_eq_true, Nat.reduceBEq, ↓reduceIte]
    refine ev_stR hM (by omega) ?_
    try simp only [go_sem, Nat.reduceEqDiff, Nat.reduceAdd, Bool.false_eq_true, Nat.reduceBEq, ↓reduceIte]
    rw [w64 ((i : Int) + 1) (by omega) (by omega), show (i : Int) + 1 = ((i + 1 : Nat) : Int) by omega]
    refine k_next (b.size - (i + 1)) _ (by omega) ⟨i + 1, _, _, rfl, by omega, by rw [List.length_set]; exact hl, ?_, ?_, PH.set_self _ _ _, hd.set (hd.at hM), rfl⟩ ⟨rfl, by simp only [go_sem, Nat.reduceEqDiff, Nat.reduceAdd, Bool.false_eq_true, Nat.reduceBEq, ↓reduceIte, and_self, Option.some.injEq, SV.v.injEq, SV.ptr.injEq, Value.int.injEq, Value.bool.injEq, Value.slice.injEq, true_and, and_true] <;> (repeat' apply And.intro) <;> first | rfl | omega | (simp (disch := omega) only [w64, wu64, wu32, wu8] <;> omega), by simp only [go_sem, Nat.reduceEqDiff, Nat.reduceAdd, Bool.false_eq_true, Nat.reduceBEq, ↓reduceIte, and_self, Option.some.injEq, SV.v.injEq, SV.ptr.injEq, Value.int.injEq, Value.bool.injEq, Value.slice.injEq, true_and, and_true] <;> (repeat' apply And.intro) <;> rfl, rfl, PH.le.refl _⟩
    · intro d hd
      rcases List.mem_or_eq_of_mem_set hd with h | h
      · exact hlt d h
      · rw [h]; omega
    · intro j hj
      by_cases e : j = i
      · subst e
        rw [getD_get (by rw [List.length_set]; omega), List.getElem_set_self]
        omega
      · have := hge j (by omega)
        rw [getD_get (by omega)] at this
        rw [getD_get (by rw [List.length_set]; omega), List.getElem_set_ne (fun h => e h.symm)]
        exact this
  · have hil : i = b.size := by omega
    subst hil
    have hall : ∀ d ∈ l, 128 ≤ d := by
      intro d hd
      obtain ⟨j, hj, rfl⟩ := List.getElem_of_mem hd
      have := hge j (by omega)
      rwa [getD_get hj] at this
    have hlong := vgt_long l 0 0 (by decide) hall
    try simp only [go_sem, Nat.reduceEqDiff, Nat.reduceAdd, Bool.false_eq_true, Nat.reduceBEq, ↓reduceIte]
    refine ev_b2sR hM hl.symm hlt ?_
    try simp only [go_sem, Nat.reduceEqDiff, Nat.reduceAdd, Bool.false_eq_true, Nat.reduceBEq, ↓reduceIte]
    first | refine ev_call (vget_ok _ (ofB l) (by rw [ofB_size]; omega) 0 (by decide) (by decide)) ?_ | refine ev_callP (vget_ok _ (ofB l) (by rw [ofB_size]; omega) 0 (by decide) (by decide)) ?_
    rintro v_4 H_4 le_4 rfl _
    try simp only [go_sem, Nat.reduceEqDiff, Nat.reduceAdd, Bool.false_eq_true, Nat.reduceBEq, ↓reduceIte]
    have hvg := vg_at (l := l) (p := 0) (by omega)
    rw [List.drop_zero, hlong] at hvg
    have hvg' : vg (bs (ofB l)) 0 = (0, 0, if 9 < b.size then 6 else 4) := by
      rw [bs_ofB hlt]
      refine hvg.trans ?_
      rw [hl, Nat.zero_add]
      split <;> rfl
    rw [hvg']
    try simp only [go_sem, Nat.reduceEqDiff, Nat.reduceAdd, Bool.false_eq_true, Nat.reduceBEq, ↓reduceIte, vgV]
    have h1 : (if (y : Int) < (x : Int) then (y : Int) else (x : Int)) = ((min x y : Nat) : Int) := by split <;> omega
    have h2 : (if (x : Int) < (y : Int) then (y : Int) else (x : Int)) = ((max x y : Nat) : Int) := by split <;> omega
    have h3 : min x y ≤ max x y := by omega
    have hm1 : min x y < 18446744073709551616 := by omega
    have hm2 : max x y < 18446744073709551616 := by omega
    generalize hp : min x y = p at *
    generalize hq : max x y = q at *
    have k1 := vb_mono h3
    have k2 := vb_len10 hm2
    have k3 := vb_pos p
    refine ev_if (fun c => ?_) (fun c => ?_)
    · rw [if_pos (show 9 < b.size by omega)]
      try simp only [go_sem, Nat.reduceEqDiff, Nat.reduceAdd, Bool.false_eq_true, Nat.reduceBEq, ↓reduceIte]
      rw [h1]
      first | refine ev_call (vput_ok _ p hm1) ?_ | refine ev_callP (vput_ok _ p hm1) ?_
      rintro v_5 H_5 le_5 rfl _
      try simp only [go_sem, Nat.reduceEqDiff, Nat.reduceAdd, Bool.false_eq_true, Nat.reduceBEq, ↓reduceIte]
      rw [h2]
      first | refine ev_call (vput_ok _ q hm2) ?_ | refine ev_callP (vput_ok _ q hm2) ?_
      rintro v_6 H_6 le_6 rfl _
      try simp only [go_sem, Nat.reduceEqDiff, Nat.reduceAdd, Bool.false_eq_true, Nat.reduceBEq, ↓reduceIte]
      rw [ofB_size, ofB_size]
      refine ev_pos (by omega) ?_
      try simp only [go_sem, Nat.reduceEqDiff, Nat.reduceAdd, Bool.false_eq_true, Nat.reduceBEq, ↓reduceIte]
      rw [ofB_size]
      refine ev_pos (by omega) ?_
      try simp only [go_sem, Nat.reduceEqDiff, Nat.reduceAdd, Bool.false_eq_true, Nat.reduceBEq, ↓reduceIte]
      rw [ofB_size]
      refine ev_pos (by omega) ?_
      try simp only [go_sem, Nat.reduceEqDiff, Nat.reduceAdd, Bool.false_eq_true, Nat.reduceBEq, ↓reduceIte]
      refine ev_pos (by trivial) ?_
      try simp only [go_sem, Nat.reduceEqDiff, Nat.reduceAdd, Bool.false_eq_true, Nat.reduceBEq, ↓reduceIte]
      exact fun _ => by trivial
    · rw [if_neg (show ¬ 9 < b.size by omega)]
      try simp only [go_sem, Nat.reduceEqDiff, Nat.reduceAdd, Bool.false_eq_true, Nat.reduceBEq, ↓reduceIte]
      rw [h1]
      first | refine ev_call (vput_ok _ p hm1) ?_ | refine ev_callP (vput_ok _ p hm1) ?_
      rintro v_5 H_5 le_5 rfl _
      try simp only [go_sem, Nat.reduceEqDiff, Nat.reduceAdd, Bool.false_eq_true, Nat.reduceBEq, ↓reduceIte]
      rw [h2]
      first | refine ev_call (vput_ok _ q hm2) ?_ | refine ev_callP (vput_ok _ q hm2) ?_
      rintro v_6 H_6 le_6 rfl _
      try simp only [go_sem, Nat.reduceEqDiff, Nat.reduceAdd, Bool.false_eq_true, Nat.reduceBEq, ↓reduceIte]
      rw [ofB_size, ofB_size]
      refine ev_pos (by omega) ?_
      try simp only [go_sem, Nat.reduceEqDiff, Nat.reduceAdd, Bool.false_eq_true, Nat.reduceBEq, ↓reduceIte]
      rw [ofB_size]
      refine ev_pos (by omega) ?_
      try simp only [go_sem, Nat.reduceEqDiff, Nat.reduceAdd, Bool.false_eq_true, Nat.reduceBEq, ↓reduceIte]
      rw [ofB_size]
      refine ev_pos (by omega) ?_
      try simp only [go_sem, Nat.reduceEqDiff, Nat.reduceAdd, Bool.false_eq_true, Nat.reduceBEq, ↓reduceIte]
      refine ev_pos (by trivial) ?_
      try simp only [go_sem, Nat.reduceEqDiff, Nat.reduceAdd, Bool.false_eq_true, Nat.reduceBEq, ↓reduceIte]
      exact fun _ => by trivial

end Go.Proofs.Ytalnnaoabhimdaa.X
