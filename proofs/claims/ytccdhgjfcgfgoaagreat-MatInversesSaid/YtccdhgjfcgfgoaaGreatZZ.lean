/- What the laws share: a text as a number, the same number; a number from lo to hi. -/
import Derived.Test.YtccdhgjfcgfgoaaGreatZK
import Derived.Test.YtccdhgjfcgfgoaaGreatZH
import Derived.Test.YtccdhgjfcgfgoaaGreatZE
import Derived.Test.YtccdhgjfcgfgoaaGreatZB
import Derived.Deep.Strs
import Derived.Carry
import Derived.Test.YtccdhgjfcgfgoaaGreatZD
set_option linter.unusedVariables false
set_option linter.unusedSimpArgs false
namespace Go.Proofs.YtccdhgjfcgfgoaaGreat.X
open Go Go.RowKit Go.Proofs

/-- a text is a number, not too long -/
def qok (a : ByteArray) : Bool := ratOk (bs a) && decide (a.size ≤ 100)
theorem qok_br {a : ByteArray} (h : qok a = true) : br (rv (bs a)) ≤ 401 ∧ ofB (rtx (rv (bs a))) = a ∧ ratOk (bs a) = true := by
  unfold qok at h
  rw [Bool.and_eq_true, decide_eq_true_eq] at h
  have := rv_br h.1
  rw [bs_length] at this
  exact ⟨by omega, by rw [rtx_rv h.1, ofB_bs], h.1⟩

theorem numQ_ok (H : PH) (a : ByteArray) (hy : a.size ≤ 9223372036854775807) : FnP Tryz.prog 28 [.string a] H fun v H' => ∃ va ra, v = .tuple #[va, ra, .bool (qok a)] ∧ RatV H' va (if qok a then rv (bs a) else 0) ∧ RRat H' ra (if qok a then rv (bs a) else 0) := by
  refine of_cincturelaw3_Num (by simp) ?_
  try simp only [go_sem, Nat.reduceEqDiff, Nat.reduceAdd, Nat.reduceBEq, ↓reduceIte, p_cincturelaw3_Num]
  first | refine ev_call (rparseR_ok _ a hy) ?_ | refine ev_callP (rparseR_ok _ a hy) ?_
  rintro v_1 H_1 le_1 ⟨ra, rfl, h1⟩ _
  try simp only [go_sem, Nat.reduceEqDiff, Nat.reduceAdd, Nat.reduceBEq, ↓reduceIte]
  obtain ⟨b1, A1, l1, c1, B1, m1, e1, rfl⟩ := h1.form
  have bad : qok a = false → ∀ H' : PH, ∃ va ra, (Value.tuple #[.agg #[.slice none 0 0, .bool false, .slice none 0 0], .agg #[.bool false, .slice none 0 0, .slice none 0 0], .bool false]) = .tuple #[va, ra, .bool (qok a)] ∧ RatV H' va (if qok a then rv (bs a) else 0) ∧ RRat H' ra (if qok a then rv (bs a) else 0) := by
    intro h H'
    rw [h]
    exact ⟨_, _, rfl, RatV.zero _, RRat.zero _⟩
  cases hk : ratOk (bs a) with
  | false =>
    try simp only [go_sem, Nat.reduceEqDiff, Nat.reduceAdd, Nat.reduceBEq, ↓reduceIte, hk]
    exact ⟨by trivial, bad (by unfold qok; rw [hk]; rfl) _⟩
  | true =>
    try simp only [go_sem, Nat.reduceEqDiff, Nat.reduceAdd, Nat.reduceBEq, ↓reduceIte, hk]
    refine ev_if (fun h => ?_) (fun h => ?_)
    · try simp only [go_sem, Nat.reduceEqDiff, Nat.reduceAdd, Nat.reduceBEq, ↓reduceIte]
      exact ⟨by trivial, bad (by unfold qok; rw [hk, decide_eq_false (show ¬ a.size ≤ 100 by omega)]; rfl) _⟩
    · have hn : qok a = true := by unfold qok; rw [hk, decide_eq_true (show a.size ≤ 100 by omega)]; rfl
      try simp only [go_sem, Nat.reduceEqDiff, Nat.reduceAdd, Nat.reduceBEq, ↓reduceIte]
      first | refine ev_call (rparse'_ok _ a hy) ?_ | refine ev_callP (rparse'_ok _ a hy) ?_
      rintro v_2 H_2 le_2 ⟨va, rfl, h2⟩ _
      replace h1 := h1.le le_2
      try simp only [go_sem, Nat.reduceEqDiff, Nat.reduceAdd, Nat.reduceBEq, ↓reduceIte]
      obtain ⟨A2, l2, c2, b2, B2, m2, e2, rfl⟩ := h2.form
      rw [hk, if_pos rfl] at h1 h2
      try simp only [go_sem, Nat.reduceEqDiff, Nat.reduceAdd, Nat.reduceBEq, ↓reduceIte]
      rw [hn]
      repeat' (with_reducible refine And.intro ?_ ?_)
      all_goals first | trivial | exact ⟨_, _, rfl, h2, h1⟩

theorem isQ_ok (H : PH) (va vb : Value) (q : Rat) (ha : RatV H va q) (hb : RRat H vb q) (hbp : br q ≤ 4294967000) : FnP Tryz.prog 12 [va, vb] H fun v _ => v = .bool true := by
  obtain ⟨A, l, c, b, B, m, e, rfl⟩ := ha.form
  obtain ⟨b1, A1, l1, c1, B1, m1, e1, rfl⟩ := hb.form
  refine of_cincturelaw3_Is (by simp) ?_
  try simp only [go_sem, Nat.reduceEqDiff, Nat.reduceAdd, Nat.reduceBEq, ↓reduceIte, p_cincturelaw3_Is]
  first | refine ev_call (rtext_ok' _ _ _ ha hbp) ?_ | refine ev_callP (rtext_ok' _ _ _ ha hbp) ?_
  rintro v_3 H_3 le_3 rfl _
  replace hb := hb.le le_3
  try simp only [go_sem, Nat.reduceEqDiff, Nat.reduceAdd, Nat.reduceBEq, ↓reduceIte]
  first | refine ev_call (rtextR_ok _ _ _ hb hbp) ?_ | refine ev_callP (rtextR_ok _ _ _ hb hbp) ?_
  rintro v_4 H_4 le_4 rfl _
  try simp only [go_sem, Nat.reduceEqDiff, Nat.reduceAdd, Nat.reduceBEq, ↓reduceIte]
  refine ev_pos (by trivial) ?_
  try simp only [go_sem, Nat.reduceEqDiff, Nat.reduceAdd, Nat.reduceBEq, ↓reduceIte]
  exact ⟨by trivial, by trivial⟩

end Go.Proofs.YtccdhgjfcgfgoaaGreat.X
set_option linter.unusedVariables false
set_option linter.unusedSimpArgs false
namespace Go.Proofs.YtccdhgjfcgfgoaaGreat.X
open Go Go.RowKit Go.Proofs

def alT : Nat → Nat → ByteArray := fun i k => if i = 0 then (if k = 0 then ⟨#[49]⟩ else ⟨#[50]⟩) else (if k = 0 then ⟨#[51]⟩ else ⟨#[52]⟩)
theorem al_ev : evB 2 (rect 2 alT) = true := by decide
theorem al_p : pOk 2 (rect 2 alT) := by unfold pOk; decide +kernel
theorem al_det : Dt.det 2 (mx (rect 2 (prs (rect 2 alT)))) = ((-2 : Int) : Rat) := by decide +kernel
theorem al_bnd : Bnd 2 4000 (mx (rect 2 (prs (rect 2 alT)))) := by
  intro i s hi hs
  have h1 : i = 0 ∨ i = 1 := by omega
  have h2 : s = 0 ∨ s = 1 := by omega
  rcases h1 with rfl | rfl <;> rcases h2 with rfl | rfl <;> decide +kernel
theorem al_tx : ofB (rtx ((-2 : Int) : Rat)) = ⟨#[45, 50]⟩ := by
  unfold rtx
  rw [if_pos (by decide), show ((-2 : Int) : Rat).num = -2 by decide]
  unfold itxt
  rw [if_pos (by decide), show ((-2 : Int)).natAbs = 2 by decide]
  rw [txt_small (by decide) (by decide)]
  rfl

theorem cells2 {α : Type} {P : PH → List Value → α → Prop} {H : PH} {u v : Value} {f : Nat → α} {n : Nat} (hn : n = 2) (h1 : u.oneCell' = true) (h2 : v.oneCell' = true) (hx : P H [u] (f 0)) (hy : P H [v] (f 1)) : ∀ i, i < n → ∃ us, takeN 1 ([u, v].drop (i * 1)) = some us ∧ (∀ u ∈ us, u.oneCell' = true) ∧ P H us (f i) := by
  intro i hi
  have : i = 0 ∨ i = 1 := by omega
  rcases this with rfl | rfl
  · exact ⟨[u], rfl, fun x hx => by rw [List.mem_singleton.1 hx]; exact h1, hx⟩
  · exact ⟨[v], rfl, fun x hx => by rw [List.mem_singleton.1 hx]; exact h2, hy⟩

set_option maxHeartbeats 1000000 in
theorem alive11_ok (H : PH) : FnP Tryz.prog 6 [] H fun v _ => v = .bool true := by
  refine of_cincturelaw11_alive (by simp) ?_
  try simp only [go_sem, Nat.reduceEqDiff, Nat.reduceAdd, Nat.reduceBEq, ↓reduceIte, p_cincturelaw11_alive]
  refine ev_bslF (w := 1) (P := StrC) (f := alT 0) rfl (by omega) (cells2 rfl rfl rfl ⟨rfl, by decide⟩ ⟨rfl, by decide⟩) (PH.disj_no _) ?_
  intro g1 M1 hO1 hle1 hg1 hd1
  try simp only [go_sem, Nat.reduceEqDiff, Nat.reduceAdd, Nat.reduceBEq, ↓reduceIte]
  refine ev_bslF (w := 1) (P := StrC) (f := alT 1) rfl (by omega) (cells2 rfl rfl rfl ⟨rfl, by decide⟩ ⟨rfl, by decide⟩) hd1 ?_
  intro g2 M2 hO2 hle2 hg2 hd2
  try simp only [go_sem, Nat.reduceEqDiff, Nat.reduceAdd, Nat.reduceBEq, ↓reduceIte]
  refine ev_bslF (w := 1) (P := SlC) (f := fun i => ((if i = 0 then some ⟨g1, 0, none⟩ else some ⟨g2, 0, none⟩ : Option Addr), 2, 2)) rfl (by omega) (cells2 rfl rfl rfl rfl rfl) hd2 ?_
  intro g3 M3 hO3 hle3 hg3 hd3
  have hr1 := (hO1.leM hle2).leM hle3
  have hr2 := hO2.leM hle3
  have n12 : (some ⟨g1, 0, none⟩ : Option Addr) ≠ some ⟨g2, 0, none⟩ := hO1.fresh hg2
  have n13 : (some ⟨g1, 0, none⟩ : Option Addr) ≠ some ⟨g3, 0, none⟩ := (hO1.leM hle2).fresh hg3
  have n23 : (some ⟨g2, 0, none⟩ : Option Addr) ≠ some ⟨g3, 0, none⟩ := hO2.fresh hg3
  have hO : MatO 1 StrC 9 70 H M3 (some ⟨g3, 0, none⟩) 2 2 (fun i => if i = 0 then some ⟨g1, 0, none⟩ else some ⟨g2, 0, none⟩) (fun _ => 2) (rect 2 alT) := by
    refine ⟨hO3, fun i hi => ?_, fun i hi => ?_, fun i j hi hj hij => ?_⟩
    · have : i = 0 ∨ i = 1 := by omega
      rcases this with rfl | rfl
      · exact hr1
      · exact hr2
    · have : i = 0 ∨ i = 1 := by omega
      rcases this with rfl | rfl
      · exact .inr n13
      · exact .inr n23
    · have : (i = 0 ∧ j = 1) ∨ (i = 1 ∧ j = 0) := by omega
      rcases this with ⟨rfl, rfl⟩ | ⟨rfl, rfl⟩
      · exact .inr n12
      · exact .inr n12.symm
  have hM := hO.mat StrC.grows hd3
  try simp only [go_sem, Nat.reduceEqDiff, Nat.reduceAdd, Nat.reduceBEq, ↓reduceIte]
  refine ev_callA (parseM_ok _ _ 2 2 _ hM (by decide)) ?_
  rintro v H4 hle4 hp
  rcases hp with ⟨h, _⟩ | ⟨_, h, _⟩ | ⟨_, _, A, c, rfl, hM4⟩
  · rw [al_ev] at h; cases h
  · exact absurd al_p h
  · clear hM hO hr1 hr2
    have hsq : sqB 2 (rect 2 (prs (rect 2 alT))) = true := by decide
    obtain ⟨b, off, rfl⟩ := hM4.base (by decide)
    try simp only [go_sem, Nat.reduceEqDiff, Nat.reduceAdd, Nat.reduceBEq, ↓reduceIte]
    first | refine ev_call (det_ok _ _ 2 c (rect 2 (prs (rect 2 alT))) hM4 (by decide) (fun _ => by decide) (fun _ => al_bnd)) ?_ | refine ev_callP (det_ok _ _ 2 c (rect 2 (prs (rect 2 alT))) hM4 (by decide) (fun _ => by decide) (fun _ => al_bnd)) ?_
    rintro v_1 H_1 le_1 ⟨w, rfl, h5⟩ _
    try simp only [go_sem, Nat.reduceEqDiff, Nat.reduceAdd, Nat.reduceBEq, ↓reduceIte]
    have hM4 := MatH.le RatC.grows hM4 (by assumption)
    rw [hsq, if_pos rfl, al_det] at h5
    rw [hsq]
    obtain ⟨A5, l5, c5, t5, B5, m5, e5, rfl⟩ := h5.form
    try simp only [go_sem, Nat.reduceEqDiff, Nat.reduceAdd, Nat.reduceBEq, ↓reduceIte]
    refine ev_pos (by trivial) ?_
    try simp only [go_sem, Nat.reduceEqDiff, Nat.reduceAdd, Nat.reduceBEq, ↓reduceIte]
    refine ev_pos (by trivial) ?_
    try simp only [go_sem, Nat.reduceEqDiff, Nat.reduceAdd, Nat.reduceBEq, ↓reduceIte]
    refine ev_ia rfl (by decide) (by decide) ?_
    try simp only [go_sem, Nat.reduceEqDiff, Nat.reduceAdd, Nat.reduceBEq, ↓reduceIte]
    refine ev_ldRow0 hM4 (by decide) ?_
    intro A6 q6 ha6
    try simp only [go_sem, Nat.reduceEqDiff, Nat.reduceAdd, Nat.reduceBEq, ↓reduceIte]
    refine ev_pos (by trivial) ?_
    try simp only [go_sem, Nat.reduceEqDiff, Nat.reduceAdd, Nat.reduceBEq, ↓reduceIte]
    first | refine ev_call (rtext_ok' _ _ _ h5 (by decide +kernel)) ?_ | refine ev_callP (rtext_ok' _ _ _ h5 (by decide +kernel)) ?_
    rintro v_2 H_2 le_2 rfl _
    try simp only [go_sem, Nat.reduceEqDiff, Nat.reduceAdd, Nat.reduceBEq, ↓reduceIte]
    rw [al_tx]
    refine ev_pos (by trivial) ?_
    try simp only [go_sem, Nat.reduceEqDiff, Nat.reduceAdd, Nat.reduceBEq, ↓reduceIte]
    exact ⟨by trivial, by trivial⟩

theorem isM_ok (H : PH) (A B : Option Addr) (n c e : Nat) (S : Nat → Rw Rat) (hA : MatH 3 RatC H A n S) (hB : MatH 3 RRatC H B n S) (hn : n ≤ 1000) (hr : ∀ i, i < n → (S i).1 ≤ 1000) (hb : ∀ i, i < n → ∀ k, k < (S i).1 → br ((S i).2 k) ≤ 4294967000) :
    FnP Tryz.prog 14 [.slice A n c, .slice B n e] H fun v _ => v = .bool true := by
  refine of_cincturelaw11_Is (by simp) ?_
  try simp only [go_sem, Nat.reduceEqDiff, Nat.reduceAdd, Nat.reduceBEq, ↓reduceIte, p_cincturelaw11_Is]
  first | refine ev_call (plainM_ok _ A n c S hA hn hr hb) ?_ | refine ev_callP (plainM_ok _ A n c S hA hn hr hb) ?_
  rintro v_3 H_3 le_3 ⟨A1, c1, rfl, h1⟩ _
  try simp only [go_sem, Nat.reduceEqDiff, Nat.reduceAdd, Nat.reduceBEq, ↓reduceIte]
  have hB := MatH.le RRatC.grows hB (by assumption)
  try simp only [go_sem, Nat.reduceEqDiff, Nat.reduceAdd, Nat.reduceBEq, ↓reduceIte]
  first | refine ev_call (plainMR_ok _ B n e S hB hn hr hb) ?_ | refine ev_callP (plainMR_ok _ B n e S hB hn hr hb) ?_
  rintro v_4 H_4 le_4 ⟨A2, c2, rfl, h2⟩ _
  try simp only [go_sem, Nat.reduceEqDiff, Nat.reduceAdd, Nat.reduceBEq, ↓reduceIte]
  have h1 := MatH.le StrC.grows h1 (by assumption)
  try simp only [go_sem, Nat.reduceEqDiff, Nat.reduceAdd, Nat.reduceBEq, ↓reduceIte]
  first | refine ev_call (sameRows_ok _ A1 A2 n n c1 c2 (txR S) (txR S) h1 h2 (by omega) (fun i hi => by have := hr i hi; show (S i).1 ≤ _; omega) ⟨rfl, fun i hi => ⟨rfl, fun k hk => rfl⟩⟩) ?_ | refine ev_callP (sameRows_ok _ A1 A2 n n c1 c2 (txR S) (txR S) h1 h2 (by omega) (fun i hi => by have := hr i hi; show (S i).1 ≤ _; omega) ⟨rfl, fun i hi => ⟨rfl, fun k hk => rfl⟩⟩) ?_
  rintro v_5 H_5 le_5 rfl _
  try simp only [go_sem, Nat.reduceEqDiff, Nat.reduceAdd, Nat.reduceBEq, ↓reduceIte]
  exact ⟨by trivial, by trivial⟩

end Go.Proofs.YtccdhgjfcgfgoaaGreat.X
set_option linter.unusedVariables false
set_option linter.unusedSimpArgs false
namespace Go.Proofs.YtccdhgjfcgfgoaaGreat.X
open Go Go.RowKit Go.Proofs

/-- all that stands in a world -/
def whole (W : World) : PH := fun b => W.heap[b]?
theorem whole_on (W : World) : (whole W).on W := fun b o h => h
theorem arr_cells {α : Type} {P : PH → List Value → α → Prop} {W : World} {a : Addr} {L : Nat} {V : Nat → Value} {f : Nat → α} (hc : ∀ i, i < L → W.cell? (a.add i) = some (V i)) (h1 : ∀ i, i < L → (V i).oneCell' = true) (hP : ∀ i, i < L → P (whole W) [V i] (f i)) : ArrF 1 P (whole W) (some a) L f := by
  by_cases h0 : L = 0
  · exact .inl h0
  · obtain ⟨b, off, spot⟩ := a
    have hc0 := hc 0 (by omega)
    have e0 : (⟨b, off, spot⟩ : Addr).add 0 = ⟨b, off, spot⟩ := by unfold Addr.add; rw [if_pos rfl]
    rw [e0] at hc0
    unfold World.cell? at hc0
    cases hw : W.heap[b]? with
    | none => simp only [hw] at hc0; cases hc0
    | some o =>
      cases o with
      | cells cs T fz =>
        simp only [hw] at hc0
        cases spot with
        | some x => simp at hc0
        | none =>
          refine .inr ⟨b, off, cs, T, fz, rfl, hw, fun i hi => ⟨[V i], ?_, fun u hu => by rw [List.mem_singleton.1 hu]; exact h1 i hi, hP i hi⟩⟩
          have hci := hc i hi
          rw [addr_add] at hci
          unfold World.cell? at hci
          simp only [hw] at hci
          have hci' : cs[off + i]? = some (V i) := by simpa using hci
          have hlt : off + i < cs.size := (Array.getElem?_eq_some_iff.1 hci').1
          rw [Nat.mul_one, takeN_of _ _ (by rw [List.length_drop, Array.length_toList]; omega), List.take_one, List.head?_drop]
          rw [← Array.getElem?_toList] at hci'
          rw [hci']
          rfl
      | _ => simp only [hw] at hc0; cases hc0

theorem open_rows {Hh : Type} {enc : TypeId × Value → Hh} {P : Program} {W : World} {base : Nat} {held : Bool} {t e q : TypeId} {fuel : Nat} {cs : List Value} {x : DataW Hh × List MemPlace} (ht : P.underlying t = some (.slice e)) (he : P.underlying e = some (.slice q)) (hq : P.underlying q = some .string)
    (ce : P.cellsOf e = 1) (cq : P.cellsOf q = 1) (h : DataW.trod enc P W base (fun _ => true) held fuel t cs = some x) :
    ∃ A n c R, cs = [.slice A n c] ∧ MatH 1 StrC (whole W) A n R ∧ n ≤ 9223372036854775807 ∧ ∀ i, i < n → (R i).1 ≤ 9223372036854775807 := by
  rcases Deep.open_slice1 ht ce h with ⟨rfl, _⟩ | ⟨a, len, cap, m, n, V, D, Pl, rfl, hb, hl, hm, hmm, _, hx⟩
  · exact ⟨none, 0, 0, fun _ => (0, fun _ => ByteArray.empty), rfl, .inl rfl, by decide, fun i hi => by omega⟩
  · simp only [if_true] at hmm
    subst hmm
    have each : ∀ i, i < len → ∃ y : (Option Addr × Nat) × Rw ByteArray, V i = .slice y.1.1 y.2.1 y.1.2 ∧ ArrF 1 StrC (whole W) y.1.1 y.2.1 y.2.2 ∧ y.2.1 ≤ 9223372036854775807 := by
      intro i hi
      rcases Deep.open_strs he hq cq (hx i (by omega)).2 with ⟨hcs, _⟩ | ⟨a', len', cap', m', Sx, hcs, _, hl', hm', hmm', _, hcell⟩
      · exact ⟨((none, 0), (0, fun _ => ByteArray.empty)), by simpa using hcs, .inl rfl, by decide⟩
      · simp only [if_true] at hmm'
        subst hmm'
        refine ⟨((some a', m'), (len', Sx)), by simpa using hcs, ?_, ?_⟩
        · exact arr_cells (V := fun i => .string (Sx i)) (fun j hj => (hcell j (Nat.lt_of_lt_of_le hj hl')).1) (fun _ _ => rfl) (fun j hj => ⟨rfl, (hcell j (Nat.lt_of_lt_of_le hj hl')).2⟩)
        · have : m' ≤ 9223372036854775807 := hm'
          show len' ≤ _
          omega
    haveI : Inhabited ((Option Addr × Nat) × Rw ByteArray) := ⟨((none, 0), (0, fun _ => ByteArray.empty))⟩
    obtain ⟨y, hy⟩ := Deep.choose_lt each
    refine ⟨some a, len, m, fun i => (y i).2, rfl, ?_, ?_, fun i hi => (hy i hi).2.2⟩
    · exact arr_cells (V := V) (fun i hi => (hx i (by omega)).1) (fun i hi => by rw [(hy i hi).1]; rfl) (fun i hi => ⟨(y i).1.1, (y i).1.2, by rw [(hy i hi).1], (hy i hi).2.1⟩)
    · have : m ≤ 9223372036854775807 := hm
      omega

/-- what a contract over all that stands gives a row -/
theorem of_fnW {f : Nat} {vs : List Value} (W : World) (h : FnP Tryz.prog f vs (whole W) fun v _ => v = .bool true) : Calls Tryz.prog f vs.toArray W fun e W' => e = .returned (.bool true) ∧ Below W.heap.size W W' := by
  refine (h W (whole_on W) (fun b o hb => by cases hb) (PH.disj_no _)).mono ?_
  rintro e W' ⟨v, H', M', rfl, st, _, _, _, _, _, _, _, rfl⟩
  exact ⟨rfl, ⟨st.os, st.tape, st.output, st.size, fun b hb => st.block b hb rfl⟩⟩

end Go.Proofs.YtccdhgjfcgfgoaaGreat.X
set_option linter.unusedVariables false
set_option linter.unusedSimpArgs false
namespace Go.Proofs.YtccdhgjfcgfgoaaGreat.X
open Go Go.RowKit Go.Proofs

/-- the numbers among the first k texts of a row, none too long -/
def rwL (r : Rw ByteArray) : Nat → List Rat
  | 0 => []
  | k + 1 => rwL r k ++ (if qok (r.2 k) = true ∧ (r.2 k).size ≤ 20 then [rv (bs (r.2 k))] else [])
theorem rwL_len (r : Rw ByteArray) : ∀ k, (rwL r k).length ≤ k
  | 0 => by simp [rwL]
  | k + 1 => by
    have := rwL_len r k
    unfold rwL
    rw [List.length_append]
    split <;> simp <;> omega
theorem rwL_br (r : Rw ByteArray) : ∀ k, ∀ q ∈ rwL r k, br q ≤ 81
  | 0, q, h => by simp [rwL] at h
  | k + 1, q, h => by
    unfold rwL at h
    rcases List.mem_append.1 h with h | h
    · exact rwL_br r k q h
    · split at h
      · rename_i h1
        rw [List.mem_singleton.1 h]
        have h2 := rv_br ((qok_br h1.1).2.2)
        rw [bs_length] at h2
        omega
      · simp at h
/-- rows of numbers, of rows of texts -/
def rawR (R : Nat → Rw ByteArray) : Nat → Rw Rat := fun i => ((rwL (R i) (min (R i).1 5)).length, fun k => (rwL (R i) (min (R i).1 5)).getD k 0)
theorem rawR_br (R : Nat → Rw ByteArray) (i k : Nat) (hk : k < (rawR R i).1) : br ((rawR R i).2 k) ≤ 81 := by
  have hk' : k < (rwL (R i) (min (R i).1 5)).length := hk
  show br ((rwL (R i) (min (R i).1 5)).getD k 0) ≤ 81
  have e : (rwL (R i) (min (R i).1 5)).getD k 0 = (rwL (R i) (min (R i).1 5))[k] := by simp [List.getD, hk']
  rw [e]
  exact rwL_br _ _ _ (List.getElem_mem _)

end Go.Proofs.YtccdhgjfcgfgoaaGreat.X
set_option linter.unusedVariables false
set_option linter.unusedSimpArgs false
namespace Go.Proofs.YtccdhgjfcgfgoaaGreat.X
open Go Go.RowKit Go.Proofs

/-- two places are not one -/
def Far (A B : Option Addr) : Prop := A = none ∨ B = none ∨ A ≠ B
theorem Far.symm {A B : Option Addr} (h : Far A B) : Far B A := by
  rcases h with h | h | h
  · exact .inr (.inl h)
  · exact .inl h
  · exact .inr (.inr fun e => h e.symm)
theorem Far.l {A B : Option Addr} (h : Far A B) : A = none ∨ A ≠ B := by
  rcases h with h | h | h
  · exact .inl h
  · cases A with
    | none => exact .inl rfl
    | some x => exact .inr (by rw [h]; simp)
  · exact .inr h
theorem New.far {M : PH} {A B : Option Addr} (h : New M B) (k : A = none ∨ ∃ b o, A = some ⟨b, 0, none⟩ ∧ M b = some o) : Far B A := by
  rcases h.ne k with h | h
  · exact .inr (.inl h)
  · exact .inr (.inr h)
theorem Far.app {M : PH} {A A' B : Option Addr} (h : Far A B) (hA : A' = A ∨ ∀ b o, M b = some o → A' ≠ some ⟨b, 0, none⟩) (k : B = none ∨ ∃ b o, B = some ⟨b, 0, none⟩ ∧ M b = some o) : Far A' B := by
  rcases hA with rfl | hA
  · exact h
  · exact New.far hA k

section
variable {α : Type} {w : Nat} {P Q : PH → List Value → α → Prop} {T : TypeId} {H H' M M' : PH} {A B : Option Addr} {n c : Nat} {f : Nat → α}
theorem OwnF.as (h : OwnF w P T H M A n f c) (k : ∀ us i, i < n → P H us (f i) → Q H' us (f i)) : OwnF w Q T H' M A n f c := by
  rcases h with h | ⟨g, cs, h1, h2, h3, h4, h5, h6⟩
  · exact .inl h
  · refine .inr ⟨g, cs, h1, h2, h3, h4, h5, fun i hi => ?_⟩
    obtain ⟨us, k1, k2, k3⟩ := h6 i hi
    exact ⟨us, k1, k2, k us i hi k3⟩

open Classical in
/-- blocks of one's own that are left to stand -/
noncomputable def PH.gave (S : Nat → Prop) (H M : PH) : PH := fun b => if S b then H.join M b else H b
open Classical in
/-- what is still one's own -/
noncomputable def PH.kept (S : Nat → Prop) (M : PH) : PH := fun b => if S b then none else M b
theorem PH.gave_le (S : Nat → Prop) : H.le (PH.gave S H M) := by
  intro b o hb
  unfold PH.gave
  split
  · exact PH.le_join H M b o hb
  · exact hb
theorem PH.gave_or (S : Nat → Prop) : ∀ b o, PH.gave S H M b = some o → H b = some o ∨ M b = some o := by
  intro b o hb
  unfold PH.gave at hb
  split at hb
  · unfold PH.join at hb
    cases h : H b with
    | some x => rw [h] at hb; exact .inl hb
    | none => rw [h] at hb; exact .inr hb
  · exact .inl hb
theorem PH.kept_le (S : Nat → Prop) : (PH.kept S M).le M := by
  intro b o hb
  unfold PH.kept at hb
  split at hb
  · cases hb
  · exact hb
theorem PH.gave_disj (S : Nat → Prop) (hd : PH.disj H M) : PH.disj (PH.gave S H M) (PH.kept S M) := by
  intro b o hb
  unfold PH.kept
  split
  · rfl
  · rename_i h
    unfold PH.gave at hb
    rw [if_neg h] at hb
    exact hd b o hb
theorem PH.gave_at {S : Nat → Prop} (hd : PH.disj H M) {b : Nat} {o : Obj} (hb : M b = some o) (hS : S b) : PH.gave S H M b = some o := by
  unfold PH.gave
  rw [if_pos hS]
  exact PH.le_joinR hd b o hb
theorem OwnF.keep {S : Nat → Prop} (h : OwnF w P T H M A n f c) (hS : ∀ b, A = some ⟨b, 0, none⟩ → ¬ S b) : OwnF w P T H (PH.kept S M) A n f c := by
  rcases h with h | ⟨g, cs, h1, h2, h3⟩
  · exact .inl h
  · refine .inr ⟨g, cs, h1, ?_, h3⟩
    unfold PH.kept
    rw [if_neg (hS g h1)]
    exact h2
theorem OwnF.give {S : Nat → Prop} (hP : Grows P) (h : OwnF w P T H M A n f c) (hd : PH.disj H M) (hS : ∀ b, A = some ⟨b, 0, none⟩ → S b) : ArrF w P (PH.gave S H M) A n f := by
  rcases h with ⟨_, h, _⟩ | ⟨g, cs, h1, h2, h3, h4, h5, h6⟩
  · exact .inl h
  · refine .inr ⟨g, 0, cs, T, _, h1, PH.gave_at hd h2 (hS g h1), fun i hi => ?_⟩
    obtain ⟨us, k1, k2, k3⟩ := h6 i hi
    exact ⟨us, by rw [Nat.zero_add]; exact k1, k2, hP _ _ _ _ k3 (PH.gave_le S)⟩
end

/-- a row that stands, or the one that is to -/
def RowN {α : Type} (w : Nat) (P : PH → List Value → α → Prop) (B : Option Addr) (r : Rw α) (c : Nat) : PH → List Value → Rw α → Prop := fun H us x => RowC w P H us x ∨ (us = [.slice B r.1 c] ∧ x = r)
theorem RowN.row {α : Type} {w : Nat} {P : PH → List Value → α → Prop} {B : Option Addr} {r x : Rw α} {c : Nat} {H H' : PH} {us : List Value} (hP : Grows P) (h : RowN w P B r c H us x) (hl : H.le H') (hB : ArrF w P H' B r.1 r.2) : RowC w P H' us x := by
  rcases h with h | ⟨h1, rfl⟩
  · exact RowC.grows hP _ _ _ _ h hl
  · exact ⟨B, c, h1, hB⟩

theorem then_getD {α : Type} (l : List α) (x d : α) (k : Nat) (hk : k < l.length + 1) : thenF l.length (fun k => l.getD k d) (fun _ => x) k = (l ++ [x]).getD k d := by
  unfold thenF
  by_cases e : k < l.length
  · rw [if_pos e]
    simp [List.getD, List.getElem?_append_left e]
  · rw [if_neg e]
    have : k = l.length := by omega
    subst this
    simp [List.getD]

theorem rawR_at {R : Nat → Rw ByteArray} {i j : Nat} (h : j = min (R i).1 5) : rawR R i = ((rwL (R i) j).length, fun k => (rwL (R i) j).getD k 0) := by
  subst h
  rfl
theorem thenF_last {α : Type} {n : Nat} {f : Nat → α} {x : α} (e : x = f n) (k : Nat) (hk : k < n + 1) : thenF n f (fun _ => x) k = f k := by
  unfold thenF
  by_cases h : k < n
  · rw [if_pos h]
  · have : k = n := by omega
    subst this
    rw [if_neg h]
    exact e

set_option maxHeartbeats 4000000 in
theorem raw_ok (H : PH) (A0 : Option Addr) (n c0 : Nat) (R : Nat → Rw ByteArray) (hM : MatH 1 StrC H A0 n R) (hn : n ≤ 9223372036854775807) (hr : ∀ i, i < n → (R i).1 ≤ 9223372036854775807) :
    FnP Tryz.prog 7 [.slice A0 n c0] H fun v H' => ∃ A c B e, v = .tuple #[.slice A (min n 5) c, .slice B (min n 5) e] ∧ MatH 3 RatC H' A (min n 5) (rawR R) ∧ MatH 3 RRatC H' B (min n 5) (rawR R) := by
  refine Fn.release (of_cincturelaw11_Raw (by simp) ?_)
  try simp only [go_sem, Nat.reduceEqDiff, Nat.reduceAdd, Nat.reduceBEq, ↓reduceIte, p_cincturelaw11_Raw]
  refine ev_loop (fun k s => ∃ (i : Nat) (H2 M2 : PH) (A B : Option Addr) (c e : Nat), k = n - i ∧ i ≤ n ∧ i ≤ 5 ∧ MatH 1 StrC H2 A0 n R ∧ PH.disj H2 M2 ∧
    OwnF 1 (RowC 3 RatC) 64 H2 M2 A i (rawR R) c ∧ OwnF 1 (RowC 3 RRatC) 58 H2 M2 B i (rawR R) e ∧ Far A B ∧
    s = ⟨[(6, .v (.int .i64 (i : Int))), (5, .v (.slice B i e)), (4, .v (.slice A i c)), (0, .v (.slice A0 n c0))], [], H2, M2⟩) n _ ⟨0, H, PH.no, none, none, 0, 0, rfl, by omega, by omega, hM, PH.disj_no _, OwnF.nil, OwnF.nil, .inl rfl, rfl⟩ sub_of ?_
  rintro k s ⟨i, H2, M2, A, B, c, e, rfl, hi, hi5, hM2, hd2, hA2, hB2, hfar, rfl⟩
  try simp only [go_sem, Nat.reduceEqDiff, Nat.reduceAdd, Nat.reduceBEq, ↓reduceIte]
  have leave : i = min n 5 → PH.disj H2 M2 → ∃ A' c' B' e', (Value.tuple #[.slice A i c, .slice B i e]) = .tuple #[.slice A' (min n 5) c', .slice B' (min n 5) e'] ∧ MatH 3 RatC (H2.join M2) A' (min n 5) (rawR R) ∧ MatH 3 RRatC (H2.join M2) B' (min n 5) (rawR R) := by
    intro h hd
    rw [← h]
    exact ⟨A, c, B, e, rfl, hA2.arr (RowC.grows RatC.grows) hd, hB2.arr (RowC.grows RRatC.grows) hd⟩
  refine ev_if (fun c1 => ?_) (fun c1 => ?_)
  · try simp only [go_sem, Nat.reduceEqDiff, Nat.reduceAdd, Nat.reduceBEq, ↓reduceIte]
    refine ev_if (fun c2 => ?_) (fun c2 => ?_)
    · clear leave
      have hri := hr i (by omega)
      obtain ⟨b, off, rfl⟩ := hM2.base (by omega)
      try simp only [go_sem, Nat.reduceEqDiff, Nat.reduceAdd, Nat.reduceBEq, ↓reduceIte]
      refine ev_loop (fun k s => ∃ (j : Nat) (H4 M4 : PH) (p q : Option Addr) (cp cq : Nat), k = (R i).1 - j ∧ j ≤ (R i).1 ∧ j ≤ 5 ∧ MatH 1 StrC H4 (some ⟨b, off, none⟩) n R ∧ PH.disj H4 M4 ∧
        OwnF 1 (RowC 3 RatC) 64 H4 M4 A i (rawR R) c ∧ OwnF 1 (RowC 3 RRatC) 58 H4 M4 B i (rawR R) e ∧
        OwnF 3 RatC 36 H4 M4 p (rwL (R i) j).length (fun k => (rwL (R i) j).getD k 0) cp ∧ OwnF 3 RRatC 43 H4 M4 q (rwL (R i) j).length (fun k => (rwL (R i) j).getD k 0) cq ∧
        Far p q ∧ Far p A ∧ Far p B ∧ Far q A ∧ Far q B ∧
        s = ⟨[(9, .v (.int .i64 (j : Int))), (8, .v (.slice q (rwL (R i) j).length cq)), (7, .v (.slice p (rwL (R i) j).length cp)), (6, .v (.int .i64 (i : Int))), (5, .v (.slice B i e)), (4, .v (.slice A i c)), (0, .v (.slice (some ⟨b, off, none⟩) n c0))], [], H4, M4⟩) (R i).1 _
        ⟨0, H2, M2, none, none, 0, 0, rfl, by omega, by omega, hM2, hd2, hA2, hB2, OwnF.nil, OwnF.nil, .inl rfl, .inl rfl, .inl rfl, .inl rfl, .inl rfl, rfl⟩ sub_of ?_
      clear hM2 hd2 hA2 hB2
      rintro k s ⟨j, H4, M4, p, q, cp, cq, rfl, hj, hj5, hM4, hd4, hA4, hB4, hp4, hq4, fpq, fpA, fpB, fqA, fqB, rfl⟩
      have hlen := rwL_len (R i) j
      try simp only [go_sem, Nat.reduceEqDiff, Nat.reduceAdd, Nat.reduceBEq, ↓reduceIte]
      refine ev_ia rfl (by omega) (by omega) ?_
      rw [Int.toNat_natCast]
      try simp only [go_sem, Nat.reduceEqDiff, Nat.reduceAdd, Nat.reduceBEq, ↓reduceIte]
      refine ev_ldRow hM4 (by omega) ?_
      intro A3 q3 ha3
      try simp only [go_sem, Nat.reduceEqDiff, Nat.reduceAdd, Nat.reduceBEq, ↓reduceIte]
      refine ev_if (fun c3 => ?_) (fun c3 => ?_)
      · try simp only [go_sem, Nat.reduceEqDiff, Nat.reduceAdd, Nat.reduceBEq, ↓reduceIte]
        refine ev_if (fun c4 => ?_) (fun c4 => ?_)
        · clear ha3
          try simp only [go_sem, Nat.reduceEqDiff, Nat.reduceAdd, Nat.reduceBEq, ↓reduceIte]
          refine ev_ia rfl (by omega) (by omega) ?_
          rw [Int.toNat_natCast]
          try simp only [go_sem, Nat.reduceEqDiff, Nat.reduceAdd, Nat.reduceBEq, ↓reduceIte]
          refine ev_ldRow hM4 (by omega) ?_
          intro A3 q3 ha3
          obtain ⟨b3, off3, rfl⟩ := ha3.base (by omega)
          try simp only [go_sem, Nat.reduceEqDiff, Nat.reduceAdd, Nat.reduceBEq, ↓reduceIte]
          refine ev_ia rfl (by omega) (by omega) ?_
          rw [Int.toNat_natCast]
          try simp only [go_sem, Nat.reduceEqDiff, Nat.reduceAdd, Nat.reduceBEq, ↓reduceIte]
          refine ev_ldF1 ha3 (by omega) ?_
          rintro u ⟨hu, hsz⟩
          injection hu with hu _
          subst hu
          try simp only [go_sem, Nat.reduceEqDiff, Nat.reduceAdd, Nat.reduceBEq, ↓reduceIte]
          first | refine ev_call (numQ_ok _ _ hsz) ?_ | refine ev_callP (numQ_ok _ _ hsz) ?_
          rintro v_1 H_1 le_1 ⟨va, ra, rfl, h5, h6⟩ _
          try simp only [go_sem, Nat.reduceEqDiff, Nat.reduceAdd, Nat.reduceBEq, ↓reduceIte]
          have hM4 := MatH.le StrC.grows hM4 (by assumption)
          have hd4 : PH.disj H_1 M4 := by assumption
          have ha3 := ArrF.le StrC.grows ha3 (by assumption)
          have hA4 := hA4.leH (RowC.grows RatC.grows) (by assumption)
          have hB4 := hB4.leH (RowC.grows RRatC.grows) (by assumption)
          have hp4 := hp4.leH RatC.grows (by assumption)
          have hq4 := hq4.leH RRatC.grows (by assumption)
          obtain ⟨A5, l5, c5, b5, B5, m5, e5, rfl⟩ := h5.form
          obtain ⟨b6, A6, l6, c6, B6, m6, e6, rfl⟩ := h6.form
          cases hk : qok ((R i).2 j) with
          | false =>
            have hno : ¬ (qok ((R i).2 j) = true ∧ ((R i).2 j).size ≤ 20) := by rw [hk]; simp
            try simp only [go_sem, Nat.reduceEqDiff, Nat.reduceAdd, Nat.reduceBEq, ↓reduceIte, hk]
            have hsk : rwL (R i) (j + 1) = rwL (R i) j := by
              show rwL (R i) j ++ _ = _
              rw [if_neg hno, List.append_nil]
            try simp only [go_sem, Nat.reduceEqDiff, Nat.reduceAdd, Nat.reduceBEq, ↓reduceIte]
            rw [w64 ((j : Int) + 1) (by omega) (by omega), show (j : Int) + 1 = ((j + 1 : Nat) : Int) by omega]
            rw [← hsk] at hp4 hq4 ⊢
            exact k_next ((R i).1 - (j + 1)) _ (by omega) ⟨j + 1, _, M4, p, q, cp, cq, rfl, by omega, by omega, hM4, by assumption, hA4, hB4, hp4, hq4, fpq, fpA, fpB, fqA, fqB, rfl⟩ sub_of
          | true =>
            rw [hk, if_pos rfl] at h5 h6
            try simp only [go_sem, Nat.reduceEqDiff, Nat.reduceAdd, Nat.reduceBEq, ↓reduceIte, hk]
            refine ev_ia rfl (by omega) (by omega) ?_
            rw [Int.toNat_natCast]
            try simp only [go_sem, Nat.reduceEqDiff, Nat.reduceAdd, Nat.reduceBEq, ↓reduceIte]
            refine ev_ldRow hM4 (by omega) ?_
            intro A7 q7 ha7
            obtain ⟨b7, off7, rfl⟩ := ha7.base (by omega)
            try simp only [go_sem, Nat.reduceEqDiff, Nat.reduceAdd, Nat.reduceBEq, ↓reduceIte]
            refine ev_ia rfl (by omega) (by omega) ?_
            rw [Int.toNat_natCast]
            try simp only [go_sem, Nat.reduceEqDiff, Nat.reduceAdd, Nat.reduceBEq, ↓reduceIte]
            refine ev_ldF1 ha7 (by omega) ?_
            rintro u ⟨hu, hsz⟩
            injection hu with hu _
            subst hu
            try simp only [go_sem, Nat.reduceEqDiff, Nat.reduceAdd, Nat.reduceBEq, ↓reduceIte]
            refine ev_if (fun c5 => ?_) (fun c5 => ?_)
            · have hyes : qok ((R i).2 j) = true ∧ ((R i).2 j).size ≤ 20 := ⟨hk, by omega⟩
              have hlen' := rwL_len (R i) (j + 1)
              have hsy : rwL (R i) (j + 1) = rwL (R i) j ++ [rv (bs ((R i).2 j))] := by
                show rwL (R i) j ++ _ = _
                rw [if_pos hyes]
              try simp only [go_sem, Nat.reduceEqDiff, Nat.reduceAdd, Nat.reduceBEq, ↓reduceIte]
              refine ev_cut (fun s => ∃ (M5 : PH) (p q : Option Addr) (cp cq L : Nat), L = (rwL (R i) (j + 1)).length ∧ PH.disj H_1 M5 ∧ OwnF 1 (RowC 3 RatC) 64 H_1 M5 A i (rawR R) c ∧ OwnF 1 (RowC 3 RRatC) 58 H_1 M5 B i (rawR R) e ∧
                OwnF 3 RatC 36 H_1 M5 p L (fun k => (rwL (R i) (j + 1)).getD k 0) cp ∧ OwnF 3 RRatC 43 H_1 M5 q L (fun k => (rwL (R i) (j + 1)).getD k 0) cq ∧
                Far p q ∧ Far p A ∧ Far p B ∧ Far q A ∧ Far q B ∧
                s = ⟨[(9, .v (.int .i64 (j : Int))), (8, .v (.slice q L cq)), (7, .v (.slice p L cp)), (6, .v (.int .i64 (i : Int))), (5, .v (.slice B i e)), (4, .v (.slice A i c)), (0, .v (.slice (some ⟨b, off, none⟩) n c0))], [], H_1, M5⟩) ?_ ?_
              · try simp only [go_sem, Nat.reduceEqDiff, Nat.reduceAdd, Nat.reduceBEq, ↓reduceIte]
                refine ⟨?_, ?_⟩
                · skip
                  refine ev_bslF (w := 3) (P := RatC) (f := fun _ => rv (bs ((R i).2 j))) rfl (by omega) (one_cells rfl rfl (by simp [Value.oneCell']) h5) hd4 ?_
                  intro g62 M62 h62 hle hg62 hd
                  replace hA4 := hA4.leM hle
                  replace hB4 := hB4.leM hle
                  replace hp4 := hp4.leM hle
                  replace hq4 := hq4.leM hle
                  try replace h66 := h66.leM hle
                  replace hd4 := hd
                  clear hle hg62 hd
                  try simp only [go_sem, Nat.reduceEqDiff, Nat.reduceAdd, Nat.reduceBEq, ↓reduceIte]
                  refine ⟨?_, ?_⟩
                  · skip
                    refine ev_appF (by decide) hp4 (h62.src (by decide)) rfl (by decide) (by omega) (by omega) hd4 ?_
                    intro p' cp' M' hp' hb hn hd'
                    have n1 := fpA.app hn hA4.live
                    have n2 := fpB.app hn hB4.live
                    have n3 := fpq.app hn hq4.live
                    replace hA4 := hA4.but hb fpA.symm.l
                    replace hB4 := hB4.but hb fpB.symm.l
                    replace hq4 := hq4.but hb fpq.symm.l
                    try replace h66 := h66.but hb (.inr f66)
                    replace hp4 := hp'
                    replace fpA := n1
                    replace fpB := n2
                    replace fpq := n3
                    replace hd4 := hd'
                    clear n1 n2 n3 hp' hb hn hd' h62
                    try simp only [go_sem, Nat.reduceEqDiff, Nat.reduceAdd, Nat.reduceBEq, ↓reduceIte]
                    refine ev_bslF (w := 3) (P := RRatC) (f := fun _ => rv (bs ((R i).2 j))) rfl (by omega) (one_cells rfl rfl (by simp [Value.oneCell']) h6) hd4 ?_
                    intro g66 M66 h66 hle hg66 hd
                    have f66 : (some ⟨g66, 0, none⟩ : Option Addr) ≠ _ := fun e => hp4.fresh hg66 e.symm
                    replace hA4 := hA4.leM hle
                    replace hB4 := hB4.leM hle
                    replace hp4 := hp4.leM hle
                    replace hq4 := hq4.leM hle
                    try replace h62 := h62.leM hle
                    replace hd4 := hd
                    clear hle hg66 hd
                    try simp only [go_sem, Nat.reduceEqDiff, Nat.reduceAdd, Nat.reduceBEq, ↓reduceIte]
                    refine ev_appF (by decide) hq4 (h66.src (by decide)) rfl (by decide) (by omega) (by omega) hd4 ?_
                    intro q' cq' M' hq' hb hn hd'
                    have n1 := fqA.app hn hA4.live
                    have n2 := fqB.app hn hB4.live
                    have n3 := (fpq.symm.app hn hp4.live).symm
                    replace hA4 := hA4.but hb fqA.symm.l
                    replace hB4 := hB4.but hb fqB.symm.l
                    replace hp4 := hp4.but hb fpq.l
                    replace hq4 := hq'
                    replace fqA := n1
                    replace fqB := n2
                    replace fpq := n3
                    replace hd4 := hd'
                    clear n1 n2 n3 hq' hb hn hd' h66
                    try simp only [go_sem, Nat.reduceEqDiff, Nat.reduceAdd, Nat.reduceBEq, ↓reduceIte]
                    have z : ∀ k, k < (rwL (R i) j).length + 1 → thenF (rwL (R i) j).length (fun k => (rwL (R i) j).getD k 0) (fun _ => rv (bs ((R i).2 j))) k = (rwL (R i) (j + 1)).getD k 0 := fun k hk => by rw [hsy]; exact then_getD _ _ _ _ hk
                    exact k_cut _ ⟨_, _, _, _, _, _, by rw [hsy]; simp, hd4, hA4, hB4, hp4.congr z, hq4.congr z, fpq, fpA, fpB, fqA, fqB, rfl⟩ sub_of
                  · skip
                    refine ev_bslF (w := 3) (P := RRatC) (f := fun _ => rv (bs ((R i).2 j))) rfl (by omega) (one_cells rfl rfl (by simp [Value.oneCell']) h6) hd4 ?_
                    intro g66 M66 h66 hle hg66 hd
                    have f66 : (some ⟨g66, 0, none⟩ : Option Addr) ≠ _ := fun e => hp4.fresh hg66 e.symm
                    replace hA4 := hA4.leM hle
                    replace hB4 := hB4.leM hle
                    replace hp4 := hp4.leM hle
                    replace hq4 := hq4.leM hle
                    try replace h62 := h62.leM hle
                    replace hd4 := hd
                    clear hle hg66 hd
                    try simp only [go_sem, Nat.reduceEqDiff, Nat.reduceAdd, Nat.reduceBEq, ↓reduceIte]
                    refine ev_appF (by decide) hp4 (h62.src (by decide)) rfl (by decide) (by omega) (by omega) hd4 ?_
                    intro p' cp' M' hp' hb hn hd'
                    have n1 := fpA.app hn hA4.live
                    have n2 := fpB.app hn hB4.live
                    have n3 := fpq.app hn hq4.live
                    replace hA4 := hA4.but hb fpA.symm.l
                    replace hB4 := hB4.but hb fpB.symm.l
                    replace hq4 := hq4.but hb fpq.symm.l
                    try replace h66 := h66.but hb (.inr f66)
                    replace hp4 := hp'
                    replace fpA := n1
                    replace fpB := n2
                    replace fpq := n3
                    replace hd4 := hd'
                    clear n1 n2 n3 hp' hb hn hd' h62
                    try simp only [go_sem, Nat.reduceEqDiff, Nat.reduceAdd, Nat.reduceBEq, ↓reduceIte]
                    refine ev_appF (by decide) hq4 (h66.src (by decide)) rfl (by decide) (by omega) (by omega) hd4 ?_
                    intro q' cq' M' hq' hb hn hd'
                    have n1 := fqA.app hn hA4.live
                    have n2 := fqB.app hn hB4.live
                    have n3 := (fpq.symm.app hn hp4.live).symm
                    replace hA4 := hA4.but hb fqA.symm.l
                    replace hB4 := hB4.but hb fqB.symm.l
                    replace hp4 := hp4.but hb fpq.l
                    replace hq4 := hq'
                    replace fqA := n1
                    replace fqB := n2
                    replace fpq := n3
                    replace hd4 := hd'
                    clear n1 n2 n3 hq' hb hn hd' h66
                    try simp only [go_sem, Nat.reduceEqDiff, Nat.reduceAdd, Nat.reduceBEq, ↓reduceIte]
                    have z : ∀ k, k < (rwL (R i) j).length + 1 → thenF (rwL (R i) j).length (fun k => (rwL (R i) j).getD k 0) (fun _ => rv (bs ((R i).2 j))) k = (rwL (R i) (j + 1)).getD k 0 := fun k hk => by rw [hsy]; exact then_getD _ _ _ _ hk
                    exact k_cut _ ⟨_, _, _, _, _, _, by rw [hsy]; simp, hd4, hA4, hB4, hp4.congr z, hq4.congr z, fpq, fpA, fpB, fqA, fqB, rfl⟩ sub_of
                · skip
                  refine ev_bslF (w := 3) (P := RRatC) (f := fun _ => rv (bs ((R i).2 j))) rfl (by omega) (one_cells rfl rfl (by simp [Value.oneCell']) h6) hd4 ?_
                  intro g66 M66 h66 hle hg66 hd
                  have f66 : (some ⟨g66, 0, none⟩ : Option Addr) ≠ _ := fun e => hp4.fresh hg66 e.symm
                  replace hA4 := hA4.leM hle
                  replace hB4 := hB4.leM hle
                  replace hp4 := hp4.leM hle
                  replace hq4 := hq4.leM hle
                  try replace h62 := h62.leM hle
                  replace hd4 := hd
                  clear hle hg66 hd
                  try simp only [go_sem, Nat.reduceEqDiff, Nat.reduceAdd, Nat.reduceBEq, ↓reduceIte]
                  refine ev_bslF (w := 3) (P := RatC) (f := fun _ => rv (bs ((R i).2 j))) rfl (by omega) (one_cells rfl rfl (by simp [Value.oneCell']) h5) hd4 ?_
                  intro g62 M62 h62 hle hg62 hd
                  replace hA4 := hA4.leM hle
                  replace hB4 := hB4.leM hle
                  replace hp4 := hp4.leM hle
                  replace hq4 := hq4.leM hle
                  try replace h66 := h66.leM hle
                  replace hd4 := hd
                  clear hle hg62 hd
                  try simp only [go_sem, Nat.reduceEqDiff, Nat.reduceAdd, Nat.reduceBEq, ↓reduceIte]
                  refine ev_appF (by decide) hp4 (h62.src (by decide)) rfl (by decide) (by omega) (by omega) hd4 ?_
                  intro p' cp' M' hp' hb hn hd'
                  have n1 := fpA.app hn hA4.live
                  have n2 := fpB.app hn hB4.live
                  have n3 := fpq.app hn hq4.live
                  replace hA4 := hA4.but hb fpA.symm.l
                  replace hB4 := hB4.but hb fpB.symm.l
                  replace hq4 := hq4.but hb fpq.symm.l
                  try replace h66 := h66.but hb (.inr f66)
                  replace hp4 := hp'
                  replace fpA := n1
                  replace fpB := n2
                  replace fpq := n3
                  replace hd4 := hd'
                  clear n1 n2 n3 hp' hb hn hd' h62
                  try simp only [go_sem, Nat.reduceEqDiff, Nat.reduceAdd, Nat.reduceBEq, ↓reduceIte]
                  refine ev_appF (by decide) hq4 (h66.src (by decide)) rfl (by decide) (by omega) (by omega) hd4 ?_
                  intro q' cq' M' hq' hb hn hd'
                  have n1 := fqA.app hn hA4.live
                  have n2 := fqB.app hn hB4.live
                  have n3 := (fpq.symm.app hn hp4.live).symm
                  replace hA4 := hA4.but hb fqA.symm.l
                  replace hB4 := hB4.but hb fqB.symm.l
                  replace hp4 := hp4.but hb fpq.l
                  replace hq4 := hq'
                  replace fqA := n1
                  replace fqB := n2
                  replace fpq := n3
                  replace hd4 := hd'
                  clear n1 n2 n3 hq' hb hn hd' h66
                  try simp only [go_sem, Nat.reduceEqDiff, Nat.reduceAdd, Nat.reduceBEq, ↓reduceIte]
                  have z : ∀ k, k < (rwL (R i) j).length + 1 → thenF (rwL (R i) j).length (fun k => (rwL (R i) j).getD k 0) (fun _ => rv (bs ((R i).2 j))) k = (rwL (R i) (j + 1)).getD k 0 := fun k hk => by rw [hsy]; exact then_getD _ _ _ _ hk
                  exact k_cut _ ⟨_, _, _, _, _, _, by rw [hsy]; simp, hd4, hA4, hB4, hp4.congr z, hq4.congr z, fpq, fpA, fpB, fqA, fqB, rfl⟩ sub_of
              · rintro s ⟨M5, p, q, cp, cq, L, rfl, hd4, hA4, hB4, hp4, hq4, fpq, fpA, fpB, fqA, fqB, rfl⟩
                try simp only [go_sem, Nat.reduceEqDiff, Nat.reduceAdd, Nat.reduceBEq, ↓reduceIte]
                rw [w64 ((j : Int) + 1) (by omega) (by omega), show (j : Int) + 1 = ((j + 1 : Nat) : Int) by omega]
                exact k_next ((R i).1 - (j + 1)) _ (by omega) ⟨j + 1, H_1, M5, p, q, cp, cq, rfl, by omega, by omega, hM4, hd4, hA4, hB4, hp4, hq4, fpq, fpA, fpB, fqA, fqB, rfl⟩ sub_of
            · have hno : ¬ (qok ((R i).2 j) = true ∧ ((R i).2 j).size ≤ 20) := fun h => c5 (by have := h.2; omega)
              have hsk : rwL (R i) (j + 1) = rwL (R i) j := by
                show rwL (R i) j ++ _ = _
                rw [if_neg hno, List.append_nil]
              try simp only [go_sem, Nat.reduceEqDiff, Nat.reduceAdd, Nat.reduceBEq, ↓reduceIte]
              rw [w64 ((j : Int) + 1) (by omega) (by omega), show (j : Int) + 1 = ((j + 1 : Nat) : Int) by omega]
              rw [← hsk] at hp4 hq4 ⊢
              exact k_next ((R i).1 - (j + 1)) _ (by omega) ⟨j + 1, _, M4, p, q, cp, cq, rfl, by omega, by omega, hM4, by assumption, hA4, hB4, hp4, hq4, fpq, fpA, fpB, fqA, fqB, rfl⟩ sub_of
        · skip
          have hjm : j = min (R i).1 5 := by omega
          try simp only [go_sem, Nat.reduceEqDiff, Nat.reduceAdd, Nat.reduceBEq, ↓reduceIte]
          have hx := rawR_at hjm
          generalize hL : (rwL (R i) j).length = L at *
          generalize hF : (fun k => (rwL (R i) j).getD k 0) = F at *
          refine ev_bslF (w := 1) (P := RowN 3 RatC p (L, F) cp) (f := fun _ => (L, F)) rfl (by omega) (one_cell rfl rfl (.inr ⟨rfl, rfl⟩)) hd4 ?_
          intro g5 M5 hO5 hle5 hg5 hd5
          try simp only [go_sem, Nat.reduceEqDiff, Nat.reduceAdd, Nat.reduceBEq, ↓reduceIte]
          refine ev_appF (by decide) ((hA4.as (fun us x hx h => .inl h)).leM hle5) (hO5.src (by decide)) rfl (by decide) (by omega) (by omega) hd5 ?_
          intro A' c' M6 hA6 hb6 hn6 hd6
          try simp only [go_sem, Nat.reduceEqDiff, Nat.reduceAdd, Nat.reduceBEq, ↓reduceIte]
          have hB6 := (hB4.leM hle5).but hb6 hfar.symm.l
          have hp6 := (hp4.leM hle5).but hb6 fpA.l
          have hq6 := (hq4.leM hle5).but hb6 fqA.l
          have fAB := hfar.app hn6 (hB4.leM hle5).live
          have fAp := fpA.symm.app hn6 (hp4.leM hle5).live
          have fAq := fqA.symm.app hn6 (hq4.leM hle5).live
          refine ev_bslF (w := 1) (P := RowN 3 RRatC q (L, F) cq) (f := fun _ => (L, F)) rfl (by omega) (one_cell rfl rfl (.inr ⟨rfl, rfl⟩)) hd6 ?_
          intro g7 M7 hO7 hle7 hg7 hd7
          try simp only [go_sem, Nat.reduceEqDiff, Nat.reduceAdd, Nat.reduceBEq, ↓reduceIte]
          refine ev_appF (by decide) ((hB6.as (fun us x hx h => .inl h)).leM hle7) (hO7.src (by decide)) rfl (by decide) (by omega) (by omega) hd7 ?_
          intro B' e' M8 hB8 hb8 hn8 hd8
          have hA8 := (hA6.leM hle7).but hb8 fAB.l
          have hp8 := (hp6.leM hle7).but hb8 fpB.l
          have hq8 := (hq6.leM hle7).but hb8 fqB.l
          have fBA := fAB.symm.app hn8 (hA6.leM hle7).live
          have fBp := fpB.symm.app hn8 (hp6.leM hle7).live
          have fBq := fqB.symm.app hn8 (hq6.leM hle7).live
          try simp only [go_sem, Nat.reduceEqDiff, Nat.reduceAdd, Nat.reduceBEq, ↓reduceIte]
          rw [w64 ((i : Int) + 1) (by omega) (by omega), show (i : Int) + 1 = ((i + 1 : Nat) : Int) by omega]
          let S : Nat → Prop := fun b => p = some ⟨b, 0, none⟩ ∨ q = some ⟨b, 0, none⟩
          have sp := hp8.give (S := S) RatC.grows hd8 (fun b h => .inl h)
          have sq := hq8.give (S := S) RRatC.grows hd8 (fun b h => .inr h)
          have hlg : H4.le (PH.gave S H4 M8) := PH.gave_le S
          have nS : ∀ {Z : Option Addr}, Far Z p → Far Z q → ∀ b, Z = some ⟨b, 0, none⟩ → ¬ S b := by
            intro Z h1 h2 b e h
            rcases h with h | h
            · rcases h1 with k | k | k
              · rw [k] at e; cases e
              · rw [k] at h; cases h
              · exact k (e.trans h.symm)
            · rcases h2 with k | k | k
              · rw [k] at e; cases e
              · rw [k] at h; cases h
              · exact k (e.trans h.symm)
          have tA := (hA8.as (Q := RowC 3 RatC) (H' := PH.gave S H4 M8) (fun us x _ h => RowN.row RatC.grows h hlg sp)).keep (S := S) (nS fAp fAq)
          have tB := (hB8.as (Q := RowC 3 RRatC) (H' := PH.gave S H4 M8) (fun us x _ h => RowN.row RRatC.grows h hlg sq)).keep (S := S) (nS fBp fBq)
          exact k_next (n - (i + 1)) _ (by omega) ⟨i + 1, PH.gave S H4 M8, PH.kept S M8, A', B', c', e', rfl, by omega, by omega, MatH.le StrC.grows hM4 hlg, PH.gave_disj S hd8, tA.congr (thenF_last hx.symm), tB.congr (thenF_last hx.symm), fBA.symm, rfl⟩ ⟨rfl, by simp only [go_sem, Nat.reduceEqDiff, Nat.reduceAdd, Nat.reduceBEq, ↓reduceIte, and_self, Option.some.injEq, SV.v.injEq, SV.ptr.injEq, Value.int.injEq, Value.bool.injEq, Value.slice.injEq, true_and, and_true] <;> (repeat' apply And.intro) <;> first | rfl | omega | (simp (disch := omega) only [w64, wu64, wu32, wu8] <;> omega), by simp only [go_sem, Nat.reduceEqDiff, Nat.reduceAdd, Nat.reduceBEq, ↓reduceIte, and_self, Option.some.injEq, SV.v.injEq, SV.ptr.injEq, Value.int.injEq, Value.bool.injEq, Value.slice.injEq, true_and, and_true] <;> (repeat' apply And.intro) <;> rfl, .inr (⟨hlg, PH.gave_or S, PH.kept_le S, PH.gave_disj S hd8⟩)⟩
      · skip
        have hjm : j = min (R i).1 5 := by omega
        try simp only [go_sem, Nat.reduceEqDiff, Nat.reduceAdd, Nat.reduceBEq, ↓reduceIte]
        have hx := rawR_at hjm
        generalize hL : (rwL (R i) j).length = L at *
        generalize hF : (fun k => (rwL (R i) j).getD k 0) = F at *
        refine ev_bslF (w := 1) (P := RowN 3 RatC p (L, F) cp) (f := fun _ => (L, F)) rfl (by omega) (one_cell rfl rfl (.inr ⟨rfl, rfl⟩)) hd4 ?_
        intro g5 M5 hO5 hle5 hg5 hd5
        try simp only [go_sem, Nat.reduceEqDiff, Nat.reduceAdd, Nat.reduceBEq, ↓reduceIte]
        refine ev_appF (by decide) ((hA4.as (fun us x hx h => .inl h)).leM hle5) (hO5.src (by decide)) rfl (by decide) (by omega) (by omega) hd5 ?_
        intro A' c' M6 hA6 hb6 hn6 hd6
        try simp only [go_sem, Nat.reduceEqDiff, Nat.reduceAdd, Nat.reduceBEq, ↓reduceIte]
        have hB6 := (hB4.leM hle5).but hb6 hfar.symm.l
        have hp6 := (hp4.leM hle5).but hb6 fpA.l
        have hq6 := (hq4.leM hle5).but hb6 fqA.l
        have fAB := hfar.app hn6 (hB4.leM hle5).live
        have fAp := fpA.symm.app hn6 (hp4.leM hle5).live
        have fAq := fqA.symm.app hn6 (hq4.leM hle5).live
        refine ev_bslF (w := 1) (P := RowN 3 RRatC q (L, F) cq) (f := fun _ => (L, F)) rfl (by omega) (one_cell rfl rfl (.inr ⟨rfl, rfl⟩)) hd6 ?_
        intro g7 M7 hO7 hle7 hg7 hd7
        try simp only [go_sem, Nat.reduceEqDiff, Nat.reduceAdd, Nat.reduceBEq, ↓reduceIte]
        refine ev_appF (by decide) ((hB6.as (fun us x hx h => .inl h)).leM hle7) (hO7.src (by decide)) rfl (by decide) (by omega) (by omega) hd7 ?_
        intro B' e' M8 hB8 hb8 hn8 hd8
        have hA8 := (hA6.leM hle7).but hb8 fAB.l
        have hp8 := (hp6.leM hle7).but hb8 fpB.l
        have hq8 := (hq6.leM hle7).but hb8 fqB.l
        have fBA := fAB.symm.app hn8 (hA6.leM hle7).live
        have fBp := fpB.symm.app hn8 (hp6.leM hle7).live
        have fBq := fqB.symm.app hn8 (hq6.leM hle7).live
        try simp only [go_sem, Nat.reduceEqDiff, Nat.reduceAdd, Nat.reduceBEq, ↓reduceIte]
        rw [w64 ((i : Int) + 1) (by omega) (by omega), show (i : Int) + 1 = ((i + 1 : Nat) : Int) by omega]
        let S : Nat → Prop := fun b => p = some ⟨b, 0, none⟩ ∨ q = some ⟨b, 0, none⟩
        have sp := hp8.give (S := S) RatC.grows hd8 (fun b h => .inl h)
        have sq := hq8.give (S := S) RRatC.grows hd8 (fun b h => .inr h)
        have hlg : H4.le (PH.gave S H4 M8) := PH.gave_le S
        have nS : ∀ {Z : Option Addr}, Far Z p → Far Z q → ∀ b, Z = some ⟨b, 0, none⟩ → ¬ S b := by
          intro Z h1 h2 b e h
          rcases h with h | h
          · rcases h1 with k | k | k
            · rw [k] at e; cases e
            · rw [k] at h; cases h
            · exact k (e.trans h.symm)
          · rcases h2 with k | k | k
            · rw [k] at e; cases e
            · rw [k] at h; cases h
            · exact k (e.trans h.symm)
        have tA := (hA8.as (Q := RowC 3 RatC) (H' := PH.gave S H4 M8) (fun us x _ h => RowN.row RatC.grows h hlg sp)).keep (S := S) (nS fAp fAq)
        have tB := (hB8.as (Q := RowC 3 RRatC) (H' := PH.gave S H4 M8) (fun us x _ h => RowN.row RRatC.grows h hlg sq)).keep (S := S) (nS fBp fBq)
        exact k_next (n - (i + 1)) _ (by omega) ⟨i + 1, PH.gave S H4 M8, PH.kept S M8, A', B', c', e', rfl, by omega, by omega, MatH.le StrC.grows hM4 hlg, PH.gave_disj S hd8, tA.congr (thenF_last hx.symm), tB.congr (thenF_last hx.symm), fBA.symm, rfl⟩ ⟨rfl, by simp only [go_sem, Nat.reduceEqDiff, Nat.reduceAdd, Nat.reduceBEq, ↓reduceIte, and_self, Option.some.injEq, SV.v.injEq, SV.ptr.injEq, Value.int.injEq, Value.bool.injEq, Value.slice.injEq, true_and, and_true] <;> (repeat' apply And.intro) <;> first | rfl | omega | (simp (disch := omega) only [w64, wu64, wu32, wu8] <;> omega), by simp only [go_sem, Nat.reduceEqDiff, Nat.reduceAdd, Nat.reduceBEq, ↓reduceIte, and_self, Option.some.injEq, SV.v.injEq, SV.ptr.injEq, Value.int.injEq, Value.bool.injEq, Value.slice.injEq, true_and, and_true] <;> (repeat' apply And.intro) <;> rfl, .inr (⟨hlg, PH.gave_or S, PH.kept_le S, PH.gave_disj S hd8⟩)⟩
    · have h5 : i = min n 5 := by omega
      try simp only [go_sem, Nat.reduceEqDiff, Nat.reduceAdd, Nat.reduceBEq, ↓reduceIte]
      exact leave h5
  · have h5 : i = min n 5 := by omega
    try simp only [go_sem, Nat.reduceEqDiff, Nat.reduceAdd, Nat.reduceBEq, ↓reduceIte]
    exact leave h5

end Go.Proofs.YtccdhgjfcgfgoaaGreat.X
set_option linter.unusedVariables false
set_option linter.unusedSimpArgs false
namespace Go.Proofs.YtccdhgjfcgfgoaaGreat.X
open Go Go.RowKit Go.Proofs

/-- how long a determinant's parts may be -/
def dB (L : Nat) : Nat → Nat
  | 0 => 1
  | n + 1 => (n + 1) * (L + dB L n + 6) + 1
theorem br_sgk (k : Nat) : br (Dt.sgk k) ≤ 1 := by
  unfold Dt.sgk
  split <;> decide +kernel
theorem br_det {L : Nat} : ∀ (n : Nat) (M : Nat → Nat → Rat), Bnd n L M → br (Dt.det n M) ≤ dB L n
  | 0, M, h => by show br 1 ≤ 1; decide +kernel
  | n + 1, M, h => by
    show br (Dt.sm (n + 1) fun k => Dt.sgk k * M 0 k * Dt.det n (Dt.minor M k)) ≤ (n + 1) * (L + dB L n + 6) + 1
    have := br_sm (f := fun k => Dt.sgk k * M 0 k * Dt.det n (Dt.minor M k)) (L := L + dB L n + 4) (n + 1) (fun k hk => by
      have h1 := br_sgk k
      have h2 := h 0 k (by omega) hk
      have h3 := br_det n (Dt.minor M k) (fun i s hi hs => by unfold Dt.minor; exact h (i + 1) _ (by omega) (by split <;> omega))
      have h4 := br_mul (Dt.sgk k) (M 0 k)
      have h5 := br_mul (Dt.sgk k * M 0 k) (Dt.det n (Dt.minor M k))
      show br (Dt.sgk k * M 0 k * Dt.det n (Dt.minor M k)) ≤ _
      omega)
    exact this
theorem dB_4000 : ∀ n, n < 6 → dB 4000 n ≤ 2000000 := by decide +kernel
theorem br_det' {n : Nat} {M : Nat → Nat → Rat} (hn : n ≤ 5) (h : Bnd n 4000 M) : br (Dt.det n M) ≤ 2000000 := Nat.le_trans (br_det n M h) (dB_4000 n (by omega))
theorem Bnd.mul {n : Nat} {A B : Nat → Nat → Rat} {L : Nat} (hn : n ≤ 5) (hA : Bnd n L A) (hB : Bnd n L B) : Bnd n (10 * L + 16) (Dt.mul n A B) := by
  intro i s hi hs
  have := br_sm (f := fun j => A i j * B j s) (L := 2 * L + 1) n (fun j hj => by
    have h1 := hA i j hi hj
    have h2 := hB j s hj hs
    have h3 := br_mul (A i j) (B j s)
    show br (A i j * B j s) ≤ _
    omega)
  show br (Dt.sm n fun j => A i j * B j s) ≤ _
  have h5 : n * (2 * L + 1 + 2) ≤ 5 * (2 * L + 1 + 2) := Nat.mul_le_mul_right _ hn
  omega
theorem Bnd.tr {n : Nat} {A : Nat → Nat → Rat} {L : Nat} (hA : Bnd n L A) : Bnd n L (Dt.tr A) := fun i s hi hs => hA s i hs hi
theorem raw_bnd {R : Nat → Rw ByteArray} {n : Nat} (h : sqB n (rawR R) = true) : Bnd n 81 (mx (rawR R)) := fun i s hi hs => rawR_br R i s (by rw [(sqB_of h).2.2 i hi]; exact hs)

end Go.Proofs.YtccdhgjfcgfgoaaGreat.X
set_option linter.unusedVariables false
set_option linter.unusedSimpArgs false
namespace Go.Proofs.YtccdhgjfcgfgoaaGreat.X
open Go Go.RowKit Go.Proofs

end Go.Proofs.YtccdhgjfcgfgoaaGreat.X
set_option linter.unusedVariables false
set_option linter.unusedSimpArgs false
namespace Go.Proofs.YtccdhgjfcgfgoaaGreat.X
open Go Go.RowKit Go.Proofs

def one1 (i : Nat) : Nat → Nat → Rat := fun a b => if a = b ∧ a < i then 1 else 0
/-- how great One is -/
def onN (z : Int) : Nat := (if (if z < 1 then (1 : Int) else z) > 12 then (12 : Int) else (if z < 1 then (1 : Int) else z)).toNat
theorem onN_of {n : Nat} (h1 : 1 ≤ n) (h2 : n ≤ 12) : onN (n : Int) = n := by
  unfold onN
  rw [if_neg (by omega : ¬ (n : Int) < 1), if_neg (by omega)]
  omega
theorem onN_bd (z : Int) : 1 ≤ onN z ∧ onN z ≤ 12 := by
  unfold onN
  split <;> split <;> omega
theorem mone_ok (H : PH) (z : Int) : FnP Tryz.prog 15 [.int .i64 z] H fun v H' => ∃ A e, v = .slice A (onN z) e ∧ MatH 3 RatC H' A (onN z) (rect (onN z) Dt.one) := by
  refine Fn.release (of_mat_One (by simp) ?_)
  try simp only [go_sem, Nat.reduceEqDiff, Nat.reduceAdd, Nat.reduceBEq, ↓reduceIte, p_mat_One]
  have hz : (if (12 : Int) < (if z < 1 then (1 : Int) else z) then (12 : Int) else (if z < 1 then (1 : Int) else z)) = ((onN z : Nat) : Int) := by
    have := onN_bd z
    unfold onN
    split <;> split <;> omega
  have hN := onN_bd z
  try simp only [Bool.false_eq_true, ↓reduceIte]
  rw [hz]
  generalize onN z = N at *
  try simp only [go_sem, Nat.reduceEqDiff, Nat.reduceAdd, Nat.reduceBEq, ↓reduceIte]
  refine ev_callM (none_ok _ N N (by omega) (by omega)) ?_
  rintro v H2 M2 hle2 ⟨g, ra, rfl, hO⟩ hd
  try simp only [go_sem, Nat.reduceEqDiff, Nat.reduceAdd, Nat.reduceBEq, ↓reduceIte]
  refine ev_loop (fun k s => ∃ (i : Nat) (H3 M3 : PH), k = N - i ∧ i ≤ N ∧ PH.disj H3 M3 ∧
    MatO 3 RatC 36 64 H3 M3 (some ⟨g, 0, none⟩) N N ra (fun _ => N) (rect N (one1 i)) ∧
    s = ⟨[(13, .v (.int .i64 (i : Int))), (12, .v (.int .i64 (N : Int))), (3, .v (.slice (some ⟨g, 0, none⟩) N N))], [], H3, M3⟩) N _ ⟨0, H2, M2, rfl, by omega, hd, hO.congr (fun a ha => ⟨rfl, fun b hb => by show 0 = one1 0 a b; unfold one1; rw [if_neg (by omega)]⟩), rfl⟩ sub_of ?_
  rintro k s ⟨i, H3, M3, rfl, hi, hd3, hO3, rfl⟩
  try simp only [go_sem, Nat.reduceEqDiff, Nat.reduceAdd, Nat.reduceBEq, ↓reduceIte]
  refine ev_if (fun c1 => ?_) (fun c1 => ?_)
  · have hiN : i < N := by omega
    obtain ⟨b6, hb6⟩ := hO3.base hiN (show 0 < N by omega)
    try simp only [go_sem, Nat.reduceEqDiff, Nat.reduceAdd, Nat.reduceBEq, ↓reduceIte]
    refine ev_ia rfl (by omega) (by omega) ?_
    rw [Int.toNat_natCast]
    try simp only [go_sem, Nat.reduceEqDiff, Nat.reduceAdd, Nat.reduceBEq, ↓reduceIte]
    refine ev_ldTop hO3 hiN ?_
    rw [hb6]
    try simp only [go_sem, Nat.reduceEqDiff, Nat.reduceAdd, Nat.reduceBEq, ↓reduceIte]
    first | refine ev_call (rof_ok _ 1 (by decide) (by decide)) ?_ | refine ev_callP (rof_ok _ 1 (by decide) (by decide)) ?_
    rintro v_4 H_4 le_4 h6 _
    try simp only [go_sem, Nat.reduceEqDiff, Nat.reduceAdd, Nat.reduceBEq, ↓reduceIte]
    have hO3 := hO3.leH RatC.grows (by assumption)
    obtain ⟨A9, l9, c9, b9, B9, m9, e9, rfl⟩ := h6.form
    try simp only [go_sem, Nat.reduceEqDiff, Nat.reduceAdd, Nat.reduceBEq, ↓reduceIte]
    refine ev_ia rfl (by omega) (by show (i : Int) < (N : Int); omega) ?_
    rw [Int.toNat_natCast]
    try simp only [go_sem, Nat.reduceEqDiff, Nat.reduceAdd, Nat.reduceBEq, ↓reduceIte]
    refine ev_stEl (x := (1 : Rat)) hO3 hiN hb6 hiN (by assumption) rfl (by simp [cellsL, Value.oneCell']) h6 ?_
    intro M6 hO6 hd6
    try simp only [go_sem, Nat.reduceEqDiff, Nat.reduceAdd, Nat.reduceBEq, ↓reduceIte]
    rw [w64 ((i : Int) + 1) (by omega) (by omega), show (i : Int) + 1 = ((i + 1 : Nat) : Int) by omega]
    refine k_next (N - (i + 1)) _ (by omega) ⟨i + 1, _, M6, rfl, by omega, hd6 _ (by assumption), hO6.congr (fun a ha => ?_), rfl⟩ sub_of
    unfold upM
    by_cases e : a = i
    · subst e
      rw [if_pos rfl]
      refine ⟨rfl, fun b hb => ?_⟩
      show upF (fun b => one1 a a b) a 1 b = one1 (a + 1) a b
      unfold upF one1
      by_cases e2 : b = a
      · subst e2
        rw [if_pos rfl, if_pos (by omega)]
      · rw [if_neg e2]
        try dsimp only
        rw [if_neg (by omega), if_neg (by omega)]
    · rw [if_neg e]
      refine ⟨rfl, fun b hb => ?_⟩
      show one1 i a b = one1 (i + 1) a b
      unfold one1
      by_cases e3 : a = b ∧ a < i
      · rw [if_pos e3, if_pos (by omega)]
      · rw [if_neg e3, if_neg (by omega)]
  · have hin : i = N := by omega
    subst hin
    try simp only [go_sem, Nat.reduceEqDiff, Nat.reduceAdd, Nat.reduceBEq, ↓reduceIte]
    refine fun hd => ⟨_, _, rfl, (hO3.mat RatC.grows hd).congr fun a ha => ⟨rfl, fun b hb => ?_⟩⟩
    show one1 i a b = Dt.one a b
    unfold one1 Dt.one
    by_cases e3 : a = b
    · rw [if_pos (by omega), if_pos e3]
    · rw [if_neg (by omega), if_neg e3]

end Go.Proofs.YtccdhgjfcgfgoaaGreat.X
set_option linter.unusedVariables false
set_option linter.unusedSimpArgs false
namespace Go.Proofs.YtccdhgjfcgfgoaaGreat.X
open Go Go.RowKit Go.Proofs

/-- a square one that stands -/
def SM (H : PH) (A : Option Addr) (n : Nat) (f : Nat → Nat → Rat) : Prop := MatH 3 RatC H A n (rect n f)
theorem SM.le {H H' : PH} {A : Option Addr} {n : Nat} {f : Nat → Nat → Rat} (h : SM H A n f) (hl : H.le H') : SM H' A n f := MatH.le RatC.grows h hl
theorem Bnd.add {n L L' : Nat} {f g : Nat → Nat → Rat} (hf : Bnd n L f) (hg : Bnd n L' g) : Bnd n (L + L' + 2) (fun i k => f i k + g i k) := fun i k hi hk => by
  have h1 := hf i k hi hk
  have h2 := hg i k hi hk
  have h3 := br_add (f i k) (g i k)
  show br (f i k + g i k) ≤ _
  omega
/-- rows of a matrix that stand, whatever they are -/
def MR (H : PH) (A : Option Addr) (n : Nat) (R : Nat → Rw Rat) : Prop := MatH 3 RatC H A n R
theorem MR.le {H H' : PH} {A : Option Addr} {n : Nat} {R : Nat → Rw Rat} (h : MR H A n R) (hl : H.le H') : MR H' A n R := MatH.le RatC.grows h hl
def MS (H : PH) (A : Option Addr) (n : Nat) (R : Nat → Rw ByteArray) : Prop := MatH 1 StrC H A n R
theorem MS.le {H H' : PH} {A : Option Addr} {n : Nat} {R : Nat → Rw ByteArray} (h : MS H A n R) (hl : H.le H') : MS H' A n R := MatH.le StrC.grows h hl
theorem Dt.mul_add (n : Nat) (f g h : Nat → Nat → Rat) : Dt.Eq2 n (Dt.mul n (fun i k => f i k + g i k) h) (fun i k => Dt.mul n f h i k + Dt.mul n g h i k) := fun i hi k hk => by
  show Dt.sm n (fun j => (f i j + g i j) * h j k) = Dt.sm n (fun j => f i j * h j k) + Dt.sm n (fun j => g i j * h j k)
  rw [← Dt.sm_add]
  exact Dt.sm_congr fun j _ => by grind

end Go.Proofs.YtccdhgjfcgfgoaaGreat.X
