/- What the laws share: a text as a number, the same number; a number from lo to hi. -/
import Derived.Test.YtccdhgjfcgfgoaaZK
import Derived.Test.YtccdhgjfcgfgoaaZH
import Derived.Test.YtccdhgjfcgfgoaaZE
import Derived.Test.YtccdhgjfcgfgoaaZB
import Derived.Deep.Strs
import Derived.Carry
set_option linter.unusedVariables false
set_option linter.unusedSimpArgs false
namespace Go.Proofs.Ytccdhgjfcgfgoaa.X
open Go Go.RowKit Go.Proofs

/-- a text is a number, not too long -/
def qok (a : ByteArray) : Bool := ratOk (bs a) && decide (a.size ≤ 100)
theorem qok_br {a : ByteArray} (h : qok a = true) : br (rv (bs a)) ≤ 401 ∧ ofB (rtx (rv (bs a))) = a ∧ ratOk (bs a) = true := by
  unfold qok at h
  rw [Bool.and_eq_true, decide_eq_true_eq] at h
  have := rv_br h.1
  rw [bs_length] at this
  exact ⟨by omega, by rw [rtx_rv h.1, ofB_bs], h.1⟩

theorem numQ_ok (H : PH) (a : ByteArray) (hy : a.size ≤ 9223372036854775807) : FnP Try.prog 38 [.string a] H fun v H' => ∃ va ra, v = .tuple #[va, ra, .bool (qok a)] ∧ RatV H' va (if qok a then rv (bs a) else 0) ∧ RRat H' ra (if qok a then rv (bs a) else 0) := by
  refine of_cincturelaw3_Num (by simp) ?_
  try simp only [go_sem, Nat.reduceEqDiff, Nat.reduceAdd, Bool.false_eq_true, Nat.reduceBEq, ↓reduceIte, p_cincturelaw3_Num]
  first | refine ev_call (rparseR_ok _ a hy) ?_ | refine ev_callP (rparseR_ok _ a hy) ?_
  rintro v_1 H_1 le_1 ⟨ra, rfl, h1⟩ _
  try simp only [go_sem, Nat.reduceEqDiff, Nat.reduceAdd, Bool.false_eq_true, Nat.reduceBEq, ↓reduceIte]
  obtain ⟨b1, A1, l1, c1, B1, m1, e1, rfl⟩ := h1.form
  have bad : qok a = false → ∀ H' : PH, ∃ va ra, (Value.tuple #[.agg #[.slice none 0 0, .bool false, .slice none 0 0], .agg #[.bool false, .slice none 0 0, .slice none 0 0], .bool false]) = .tuple #[va, ra, .bool (qok a)] ∧ RatV H' va (if qok a then rv (bs a) else 0) ∧ RRat H' ra (if qok a then rv (bs a) else 0) := by
    intro h H'
    rw [h]
    exact ⟨_, _, rfl, RatV.zero _, RRat.zero _⟩
  cases hk : ratOk (bs a) with
  | false =>
    try simp only [go_sem, Nat.reduceEqDiff, Nat.reduceAdd, Bool.false_eq_true, Nat.reduceBEq, ↓reduceIte, hk]
    exact ⟨by trivial, bad (by unfold qok; rw [hk]; rfl) _⟩
  | true =>
    try simp only [go_sem, Nat.reduceEqDiff, Nat.reduceAdd, Bool.false_eq_true, Nat.reduceBEq, ↓reduceIte, hk]
    refine ev_if (fun h => ?_) (fun h => ?_)
    · try simp only [go_sem, Nat.reduceEqDiff, Nat.reduceAdd, Bool.false_eq_true, Nat.reduceBEq, ↓reduceIte]
      exact ⟨by trivial, bad (by unfold qok; rw [hk, decide_eq_false (show ¬ a.size ≤ 100 by omega)]; rfl) _⟩
    · have hn : qok a = true := by unfold qok; rw [hk, decide_eq_true (show a.size ≤ 100 by omega)]; rfl
      try simp only [go_sem, Nat.reduceEqDiff, Nat.reduceAdd, Bool.false_eq_true, Nat.reduceBEq, ↓reduceIte]
      first | refine ev_call (rparse'_ok _ a hy) ?_ | refine ev_callP (rparse'_ok _ a hy) ?_
      rintro v_2 H_2 le_2 ⟨va, rfl, h2⟩ _
      replace h1 := h1.le le_2
      try simp only [go_sem, Nat.reduceEqDiff, Nat.reduceAdd, Bool.false_eq_true, Nat.reduceBEq, ↓reduceIte]
      obtain ⟨A2, l2, c2, b2, B2, m2, e2, rfl⟩ := h2.form
      rw [hk, if_pos rfl] at h1 h2
      try simp only [go_sem, Nat.reduceEqDiff, Nat.reduceAdd, Bool.false_eq_true, Nat.reduceBEq, ↓reduceIte]
      rw [hn]
      repeat' (with_reducible refine And.intro ?_ ?_)
      all_goals first | trivial | exact ⟨_, _, rfl, h2, h1⟩

/-- a number from lo to hi, made of any number -/
def wth (n lo hi : Int) : Int := lo + (if n.tmod (hi - lo + 1) < 0 then n.tmod (hi - lo + 1) + (hi - lo + 1) else n.tmod (hi - lo + 1))
theorem wth_bd {n lo hi : Int} (h : lo ≤ hi) : lo ≤ wth n lo hi ∧ wth n lo hi ≤ hi := by
  unfold wth
  have h1 := Int.lt_tmod_of_pos n (show 0 < hi - lo + 1 by omega)
  have h2 := Int.tmod_lt_of_pos n (show 0 < hi - lo + 1 by omega)
  split <;> omega

end Go.Proofs.Ytccdhgjfcgfgoaa.X
set_option linter.unusedVariables false
set_option linter.unusedSimpArgs false
namespace Go.Proofs.Ytccdhgjfcgfgoaa.X
open Go Go.RowKit Go.Proofs

def alT : Nat → Nat → ByteArray := fun i k => if i = 0 then (if k = 0 then ⟨#[49]⟩ else ⟨#[50]⟩) else (if k = 0 then ⟨#[51]⟩ else ⟨#[52]⟩)
theorem al_ev : evB 2 (rect 2 alT) = true := by decide
theorem al_p : pOk 2 (rect 2 alT) := by unfold pOk; decide +kernel
theorem al_det : Dt.det 2 (mx (rect 2 (prs (rect 2 alT)))) = ((-2 : Int) : Rat) := by decide +kernel
theorem al_bnd : Bnd 2 4000 (mx (rect 2 (prs (rect 2 alT)))) := by
  intro i s hi hs
  have h1 : i = 0 ∨ i = 1 := by omega
  have h2 : s = 0 ∨ s = 1 := by omega
  rcases h1 with rfl | rfl <;> rcases h2 with rfl | rfl <;> decide +kernel
theorem al_tx : ofB (rtx ((-2 : Int) : Rat)) = ⟨#[45, 50]⟩ := by
  unfold rtx
  rw [if_pos (by decide), show ((-2 : Int) : Rat).num = -2 by decide]
  unfold itxt
  rw [if_pos (by decide), show ((-2 : Int)).natAbs = 2 by decide]
  rw [txt_small (by decide) (by decide)]
  rfl

theorem cells2 {α : Type} {P : PH → List Value → α → Prop} {H : PH} {u v : Value} {f : Nat → α} {n : Nat} (hn : n = 2) (h1 : u.oneCell' = true) (h2 : v.oneCell' = true) (hx : P H [u] (f 0)) (hy : P H [v] (f 1)) : ∀ i, i < n → ∃ us, takeN 1 ([u, v].drop (i * 1)) = some us ∧ (∀ u ∈ us, u.oneCell' = true) ∧ P H us (f i) := by
  intro i hi
  have : i = 0 ∨ i = 1 := by omega
  rcases this with rfl | rfl
  · exact ⟨[u], rfl, fun x hx => by rw [List.mem_singleton.1 hx]; exact h1, hx⟩
  · exact ⟨[v], rfl, fun x hx => by rw [List.mem_singleton.1 hx]; exact h2, hy⟩

set_option maxHeartbeats 1000000 in
theorem alive11_ok (H : PH) : FnP Try.prog 7 [] H fun v _ => v = .bool true := by
  refine of_cincturelaw11_alive (by simp) ?_
  try simp only [go_sem, Nat.reduceEqDiff, Nat.reduceAdd, Bool.false_eq_true, Nat.reduceBEq, ↓reduceIte, p_cincturelaw11_alive]
  refine ev_bslF (w := 1) (P := StrC) (f := alT 0) rfl (by omega) (cells2 rfl rfl rfl ⟨rfl, by decide⟩ ⟨rfl, by decide⟩) (PH.disj_no _) ?_
  intro g1 M1 hO1 hle1 hg1 hd1
  try simp only [go_sem, Nat.reduceEqDiff, Nat.reduceAdd, Bool.false_eq_true, Nat.reduceBEq, ↓reduceIte]
  refine ev_bslF (w := 1) (P := StrC) (f := alT 1) rfl (by omega) (cells2 rfl rfl rfl ⟨rfl, by decide⟩ ⟨rfl, by decide⟩) hd1 ?_
  intro g2 M2 hO2 hle2 hg2 hd2
  try simp only [go_sem, Nat.reduceEqDiff, Nat.reduceAdd, Bool.false_eq_true, Nat.reduceBEq, ↓reduceIte]
  refine ev_bslF (w := 1) (P := SlC) (f := fun i => ((if i = 0 then some ⟨g1, 0, none⟩ else some ⟨g2, 0, none⟩ : Option Addr), 2, 2)) rfl (by omega) (cells2 rfl rfl rfl rfl rfl) hd2 ?_
  intro g3 M3 hO3 hle3 hg3 hd3
  have hr1 := (hO1.leM hle2).leM hle3
  have hr2 := hO2.leM hle3
  have n12 : (some ⟨g1, 0, none⟩ : Option Addr) ≠ some ⟨g2, 0, none⟩ := hO1.fresh hg2
  have n13 : (some ⟨g1, 0, none⟩ : Option Addr) ≠ some ⟨g3, 0, none⟩ := (hO1.leM hle2).fresh hg3
  have n23 : (some ⟨g2, 0, none⟩ : Option Addr) ≠ some ⟨g3, 0, none⟩ := hO2.fresh hg3
  have hO : MatO 1 StrC 9 24 H M3 (some ⟨g3, 0, none⟩) 2 2 (fun i => if i = 0 then some ⟨g1, 0, none⟩ else some ⟨g2, 0, none⟩) (fun _ => 2) (rect 2 alT) := by
    refine ⟨hO3, fun i hi => ?_, fun i hi => ?_, fun i j hi hj hij => ?_⟩
    · have : i = 0 ∨ i = 1 := by omega
      rcases this with rfl | rfl
      · exact hr1
      · exact hr2
    · have : i = 0 ∨ i = 1 := by omega
      rcases this with rfl | rfl
      · exact .inr n13
      · exact .inr n23
    · have : (i = 0 ∧ j = 1) ∨ (i = 1 ∧ j = 0) := by omega
      rcases this with ⟨rfl, rfl⟩ | ⟨rfl, rfl⟩
      · exact .inr n12
      · exact .inr n12.symm
  have hM := hO.mat StrC.grows hd3
  try simp only [go_sem, Nat.reduceEqDiff, Nat.reduceAdd, Bool.false_eq_true, Nat.reduceBEq, ↓reduceIte]
  refine ev_callA (parseM_ok _ _ 2 2 _ hM (by decide)) ?_
  rintro v H4 hle4 hp
  rcases hp with ⟨h, _⟩ | ⟨_, h, _⟩ | ⟨_, _, A, c, rfl, hM4⟩
  · rw [al_ev] at h; cases h
  · exact absurd al_p h
  · clear hM hO hr1 hr2
    have hsq : sqB 2 (rect 2 (prs (rect 2 alT))) = true := by decide
    obtain ⟨b, off, rfl⟩ := hM4.base (by decide)
    try simp only [go_sem, Nat.reduceEqDiff, Nat.reduceAdd, Bool.false_eq_true, Nat.reduceBEq, ↓reduceIte]
    first | refine ev_call (det_ok _ _ 2 c (rect 2 (prs (rect 2 alT))) hM4 (by decide) (fun _ => by decide) (fun _ => al_bnd)) ?_ | refine ev_callP (det_ok _ _ 2 c (rect 2 (prs (rect 2 alT))) hM4 (by decide) (fun _ => by decide) (fun _ => al_bnd)) ?_
    rintro v_1 H_1 le_1 ⟨w, rfl, h5⟩ _
    try simp only [go_sem, Nat.reduceEqDiff, Nat.reduceAdd, Bool.false_eq_true, Nat.reduceBEq, ↓reduceIte]
    have hM4 := MatH.le RatC.grows hM4 (by assumption)
    rw [hsq, if_pos rfl, al_det] at h5
    rw [hsq]
    obtain ⟨A5, l5, c5, t5, B5, m5, e5, rfl⟩ := h5.form
    try simp only [go_sem, Nat.reduceEqDiff, Nat.reduceAdd, Bool.false_eq_true, Nat.reduceBEq, ↓reduceIte]
    refine ev_pos (by trivial) ?_
    try simp only [go_sem, Nat.reduceEqDiff, Nat.reduceAdd, Bool.false_eq_true, Nat.reduceBEq, ↓reduceIte]
    refine ev_pos (by trivial) ?_
    try simp only [go_sem, Nat.reduceEqDiff, Nat.reduceAdd, Bool.false_eq_true, Nat.reduceBEq, ↓reduceIte]
    refine ev_ia rfl (by decide) (by decide) ?_
    try simp only [go_sem, Nat.reduceEqDiff, Nat.reduceAdd, Bool.false_eq_true, Nat.reduceBEq, ↓reduceIte]
    refine ev_ldRow0 hM4 (by decide) ?_
    intro A6 q6 ha6
    try simp only [go_sem, Nat.reduceEqDiff, Nat.reduceAdd, Bool.false_eq_true, Nat.reduceBEq, ↓reduceIte]
    refine ev_pos (by trivial) ?_
    try simp only [go_sem, Nat.reduceEqDiff, Nat.reduceAdd, Bool.false_eq_true, Nat.reduceBEq, ↓reduceIte]
    first | refine ev_call (rtext_ok' _ _ _ h5 (by decide +kernel)) ?_ | refine ev_callP (rtext_ok' _ _ _ h5 (by decide +kernel)) ?_
    rintro v_2 H_2 le_2 rfl _
    try simp only [go_sem, Nat.reduceEqDiff, Nat.reduceAdd, Bool.false_eq_true, Nat.reduceBEq, ↓reduceIte]
    rw [al_tx]
    refine ev_pos (by trivial) ?_
    try simp only [go_sem, Nat.reduceEqDiff, Nat.reduceAdd, Bool.false_eq_true, Nat.reduceBEq, ↓reduceIte]
    exact ⟨by trivial, by trivial⟩

theorem isM_ok (H : PH) (A B : Option Addr) (n c e : Nat) (S : Nat → Rw Rat) (hA : MatH 3 RatC H A n S) (hB : MatH 3 RRatC H B n S) (hn : n ≤ 1000) (hr : ∀ i, i < n → (S i).1 ≤ 1000) (hb : ∀ i, i < n → ∀ k, k < (S i).1 → br ((S i).2 k) ≤ 4294967000) :
    FnP Try.prog 11 [.slice A n c, .slice B n e] H fun v _ => v = .bool true := by
  refine of_cincturelaw11_Is (by simp) ?_
  try simp only [go_sem, Nat.reduceEqDiff, Nat.reduceAdd, Bool.false_eq_true, Nat.reduceBEq, ↓reduceIte, p_cincturelaw11_Is]
  first | refine ev_call (plainM_ok _ A n c S hA hn hr hb) ?_ | refine ev_callP (plainM_ok _ A n c S hA hn hr hb) ?_
  rintro v_3 H_3 le_3 ⟨A1, c1, rfl, h1⟩ _
  try simp only [go_sem, Nat.reduceEqDiff, Nat.reduceAdd, Bool.false_eq_true, Nat.reduceBEq, ↓reduceIte]
  have hB := MatH.le RRatC.grows hB (by assumption)
  try simp only [go_sem, Nat.reduceEqDiff, Nat.reduceAdd, Bool.false_eq_true, Nat.reduceBEq, ↓reduceIte]
  first | refine ev_call (plainMR_ok _ B n e S hB hn hr hb) ?_ | refine ev_callP (plainMR_ok _ B n e S hB hn hr hb) ?_
  rintro v_4 H_4 le_4 ⟨A2, c2, rfl, h2⟩ _
  try simp only [go_sem, Nat.reduceEqDiff, Nat.reduceAdd, Bool.false_eq_true, Nat.reduceBEq, ↓reduceIte]
  have h1 := MatH.le StrC.grows h1 (by assumption)
  try simp only [go_sem, Nat.reduceEqDiff, Nat.reduceAdd, Bool.false_eq_true, Nat.reduceBEq, ↓reduceIte]
  first | refine ev_call (sameRows_ok _ A1 A2 n n c1 c2 (txR S) (txR S) h1 h2 (by omega) (fun i hi => by have := hr i hi; show (S i).1 ≤ _; omega) ⟨rfl, fun i hi => ⟨rfl, fun k hk => rfl⟩⟩) ?_ | refine ev_callP (sameRows_ok _ A1 A2 n n c1 c2 (txR S) (txR S) h1 h2 (by omega) (fun i hi => by have := hr i hi; show (S i).1 ≤ _; omega) ⟨rfl, fun i hi => ⟨rfl, fun k hk => rfl⟩⟩) ?_
  rintro v_5 H_5 le_5 rfl _
  try simp only [go_sem, Nat.reduceEqDiff, Nat.reduceAdd, Bool.false_eq_true, Nat.reduceBEq, ↓reduceIte]
  exact ⟨by trivial, by trivial⟩

set_option maxHeartbeats 2000000 in
theorem MatTells_ok (H : PH) (A0 : Option Addr) (n c0 : Nat) (R : Nat → Rw ByteArray) (hM : MatH 1 StrC H A0 n R) (hn : n ≤ 9223372036854775807) (hr : ∀ i, i < n → (R i).1 ≤ 9223372036854775807) : FnP Try.prog 3 [.slice A0 n c0] H fun v _ => v = .bool true := by
  refine Fn.release (of_cincturelaw11_MatTells (by simp) ?_)
  try simp only [go_sem, Nat.reduceEqDiff, Nat.reduceAdd, Bool.false_eq_true, Nat.reduceBEq, ↓reduceIte, p_cincturelaw11_MatTells]
  first | refine ev_call (alive11_ok _) ?_ | refine ev_callP (alive11_ok _) ?_
  rintro v_6 H_6 le_6 rfl _
  try simp only [go_sem, Nat.reduceEqDiff, Nat.reduceAdd, Bool.false_eq_true, Nat.reduceBEq, ↓reduceIte]
  have hM := MatH.le StrC.grows hM (by assumption)
  refine ev_if (fun c1 => ?_) (fun c1 => ?_)
  · try simp only [go_sem, Nat.reduceEqDiff, Nat.reduceAdd, Bool.false_eq_true, Nat.reduceBEq, ↓reduceIte]
    exact fun _ => by trivial
  · try simp only [go_sem, Nat.reduceEqDiff, Nat.reduceAdd, Bool.false_eq_true, Nat.reduceBEq, ↓reduceIte]
    refine ev_loop (fun t s => ∃ (i : Nat) (H2 M2 : PH) (A : Option Addr) (c : Nat) (ra : Nat → Option Addr) (rc : Nat → Nat), t = n - i ∧ i ≤ n ∧ MatH 1 StrC H2 A0 n R ∧ PH.disj H2 M2 ∧ (∀ a, a < i → (R a).1 ≤ 15 ∧ ∀ b, b < (R a).1 → ((R a).2 b).size ≤ 100) ∧
      MatO 1 StrC 9 24 H2 M2 A i c ra rc R ∧
      s = ⟨[(4, .v (.int .i64 (i : Int))), (3, .v (.slice A i c)), (0, .v (.slice A0 n c0))], [], H2, M2⟩) n _ ⟨0, _, PH.no, none, 0, fun _ => none, fun _ => 0, rfl, by omega, hM, PH.disj_no _, fun a ha => by omega, MatO.nil, rfl⟩ ⟨rfl, by simp only [go_sem, Nat.reduceEqDiff, Nat.reduceAdd, Bool.false_eq_true, Nat.reduceBEq, ↓reduceIte, and_self, Option.some.injEq, SV.v.injEq, SV.ptr.injEq, Value.int.injEq, Value.bool.injEq, Value.slice.injEq, true_and, and_true] <;> (repeat' apply And.intro) <;> first | rfl | omega | (simp (disch := omega) only [w64, wu64, wu32, wu8] <;> omega), by simp only [go_sem, Nat.reduceEqDiff, Nat.reduceAdd, Bool.false_eq_true, Nat.reduceBEq, ↓reduceIte, and_self, Option.some.injEq, SV.v.injEq, SV.ptr.injEq, Value.int.injEq, Value.bool.injEq, Value.slice.injEq, true_and, and_true] <;> (repeat' apply And.intro) <;> rfl, rfl, PH.le.refl _⟩ ?_
    clear hM
    rintro t s ⟨i, H2, M2, A, c, ra, rc, rfl, hi, hM, hd2, hsh, hO, rfl⟩
    try simp only [go_sem, Nat.reduceEqDiff, Nat.reduceAdd, Bool.false_eq_true, Nat.reduceBEq, ↓reduceIte]
    refine ev_if (fun c2 => ?_) (fun c2 => ?_)
    · obtain ⟨b, off, rfl⟩ := hM.base (by omega)
      try simp only [go_sem, Nat.reduceEqDiff, Nat.reduceAdd, Bool.false_eq_true, Nat.reduceBEq, ↓reduceIte]
      refine ev_ia rfl (by omega) (by omega) ?_
      rw [Int.toNat_natCast]
      try simp only [go_sem, Nat.reduceEqDiff, Nat.reduceAdd, Bool.false_eq_true, Nat.reduceBEq, ↓reduceIte]
      refine ev_ldRow hM (by omega) ?_
      intro A1 q1 ha1
      try simp only [go_sem, Nat.reduceEqDiff, Nat.reduceAdd, Bool.false_eq_true, Nat.reduceBEq, ↓reduceIte]
      refine ev_if (fun c3 => ?_) (fun c3 => ?_)
      · try simp only [go_sem, Nat.reduceEqDiff, Nat.reduceAdd, Bool.false_eq_true, Nat.reduceBEq, ↓reduceIte]
        exact fun _ => by trivial
      · have hri : (R i).1 ≤ 15 := by omega
        clear ha1
        try simp only [go_sem, Nat.reduceEqDiff, Nat.reduceAdd, Bool.false_eq_true, Nat.reduceBEq, ↓reduceIte]
        refine ev_ia rfl (by omega) (by omega) ?_
        rw [Int.toNat_natCast]
        try simp only [go_sem, Nat.reduceEqDiff, Nat.reduceAdd, Bool.false_eq_true, Nat.reduceBEq, ↓reduceIte]
        refine ev_ldRow hM (by omega) ?_
        intro A1 q1 ha1
        try simp only [go_sem, Nat.reduceEqDiff, Nat.reduceAdd, Bool.false_eq_true, Nat.reduceBEq, ↓reduceIte]
        first | refine ev_call (shortB_ok _ A1 _ q1 _ 100 ha1 (by omega)) ?_ | refine ev_callP (shortB_ok _ A1 _ q1 _ 100 ha1 (by omega)) ?_
        rintro v_7 H_7 le_7 rfl _
        try simp only [go_sem, Nat.reduceEqDiff, Nat.reduceAdd, Bool.false_eq_true, Nat.reduceBEq, ↓reduceIte]
        have hM := MatH.le StrC.grows hM (by assumption)
        have hO := hO.leH StrC.grows (by assumption)
        clear ha1
        cases hsi : decide (∀ k, k < (R i).1 → (((R i).2 k).size : Int) ≤ 100) with
        | false =>
          try simp only [go_sem, Nat.reduceEqDiff, Nat.reduceAdd, Bool.false_eq_true, Nat.reduceBEq, ↓reduceIte, hsi]
          exact fun _ => by trivial
        | true =>
          have hsi' := of_decide_eq_true hsi
          try simp only [go_sem, Nat.reduceEqDiff, Nat.reduceAdd, Bool.false_eq_true, Nat.reduceBEq, ↓reduceIte, hsi]
          refine ev_ia rfl (by omega) (by omega) ?_
          rw [Int.toNat_natCast]
          try simp only [go_sem, Nat.reduceEqDiff, Nat.reduceAdd, Bool.false_eq_true, Nat.reduceBEq, ↓reduceIte]
          refine ev_ldRow hM (by omega) ?_
          intro A1 q1 ha1
          try simp only [go_sem, Nat.reduceEqDiff, Nat.reduceAdd, Bool.false_eq_true, Nat.reduceBEq, ↓reduceIte]
          by_cases h0 : (R i).1 = 0
          · refine .inl ⟨h0, by decide, ?_⟩
            obtain ⟨B, hBn⟩ : ∃ B : Option Addr, B = none := ⟨_, rfl⟩
            obtain ⟨m, hm⟩ : ∃ m : Nat, m = 0 := ⟨_, rfl⟩
            obtain ⟨cB, hcB⟩ : ∃ m : Nat, m = 0 := ⟨_, rfl⟩
            have hB4 : OwnF 1 StrC 9 H_7 M2 B m (R i).2 cB := .inl ⟨hBn, hm, hcB⟩
            have hap : Apart B A i ra := by rw [hBn]; exact Apart.none
            have hO4 := hO
            have hd4 : PH.disj H_7 M2 := by assumption
            have hrow : m = (R i).1 ∧ ∀ k, k < m → (R i).2 k = (R i).2 k := ⟨by omega, fun _ _ => rfl⟩
            try simp only [go_sem, Nat.reduceEqDiff, Nat.reduceAdd, Bool.false_eq_true, Nat.reduceBEq, ↓reduceIte]
            rw [← hBn, show (Value.slice B 0 0) = Value.slice B m cB by rw [hm, hcB]]
            refine ev_bslF (w := 1) (P := SlC) (f := fun _ => (B, m, cB)) rfl (by omega) (one_cell rfl rfl rfl) hd4 ?_
            intro g5 M5 hO5 hle5 hg5 hd5
            try simp only [go_sem, Nat.reduceEqDiff, Nat.reduceAdd, Bool.false_eq_true, Nat.reduceBEq, ↓reduceIte]
            refine ev_appF (by decide) (hO4.top.leM hle5) (hO5.src (by decide)) rfl (by decide) (by omega) (by omega) hd5 ?_
            intro A' c' M6 hO6 hb6 hA6 hd6
            try simp only [go_sem, Nat.reduceEqDiff, Nat.reduceAdd, Bool.false_eq_true, Nat.reduceBEq, ↓reduceIte]
            rw [w64 ((i : Int) + 1) (by omega) (by omega), show (i : Int) + 1 = ((i + 1 : Nat) : Int) by omega]
            have hO7 := hO4.push hB4 hap hle5 hO6 hb6 hA6
            refine k_next (n - (i + 1)) _ (by omega) ⟨i + 1, _, M6, A', c', _, _, rfl, by omega, hM, hd6, fun a ha => ?_, hO7.congr (fun a ha => ?_), rfl⟩ ⟨rfl, by simp only [go_sem, Nat.reduceEqDiff, Nat.reduceAdd, Bool.false_eq_true, Nat.reduceBEq, ↓reduceIte, and_self, Option.some.injEq, SV.v.injEq, SV.ptr.injEq, Value.int.injEq, Value.bool.injEq, Value.slice.injEq, true_and, and_true] <;> (repeat' apply And.intro) <;> first | rfl | omega | (simp (disch := omega) only [w64, wu64, wu32, wu8] <;> omega), by simp only [go_sem, Nat.reduceEqDiff, Nat.reduceAdd, Bool.false_eq_true, Nat.reduceBEq, ↓reduceIte, and_self, Option.some.injEq, SV.v.injEq, SV.ptr.injEq, Value.int.injEq, Value.bool.injEq, Value.slice.injEq, true_and, and_true] <;> (repeat' apply And.intro) <;> rfl, rfl, PH.le.refl _⟩
            · by_cases e : a = i
              · subst e
                exact ⟨hri, fun b hb => by have := hsi' b hb; omega⟩
              · exact hsh a (by omega)
            · try dsimp only
              by_cases e : a = i
              · subst e
                rw [if_pos rfl]
                exact hrow
              · rw [if_neg e]
                exact ⟨rfl, fun _ _ => rfl⟩
          · refine ev_appF (w := 1) (P := StrC) (f := (R i).2) (by decide) OwnF.nil (ha1.src (by omega)) rfl (by omega) (by omega) (by omega) (by assumption) ?_
            intro B cB M4 hB4 hb4 hA4 hd4
            have hap : Apart B A i ra := by
              rcases hA4 with rfl | h
              · exact Apart.none
              · exact hO.apart h
            have hO4 := hO.but hb4 Apart.none
            have hrow : 0 + (R i).1 = (R i).1 ∧ ∀ k, k < 0 + (R i).1 → thenF 0 (R i).2 (R i).2 k = (R i).2 k := ⟨by omega, fun k _ => by unfold thenF; rw [if_neg (by omega)]; rfl⟩
            generalize hm : 0 + (R i).1 = m at *
            try simp only [go_sem, Nat.reduceEqDiff, Nat.reduceAdd, Bool.false_eq_true, Nat.reduceBEq, ↓reduceIte]
            refine ev_bslF (w := 1) (P := SlC) (f := fun _ => (B, m, cB)) rfl (by omega) (one_cell rfl rfl rfl) hd4 ?_
            intro g5 M5 hO5 hle5 hg5 hd5
            try simp only [go_sem, Nat.reduceEqDiff, Nat.reduceAdd, Bool.false_eq_true, Nat.reduceBEq, ↓reduceIte]
            refine ev_appF (by decide) (hO4.top.leM hle5) (hO5.src (by decide)) rfl (by decide) (by omega) (by omega) hd5 ?_
            intro A' c' M6 hO6 hb6 hA6 hd6
            try simp only [go_sem, Nat.reduceEqDiff, Nat.reduceAdd, Bool.false_eq_true, Nat.reduceBEq, ↓reduceIte]
            rw [w64 ((i : Int) + 1) (by omega) (by omega), show (i : Int) + 1 = ((i + 1 : Nat) : Int) by omega]
            have hO7 := hO4.push hB4 hap hle5 hO6 hb6 hA6
            refine k_next (n - (i + 1)) _ (by omega) ⟨i + 1, _, M6, A', c', _, _, rfl, by omega, hM, hd6, fun a ha => ?_, hO7.congr (fun a ha => ?_), rfl⟩ ⟨rfl, by simp only [go_sem, Nat.reduceEqDiff, Nat.reduceAdd, Bool.false_eq_true, Nat.reduceBEq, ↓reduceIte, and_self, Option.some.injEq, SV.v.injEq, SV.ptr.injEq, Value.int.injEq, Value.bool.injEq, Value.slice.injEq, true_and, and_true] <;> (repeat' apply And.intro) <;> first | rfl | omega | (simp (disch := omega) only [w64, wu64, wu32, wu8] <;> omega), by simp only [go_sem, Nat.reduceEqDiff, Nat.reduceAdd, Bool.false_eq_true, Nat.reduceBEq, ↓reduceIte, and_self, Option.some.injEq, SV.v.injEq, SV.ptr.injEq, Value.int.injEq, Value.bool.injEq, Value.slice.injEq, true_and, and_true] <;> (repeat' apply And.intro) <;> rfl, rfl, PH.le.refl _⟩
            · by_cases e : a = i
              · subst e
                exact ⟨hri, fun b hb => by have := hsi' b hb; omega⟩
              · exact hsh a (by omega)
            · try dsimp only
              by_cases e : a = i
              · subst e
                rw [if_pos rfl]
                exact hrow
              · rw [if_neg e]
                exact ⟨rfl, fun _ _ => rfl⟩
    · have hin : i = n := by omega
      subst hin
      have hM2 := hO.mat StrC.grows hd2
      try simp only [go_sem, Nat.reduceEqDiff, Nat.reduceAdd, Bool.false_eq_true, Nat.reduceBEq, ↓reduceIte]
      refine ev_callA (parseM_ok _ A i c R hM2 hn) ?_
      rintro v H4 hle4 hp
      have hM3 := hM2.le StrC.grows hle4
      have hM := MatH.le StrC.grows hM ((PH.le_join _ _).trans hle4)
      clear hM2 hO
      rcases hp with ⟨he, rfl⟩ | ⟨he, hnp, rfl⟩ | ⟨he, hpk, A7, c7, rfl, h7⟩
      · try simp only [go_sem, Nat.reduceEqDiff, Nat.reduceAdd, Bool.false_eq_true, Nat.reduceBEq, ↓reduceIte]
        first | refine ev_call (parseMR_ok _ A0 i c0 R hM hn) ?_ | refine ev_callP (parseMR_ok _ A0 i c0 R hM hn) ?_
        rintro v_12 H_12 le_12 hq _
        try simp only [go_sem, Nat.reduceEqDiff, Nat.reduceAdd, Bool.false_eq_true, Nat.reduceBEq, ↓reduceIte]
        have hM3 := MatH.le StrC.grows hM3 (by assumption)
        have hM := MatH.le StrC.grows hM (by assumption)
        rcases hq with ⟨_, rfl⟩ | ⟨he2, _⟩ | ⟨he2, _⟩
        · try simp only [go_sem, Nat.reduceEqDiff, Nat.reduceAdd, Bool.false_eq_true, Nat.reduceBEq, ↓reduceIte]
          obtain ⟨S, hS⟩ : ∃ S : Nat → Rw Rat, S = fun _ => (0, fun _ => 0) := ⟨_, rfl⟩
          have hS1 : 0 ≤ 1000 := by decide
          have hS2 : ∀ i, i < 0 → (S i).1 ≤ 1000 := fun i hi => by omega
          have hS3 : ∀ i, i < 0 → ∀ k, k < (S i).1 → br ((S i).2 k) ≤ 4294967000 := fun i hi => by omega
          have h7 : MatH 3 RatC H_12 none 0 S := ArrF.nil
          have h8 : MatH 3 RRatC H_12 none 0 S := ArrF.nil
          refine ev_pos (by trivial) ?_
          try simp only [go_sem, Nat.reduceEqDiff, Nat.reduceAdd, Bool.false_eq_true, Nat.reduceBEq, ↓reduceIte]
          first | refine ev_call (isM_ok _ _ _ _ _ _ S h7 h8 hS1 hS2 hS3) ?_ | refine ev_callP (isM_ok _ _ _ _ _ _ S h7 h8 hS1 hS2 hS3) ?_
          rintro v_8 H_8 le_8 rfl _
          try simp only [go_sem, Nat.reduceEqDiff, Nat.reduceAdd, Bool.false_eq_true, Nat.reduceBEq, ↓reduceIte]
          have hM3 := MatH.le StrC.grows hM3 (by assumption)
          have hM := MatH.le StrC.grows hM (by assumption)
          have h7 := MatH.le RatC.grows h7 (by assumption)
          have h8 := MatH.le RRatC.grows h8 (by assumption)
          first | refine ev_call (sameRows_ok _ _ _ i i _ _ R R hM3 hM hn hr ⟨rfl, fun a ha => ⟨rfl, fun b hb => rfl⟩⟩) ?_ | refine ev_callP (sameRows_ok _ _ _ i i _ _ R R hM3 hM hn hr ⟨rfl, fun a ha => ⟨rfl, fun b hb => rfl⟩⟩) ?_
          rintro v_9 H_9 le_9 rfl _
          try simp only [go_sem, Nat.reduceEqDiff, Nat.reduceAdd, Bool.false_eq_true, Nat.reduceBEq, ↓reduceIte]
          have h7 := MatH.le RatC.grows h7 (by assumption)
          have h8 := MatH.le RRatC.grows h8 (by assumption)
          first | refine ev_call (right_ok _ _ _ _ S h7 (by omega)) ?_ | refine ev_callP (right_ok _ _ _ _ S h7 (by omega)) ?_
          rintro v_10 H_10 le_10 rfl _
          try simp only [go_sem, Nat.reduceEqDiff, Nat.reduceAdd, Bool.false_eq_true, Nat.reduceBEq, ↓reduceIte]
          have h8 := MatH.le RRatC.grows h8 (by assumption)
          first | refine ev_call (rightR_ok _ _ _ _ S h8 (by omega)) ?_ | refine ev_callP (rightR_ok _ _ _ _ S h8 (by omega)) ?_
          rintro v_11 H_11 le_11 rfl _
          try simp only [go_sem, Nat.reduceEqDiff, Nat.reduceAdd, Bool.false_eq_true, Nat.reduceBEq, ↓reduceIte]
          rw [beq_self_eq_true]
          exact fun _ => by trivial
        · rw [he] at he2; cases he2
        · rw [he] at he2; cases he2
      · try simp only [go_sem, Nat.reduceEqDiff, Nat.reduceAdd, Bool.false_eq_true, Nat.reduceBEq, ↓reduceIte]
        first | refine ev_call (parseMR_ok _ A0 i c0 R hM hn) ?_ | refine ev_callP (parseMR_ok _ A0 i c0 R hM hn) ?_
        rintro v_13 H_13 le_13 hq _
        try simp only [go_sem, Nat.reduceEqDiff, Nat.reduceAdd, Bool.false_eq_true, Nat.reduceBEq, ↓reduceIte]
        have hM3 := MatH.le StrC.grows hM3 (by assumption)
        have hM := MatH.le StrC.grows hM (by assumption)
        rcases hq with ⟨he2, _⟩ | ⟨_, _, rfl⟩ | ⟨_, hpk, _⟩
        · rw [he] at he2; cases he2
        · try simp only [go_sem, Nat.reduceEqDiff, Nat.reduceAdd, Bool.false_eq_true, Nat.reduceBEq, ↓reduceIte]
          obtain ⟨S, hS⟩ : ∃ S : Nat → Rw Rat, S = fun _ => (0, fun _ => 0) := ⟨_, rfl⟩
          have hS1 : 0 ≤ 1000 := by decide
          have hS2 : ∀ i, i < 0 → (S i).1 ≤ 1000 := fun i hi => by omega
          have hS3 : ∀ i, i < 0 → ∀ k, k < (S i).1 → br ((S i).2 k) ≤ 4294967000 := fun i hi => by omega
          have h7 : MatH 3 RatC H_13 none 0 S := ArrF.nil
          have h8 : MatH 3 RRatC H_13 none 0 S := ArrF.nil
          refine ev_pos (by trivial) ?_
          try simp only [go_sem, Nat.reduceEqDiff, Nat.reduceAdd, Bool.false_eq_true, Nat.reduceBEq, ↓reduceIte]
          first | refine ev_call (isM_ok _ _ _ _ _ _ S h7 h8 hS1 hS2 hS3) ?_ | refine ev_callP (isM_ok _ _ _ _ _ _ S h7 h8 hS1 hS2 hS3) ?_
          rintro v_8 H_8 le_8 rfl _
          try simp only [go_sem, Nat.reduceEqDiff, Nat.reduceAdd, Bool.false_eq_true, Nat.reduceBEq, ↓reduceIte]
          have hM3 := MatH.le StrC.grows hM3 (by assumption)
          have hM := MatH.le StrC.grows hM (by assumption)
          have h7 := MatH.le RatC.grows h7 (by assumption)
          have h8 := MatH.le RRatC.grows h8 (by assumption)
          first | refine ev_call (sameRows_ok _ _ _ i i _ _ R R hM3 hM hn hr ⟨rfl, fun a ha => ⟨rfl, fun b hb => rfl⟩⟩) ?_ | refine ev_callP (sameRows_ok _ _ _ i i _ _ R R hM3 hM hn hr ⟨rfl, fun a ha => ⟨rfl, fun b hb => rfl⟩⟩) ?_
          rintro v_9 H_9 le_9 rfl _
          try simp only [go_sem, Nat.reduceEqDiff, Nat.reduceAdd, Bool.false_eq_true, Nat.reduceBEq, ↓reduceIte]
          have h7 := MatH.le RatC.grows h7 (by assumption)
          have h8 := MatH.le RRatC.grows h8 (by assumption)
          first | refine ev_call (right_ok _ _ _ _ S h7 (by omega)) ?_ | refine ev_callP (right_ok _ _ _ _ S h7 (by omega)) ?_
          rintro v_10 H_10 le_10 rfl _
          try simp only [go_sem, Nat.reduceEqDiff, Nat.reduceAdd, Bool.false_eq_true, Nat.reduceBEq, ↓reduceIte]
          have h8 := MatH.le RRatC.grows h8 (by assumption)
          first | refine ev_call (rightR_ok _ _ _ _ S h8 (by omega)) ?_ | refine ev_callP (rightR_ok _ _ _ _ S h8 (by omega)) ?_
          rintro v_11 H_11 le_11 rfl _
          try simp only [go_sem, Nat.reduceEqDiff, Nat.reduceAdd, Bool.false_eq_true, Nat.reduceBEq, ↓reduceIte]
          rw [beq_self_eq_true]
          exact fun _ => by trivial
        · exact absurd hpk hnp
      · try simp only [go_sem, Nat.reduceEqDiff, Nat.reduceAdd, Bool.false_eq_true, Nat.reduceBEq, ↓reduceIte]
        first | refine ev_call (parseMR_ok _ A0 i c0 R hM hn) ?_ | refine ev_callP (parseMR_ok _ A0 i c0 R hM hn) ?_
        rintro v_14 H_14 le_14 hq _
        try simp only [go_sem, Nat.reduceEqDiff, Nat.reduceAdd, Bool.false_eq_true, Nat.reduceBEq, ↓reduceIte]
        have hM3 := MatH.le StrC.grows hM3 (by assumption)
        have hM := MatH.le StrC.grows hM (by assumption)
        have h7 := MatH.le RatC.grows h7 (by assumption)
        rcases hq with ⟨he2, _⟩ | ⟨_, hnp, _⟩ | ⟨_, _, A8, c8, rfl, h8⟩
        · rw [he] at he2; cases he2
        · exact absurd hpk hnp
        · obtain ⟨n1, n2, m1, m2, hr0⟩ := evB_of he
          try simp only [go_sem, Nat.reduceEqDiff, Nat.reduceAdd, Bool.false_eq_true, Nat.reduceBEq, ↓reduceIte]
          obtain ⟨S, hS⟩ : ∃ S : Nat → Rw Rat, S = rect (R 0).1 (prs R) := ⟨_, rfl⟩
          have hS1 : i ≤ 1000 := by omega
          have hS2 : ∀ a, a < i → (S a).1 ≤ 1000 := fun a ha => by rw [hS]; show (R 0).1 ≤ 1000; omega
          have hS3 : ∀ a, a < i → ∀ k, k < (S a).1 → br ((S a).2 k) ≤ 4294967000 := fun a ha k hk => by
            rw [hS] at hk ⊢
            have hk' : k < (R 0).1 := hk
            have e1 := rv_br (hpk a ha k (by rw [hr0 a ha]; exact hk'))
            have e2 := (hsh a ha).2 k (by rw [hr0 a ha]; exact hk')
            rw [bs_length] at e1
            show br (rv (bs ((R a).2 k))) ≤ _
            omega
          rw [← hS] at h7 h8
          refine ev_pos (by trivial) ?_
          try simp only [go_sem, Nat.reduceEqDiff, Nat.reduceAdd, Bool.false_eq_true, Nat.reduceBEq, ↓reduceIte]
          first | refine ev_call (isM_ok _ _ _ _ _ _ S h7 h8 hS1 hS2 hS3) ?_ | refine ev_callP (isM_ok _ _ _ _ _ _ S h7 h8 hS1 hS2 hS3) ?_
          rintro v_8 H_8 le_8 rfl _
          try simp only [go_sem, Nat.reduceEqDiff, Nat.reduceAdd, Bool.false_eq_true, Nat.reduceBEq, ↓reduceIte]
          have hM3 := MatH.le StrC.grows hM3 (by assumption)
          have hM := MatH.le StrC.grows hM (by assumption)
          have h7 := MatH.le RatC.grows h7 (by assumption)
          have h8 := MatH.le RRatC.grows h8 (by assumption)
          first | refine ev_call (sameRows_ok _ _ _ i i _ _ R R hM3 hM hn hr ⟨rfl, fun a ha => ⟨rfl, fun b hb => rfl⟩⟩) ?_ | refine ev_callP (sameRows_ok _ _ _ i i _ _ R R hM3 hM hn hr ⟨rfl, fun a ha => ⟨rfl, fun b hb => rfl⟩⟩) ?_
          rintro v_9 H_9 le_9 rfl _
          try simp only [go_sem, Nat.reduceEqDiff, Nat.reduceAdd, Bool.false_eq_true, Nat.reduceBEq, ↓reduceIte]
          have h7 := MatH.le RatC.grows h7 (by assumption)
          have h8 := MatH.le RRatC.grows h8 (by assumption)
          first | refine ev_call (right_ok _ _ _ _ S h7 (by omega)) ?_ | refine ev_callP (right_ok _ _ _ _ S h7 (by omega)) ?_
          rintro v_10 H_10 le_10 rfl _
          try simp only [go_sem, Nat.reduceEqDiff, Nat.reduceAdd, Bool.false_eq_true, Nat.reduceBEq, ↓reduceIte]
          have h8 := MatH.le RRatC.grows h8 (by assumption)
          first | refine ev_call (rightR_ok _ _ _ _ S h8 (by omega)) ?_ | refine ev_callP (rightR_ok _ _ _ _ S h8 (by omega)) ?_
          rintro v_11 H_11 le_11 rfl _
          try simp only [go_sem, Nat.reduceEqDiff, Nat.reduceAdd, Bool.false_eq_true, Nat.reduceBEq, ↓reduceIte]
          rw [beq_self_eq_true]
          exact fun _ => by trivial

end Go.Proofs.Ytccdhgjfcgfgoaa.X
set_option linter.unusedVariables false
set_option linter.unusedSimpArgs false
namespace Go.Proofs.Ytccdhgjfcgfgoaa.X
open Go Go.RowKit Go.Proofs

/-- all that stands in a world -/
def whole (W : World) : PH := fun b => W.heap[b]?
theorem whole_on (W : World) : (whole W).on W := fun b o h => h
theorem arr_cells {α : Type} {P : PH → List Value → α → Prop} {W : World} {a : Addr} {L : Nat} {V : Nat → Value} {f : Nat → α} (hc : ∀ i, i < L → W.cell? (a.add i) = some (V i)) (h1 : ∀ i, i < L → (V i).oneCell' = true) (hP : ∀ i, i < L → P (whole W) [V i] (f i)) : ArrF 1 P (whole W) (some a) L f := by
  by_cases h0 : L = 0
  · exact .inl h0
  · obtain ⟨b, off, spot⟩ := a
    have hc0 := hc 0 (by omega)
    have e0 : (⟨b, off, spot⟩ : Addr).add 0 = ⟨b, off, spot⟩ := by unfold Addr.add; rw [if_pos rfl]
    rw [e0] at hc0
    unfold World.cell? at hc0
    cases hw : W.heap[b]? with
    | none => simp only [hw] at hc0; cases hc0
    | some o =>
      cases o with
      | cells cs T fz =>
        simp only [hw] at hc0
        cases spot with
        | some x => simp at hc0
        | none =>
          refine .inr ⟨b, off, cs, T, fz, rfl, hw, fun i hi => ⟨[V i], ?_, fun u hu => by rw [List.mem_singleton.1 hu]; exact h1 i hi, hP i hi⟩⟩
          have hci := hc i hi
          rw [addr_add] at hci
          unfold World.cell? at hci
          simp only [hw] at hci
          have hci' : cs[off + i]? = some (V i) := by simpa using hci
          have hlt : off + i < cs.size := (Array.getElem?_eq_some_iff.1 hci').1
          rw [Nat.mul_one, takeN_of _ _ (by rw [List.length_drop, Array.length_toList]; omega), List.take_one, List.head?_drop]
          rw [← Array.getElem?_toList] at hci'
          rw [hci']
          rfl
      | _ => simp only [hw] at hc0; cases hc0

theorem open_rows {Hh : Type} {enc : TypeId × Value → Hh} {P : Program} {W : World} {base : Nat} {held : Bool} {t e q : TypeId} {fuel : Nat} {cs : List Value} {x : DataW Hh × List MemPlace} (ht : P.underlying t = some (.slice e)) (he : P.underlying e = some (.slice q)) (hq : P.underlying q = some .string)
    (ce : P.cellsOf e = 1) (cq : P.cellsOf q = 1) (h : DataW.trod enc P W base (fun _ => true) held fuel t cs = some x) :
    ∃ A n c R, cs = [.slice A n c] ∧ MatH 1 StrC (whole W) A n R ∧ n ≤ 9223372036854775807 ∧ ∀ i, i < n → (R i).1 ≤ 9223372036854775807 := by
  rcases Deep.open_slice1 ht ce h with ⟨rfl, _⟩ | ⟨a, len, cap, m, n, V, D, Pl, rfl, hb, hl, hm, hmm, _, hx⟩
  · exact ⟨none, 0, 0, fun _ => (0, fun _ => ByteArray.empty), rfl, .inl rfl, by decide, fun i hi => by omega⟩
  · simp only [if_true] at hmm
    subst hmm
    have each : ∀ i, i < len → ∃ y : (Option Addr × Nat) × Rw ByteArray, V i = .slice y.1.1 y.2.1 y.1.2 ∧ ArrF 1 StrC (whole W) y.1.1 y.2.1 y.2.2 ∧ y.2.1 ≤ 9223372036854775807 := by
      intro i hi
      rcases Deep.open_strs he hq cq (hx i (by omega)).2 with ⟨hcs, _⟩ | ⟨a', len', cap', m', Sx, hcs, _, hl', hm', hmm', _, hcell⟩
      · exact ⟨((none, 0), (0, fun _ => ByteArray.empty)), by simpa using hcs, .inl rfl, by decide⟩
      · simp only [if_true] at hmm'
        subst hmm'
        refine ⟨((some a', m'), (len', Sx)), by simpa using hcs, ?_, ?_⟩
        · exact arr_cells (V := fun i => .string (Sx i)) (fun j hj => (hcell j (Nat.lt_of_lt_of_le hj hl')).1) (fun _ _ => rfl) (fun j hj => ⟨rfl, (hcell j (Nat.lt_of_lt_of_le hj hl')).2⟩)
        · have : m' ≤ 9223372036854775807 := hm'
          show len' ≤ _
          omega
    haveI : Inhabited ((Option Addr × Nat) × Rw ByteArray) := ⟨((none, 0), (0, fun _ => ByteArray.empty))⟩
    obtain ⟨y, hy⟩ := Deep.choose_lt each
    refine ⟨some a, len, m, fun i => (y i).2, rfl, ?_, ?_, fun i hi => (hy i hi).2.2⟩
    · exact arr_cells (V := V) (fun i hi => (hx i (by omega)).1) (fun i hi => by rw [(hy i hi).1]; rfl) (fun i hi => ⟨(y i).1.1, (y i).1.2, by rw [(hy i hi).1], (hy i hi).2.1⟩)
    · have : m ≤ 9223372036854775807 := hm
      omega

/-- what a contract over all that stands gives a row -/
theorem of_fnW {f : Nat} {vs : List Value} (W : World) (h : FnP Try.prog f vs (whole W) fun v _ => v = .bool true) : Calls Try.prog f vs.toArray W fun e W' => e = .returned (.bool true) ∧ Below W.heap.size W W' := by
  refine (h W (whole_on W) (fun b o hb => by cases hb) (PH.disj_no _)).mono ?_
  rintro e W' ⟨v, H', M', rfl, st, _, _, _, _, _, _, _, rfl⟩
  exact ⟨rfl, ⟨st.os, st.tape, st.output, st.size, fun b hb => st.block b hb rfl⟩⟩

end Go.Proofs.Ytccdhgjfcgfgoaa.X
