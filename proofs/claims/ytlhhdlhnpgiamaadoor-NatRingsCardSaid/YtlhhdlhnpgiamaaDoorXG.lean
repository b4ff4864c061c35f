/- From X to a contract of a Go function. -/
import Derived.Test.YtlhhdlhnpgiamaaDoorXF
set_option linter.unusedVariables false
set_option linter.unusedSimpArgs false
namespace Go.Proofs.YtlhhdlhnpgiamaaDoor.X
open Go Go.RowKit

section
variable {P : Program} {w0 : World} {H0 M0 : PH} {n : Nat} {ρ : Nat → Nat} {s : St} {a : Act} {w : World} {o : Oper} {d : Nat} {r : PT} {K : St → Prop} {Q : Exit → Act → World → Prop} {ops : Array Oper}

theorem gate_wanted {g : Option (Nat × Bool)} {q : Bool} (hg : gateIn ops o = some g) (hq : gateOf s.fr g = some q) (hR : Rel w0 H0 M0 n ρ s a w) : Region.wanted o (yielded ops a.tmps) = q := by
  unfold gateIn at hg
  unfold Region.wanted
  cases hgd : o.guard with
  | none =>
    simp only [hgd] at hg
    injection hg with hg
    subst hg
    simp [gateOf] at hq
    simp [hq]
  | some jw =>
    obtain ⟨j, want⟩ := jw
    simp only [hgd] at hg ⊢
    split at hg
    · rename_i t ht
      injection hg with hg
      subst hg
      simp only [gateOf] at hq
      split at hq
      · rename_i b hb
        injection hq with hq
        have := hR.fr t _ hb
        simp only [yielded, ht, Option.bind_some, this, conc]
        subst hq
        cases b <;> cases want <;> rfl
      · rename_i cs hb
        injection hq with hq
        have := hR.fr t _ hb
        simp only [yielded, ht, Option.bind_some, this, conc]
        subst hq
        cases want <;> rfl
      · cases hq
    · cases hg

theorem XL_gate {g : Option (Nat × Bool)} {pi : PI} (hq : gateOf s.fr g = some true) (hX : XL P (.op g pi r) s K) : XL P (.op none pi r) s K := by
  have hn : gateOf s.fr none = some true := rfl
  have e : XL P (.op g pi r) s K = XL P (.op none pi r) s K := by
    simp only [XL, hq, hn]
  rw [← e]; exact hX

theorem dst_of_toPI {dr ap : Bool} {pi : PI} (h : toPI P n dr ap o = some pi) : (∃ d, o.dst = some d ∧ d < n ∧ toPId P dr ap d o.op = some pi ∧ pi.dst = some d) ∨ (o.dst = none ∧ pi.dst = none ∧ pi.pure = false ∧ pi.isLd = false) := by
  unfold toPI at h
  split at h
  · rename_i d hdst
    split at h
    · rename_i hd
      refine .inl ⟨d, hdst, hd, h, ?_⟩
      cases ho : o.op <;> rw [ho] at h <;> simp only [toPId] at h
      all_goals
        first
        | (cases h; done)
        | (injection h with h; subst h; rfl)
        | ((repeat' split at h) <;> first | (cases h; done) | (injection h with h; subst h; rfl))
    · cases h
  · rename_i hdst
    split at h
    · split at h
      · injection h with h; subst h; exact .inr ⟨hdst, rfl, rfl, rfl⟩
      · cases h
    · cases h

/-- a skipped operation -/
theorem skip_sound {dr ap : Bool} {g : Option (Nat × Bool)} {pi : PI} (h : toPI P n dr ap o = some pi) (hR : Rel w0 H0 M0 n ρ s a w) (hq : gateOf s.fr g = some false) (hX : XL P (.op g pi r) s K) :
    ∃ s', Rel w0 H0 M0 n ρ s' (a.put o.dst undef) w ∧ XL P r s' K ∧ Grow ρ s ρ s' := by
  simp only [XL, hq] at hX
  rcases dst_of_toPI h with ⟨d, hdst, hd, _, hpd⟩ | ⟨hdst, hpd, _⟩
  · rw [hpd] at hX
    rw [hdst]
    exact ⟨_, hR.put hd (.v undef), hX, fun _ h => h⟩
  · rw [hpd] at hX
    rw [hdst]
    exact ⟨s, hR, hX, fun _ h => h⟩

/-- one operation, whatever comes behind -/
theorem step_act {dr ap : Bool} {i : Nat} {g : Option (Nat × Bool)} {pi : PI} (h1 : one P n dr ap ops i = some (g, pi)) (hR : Rel w0 H0 M0 n ρ s a w) (hX : XL P (.op g pi r) s K) :
    wpOp P ops Q i (fun a' w' => (∀ o, ops[i]? = some o → Post (lvO dr o) ρ s w w') ∧ ∃ ρ' s', Rel w0 H0 M0 n ρ' s' a' w' ∧ XL P r s' K ∧ Grow ρ s ρ' s') a w := by
  unfold one at h1
  split at h1
  · rename_i o ho
    split at h1
    · rename_i g' pi' hg hpi
      injection h1 with h1; injection h1 with h1 h2; subst h1; subst h2
      cases hq : gateOf s.fr g' with
      | none => simp only [XL, hq] at hX
      | some q =>
        have hw := gate_wanted hg hq hR
        unfold wpOp
        simp only [ho, hw]
        cases q with
        | true =>
          simp only [if_true]
          refine .inl (Oper.wp_mono (fun a' w' h => ⟨fun o' ho' => ?_, h.2⟩) (toPI_act (Q := Q) hpi hR (XL_gate hq hX)))
          injection ho' with ho'
          subst ho'
          exact h.1
        | false =>
          simp only [Bool.false_eq_true, if_false]
          obtain ⟨s', h3, h4, h5⟩ := skip_sound hpi hR hq hX
          exact ⟨fun _ _ => .of_below hR (Below.refl _ _), ρ, s', h3, h4, h5⟩
    · cases h1
  · cases h1

theorem step_fl {ap : Bool} {i : Nat} {g : Option (Nat × Bool)} {pi : PI} (h1 : one P n true ap ops i = some (g, pi)) (hp : pi.pure = true) (hR : Rel w0 H0 M0 n ρ s a w) (hX : XL P (.op g pi r) s K) :
    ∃ o v s', ops[i]? = some o ∧ Yields P ops o v a ∧ Rel w0 H0 M0 n ρ s' (a.put o.dst v) w ∧ XL P r s' K ∧ Grow ρ s ρ s' := by
  unfold one at h1
  split at h1
  · rename_i o ho
    split at h1
    · rename_i g' pi' hg hpi
      injection h1 with h1; injection h1 with h1 h2; subst h1; subst h2
      cases hq : gateOf s.fr g' with
      | none => simp only [XL, hq] at hX
      | some q =>
        have hw := gate_wanted hg hq hR
        cases q with
        | true =>
          rcases dst_of_toPI hpi with ⟨d, hdst, hd, hpd, _⟩ | ⟨_, _, hp', _⟩
          · obtain ⟨v, sv, h3, h4, h5⟩ := toPId_pure hpd hp hR hd (XL_gate hq hX)
            exact ⟨o, v, _, ho, .inl ⟨hw, h3⟩, by rw [hdst]; exact h4, h5, fun _ h => h⟩
          · rw [hp] at hp'; cases hp'
        | false =>
          obtain ⟨s', h3, h4, h5⟩ := skip_sound hpi hR hq hX
          exact ⟨o, undef, s', ho, .inr ⟨hw, rfl⟩, h3, h4, h5⟩
    · cases h1
  · cases h1

theorem step_ld {ap : Bool} {i : Nat} {g : Option (Nat × Bool)} {pi : PI} (h1 : one P n true ap ops i = some (g, pi)) (hp : pi.isLd = true) (hR : Rel w0 H0 M0 n ρ s a w) (hX : XL P (.op g pi r) s K) :
    ∃ o v s', ops[i]? = some o ∧ (Yields P ops o v a ∨ ∃ b, YieldsIf P ops (SameAt w b) o v a ∧ (ap = true → Safe ρ s b)) ∧ Rel w0 H0 M0 n ρ s' (a.put o.dst v) w ∧ XL P r s' K ∧ Grow ρ s ρ s' := by
  unfold one at h1
  split at h1
  · rename_i o ho
    split at h1
    · rename_i g' pi' hg hpi
      injection h1 with h1; injection h1 with h1 h2; subst h1; subst h2
      cases hq : gateOf s.fr g' with
      | none => simp only [XL, hq] at hX
      | some q =>
        have hw := gate_wanted hg hq hR
        cases q with
        | true =>
          rcases dst_of_toPI hpi with ⟨d, hdst, hd, hpd, _⟩ | ⟨_, _, _, hp'⟩
          · obtain ⟨v, b, s', h3, h4, h5, h6, h7⟩ := toPId_ld hpd hp hR hd (XL_gate hq hX)
            exact ⟨o, v, s', ho, .inr ⟨b, .inl ⟨hw, h3⟩, h6⟩, by rw [hdst]; exact h4, h5, h7⟩
          · rw [hp] at hp'; cases hp'
        | false =>
          obtain ⟨s', h3, h4, h5⟩ := skip_sound hpi hR hq hX
          exact ⟨o, undef, s', ho, .inl (.inr ⟨hw, rfl⟩), h3, h4, h5⟩
    · cases h1
  · cases h1

theorem keep_of_post {o : Oper} {w' : World} {i : Nat} (hR : Rel w0 H0 M0 n ρ s a w) {Lb : List Nat} (ho : ops[i]? = some o) (hL : hasApp ops = true → ∀ b ∈ Lb, Safe ρ s b) (hp : Post (lvO true o) ρ s w w') (hs : isStore ops i = false) :
    w.heap.size ≤ w'.heap.size ∧ ∀ b ∈ Lb, b < w.heap.size → w'.heap[b]? = w.heap[b]? := by
  have h0 : Post 0 ρ s w w' → w.heap.size ≤ w'.heap.size ∧ ∀ b ∈ Lb, b < w.heap.size → w'.heap[b]? = w.heap[b]? := fun h => ⟨h.size, fun b _ hlt => h.block b hlt⟩
  have h1 : isApp o = true → Post 1 ρ s w w' → w.heap.size ≤ w'.heap.size ∧ ∀ b ∈ Lb, b < w.heap.size → w'.heap[b]? = w.heap[b]? := fun ha h => by
    have hap : hasApp ops = true := by
      unfold hasApp
      exact List.any_eq_true.2 ⟨o, by simpa using Array.mem_of_getElem? ho, ha⟩
    refine ⟨h.1, fun b hb hlt => ?_⟩
    exact h.2 b (hL hap b hb)
  unfold isStore at hs
  rw [ho] at hs
  unfold lvO at hp
  cases hop : o.op <;> simp only [hop] at hs hp <;> first | exact h0 hp | (cases hs; done) | skip
  case call c =>
    obtain ⟨cal, args, ats⟩ := c
    cases cal <;> first | exact h0 hp | skip
    case builtin b =>
      cases b <;> first | exact h0 hp | skip
      exact h1 (by unfold isApp; rw [hop]) hp

theorem W_of_XL (hQ : ∀ ρ s a w, Rel w0 H0 M0 n ρ s a w → K s → Q .normal a w) : ∀ (it : IT) (pt : PT), mkT P n ops it = some pt → ∀ ρ s a w Lb, Rel w0 H0 M0 n ρ s a w → (hasApp ops = true → ∀ b ∈ Lb, Safe ρ s b) → XL P pt s K → W P ops Q Lb it a w
  | .nil, pt, h, ρ, s, a, w, Lb, hR, hL, hX => by
    simp only [mkT] at h
    injection h with h; subst h
    exact hQ ρ s a w hR hX
  | .fl i r, pt, h, ρ, s, a, w, Lb, hR, hL, hX => by
    simp only [mkT] at h
    split at h
    · rename_i g pi t h1 h2
      split at h
      · rename_i hp
        injection h with h; subst h
        obtain ⟨o, v, s', ho, hy, hR', hX', hg⟩ := step_fl h1 hp hR hX
        exact ⟨o, v, ho, hy, W_of_XL hQ r t h2 ρ s' _ w Lb hR' (fun ha b hb => hg b (hL ha b hb)) hX'⟩
      · cases h
    · cases h
  | .ld i r, pt, h, ρ, s, a, w, Lb, hR, hL, hX => by
    simp only [mkT] at h
    split at h
    · rename_i g pi t h1 h2
      split at h
      · rename_i hp
        injection h with h; subst h
        obtain ⟨o, v, s', ho, hy, hR', hX', hg⟩ := step_ld h1 hp hR hX
        rcases hy with hy | ⟨b, hy, hb⟩
        · exact .inl ⟨o, v, ho, hy, W_of_XL hQ r t h2 ρ s' _ w Lb hR' (fun ha b hb => hg b (hL ha b hb)) hX'⟩
        · refine .inr ⟨o, v, b, ho, hy, W_of_XL hQ r t h2 ρ s' _ w (b :: Lb) hR' (fun ha b' hb' => ?_) hX'⟩
          rcases List.mem_cons.1 hb' with rfl | hb'
          · exact hg _ (hb ha)
          · exact hg b' (hL ha b' hb')
      · cases h
    · cases h
  | .act i r, pt, h, ρ, s, a, w, Lb, hR, hL, hX => by
    simp only [mkT] at h
    split at h
    · rename_i g pi t h1 h2
      injection h with h; subst h
      refine wpOp_mono (fun a' w' h3 => ?_) (step_act (Q := Q) h1 hR hX)
      obtain ⟨h4, ρ', s', h5, h6, h7⟩ := h3
      refine ⟨fun hs => ?_, W_of_XL hQ r t h2 ρ' s' a' w' Lb h5 (fun ha b hb => h7 b (hL ha b hb)) h6⟩
      cases ho : ops[i]? with
      | none => unfold one at h1; rw [ho] at h1; cases h1
      | some o => exact keep_of_post hR ho hL (h4 o ho) hs
    · cases h
  | .alt l r, pt, h, ρ, s, a, w, Lb, hR, hL, hX => by
    simp only [mkT] at h
    split at h
    · rename_i p q h1 h2
      injection h with h; subst h
      exact ⟨W_of_XL hQ l p h1 ρ s a w Lb hR hL hX.1, W_of_XL hQ r q h2 ρ s a w Lb hR hL hX.2⟩
    · cases h

theorem wpOps_of_XL (hQ : ∀ ρ s a w, Rel w0 H0 M0 n ρ s a w → K s → Q .normal a w) : ∀ (l : List Nat) (pt : PT), mkL P n ops l = some pt → ∀ ρ s a w, Rel w0 H0 M0 n ρ s a w → XL P pt s K → wpOps P ops Q l a w
  | [], pt, h, ρ, s, a, w, hR, hX => by
    simp only [mkL] at h
    injection h with h; subst h
    exact hQ ρ s a w hR hX
  | i :: l, pt, h, ρ, s, a, w, hR, hX => by
    simp only [mkL] at h
    split at h
    · rename_i g pi t h1 h2
      injection h with h; subst h
      rw [wpOps_cons]
      refine wpOp_mono (fun a' w' h3 => ?_) (step_act (Q := Q) h1 hR hX)
      obtain ⟨_, ρ', s', h5, h6, _⟩ := h3
      exact wpOps_of_XL hQ l t h2 ρ' s' a' w' h5 h6
    · cases h

/-- what stands behind a piece of code -/
def QK (w0 : World) (H0 M0 : PH) (n : Nat) (K : Ex → St → Prop) : Exit → Act → World → Prop
  | .normal, a, w => ∃ ρ s, Rel w0 H0 M0 n ρ s a w ∧ K .normal s
  | .ret, a, w => ∃ ρ s, Rel w0 H0 M0 n ρ s a w ∧ K .ret s
  | .exit i, a, w => ∃ ρ s, Rel w0 H0 M0 n ρ s a w ∧ K (.exit i) s
  | _, _, _ => False

theorem lk_sub {α : Type} : ∀ (l l' : List (Nat × α)), SubL l l' → ∀ i x, lk l i = some x → lk l' i = some x
  | [], _, _, i, x, h => by simp [lk] at h
  | (j, y) :: l, l', hs, i, x, h => by
    simp only [SubL] at hs
    simp only [lk] at h
    split at h
    · rename_i e; subst e; injection h with h; subst h; exact hs.1
    · exact lk_sub l l' hs.2 i x h

theorem wfB_spec (lh : List (Nat × List Value)) : ∀ (fr : List (Nat × SV)), wfB fr lh = true → ∀ i k off, lk fr i = some (.ptr k off) → ∃ cs, lk lh k = some cs
  | [], _, i, k, off, h => by simp [lk] at h
  | (j, .v x) :: l, hw, i, k, off, h => by
    simp only [wfB] at hw
    simp only [lk] at h
    split at h
    · injection h with h; cases h
    · exact wfB_spec lh l hw i k off h
  | (j, .ptr k' o') :: l, hw, i, k, off, h => by
    simp only [wfB, Bool.and_eq_true] at hw
    simp only [lk] at h
    split at h
    · injection h with h; injection h with h1 h2; subst h1
      cases hq : lk lh k' with
      | none => rw [hq] at hw; simp at hw
      | some cs => exact ⟨cs, rfl⟩
    · exact wfB_spec lh l hw.2 i k off h

theorem Rel.sub {s' : St} (h : Rel w0 H0 M0 n ρ s a w) (hs : Sub s' s) : Rel w0 H0 M0 n ρ s' a w := by
  have hH := hs.H
  refine ⟨h.size, h.defers, fun i sv hi => h.fr i sv (lk_sub _ _ hs.fr i sv hi), fun k cs hk => ?_, fun k k' cs cs' h1 h2 => h.inj k k' cs cs' (lk_sub _ _ hs.lh _ _ h1) (lk_sub _ _ hs.lh _ _ h2), by rw [hH]; exact h.H, fun b o hb => h.M b o (hs.M b o hb), fun b o hb => ?_, h.step,
    fun b hb => ?_, by rw [hH]; exact h.hH, by rw [hH]; exact h.leH, wfB_spec _ _ hs.wf⟩
  · obtain ⟨h1, h2, h3, h4⟩ := h.lh k cs (lk_sub _ _ hs.lh _ _ hk)
    refine ⟨h1, by rw [hH]; exact h2, ?_, h4⟩
    cases hm : s'.M (ρ k) with
    | none => rfl
    | some o => have := hs.M _ o hm; rw [h3] at this; cases this
  · cases hm : s'.M b with
    | none => rfl
    | some o' => have := hs.M b o' hm; rw [hH] at hb; rw [h.dj b o hb] at this; cases this
  · cases hm : s'.M b with
    | none => exact absurd hm hb
    | some o => exact h.hM b (by rw [hs.M b o hm]; simp)

theorem Sub.refl' {s : St} (hw : wfB s.fr s.lh = true) (h1 : SubL s.fr s.fr) (h2 : SubL s.lh s.lh) : Sub s s := ⟨hw, h1, h2, rfl, PH.le.refl _⟩

theorem wp_of_X (hm : P.follows .mixedOrders = true) : ∀ (c : Code) (pls : List IT) (pc : PC) (pls' : List IT), comp P n c pls = some (pc, pls') →
    ∀ (K : Ex → St → Prop) ρ s a w, Rel w0 H0 M0 n ρ s a w → X P pc s K → c.wp P (QK w0 H0 M0 n K) a w := by
  intro c
  induction c with
  | skip =>
    intro pls pc pls' h K ρ s a w hR hX
    simp only [comp] at h; injection h with h; injection h with h h'; subst h
    exact wp_skip ⟨ρ, s, hR, hX⟩
  | ret =>
    intro pls pc pls' h K ρ s a w hR hX
    simp only [comp] at h; injection h with h; injection h with h h'; subst h
    exact wp_ret ⟨ρ, s, hR, hX⟩
  | exit i =>
    intro pls pc pls' h K ρ s a w hR hX
    simp only [comp] at h; injection h with h; injection h with h h'; subst h
    exact wp_exit ⟨ρ, s, hR, hX⟩
  | region id ops draw =>
    intro pls pc pls' h K ρ s a w hR hX
    cases draw with
    | false =>
      simp only [comp] at h
      split at h
      · rename_i t ht
        injection h with h; injection h with h h'; subst h
        exact wp_region (wpOps_of_XL (fun ρ s a w hR hK => ⟨ρ, s, hR, hK⟩) _ t ht ρ s a w hR hX)
      · cases h
    | true =>
      cases pls with
      | nil => simp [comp] at h
      | cons it pls =>
        simp only [comp] at h
        split at h
        · rename_i t hc ht
          injection h with h; injection h with h h'; subst h
          refine wp_tree hm hc (fun _ _ _ _ _ h => h) (W_of_XL (fun ρ s a w hR hK => ⟨ρ, s, hR, hK⟩) it t ht ρ s a _ [] ?_ (fun _ b hb => by cases hb) hX)
          exact hR.below ⟨rfl, rfl, rfl, Nat.le_refl _, fun _ _ => rfl⟩
        · cases h
  | seq x y ihx ihy =>
    intro pls pc pls' h K ρ s a w hR hX
    simp only [comp] at h
    split at h
    · rename_i p l1 h1
      split at h
      · rename_i q l2 h2
        injection h with h; injection h with h h'; subst h
        refine wp_seq (wp_mono (ihx pls p l1 h1 (KSeq (X P q) K) ρ s a w hR hX) ?_)
        intro e a' w' hq
        cases e with
        | normal =>
          obtain ⟨ρ', s', hR', hK'⟩ := hq
          exact ihy l1 q l2 h2 K ρ' s' a' w' hR' hK'
        | ret => exact hq
        | exit i => exact hq
        | goto l => exact hq
        | panic ch => exact hq
        | outgrown => exact hq
      · cases h
    · cases h
  | cond cnd x y ihx ihy =>
    intro pls pc pls' h K ρ s a w hR hX
    simp only [comp] at h
    split at h
    · rename_i p l1 h1
      split at h
      · rename_i q l2 h2
        injection h with h; injection h with h h'; subst h
        simp only [X.X] at hX
        split at hX
        · rename_i b hb
          refine wp_cond (t := b) (hR.ev hb) ?_
          cases b with
          | true => exact ihx pls p l1 h1 K ρ s a w hR hX
          | false => exact ihy l1 q l2 h2 K ρ s a w hR hX
        · exact hX.elim
      · cases h
    · cases h
  | block id x ih =>
    intro pls pc pls' h K ρ s a w hR hX
    simp only [comp] at h
    split at h
    · rename_i p l1 h1
      injection h with h; injection h with h h'; subst h
      refine wp_block (wp_mono (ih pls p l1 h1 (KBlk id K) ρ s a w hR hX) ?_)
      intro e a' w' hq
      cases e with
      | normal => exact hq
      | ret => exact hq
      | exit i =>
        obtain ⟨ρ', s', hR', hK'⟩ := hq
        simp only [KBlk] at hK'
        simp only [Exit.inBlock]
        split
        · rename_i e; rw [if_pos e] at hK'; exact ⟨ρ', s', hR', hK'⟩
        · rename_i e; rw [if_neg e] at hK'; exact ⟨ρ', s', hR', hK'⟩
      | goto l => exact hq
      | panic ch => exact hq
      | outgrown => exact hq
    · cases h
  | loop x ih =>
    intro pls pc pls' h K ρ s a w hR hX
    simp only [comp] at h
    split at h
    · rename_i p l1 h1
      injection h with h; injection h with h h'; subst h
      obtain ⟨J, ⟨m, s1, hJ, hsub⟩, hround⟩ := hX
      refine wp_loop_ghost (fun m a w => ∃ ρ s, J m s ∧ Rel w0 H0 M0 n ρ s a w) m ⟨ρ, s1, hJ, hR.sub hsub⟩ ?_
      rintro m a' w' ⟨ρ', s', hJ', hR'⟩
      refine wp_mono (ih pls p l1 h1 (KLoop J m K) ρ' s' a' w' hR' (hround m s' hJ')) ?_
      intro e a2 w2 hq
      cases e with
      | normal =>
        obtain ⟨ρ2, s2, hR2, m2, s3, hlt, hJ3, hs3⟩ := hq
        exact ⟨m2, hlt, ρ2, s3, hJ3, hR2.sub hs3⟩
      | ret => exact hq
      | exit i => exact hq
      | goto l => exact hq
      | panic ch => exact hq
      | outgrown => exact hq
    · cases h
  | rangeFunc f ps asg body => intro pls pc pls' h; simp [comp] at h
  | scope b => intro pls pc pls' h; simp [comp] at h
  | label l => intro pls pc pls' h; simp [comp] at h
  | goto l => intro pls pc pls' h; simp [comp] at h
  | refuse why => intro pls pc pls' h; simp [comp] at h

theorem argFr_lk : ∀ (vs : List Value) (k i : Nat) (sv : SV), lk (argFr vs k) i = some sv → ∃ v, sv = .v v ∧ k ≤ i ∧ vs[i - k]? = some v
  | [], k, i, sv, h => by simp [argFr, lk] at h
  | v :: vs, k, i, sv, h => by
    simp only [argFr, lk] at h
    split at h
    · rename_i e; subst e; injection h with h; subst h; exact ⟨v, rfl, Nat.le_refl _, by simp⟩
    · rename_i hne
      obtain ⟨u, h1, h2, h3⟩ := argFr_lk vs (k + 1) i sv h
      refine ⟨u, h1, by omega, ?_⟩
      rw [show i - k = (i - (k + 1)) + 1 by omega]
      simpa using h3

def resF (tmps : Array Value) : ResultVar → Sem Value
  | .tmp t => pure (tmps.getD t undef)
  | .cell p t => do loadVar t (← asAddr (tmps.getD p undef))

theorem results_eq (fn : Func) (tmps : Array Value) : results fn tmps = (do
    let vs ← fn.results.mapM (resF tmps)
    pure (if h : vs.size = 1 then vs[0] else .tuple vs)) := by
  unfold results
  congr 1

theorem resV1_run {rv : ResultVar} {x : RV} {v : Value} (hc : compR P [rv] = some [x]) (hv : resV1 s x = some v) (hR : Rel w0 H0 M0 n ρ s a w) :
    (resF a.tmps rv).run P w = .ok v w := by
  unfold resF
  cases rv with
  | tmp t =>
    simp only [compR] at hc
    injection hc with hc; injection hc with hc; subst hc
    simp only [resV1] at hv
    split at hv
    · rename_i u hu
      injection hv with hv; subst hv
      have := hR.fr t _ hu
      simp [this, conc]
    · cases hv
  | cell p t =>
    simp only [compR] at hc
    split at hc
    · rename_i u i r hu hi hr
      injection hr with hr; subst hr
      split at hc <;> (injection hc with hc; injection hc with hc; subst hc)
      all_goals
        simp only [resV1] at hv
        split at hv
        · rename_i k off hk
          split at hv
          · rename_i cs hcs
            have hp := hR.fr p _ hk
            obtain ⟨⟨T, hT⟩, _⟩ := hR.lh k cs hcs
            have hget : a.tmps.getD p undef = .pointer (some ⟨ρ k, off, none⟩) := by simp [hp, conc]
            simp only [hget, asAddr, Sem.run_bind, Sem.run_pure, Result.andThen_ok]
            first
            | exact run_ld (agg := true) hu hi rfl (fun _ => rfl) hT (by simpa using hv)
            | (refine run_ld (agg := false) hu hi ?_ (fun h => by cases h) hT (by simpa using hv)
               clear hi hT hcs hk hget hp hv
               cases u <;> first | rfl | (exfalso; simp_all; done))
          · cases hv
        · cases hv
    · cases hc

theorem compR_cons {rv : ResultVar} {l : List ResultVar} {rs : List RV} (h : compR P (rv :: l) = some rs) : ∃ x r, rs = x :: r ∧ compR P [rv] = some [x] ∧ compR P l = some r := by
  cases rv with
  | tmp t =>
    simp only [compR] at h
    split at h
    · rename_i r hr
      injection h with h; subst h
      exact ⟨_, r, rfl, by simp [compR], hr⟩
    · cases h
  | cell p t =>
    simp only [compR] at h
    split at h
    · rename_i u i r hu hi hr
      split at h <;> (injection h with h; subst h) <;> exact ⟨_, r, rfl, by simp [compR, hu, hi], hr⟩
    · cases h

theorem mapM_run (f : ResultVar → Sem Value) (P : Program) (w : World) : ∀ (l : List ResultVar) (vs : List Value), l.length = vs.length → (∀ (i : Nat) (rv : ResultVar) (v : Value), l[i]? = some rv → vs[i]? = some v → (f rv).run P w = .ok v w) →
    (l.mapM f).run P w = .ok vs w
  | [], [], _, _ => by simp
  | rv :: l, v :: vs, hl, h => by
    have h0 := h 0 rv v rfl rfl
    have ih := mapM_run f P w l vs (by simpa using hl) (fun i rv' v' h1 h2 => h (i + 1) rv' v' (by simpa using h1) (by simpa using h2))
    simp [List.mapM_cons, h0, ih]
  | [], _ :: _, hl, _ => by simp at hl
  | _ :: _, [], hl, _ => by simp at hl

theorem resVs_run (hR : Rel w0 H0 M0 n ρ s a w) : ∀ (l : List ResultVar) (rs : List RV) (vs : List Value), compR P l = some rs → resVs s rs = some vs →
    l.length = vs.length ∧ ∀ (i : Nat) (rv : ResultVar) (v : Value), l[i]? = some rv → vs[i]? = some v → (resF a.tmps rv).run P w = .ok v w
  | [], rs, vs, hc, hv => by
    simp [compR] at hc; subst hc
    simp [resVs] at hv; subst hv
    exact ⟨rfl, fun i rv v h => by simp at h⟩
  | rv :: l, rs, vs, hc, hv => by
    obtain ⟨x, r, rfl, h1, h2⟩ := compR_cons hc
    simp only [resVs] at hv
    split at hv
    · rename_i v q hx hq
      injection hv with hv; subst hv
      obtain ⟨h3, h4⟩ := resVs_run hR l r q h2 hq
      refine ⟨by simp [h3], fun i rv' v' h5 h6 => ?_⟩
      cases i with
      | zero =>
        simp at h5 h6; subst h5; subst h6
        exact resV1_run h1 hx hR
      | succ i => exact h4 i rv' v' (by simpa using h5) (by simpa using h6)
    · cases hv

theorem results_run {fn : Func} {rs : List RV} {v : Value} (hc : compR P fn.results.toList = some rs) (hv : resV s rs = some v) (hR : Rel w0 H0 M0 n ρ s a w) : (results fn a.tmps).run P w = .ok v w := by
  unfold resV at hv
  have key : ∀ vs, resVs s rs = some vs → (results fn a.tmps).run P w = .ok (if h : vs.toArray.size = 1 then vs.toArray[0] else .tuple vs.toArray) w := by
    intro vs hvs
    obtain ⟨h1, h2⟩ := resVs_run hR _ rs vs hc hvs
    have h3 := mapM_run _ P w fn.results.toList vs h1 h2
    rw [results_eq, Sem.run_bind, Array.mapM_eq_mapM_toList]
    simp only [Sem.run_map]
    rw [h3]
    simp
  split at hv
  · rename_i u hu
    injection hv with hv; subst hv
    rw [key _ hu]
    simp
  · rename_i vs hne hu
    injection hv with hv; subst hv
    rw [key _ hu]
    have : ¬ vs.toArray.size = 1 := by
      intro h1
      cases vs with
      | nil => simp at h1
      | cons x l =>
        cases l with
        | nil => exact hne x rfl
        | cons y l => simp at h1
    rw [dif_neg this]
  · cases hv

/-- **A contract off the code.** -/
theorem fn_of_X {f : Nat} {fn : Func} {c : Code} {pls : List IT} {pc : PC} {rs : List RV} {vs : List Value} {H M : PH} {R : Value → PH → PH → Prop} (hm : P.follows .mixedOrders = true)
    (hf : P.funcs[f]? = some fn) (hb : fn.body = some c) (hc : comp P fn.ntmps c pls = some (pc, [])) (hr : compR P fn.results.toList = some rs) (hl : vs.length ≤ fn.ntmps)
    (h : X P pc ⟨argFr vs 0, [], H, M⟩ (KTop rs R)) : Fn P f vs H M R := by
  intro w hH hM hdj
  refine calls_of_wp hf hb (wp_mono (wp_of_X (w0 := w) (H0 := H) (M0 := M) (n := fn.ntmps) hm c pls pc [] hc (KTop rs R) (fun _ => 0) _ _ w ?_ h) ?_)
  · refine ⟨by simp; omega, rfl, ?_, fun k cs hk => by simp [lk] at hk, fun k k' cs cs' hk => by simp [lk] at hk, hH, hM, hdj, ⟨rfl, rfl, rfl, Nat.le_refl _, fun _ _ _ => rfl⟩, fun b hb => .inl hb, fun b hb => .inl hb, PH.le.refl _, ?_⟩
    · intro i sv hi
      obtain ⟨v, rfl, _, hv⟩ := argFr_lk vs 0 i sv hi
      have hlt : i < vs.length := by
        have := (List.getElem?_eq_some_iff.1 hv).1; simpa using this
      simp only [conc]
      rw [Array.getElem?_append_left (by simpa using hlt)]
      simpa using hv
    · intro i k off hi
      obtain ⟨v, h1, _⟩ := argFr_lk vs 0 i _ hi
      cases h1
  · intro e a' w' hq
    have key : ∀ ρ s, Rel w H M fn.ntmps ρ s a' w' → (match resV s rs with | some v => R v s.H s.M | none => False) →
        a'.defers = [] ∧ ∃ v, (results fn a'.tmps).run P w' = .ok v w' ∧ ∃ v' H' M', Ending.returned v = .returned v' ∧ Stp w w' M ∧ H.le H' ∧ PH.on H' w' ∧ PH.on M' w' ∧ PH.disj H' M' ∧
          (∀ b, H' b ≠ none → H b ≠ none ∨ M b ≠ none ∨ w.heap.size ≤ b) ∧ (∀ b, M' b ≠ none → M b ≠ none ∨ w.heap.size ≤ b) ∧ R v' H' M' := by
      intro ρ s hR hK
      split at hK
      · rename_i v hv
        exact ⟨hR.defers, v, results_run hr hv hR, v, s.H, s.M, rfl, hR.step, hR.leH, hR.H, hR.M, hR.dj, hR.hH, hR.hM, hK⟩
      · exact hK.elim
    cases e with
    | normal => obtain ⟨ρ, s, hR, hK⟩ := hq; exact key ρ s hR hK
    | ret => obtain ⟨ρ, s, hR, hK⟩ := hq; exact key ρ s hR hK
    | exit i => obtain ⟨ρ, s, hR, hK⟩ := hq; exact hK.elim
    | goto l => exact hq.elim
    | panic ch => exact hq.elim
    | outgrown => exact hq.elim

end
end Go.Proofs.YtlhhdlhnpgiamaaDoor.X
