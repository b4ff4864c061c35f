/- A region that draws its order, within a round of a range over a function. -/
import Derived.Test.YtlhhdlhnpgiamaaDoorRA
set_option linter.unusedVariables false
namespace Go.Proofs.YtlhhdlhnpgiamaaDoor.X
open Go Go.RowKit

theorem wpAnyIn_of {P : Program} {ops : Array Oper} {Q : Exit → Act → World → Prop} {l n : Nat} (hno : ¬ LetsOut Q) (hp : ∀ (i : Nat) (o : Oper), ops[i]? = some o → (∀ c, o.op ≠ .defer c) ∧ ∀ c, o.op ≠ .call c) :
    ∀ (f : Nat) (listed : Array Bool) (a : Act) (w : World), wpAny P .any ops Q f listed a w → wpAnyIn (Fence.wide.inRound l) n P .any ops Q f listed a w
  | 0, _, _, _, h => h
  | f + 1, listed, a, w, h => by
    refine ⟨h.1, fun i hi => ?_⟩
    have h2 := h.2 i hi
    unfold wpOp at h2
    unfold wpOpIn
    cases ho : ops[i]? with
    | none =>
      simp only [ho] at h2 ⊢
      exact wpAnyIn_of hno hp f _ a w h2
    | some o =>
      obtain ⟨p1, p2⟩ := hp i o ho
      have hab : ∀ g, o.about P w a.eval = some g → (Fence.wide.inRound l).fn g := fun g _ => trivial
      simp only [ho] at h2 ⊢
      split
      · rename_i hw
        rw [if_pos hw] at h2
        rcases h2 with h2 | h2
        · refine ⟨hab, ?_⟩
          rw [Oper.semAt_eq _ _ _ p1]
          unfold Oper.wp at h2
          generalize (execOp a.eval o).run P w = r at h2
          cases r with
          | ok x w' =>
            cases x with
            | value v => exact wpAnyIn_of hno hp f _ _ _ h2
            | skip => exact wpAnyIn_of hno hp f _ _ _ h2
            | defer d => exact wpAnyIn_of hno hp f _ _ _ h2
            | enter g args =>
              refine ⟨fun h => (by cases h), (CallsIn.inRound l (callsIn_wide.2 h2)).mono ?_⟩
              intro e w'' he
              cases e with
              | returned v => exact wpAnyIn_of hno hp f _ _ _ he
              | panicked c => exact he
              | outgrown => exact he
            | row _ _ =>
              refine ⟨fun h => (by cases h), fun c cs _ => ?_⟩
              obtain ⟨v, w'', r1, r2⟩ := h2 c cs
              exact ⟨v, w'', wpAnyIn_of hno hp f _ _ _ r1, stepsIn_wide.2 r2⟩
            | round => exact h2.elim
            | _ => exact h2.elim
          | halt x w' =>
            cases x with
            | panic v => exact h2
            | _ => exact h2.elim
        · exact absurd h2.2 hno
      · rename_i hw
        rw [if_neg hw] at h2
        exact ⟨hab, wpAnyIn_of hno hp f _ _ _ h2⟩

section
variable {P : Program} {ops : Array Oper} {Q : Exit → Act → World → Prop} {L : List Nat} {i : Nat} {r : IT} {a : Act} {w : World} {o : Oper}
theorem W_ld (v : Value) (b : Nat) (ho : ops[i]? = some o) (hw : o.guard = none) (hr : ∀ w', SameAt w b w' → (execOp a.eval o).run P w' = .ok (.value v) w') (k : W P ops Q (b :: L) r (a.put o.dst v) w) : W P ops Q L (.ld i r) a w :=
  .inr ⟨o, v, b, ho, .inl ⟨by unfold Region.wanted; rw [hw], hr⟩, k⟩
theorem W_fl (v : Value) (ho : ops[i]? = some o) (hw : o.guard = none) (hr : ∀ w', (execOp a.eval o).run P w' = .ok (.value v) w') (k : W P ops Q L r (a.put o.dst v) w) : W P ops Q L (.fl i r) a w :=
  ⟨o, v, ho, .inl ⟨by unfold Region.wanted; rw [hw], hr⟩, k⟩
/-- the region's one store, at its end -/
theorem W_st {w' : World} (ho : ops[i]? = some o) (hw : o.guard = none) (hs : isStore ops i = true) (hr : (execOp a.eval o).run P w = .ok .skip w') (k : Q .normal (a.put o.dst undef) w') : W P ops Q L (.act i .nil) a w := by
  unfold W wpOp
  rw [ho]
  have hw' : Region.wanted o (yielded ops a.tmps) = true := by unfold Region.wanted; rw [hw]
  simp only [hw', if_true]
  refine .inl ?_
  unfold Oper.wp
  rw [hr]
  exact ⟨fun h => by rw [hs] at h; (cases h), k⟩
end

def plainOps (ops : Array Oper) : Bool := ops.toList.all fun o => match o.op with | .defer _ | .call _ => false | _ => true
theorem plainOps_spec {ops : Array Oper} (h : plainOps ops = true) (i : Nat) (o : Oper) (ho : ops[i]? = some o) : (∀ c, o.op ≠ .defer c) ∧ ∀ c, o.op ≠ .call c := by
  have := List.all_eq_true.1 h o (by simpa using Array.mem_of_getElem? ho)
  constructor
  · intro c e; rw [e] at this; cases this
  · intro c e; rw [e] at this; cases this

/-- **A region that draws its order, in a round**: by a tree -/
theorem wpIn_tree {P : Program} {ops : Array Oper} {Q : Exit → Act → World → Prop} {l n id : Nat} {t : IT} {a : Act} {w : World} (hm : P.follows .mixedOrders = true) (hc : chkTop ops t = true) (hno : ¬ LetsOut Q) (hp : plainOps ops = true)
    (hQ : ∀ c a w d v, Q (.panic c) (Act.put a d v) w → Q (.panic c) a w) (h : W P ops Q [] t a { w with drawn := w.drawn + 1 }) : (Code.region id ops true).wpIn (Fence.wide.inRound l) n P Q a w := by
  simp only [chkTop, Bool.and_eq_true, decide_eq_true_eq] at hc
  refine wpIn_region_any hm (wpAnyIn_of hno (plainOps_spec hp) _ _ _ _ (wpAny_of_D (D := DL ops []) _ _ _ _ ((chk_sound hc.1.1 hQ t _ [] [] [] [] a _ ?_ (by simp) (by simp) (by simp) h).1 hc.2 _ hc.1.2)))
  intro j o _ hl e _ _
  simp [Array.getD_eq_getD_getElem?, Array.getElem?_replicate] at hl
  split at hl <;> simp at hl

end Go.Proofs.YtlhhdlhnpgiamaaDoor.X
