/- What is asked at each instruction is enough: the instructions that touch no memory. -/
import Derived.Test.YtlhhdlhnpgiamaaDoorXC
import Derived.WalkKit
import Derived.Laws.Cover3
import Derived.Laws.Slices
import Derived.Laws.MakeOwn
import Derived.Laws.Rows
import Derived.Laws.OwnMore
import Derived.Laws.BytesString
set_option linter.unusedVariables false
set_option linter.unusedSimpArgs false
namespace Go.Proofs.YtlhhdlhnpgiamaaDoor.X
open Go Go.RowKit

def conc (ρ : Nat → Nat) : SV → Value
  | .v x => x
  | .ptr k off => .pointer (some ⟨ρ k, off, none⟩)

structure Rel (w0 : World) (H0 M0 : PH) (n : Nat) (ρ : Nat → Nat) (s : St) (a : Act) (w : World) : Prop where
  size : a.tmps.size = n
  defers : a.defers = []
  fr : ∀ i sv, lk s.fr i = some sv → a.tmps[i]? = some (conc ρ sv)
  lh : ∀ k cs, lk s.lh k = some cs → (∃ T, w.heap[ρ k]? = some (.cells cs.toArray T (0, 0))) ∧ s.H (ρ k) = none ∧ s.M (ρ k) = none ∧ w0.heap.size ≤ ρ k
  inj : ∀ k k' cs cs', lk s.lh k = some cs → lk s.lh k' = some cs' → ρ k = ρ k' → k = k'
  H : s.H.on w
  M : s.M.on w
  dj : PH.disj s.H s.M
  step : Stp w0 w M0
  hM : ∀ b, s.M b ≠ none → M0 b ≠ none ∨ w0.heap.size ≤ b
  hH : ∀ b, s.H b ≠ none → H0 b ≠ none ∨ M0 b ≠ none ∨ w0.heap.size ≤ b
  leH : H0.le s.H
  wf : ∀ i k off, lk s.fr i = some (.ptr k off) → ∃ cs, lk s.lh k = some cs

section
variable {P : Program} {w0 : World} {H0 M0 : PH} {n : Nat} {ρ : Nat → Nat} {s : St} {a : Act} {w : World}

theorem Rel.ev (h : Rel w0 H0 M0 n ρ s a w) {x : Operand} {sv : SV} (hx : X.ev s.fr x = some sv) : a.eval x = conc ρ sv := by
  cases x with
  | tmp t =>
    have := h.fr t sv hx
    simp [Act.eval, this]
  | const v => simp [X.ev] at hx; subst hx; rfl
  | global g => simp [X.ev] at hx; subst hx; rfl
  | func f => simp [X.ev] at hx; subst hx; rfl

theorem Rel.put (h : Rel w0 H0 M0 n ρ s a w) {d : Nat} (hd : d < n) (sv : SV) (hsv : ∀ k off, sv = .ptr k off → ∃ cs, lk s.lh k = some cs := by intro _ _ h; cases h) : Rel w0 H0 M0 n ρ (s.put d sv) (a.put (some d) (conc ρ sv)) w := by
  refine ⟨by simp [Act.put, h.size], h.defers, ?_, h.lh, h.inj, h.H, h.M, h.dj, h.step, h.hM, h.hH, h.leH, ?_⟩
  case refine_2 =>
    intro i k off hi
    have hi' : lk ((d, sv) :: s.fr) i = some (.ptr k off) := hi
    simp only [lk] at hi'
    by_cases hdi : d = i
    · rw [if_pos hdi] at hi'
      injection hi' with hi'
      exact hsv k off hi'
    · rw [if_neg hdi] at hi'
      exact h.wf i k off hi'
  intro i sv' hi
  have hi' : lk ((d, sv) :: s.fr) i = some sv' := hi
  simp only [lk] at hi'
  by_cases hdi : d = i
  · subst hdi
    rw [if_pos rfl] at hi'
    injection hi' with hi'
    subst hi'
    simp [Act.put, h.size, hd]
  · rw [if_neg hdi] at hi'
    simp only [Act.put]
    rw [Array.getElem?_setIfInBounds_ne hdi]
    exact h.fr i sv' hi'

/-- The operation yields v in whatever world. -/
def Runs (P : Program) (o : Oper) (a : Act) (v : Value) : Prop := ∀ w, (execOp a.eval o).run P w = .ok (.value v) w

/-- What a pure instruction's soundness says. -/
def Good (P : Program) (w0 : World) (H0 M0 : PH) (n : Nat) (ρ : Nat → Nat) (s : St) (a : Act) (w : World) (o : Oper) (d : Nat) (r : PT) (K : St → Prop) : Prop :=
  ∃ v sv, Runs P o a v ∧ Rel w0 H0 M0 n ρ (s.put d sv) (a.put (some d) v) w ∧ XL P r (s.put d sv) K

variable {o : Oper} {d : Nat} {r : PT} {K : St → Prop}

theorem Good.mk (hR : Rel w0 H0 M0 n ρ s a w) (hd : d < n) (sv : SV) (hr : Runs P o a (conc ρ sv)) (hX : XL P r (s.put d sv) K)
    (hsv : ∀ k off, sv = .ptr k off → ∃ cs, lk s.lh k = some cs := by intro _ _ h; cases h) : Good P w0 H0 M0 n ρ s a w o d r K :=
  ⟨_, _, hr, hR.put hd sv hsv, hX⟩

theorem Rel.ev_wf (h : Rel w0 H0 M0 n ρ s a w) {x : Operand} {k off : Nat} (hx : X.ev s.fr x = some (.ptr k off)) : ∃ cs, lk s.lh k = some cs := by
  cases x with
  | tmp t => exact h.wf t k off hx
  | const v => simp [X.ev] at hx
  | global g => simp [X.ev] at hx
  | func f => simp [X.ev] at hx

theorem good_mv {x : Operand} (hR : Rel w0 H0 M0 n ρ s a w) (hd : d < n) (ho : o.op = .move x ∨ o.op = .assign x) (hX : XL P (.op none (.mv d x) r) s K) : Good P w0 H0 M0 n ρ s a w o d r K := by
  simp only [XL, gateOf] at hX
  split at hX
  · rename_i sv hsv
    refine .mk hR hd sv (fun w => ?_) hX (fun k off e => hR.ev_wf (e ▸ hsv))
    rcases ho with ho | ho <;> simp [execOp, ho, hR.ev hsv]
  · exact hX.elim

theorem good_pick {c x y : Operand} (hR : Rel w0 H0 M0 n ρ s a w) (hd : d < n) (ho : o.op = .pick c x y) (hX : XL P (.op none (.pick d c x y) r) s K) : Good P w0 H0 M0 n ρ s a w o d r K := by
  simp only [XL, gateOf] at hX
  split at hX
  · rename_i t sx sy hc hx hy
    refine .mk hR hd _ (fun w => ?_) hX (fun k off e => by cases t <;> simp only [selSV] at e <;> subst e <;> first | exact hR.ev_wf (x := y) hy | exact hR.ev_wf (x := x) hx)
    have hc' := hR.ev hc
    have hx' := hR.ev hx
    have hy' := hR.ev hy
    cases t <;> simp [execOp, ho, hc', hx', hy', conc, asBool, selSV]
  · exact hX.elim

theorem run_eqGuard_int (op : BinOp) (t : TypeId) (x y : Operand) (k k' : IntKind) (m p : Int) (w : World) : (eqGuard op t x y (.int k m) (.int k' p)).run P w = .ok () w := by
  cases op <;> simp [eqGuard]
theorem run_eqGuard_string (op : BinOp) (t : TypeId) (x y : Operand) (m p : ByteArray) (w : World) : (eqGuard op t x y (.string m) (.string p)).run P w = .ok () w := by
  cases op <;> simp [eqGuard]

theorem good_bin {op : BinOp} {t ty : TypeId} {x y : Operand}
    (hR : Rel w0 H0 M0 n ρ s a w) (hd : d < n) (ho : o.op = .binOp op t x y ty) (hX : XL P (.op none (.bin d op x y) r) s K) : Good P w0 H0 M0 n ρ s a w o d r K := by
  simp only [XL, gateOf] at hX
  split at hX
  · rename_i u v hx hy
    have hx' := hR.ev hx
    have hy' := hR.ev hy
    simp only [conc] at hx' hy'
    have base : ∀ val, (∀ w, (do eqGuard op t x y u v; binOp op t u v : Sem Value).run P w = .ok val w) → Runs P o a val := fun val h w => by
      have := h w
      simp only [execOp, ho, hx', hy', Sem.run_bind, this, Result.andThen_ok, Sem.run_pure]
    cases u with
    | int k m =>
      cases v with
      | int k' p =>
        have hkk : op ≠ .shl → op ≠ .shr → k = k' := fun h1 h2 => by
          by_cases hk : k = k'
          · exact hk
          · cases op <;> first | (exact absurd rfl h1) | (exact absurd rfl h2) | (simp only [binV, hk, if_false] at hX)
        cases op <;> simp only [binV] at hX
        case shl =>
          obtain ⟨hp, hp2, hX⟩ := hX
          refine .mk hR hd _ (base _ fun w => ?_) hX
          have e : min p.toNat k.bits = p.toNat := by omega
          have e2 : ¬ p < 0 := by omega
          simp [run_eqGuard_int, binOp, Op.shift, e, e2, conc]
        case shr =>
          obtain ⟨hp, hp2, hX⟩ := hX
          refine .mk hR hd _ (base _ fun w => ?_) hX
          have e : min p.toNat k.bits = p.toNat := by omega
          have e2 : ¬ p < 0 := by omega
          simp [run_eqGuard_int, binOp, Op.shift, e, e2, conc]
        all_goals
          obtain rfl := hkk (by simp) (by simp)
          rw [if_pos rfl] at hX
          simp only [binI] at hX
        all_goals try (exact hX.elim)
        case add => exact .mk hR hd _ (base _ fun w => by simp [run_eqGuard_int, binOp, Op.intArith, conc]) hX
        case sub => exact .mk hR hd _ (base _ fun w => by simp [run_eqGuard_int, binOp, Op.intArith, conc]) hX
        case mul => exact .mk hR hd _ (base _ fun w => by simp [run_eqGuard_int, binOp, Op.intArith, conc]) hX
        case and => exact .mk hR hd _ (base _ fun w => by simp [run_eqGuard_int, binOp, Op.intBits, conc, bitsV]) hX
        case or => exact .mk hR hd _ (base _ fun w => by simp [run_eqGuard_int, binOp, Op.intBits, conc, bitsV]) hX
        case xor => exact .mk hR hd _ (base _ fun w => by simp [run_eqGuard_int, binOp, Op.intBits, conc, bitsV]) hX
        case quo => obtain ⟨hp, hX⟩ := hX; exact .mk hR hd _ (base _ fun w => by simp [run_eqGuard_int, binOp, Op.intDiv, hp, conc]) hX
        case rem => obtain ⟨hp, hX⟩ := hX; exact .mk hR hd _ (base _ fun w => by simp [run_eqGuard_int, binOp, Op.intDiv, hp, conc]) hX
        all_goals obtain ⟨h1, h2⟩ := hX
        case eql =>
          by_cases hc : m = p
          · exact .mk hR hd _ (base _ fun w => by simp [run_eqGuard_int, binOp, Op.intCmp, conc, hc]) (h1 hc)
          · exact .mk hR hd _ (base _ fun w => by simp [run_eqGuard_int, binOp, Op.intCmp, conc, hc]) (h2 hc)
        case neq =>
          by_cases hc : m = p
          · exact .mk hR hd _ (base _ fun w => by simp [run_eqGuard_int, binOp, Op.intCmp, conc, hc]) (h2 (by simpa using hc))
          · exact .mk hR hd _ (base _ fun w => by simp [run_eqGuard_int, binOp, Op.intCmp, conc, hc]) (h1 hc)
        case lss =>
          by_cases hc : m < p
          · exact .mk hR hd _ (base _ fun w => by simp [run_eqGuard_int, binOp, Op.intCmp, conc, hc]) (h1 hc)
          · exact .mk hR hd _ (base _ fun w => by simp [run_eqGuard_int, binOp, Op.intCmp, conc]; omega) (h2 hc)
        case leq =>
          by_cases hc : m ≤ p
          · exact .mk hR hd _ (base _ fun w => by simp [run_eqGuard_int, binOp, Op.intCmp, conc, hc]) (h1 hc)
          · exact .mk hR hd _ (base _ fun w => by simp [run_eqGuard_int, binOp, Op.intCmp, conc]; omega) (h2 hc)
        case gtr =>
          by_cases hc : p < m
          · exact .mk hR hd _ (base _ fun w => by simp [run_eqGuard_int, binOp, Op.intCmp, conc, hc]) (h1 hc)
          · exact .mk hR hd _ (base _ fun w => by simp [run_eqGuard_int, binOp, Op.intCmp, conc]; omega) (h2 hc)
        case geq =>
          by_cases hc : p ≤ m
          · exact .mk hR hd _ (base _ fun w => by simp [run_eqGuard_int, binOp, Op.intCmp, conc, hc]) (h1 hc)
          · exact .mk hR hd _ (base _ fun w => by simp [run_eqGuard_int, binOp, Op.intCmp, conc]; omega) (h2 hc)
      | _ => simp only [binV] at hX
    | string m =>
      cases v with
      | string p =>
        have hl : ∀ (x y : ByteArray), (x.toList == y.toList) = decide (x = y) := fun x y => by
          rw [ByteArray.toList_eq, ByteArray.toList_eq]
          by_cases h : x = y
          · subst h; simp
          · have : ¬ x.data.toList = y.data.toList := fun e => h (ByteArray.ext (Array.toList_inj.1 e))
            have h2 : ¬ x.data = y.data := fun e => h (ByteArray.ext e)
            simp [h, h2]
        cases op <;> simp only [binV] at hX <;> try (exact hX.elim)
        case add =>
          obtain ⟨h1, hX⟩ := hX
          refine .mk hR hd _ (base _ fun w => ?_) hX
          have e : ¬ (IntKind.i64.max < ((m.size + p.size : Nat) : Int)) := by simp only [IntKind.max, IntKind.signed, IntKind.bits]; simp; omega
          simp only [run_eqGuard_string, binOp, Op.stringOp, conc, Sem.run_bind, Result.andThen_ok, gt_iff_lt, e, if_false, Sem.run_pure]
        case eql =>
          obtain ⟨h1, h2⟩ := hX
          by_cases hc : m = p
          · exact .mk hR hd _ (base _ fun w => by simp [run_eqGuard_string, binOp, Op.stringOp, conc, hc]) (h1 hc)
          · exact .mk hR hd _ (base _ fun w => by simp [run_eqGuard_string, binOp, Op.stringOp, conc, hl, hc]) (h2 hc)
        case neq =>
          obtain ⟨h1, h2⟩ := hX
          by_cases hc : m = p
          · exact .mk hR hd _ (base _ fun w => by simp [run_eqGuard_string, binOp, Op.stringOp, conc, hc]) (h2 (by simpa using hc))
          · exact .mk hR hd _ (base _ fun w => by simp [run_eqGuard_string, binOp, Op.stringOp, conc, hl, hc]) (h1 hc)
      | _ => simp only [binV] at hX
    | _ => simp only [binV] at hX
  · exact hX.elim

theorem good_beq {neg : Bool} {t ty : TypeId} {x y : Operand} (hu : P.underlying t = some .bool) (hR : Rel w0 H0 M0 n ρ s a w) (hd : d < n)
    (ho : o.op = .binOp (if neg then .neq else .eql) t x y ty) (hX : XL P (.op none (.beq d neg x y) r) s K) : Good P w0 H0 M0 n ρ s a w o d r K := by
  simp only [XL, gateOf] at hX
  split at hX
  · rename_i p q hx hy
    refine .mk hR hd _ (fun w => ?_) hX
    have hx' := hR.ev hx
    have hy' := hR.ev hy
    have eg : ∀ op, (eqGuard op t x y (.bool p) (.bool q)).run P w = .ok () w := fun op => by cases op <;> simp [eqGuard]
    cases neg with
    | false => simp only [execOp, ho, hx', hy', conc, Bool.false_eq_true, if_false, Sem.run_bind, eg, run_eql_bool w t p q hu, Result.andThen_ok, Sem.run_pure]
    | true => simp only [execOp, ho, hx', hy', conc, if_true, Sem.run_bind, eg, run_neq_bool w t p q hu, Result.andThen_ok, Sem.run_pure, bne]
  · exact hX.elim

theorem good_isnil {neg : Bool} {t ty e : TypeId} {x : Operand} (hu : P.underlying t = some (.slice e)) (hR : Rel w0 H0 M0 n ρ s a w) (hd : d < n)
    (ho : o.op = .binOp (if neg then .neq else .eql) t x (.const (.slice none 0 0)) ty) (hX : XL P (.op none (.isnil d neg x) r) s K) : Good P w0 H0 M0 n ρ s a w o d r K := by
  simp only [XL, gateOf] at hX
  split at hX
  · rename_i A m c hx
    refine .mk hR hd _ (fun w => ?_) hX
    have hx' := hR.ev hx
    have eg : ∀ op, (eqGuard op t x (.const (.slice none 0 0)) (.slice A m c) (.slice none 0 0)).run P w = .ok () w := fun op => by cases op <;> simp [eqGuard]
    have hy' : a.eval (.const (.slice none 0 0)) = .slice none 0 0 := rfl
    have e1 : (binOp .eql t (.slice A m c) (.slice none 0 0)).run P w = .ok (.bool A.isNone) w := by
      simp only [binOp]
      simp [run_equal_slice_nil w t e A m c hu]
    cases neg with
    | false => simp only [execOp, ho, hx', hy', conc, Bool.false_eq_true, if_false, Sem.run_bind, eg, e1, Result.andThen_ok, Sem.run_pure]
    | true => simp only [execOp, ho, hx', hy', conc, if_true, Sem.run_bind, eg, run_neq_slice_nil w t e A m c hu, Result.andThen_ok, Sem.run_pure]; cases A <;> rfl
  · exact hX.elim

theorem good_not {t : TypeId} {x : Operand} (hR : Rel w0 H0 M0 n ρ s a w) (hd : d < n) (ho : o.op = .unOp .not t x) (hX : XL P (.op none (.not d x) r) s K) : Good P w0 H0 M0 n ρ s a w o d r K := by
  simp only [XL, gateOf] at hX
  split at hX
  · rename_i b hx
    exact .mk hR hd _ (fun w => by simp [execOp, ho, hR.ev hx, conc, Op.unary]) hX
  · exact hX.elim

theorem good_neg {t : TypeId} {x : Operand} (hR : Rel w0 H0 M0 n ρ s a w) (hd : d < n) (ho : o.op = .unOp .neg t x) (hX : XL P (.op none (.neg d x) r) s K) : Good P w0 H0 M0 n ρ s a w o d r K := by
  simp only [XL, gateOf] at hX
  split at hX
  · rename_i k m hx
    exact .mk hR hd _ (fun w => by simp [execOp, ho, hR.ev hx, conc, Op.unary, Op.intArith]) hX
  · exact hX.elim

theorem good_cv {S T : TypeId} {k k0 : IntKind} {x : Operand} (hS : P.underlying S = some (.int k0)) (hT : P.underlying T = some (.int k)) (hR : Rel w0 H0 M0 n ρ s a w) (hd : d < n) (ho : o.op = .convert S T x) (hX : XL P (.op none (.cv d k x) r) s K) : Good P w0 H0 M0 n ρ s a w o d r K := by
  simp only [XL, gateOf] at hX
  split at hX
  · rename_i k' m hx
    exact .mk hR hd _ (fun w => by simp [execOp, ho, hR.ev hx, conc, convert, run_underlying hS, run_underlying hT, Conv.intToInt]) hX
  · exact hX.elim

theorem addr_add (b off k : Nat) : (⟨b, off, none⟩ : Addr).add k = ⟨b, off + k, none⟩ := by
  unfold Addr.add; split <;> simp_all

theorem good_fa {t : TypeId} {fs : Array Field} {f : Nat} {fd : Field} {i : TypeInfo} {x : Operand} (hu : P.underlying t = some (.struct fs)) (hf : fs[f]? = some fd) (hi : P.info? fd.type = some i) (hz : i.size ≠ 0)
    (hR : Rel w0 H0 M0 n ρ s a w) (hd : d < n) (ho : o.op = .fieldAddr t x f) (hX : XL P (.op none (.fa d fd.offset x) r) s K) : Good P w0 H0 M0 n ρ s a w o d r K := by
  simp only [XL, gateOf] at hX
  split at hX
  · rename_i k off hx
    exact .mk hR hd _ (fun w => by simp [execOp, ho, hR.ev hx, conc, Instr.fieldAt, run_underlying hu, hf, Instr.sureAddr, fieldPlace, sizeOf, typeInfo, hi, hz, addr_add]) hX
      (fun k' off' e => by injection e with e1 e2; subst e1; exact hR.ev_wf hx)
  · rename_i b off hx
    exact .mk hR hd _ (fun w => by simp [execOp, ho, hR.ev hx, conc, Instr.fieldAt, run_underlying hu, hf, Instr.sureAddr, fieldPlace, sizeOf, typeInfo, hi, hz, addr_add]) hX
  · exact hX.elim

theorem takeN_spec {α : Type} : ∀ (m : Nat) (l r : List α), takeN m l = some r → r = l.take m ∧ m ≤ l.length
  | 0, l, r, h => by simp [takeN] at h; subst h; simp
  | m + 1, [], r, h => by simp [takeN] at h
  | m + 1, x :: l, r, h => by
    simp only [takeN] at h
    split at h
    · rename_i q hq
      obtain ⟨h1, h2⟩ := takeN_spec m l q hq
      injection h with h
      subst h
      simp [h1, h2]
    · simp at h

theorem takeN_of {α : Type} (m : Nat) (l : List α) (h : m ≤ l.length) : takeN m l = some (l.take m) := by
  induction m generalizing l with
  | zero => simp [takeN]
  | succ m ih =>
    cases l with
    | nil => simp at h
    | cons x l => simp only [takeN, ih l (by simpa using h), List.take_succ_cons]

theorem ldv_agg {m off : Nat} {cs : List Value} {v : Value} (h : ldv true m off cs = some v) : off + m ≤ cs.length ∨ m = 0 := by
  simp only [ldv] at h
  split at h
  · rename_i l hl
    have := (takeN_spec _ _ _ hl).2
    simp at this
    omega
  · simp at h

theorem ldv_agg_eq {m off : Nat} {cs : List Value} {v : Value} (h : ldv true m off cs = some v) : v = .agg ((cs.drop off).take m).toArray := by
  simp only [ldv] at h
  split at h
  · rename_i l hl
    rw [(takeN_spec _ _ _ hl).1] at h
    injection h with h
    exact h.symm
  · simp at h

theorem ldv_one {m off : Nat} {cs : List Value} {v : Value} (h : ldv false m off cs = some v) : cs[off]? = some v := by
  simp only [ldv] at h
  split at h
  · rename_i u hl
    obtain ⟨h1, h2⟩ := takeN_spec _ _ _ hl
    injection h with h
    subst h
    have : (cs.drop off)[0]? = some u := by
      cases hc : cs.drop off with
      | nil => rw [hc] at h2; simp at h2
      | cons x l => rw [hc] at h1; simp at h1; simp [h1]
    simpa using this
  · simp at h

def isAggD : TypeDesc → Bool
  | .struct _ => true
  | .array _ _ => true
  | _ => false

theorem isAgg_run (P : Program) (t : TypeId) (u : TypeDesc) (hu : P.underlying t = some u) (w : World) :
    (isAgg t).run P w = .ok (isAggD u) w := by
  unfold isAgg
  rw [Sem.run_bind, run_underlying hu w]
  cases u <;> simp [isAggD]

theorem run_part_agg (t : TypeId) (u : TypeDesc) (i : TypeInfo) (hu : P.underlying t = some u) (hi : P.info? t = some i) (ha : (isAggD u) = true)
    (cs : Array Value) (off : Nat) (w : World) : (part t cs off).run P w = .ok (.agg (cs.extract off (off + i.size))) w := by
  simp only [part, Sem.run_bind, isAgg_run P t u hu w, ha, Result.andThen_ok, if_true]
  simp [sizeOf, typeInfo, hi]
theorem run_part_one (t : TypeId) (u : TypeDesc) (hu : P.underlying t = some u) (ha : (isAggD u) = false)
    (cs : Array Value) (off : Nat) (v : Value) (hv : cs[off]? = some v) (w : World) : (part t cs off).run P w = .ok v w := by
  simp only [part, Sem.run_bind, isAgg_run P t u hu w, ha, Result.andThen_ok]
  simp [hv]

theorem good_fd {t : TypeId} {fs : Array Field} {f : Nat} {fd : Field} {u : TypeDesc} {i : TypeInfo} {x : Operand} {agg : Bool} {m : Nat} (hu : P.underlying t = some (.struct fs)) (hf : fs[f]? = some fd)
    (hfu : P.underlying fd.type = some u) (hi : P.info? fd.type = some i) (ha : (isAggD u) = agg) (hm : agg = true → m = i.size)
    (hR : Rel w0 H0 M0 n ρ s a w) (hd : d < n) (ho : o.op = .field t x f) (hX : XL P (.op none (.fd d agg m fd.offset x) r) s K) : Good P w0 H0 M0 n ρ s a w o d r K := by
  simp only [XL, gateOf] at hX
  split at hX
  · rename_i cs hx
    split at hX
    · rename_i v hv
      refine .mk hR hd _ (fun w => ?_) hX
      cases agg with
      | true =>
        obtain rfl := hm rfl
        have e := ldv_agg_eq hv
        have e2 : (cs.extract fd.offset (fd.offset + i.size)) = ((cs.toList.drop fd.offset).take i.size).toArray := by
          apply Array.ext'
          simp
        simp only [execOp, ho, hR.ev hx, conc, Instr.field, Sem.run_bind, run_underlying hu, Result.andThen_ok, hf, asAgg, Sem.run_pure, run_part_agg _ u i hfu hi ha, e, e2]
      | false =>
        have e := ldv_one hv
        have e3 : cs[fd.offset]? = some v := by simpa using e
        simp only [execOp, ho, hR.ev hx, conc, Instr.field, Sem.run_bind, run_underlying hu, Result.andThen_ok, hf, asAgg, Sem.run_pure, run_part_one _ u hfu ha cs fd.offset v e3]
    · exact hX.elim
  · exact hX.elim

theorem good_ia {t e : TypeId} {j : TypeInfo} {x i : Operand} (hu : P.underlying t = some (.slice e)) (hj : P.info? e = some j)
    (hR : Rel w0 H0 M0 n ρ s a w) (hd : d < n) (ho : o.op = .indexAddr t x i) (hX : XL P (.op none (.ia d j.size x i) r) s K) : Good P w0 H0 M0 n ρ s a w o d r K := by
  simp only [XL, gateOf] at hX
  split at hX
  · rename_i A m c k q hx hi
    obtain ⟨h0, h1, b, off, rfl, hX⟩ := hX
    refine .mk hR hd _ (fun w => ?_) hX
    have hx' := hR.ev hx
    have hi' := hR.ev hi
    simp [execOp, ho, hx', hi', conc, Instr.indexAt, asIntOf, run_underlying hu, h0, h1, sizeOf, typeInfo, hj, addr_add]
  · exact hX.elim

theorem good_iaA {t e : TypeId} {len : Nat} {j : TypeInfo} {x i : Operand} (hu : P.underlying t = some (.array len e)) (hj : P.info? e = some j)
    (hR : Rel w0 H0 M0 n ρ s a w) (hd : d < n) (ho : o.op = .indexAddr t x i) (hX : XL P (.op none (.iaA d j.size len x i) r) s K) : Good P w0 H0 M0 n ρ s a w o d r K := by
  simp only [XL, gateOf] at hX
  split at hX
  · rename_i b off k q hx hi
    obtain ⟨h0, h1, b', off', he, hX⟩ := hX
    injection he with he; injection he with he1 he2; subst he1; subst he2
    refine .mk hR hd _ (fun w => ?_) hX
    have hx' := hR.ev hx
    have hi' := hR.ev hi
    simp [execOp, ho, hx', hi', conc, Instr.indexAt, Instr.sureAddr, asIntOf, run_underlying hu, h0, h1, sizeOf, typeInfo, hj, addr_add]
  · exact hX.elim

theorem good_ix {t : TypeId} {x i : Operand} (hu : P.underlying t = some .string)
    (hR : Rel w0 H0 M0 n ρ s a w) (hd : d < n) (ho : o.op = .index t x i) (hX : XL P (.op none (.ix d x i) r) s K) : Good P w0 H0 M0 n ρ s a w o d r K := by
  simp only [XL, gateOf] at hX
  split at hX
  · rename_i st k q hx hi
    obtain ⟨h0, h1, hX⟩ := hX
    refine .mk hR hd _ (fun w => ?_) hX
    have hx' := hR.ev hx
    have hi' := hR.ev hi
    have hlt : q.toNat < st.size := by omega
    have e : st[q.toNat]? = some st[q.toNat] := by simp [hlt]
    have e2 : st[q.toNat].toNat = bAt st q.toNat := by
      unfold bAt
      have : st.data.toList.getD q.toNat 0 = st[q.toNat] := by
        have hl : st.data[q.toNat]? = some (st.data[q.toNat]'hlt) := Array.getElem?_eq_getElem hlt
        simp [List.getD, hl]; rfl
      rw [this]
    simp [execOp, ho, hx', hi', conc, Instr.index, asIntOf, run_underlying hu, h0, e, e2]
  · exact hX.elim

theorem good_ex {i : Nat} {x : Operand} (hR : Rel w0 H0 M0 n ρ s a w) (hd : d < n) (ho : o.op = .extract x i) (hX : XL P (.op none (.ex d i x) r) s K) : Good P w0 H0 M0 n ρ s a w o d r K := by
  simp only [XL, gateOf] at hX
  split at hX
  · rename_i vs hx
    split at hX
    · rename_i v hv
      have hv' : vs[i]? = some v := by simpa using hv
      exact .mk hR hd _ (fun w => by simp [execOp, ho, hR.ev hx, conc, Instr.extract, hv']) hX
    · exact hX.elim
  · exact hX.elim

theorem good_len {c : Call} {x : Operand} {t e : TypeId} (hc : c.callee = .builtin .len) (ha : c.args = #[x]) (ht : c.argTypes = #[t]) (hu : P.underlying t = some (.slice e))
    (hR : Rel w0 H0 M0 n ρ s a w) (hd : d < n) (ho : o.op = .call c) (hX : XL P (.op none (.len d x) r) s K) : Good P w0 H0 M0 n ρ s a w o d r K := by
  simp only [XL, gateOf] at hX
  split at hX
  · rename_i A m q hx
    exact .mk hR hd _ (fun w => by simp [execOp, ho, resolve, hc, ha, ht, hR.ev hx, conc, invoke, builtin, Builtin.len_, run_underlying hu, goInt]) hX
  · exact hX.elim

theorem good_lens {c : Call} {x : Operand} {t : TypeId} (hc : c.callee = .builtin .len) (ha : c.args = #[x]) (ht : c.argTypes = #[t]) (hu : P.underlying t = some .string)
    (hR : Rel w0 H0 M0 n ρ s a w) (hd : d < n) (ho : o.op = .call c) (hX : XL P (.op none (.lens d x) r) s K) : Good P w0 H0 M0 n ρ s a w o d r K := by
  simp only [XL, gateOf] at hX
  split at hX
  · rename_i q hx
    exact .mk hR hd _ (fun w => by simp [execOp, ho, resolve, hc, ha, ht, hR.ev hx, conc, invoke, builtin, Builtin.len_, run_underlying hu, goInt]) hX
  · exact hX.elim

theorem good_mm {c : Call} {isMax : Bool} {x y : Operand} (hc : c.callee = .builtin (if isMax then .max else .min)) (ha : c.args = #[x, y])
    (hR : Rel w0 H0 M0 n ρ s a w) (hd : d < n) (ho : o.op = .call c) (hX : XL P (.op none (.mm d isMax x y) r) s K) : Good P w0 H0 M0 n ρ s a w o d r K := by
  simp only [XL, gateOf] at hX
  split at hX
  · rename_i k p k' q hx hy
    have hx' := hR.ev hx
    have hy' := hR.ev hy
    refine .mk hR hd _ (fun w => ?_) hX
    cases isMax <;> simp [execOp, ho, resolve, hc, ha, hx', hy', conc, invoke, builtin, Builtin.max_, Builtin.min_, Builtin.max2, Builtin.min2]
  · exact hX.elim

theorem good_sl {t e : TypeId} {i : TypeInfo} {x lo hi : Operand} (hu : P.underlying t = some (.slice e)) (hi' : P.info? e = some i)
    (hR : Rel w0 H0 M0 n ρ s a w) (hd : d < n) (ho : o.op = .slice t x (some lo) (some hi) none) (hX : XL P (.op none (.sl d i.size x lo hi) r) s K) : Good P w0 H0 M0 n ρ s a w o d r K := by
  simp only [XL, gateOf] at hX
  split at hX
  · rename_i A m c k l k' h hx hl hh
    obtain ⟨h0, h1, h2, hX⟩ := hX
    refine .mk hR hd _ (fun w => ?_) hX
    have e1 : (0 : Int) ≤ l ∧ l ≤ (h.toNat : Int) := by omega
    have e2 : (0 : Int) ≤ h ∧ h ≤ (c : Int) := by omega
    simp only [execOp, ho, hR.ev hx, hR.ev hl, hR.ev hh, conc, Option.map_some, Option.map_none, Instr.sliceAt, Instr.slice, Instr.sliceBounds, Sem.run_bind, run_underlying hu, Result.andThen_ok, run_sliceBound_if, e1, e2, and_self, if_true, Sem.run_pure, sizeOf, typeInfo, run_program, hi']
  · exact hX.elim

theorem good_slh {t e : TypeId} {i : TypeInfo} {x hi : Operand} (hu : P.underlying t = some (.slice e)) (hi' : P.info? e = some i)
    (hR : Rel w0 H0 M0 n ρ s a w) (hd : d < n) (ho : o.op = .slice t x none (some hi) none) (hX : XL P (.op none (.slh d x hi) r) s K) : Good P w0 H0 M0 n ρ s a w o d r K := by
  simp only [XL, gateOf] at hX
  split at hX
  · rename_i A m c k' h hx hh
    obtain ⟨h0, h2, hX⟩ := hX
    refine .mk hR hd _ (fun w => ?_) hX
    have e2 : (0 : Int) ≤ h ∧ h ≤ (c : Int) := by omega
    have e3 : (A.map fun x => x.add (0 * i.size)) = A := by cases A <;> simp [Addr.add]
    simp only [execOp, ho, hR.ev hx, hR.ev hh, conc, Option.map_some, Option.map_none, Instr.sliceAt, Instr.slice, Instr.sliceBounds, Sem.run_bind, run_underlying hu, Result.andThen_ok, run_sliceBound_if, e2, and_self, if_true, Sem.run_pure, sizeOf, typeInfo, run_program, hi', e3, ite_self, Nat.sub_zero]
  · exact hX.elim

theorem good_sll {t e : TypeId} {i : TypeInfo} {x lo : Operand} (hu : P.underlying t = some (.slice e)) (hi' : P.info? e = some i)
    (hR : Rel w0 H0 M0 n ρ s a w) (hd : d < n) (ho : o.op = .slice t x (some lo) none none) (hX : XL P (.op none (.sll d i.size x lo) r) s K) : Good P w0 H0 M0 n ρ s a w o d r K := by
  simp only [XL, gateOf] at hX
  split at hX
  · rename_i A m c k l hx hl
    obtain ⟨hmc, h0, h1, h2, hX⟩ := hX
    refine .mk hR hd _ (fun w => ?_) hX
    have e1 : (0 : Int) ≤ l ∧ l ≤ (m : Int) := by omega
    simp only [execOp, ho, hR.ev hx, hR.ev hl, conc, Option.map_some, Option.map_none, Instr.sliceAt, Instr.slice, Instr.sliceBounds, Sem.run_bind, run_underlying hu, Result.andThen_ok, run_sliceBound_if, e1, and_self, if_true, Sem.run_pure, sizeOf, typeInfo, run_program, hi', Int.toNat_natCast]
  · exact hX.elim

theorem oSV_ev (hR : Rel w0 H0 M0 n ρ s a w) {x : Option Operand} {z l : Int} (h : oSV s.fr x z = some l) : (x = none ∧ l = z) ∨ ∃ q k, x = some q ∧ a.eval q = .int k l := by
  cases x with
  | none => simp [oSV] at h; exact .inl ⟨rfl, h.symm⟩
  | some q =>
    simp only [oSV] at h
    split at h
    · rename_i k m hq
      injection h with h
      subst h
      exact .inr ⟨q, k, rfl, hR.ev hq⟩
    · cases h

theorem good_ss {t : TypeId} {x : Operand} {lo hi : Option Operand} (hu : P.underlying t = some .string)
    (hR : Rel w0 H0 M0 n ρ s a w) (hd : d < n) (ho : o.op = .slice t x lo hi none) (hX : XL P (.op none (.ss d x lo hi) r) s K) : Good P w0 H0 M0 n ρ s a w o d r K := by
  simp only [XL, gateOf] at hX
  split at hX
  · rename_i st hx
    split at hX
    · rename_i l h hl hh
      obtain ⟨h0, h1, h2, hX⟩ := hX
      refine .mk hR hd _ (fun w => ?_) hX
      have eh : (0 : Int) ≤ h ∧ h ≤ (st.size : Int) := by omega
      have el : (0 : Int) ≤ l ∧ l ≤ (h.toNat : Int) := by omega
      have eh2 : (0 : Int) ≤ l ∧ l ≤ (st.size : Int) := by omega
      rcases oSV_ev hR hl with ⟨rfl, rfl⟩ | ⟨ql, kl, rfl, hql⟩ <;> rcases oSV_ev hR hh with ⟨rfl, rfl⟩ | ⟨qh, kh, rfl, hqh⟩
      · simp [execOp, ho, hR.ev hx, conc, Instr.sliceAt, Instr.slice, Instr.sliceBounds, run_underlying hu]
      · simp [execOp, ho, hR.ev hx, conc, Instr.sliceAt, Instr.slice, Instr.sliceBounds, run_underlying hu, hqh, run_sliceBound_if, eh]
      · simp [execOp, ho, hR.ev hx, conc, Instr.sliceAt, Instr.slice, Instr.sliceBounds, run_underlying hu, hql, run_sliceBound_if, eh2]
      · simp [execOp, ho, hR.ev hx, conc, Instr.sliceAt, Instr.slice, Instr.sliceBounds, run_underlying hu, hql, hqh, run_sliceBound_if, eh, el]
        intro hm
        exact absurd hm (by omega)
    · exact hX.elim
  · exact hX.elim

theorem cellsL_eq (v : Value) : cellsL v = v.cells.toList := by cases v <;> rfl

theorem stv_spec {α : Type} : ∀ (off : Nat) (vs cs cs' : List α), stv off vs cs = some cs' → off + vs.length ≤ cs.length ∧ cs' = cs.take off ++ vs ++ cs.drop (off + vs.length)
  | 0, [], cs, cs', h => by simp [stv] at h; subst h; simp
  | 0, v :: vs, [], cs', h => by simp [stv] at h
  | 0, v :: vs, c :: cs, cs', h => by
    simp only [stv] at h
    split at h
    · rename_i q hq
      obtain ⟨h1, h2⟩ := stv_spec 0 vs cs q hq
      injection h with h
      subst h; subst h2
      refine ⟨by simp at h1 ⊢; omega, ?_⟩
      simp [Nat.add_comm]
    · cases h
  | k + 1, vs, [], cs', h => by simp [stv] at h
  | k + 1, vs, c :: cs, cs', h => by
    simp only [stv] at h
    split at h
    · rename_i q hq
      obtain ⟨h1, h2⟩ := stv_spec k vs cs q hq
      injection h with h
      subst h; subst h2
      refine ⟨by simp at h1 ⊢; omega, ?_⟩
      rw [show k + 1 + vs.length = (k + vs.length) + 1 by omega]
      simp
    · cases h

theorem stv_of {α : Type} (off : Nat) (vs cs : List α) (h : off + vs.length ≤ cs.length) : stv off vs cs = some (cs.take off ++ vs ++ cs.drop (off + vs.length)) := by
  cases hq : stv off vs cs with
  | some q => rw [(stv_spec off vs cs q hq).2]
  | none =>
    exfalso
    induction off generalizing cs with
    | zero =>
      induction vs generalizing cs with
      | nil => simp [stv] at hq
      | cons v vs ih =>
        cases cs with
        | nil => simp at h
        | cons c cs =>
          simp only [stv] at hq
          cases hr : stv 0 vs cs with
          | none => exact ih cs (by simp at h ⊢; omega) hr
          | some r => simp [hr] at hq
    | succ k ih =>
      cases cs with
      | nil => simp at h
      | cons c cs =>
        simp only [stv] at hq
        cases hr : stv k vs cs with
        | none => exact ih cs (by simp at h ⊢; omega) hr
        | some r => simp [hr] at hq

theorem foldl_set {α : Type} (off : Nat) : ∀ (vs : List α) (k : Nat) (cs : Array α), off + k + vs.length ≤ cs.size →
    ((vs.zipIdx k).foldl (fun (cs : Array α) (p : α × Nat) => cs.setIfInBounds (off + p.2) p.1) cs).toList = cs.toList.take (off + k) ++ vs ++ cs.toList.drop (off + k + vs.length)
  | [], k, cs, h => by simp
  | v :: vs, k, cs, h => by
    simp only [List.zipIdx_cons, List.foldl_cons]
    have h' : off + (k + 1) + vs.length ≤ (cs.setIfInBounds (off + k) v).size := by simp at h ⊢; omega
    rw [foldl_set off vs (k + 1) _ h']
    have hlt : off + k < cs.toList.length := by simp at h ⊢; omega
    simp only [Array.toList_setIfInBounds, List.length_cons]
    have e1 : (cs.toList.set (off + k) v).take (off + (k + 1)) = cs.toList.take (off + k) ++ [v] := by
      rw [show off + (k + 1) = (off + k) + 1 by omega, List.take_succ_eq_append_getElem (by simpa using hlt), List.take_set_of_le (Nat.le_refl _)]
      simp
    have e2 : (cs.toList.set (off + k) v).drop (off + (k + 1) + vs.length) = cs.toList.drop (off + k + (vs.length + 1)) := by
      rw [List.drop_set_of_lt (by omega)]
      congr 1; omega
    rw [e1, e2]
    simp

theorem fill_of {fr : List (Nat × SV)} (hev : ∀ x sv, X.ev fr x = some sv → a.eval x = conc ρ sv) (pl : Nat → Option (Nat × Nat)) : ∀ (parts : List (Nat × Operand)) (ps : List (Nat × Nat × Operand)) (cs cs' : List Value),
    partsOf pl parts = some ps → fillL fr ps cs = some cs' → Instr.fill pl cs.toArray (parts.map fun p => (p.1, a.eval p.2)) = some cs'.toArray
  | [], ps, cs, cs', hp, hf => by
    simp [partsOf] at hp; subst hp
    simp [fillL] at hf; subst hf
    rfl
  | (i, x) :: l, ps, cs, cs', hp, hf => by
    simp only [partsOf] at hp
    split at hp
    · rename_i off m r hpl hr
      injection hp with hp
      subst hp
      simp only [fillL] at hf
      split at hf
      · rename_i v hv
        split at hf
        · rename_i hlen
          split at hf
          · rename_i cs1 hst
            have ih := fill_of hev pl l r cs1 cs' hr hf
            have he := hev x _ hv
            obtain ⟨h1, h2⟩ := stv_spec _ _ _ _ hst
            have hsz : v.cells.size = m := by rw [cellsL_eq] at hlen; simpa using hlen
            rw [cellsL_eq] at h1 h2
            have hle : ¬ (off + v.cells.size > cs.toArray.size) := by simp at h1 ⊢; omega
            have hc : ¬ (v.cells.size ≠ m ∨ off + v.cells.size > cs.toArray.size) := by simp [hsz] at hle ⊢; omega
            simp only [List.map_cons, Instr.fill, hpl, he, conc]
            rw [if_neg (by simpa using hc)]
            have hfold : (v.cells.zipIdx.foldl (fun (cs : Array Value) (p : Value × Nat) => cs.setIfInBounds (off + p.2) p.1) cs.toArray) = cs1.toArray := by
              apply Array.ext'
              have := foldl_set off v.cells.toList 0 cs.toArray (by simp at h1 ⊢; omega)
              rw [← Array.foldl_toList]
              simp only [Array.toList_zipIdx, Nat.add_zero] at this ⊢
              rw [this, h2]
            rw [show (fun (cs : Array Value) (x : Value × Nat) => match x with | (c, j) => cs.setIfInBounds (off + j) c) = (fun (cs : Array Value) (p : Value × Nat) => cs.setIfInBounds (off + p.2) p.1) from rfl, hfold]
            exact ih
          · cases hf
        · cases hf
      · cases hf
    · cases hp

theorem good_bld {t : TypeId} {parts : Array (Nat × Operand)} {pl : Nat → Option (Nat × Nat)} {ps : List (Nat × Nat × Operand)} {z : List Value} (hps : partsOf pl parts.toList = some ps)
    (hb : ∀ vs cells, Instr.fill pl z.toArray vs = some cells → P.built t vs = some cells)
    (hR : Rel w0 H0 M0 n ρ s a w) (hd : d < n) (ho : o.op = .build t parts) (hX : XL P (.op none (.bld d z ps) r) s K) : Good P w0 H0 M0 n ρ s a w o d r K := by
  simp only [XL, gateOf] at hX
  split at hX
  · rename_i cs' hf
    refine .mk hR hd _ (fun w => ?_) hX
    have h1 := fill_of (a := a) (ρ := ρ) (fun x sv h => hR.ev h) pl parts.toList ps z cs' hps hf
    have h2 := run_build (P := P) w t (parts.map fun (i, x) => (i, a.eval x)) cs'.toArray (hb _ _ (by simpa using h1))
    simp only [execOp, ho, Sem.run_bind, h2, Result.andThen_ok, Sem.run_pure, conc]
  · exact hX.elim

end
end Go.Proofs.YtlhhdlhnpgiamaaDoor.X
