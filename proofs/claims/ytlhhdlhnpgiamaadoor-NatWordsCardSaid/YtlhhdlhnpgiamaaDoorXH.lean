/- Stepping: the equations by which what is asked is worked out. -/
import Derived.Test.YtlhhdlhnpgiamaaDoorXG
set_option linter.unusedVariables false
set_option linter.unusedSimpArgs false
namespace Go.Proofs.YtlhhdlhnpgiamaaDoor.X
open Go Go.RowKit

inductive Res where
  | go (s : St)
  | evt (e : XT → (St → Prop) → Prop)
  | bad

def runR : Res → XT → (St → Prop) → Prop
  | .go s, X, K => X s K
  | .evt e, X, K => e X K
  | .bad, _, _ => False

def putO (d : Nat) (s : St) : Option SV → Res
  | some sv => .go (s.put d sv)
  | none => .bad
def putV (d : Nat) (s : St) : Option Value → Res
  | some v => .go (s.put d (.v v))
  | none => .bad

def rPick (d : Nat) (s : St) : Option SV → Option SV → Option SV → Res
  | some (.v (.bool t)), some a, some b => .go (s.put d (selSV t a b))
  | _, _, _ => .bad
def rNew (d : Nat) (cs : List Value) (s : St) : Option (List Value) → Res
  | none => .go ⟨(d, .ptr d 0) :: s.fr, (d, cs) :: s.lh, s.H, s.M⟩
  | some _ => .bad
def rBox (d : Nat) (s : St) : Option (List Value) → Option SV → Res
  | none, some (.v v) => .go ⟨(d, .ptr d 0) :: s.fr, (d, cellsL v) :: s.lh, s.H, s.M⟩
  | _, _ => .bad
def rLdL (d : Nat) (agg : Bool) (n off : Nat) (s : St) : Option (List Value) → Res
  | some cs => putV d s (ldv agg n off cs)
  | none => .bad
def rLd (d : Nat) (agg : Bool) (n : Nat) (s : St) : Option SV → Res
  | some (.ptr k off) => rLdL d agg n off s (lk s.lh k)
  | some (.v p) => .evt fun X K => EvLd agg n p d X s K
  | none => .bad
def rLdx (d : Nat) (agg : Bool) (n : Nat) (s : St) : Option SV → Res
  | some (.ptr k off) => rLdL d agg n off s (lk s.lh k)
  | some (.v p) => .evt fun X K => EvLdx agg n p d X s K
  | none => .bad
def stC (n : Nat) (v : Value) : Option (List Value) → Option (List Value)
  | none => none
  | some cs => if (cellsL v).length = n ∧ (cellsL v).all (·.oneCell') = true then some cs else none
def rStL (k : Nat) (s : St) : Option (List Value) → Res
  | some cs' => .go ⟨s.fr, upd s.lh k cs', s.H, s.M⟩
  | none => .bad
def stAt (n off : Nat) (v : Value) : Option (List Value) → Option (List Value)
  | some cs => (match (cellsL v).length == n && (cellsL v).all (·.oneCell') with | true => stv off (cellsL v) cs | false => none)
  | none => none
def rSt (n : Nat) (s : St) : Option SV → Option SV → Res
  | some (.ptr k off), some (.v v) => rStL k s (stAt n off v (lk s.lh k))
  | some (.v p), some (.v v) => .evt fun X K => EvSt n p v X s K
  | _, _ => .bad
def rB (d : Nat) (s : St) : BRes → Res
  | .val v => .go (s.put d (.v v))
  | .cnd c => .evt fun X K => EvIf c d X s K
  | .quo k a b => .evt fun X K => EvQuo k a b d X s K
  | .rem k a b => .evt fun X K => EvRem k a b d X s K
  | .shl k a b => .evt fun X K => EvShl k a b d X s K
  | .shr k a b => .evt fun X K => EvShr k a b d X s K
  | .cat a b => .evt fun X K => EvCat a b d X s K
  | .no => .bad
def rBin (d : Nat) (op : BinOp) (s : St) : Option SV → Option SV → Res
  | some (.v a), some (.v b) => rB d s (binV op a b)
  | _, _ => .bad
def rBeq (d : Nat) (neg : Bool) (s : St) : Option SV → Option SV → Res
  | some (.v (.bool a)), some (.v (.bool b)) => .go (s.put d (.v (.bool (if neg then a != b else a == b))))
  | _, _ => .bad
def rNil (d : Nat) (neg : Bool) (s : St) : Option SV → Res
  | some (.v (.slice A _ _)) => .go (s.put d (.v (.bool (if neg then A.isSome else A.isNone))))
  | _ => .bad
def rNot (d : Nat) (s : St) : Option SV → Res
  | some (.v (.bool b)) => .go (s.put d (.v (.bool (!b))))
  | _ => .bad
def rNeg (d : Nat) (s : St) : Option SV → Res
  | some (.v (.int k n)) => .go (s.put d (.v (.int k (k.wrap (0 - n)))))
  | _ => .bad
def rCv (d : Nat) (k : IntKind) (s : St) : Option SV → Res
  | some (.v (.int _ n)) => .go (s.put d (.v (.int k (k.wrap n))))
  | _ => .bad
def rFa (d off : Nat) (s : St) : Option SV → Res
  | some (.ptr k o) => .go (s.put d (.ptr k (o + off)))
  | some (.v (.pointer (some ⟨b, o, none⟩))) => .go (s.put d (.v (.pointer (some ⟨b, o + off, none⟩))))
  | _ => .bad
def rFd (d : Nat) (agg : Bool) (n off : Nat) (s : St) : Option SV → Res
  | some (.v (.agg cs)) => putV d s (ldv agg n off cs.toList)
  | _ => .bad
def rIa (d sz : Nat) (s : St) : Option SV → Option SV → Res
  | some (.v (.slice A n _)), some (.v (.int _ j)) => .evt fun X K => EvIa sz A n j d X s K
  | _, _ => .bad
def rIaA (d sz len : Nat) (s : St) : Option SV → Option SV → Res
  | some (.v (.pointer (some ⟨b, o, none⟩))), some (.v (.int _ j)) => .evt fun X K => EvIa sz (some ⟨b, o, none⟩) len j d X s K
  | _, _ => .bad
def rIx (d : Nat) (s : St) : Option SV → Option SV → Res
  | some (.v (.string t)), some (.v (.int _ j)) => .evt fun X K => EvIx t j d X s K
  | _, _ => .bad
def rEx (d i : Nat) (s : St) : Option SV → Res
  | some (.v (.tuple vs)) => putV d s vs.toList[i]?
  | _ => .bad
def rLen (d : Nat) (s : St) : Option SV → Res
  | some (.v (.slice _ n _)) => .go (s.put d (.v (.int .i64 n)))
  | _ => .bad
def rLens (d : Nat) (s : St) : Option SV → Res
  | some (.v (.string t)) => .go (s.put d (.v (.int .i64 t.size)))
  | _ => .bad
def rMm (d : Nat) (isMax : Bool) (s : St) : Option SV → Option SV → Res
  | some (.v (.int k a)), some (.v (.int _ b)) => .go (s.put d (.v (.int k (if isMax then (if a < b then b else a) else (if b < a then b else a)))))
  | _, _ => .bad
def rSl (d sz : Nat) (s : St) : Option SV → Option SV → Option SV → Res
  | some (.v (.slice A _ c)), some (.v (.int _ l)), some (.v (.int _ h)) => .evt fun X K => EvSl sz A c l h d X s K
  | _, _, _ => .bad
def rSlh (d : Nat) (s : St) : Option SV → Option SV → Res
  | some (.v (.slice A _ c)), some (.v (.int _ h)) => .evt fun X K => EvSlh A c h d X s K
  | _, _ => .bad
def rSll (d sz : Nat) (s : St) : Option SV → Option SV → Res
  | some (.v (.slice A n c)), some (.v (.int _ l)) => .evt fun X K => n ≤ c ∧ EvSl sz A c l n d X s K
  | _, _ => .bad
def rSs2 (d : Nat) (t : ByteArray) (s : St) : Option Int → Option Int → Res
  | some l, some h => .evt fun X K => EvSs t l h d X s K
  | _, _ => .bad
def rSs (d : Nat) (s : St) (lo hi : Option Operand) : Option SV → Res
  | some (.v (.string t)) => rSs2 d t s (oSV s.fr lo 0) (oSV s.fr hi t.size)
  | _ => .bad
def rBld (d : Nat) (s : St) : Option (List Value) → Res
  | some cs => .go (s.put d (.v (.agg cs.toArray)))
  | none => .bad
def rMk (d T : Nat) (zs : List Value) (by_ : Nat) (s : St) : Option SV → Res
  | some (.v (.int .i64 j)) => .evt fun X K => EvMk T zs by_ j d X s K
  | _ => .bad
def rBsl (d T len : Nat) (s : St) : Option (List Value) → Res
  | some cs => .evt fun X K => EvBsl T len cs d X s K
  | none => .bad
def rCall (P : Program) (d : Nat) (f : Nat) (s : St) : Option (List Value) → Res
  | some vs => .evt fun X K => EvCall P f vs d X s K
  | none => .bad
def rCallP (P : Program) (d : Nat) (f : Nat) (s : St) : Option (List Value) → Res
  | some vs => .evt fun X K => EvCallP P f vs d X s K
  | none => .bad
def rApp (d T sz by_ : Nat) (s : St) : Option SV → Option SV → Res
  | some (.v (.slice A n c)), some (.v (.slice B m _)) => .evt fun X K => EvApp T sz by_ A n c B m d X s K
  | _, _ => .bad
def rB2s (d : Nat) (s : St) : Option SV → Res
  | some (.v (.slice A n _)) => .evt fun X K => EvB2s A n d X s K
  | _ => .bad

def stepI (P : Program) (s : St) : PI → Res
  | .mv d x => putO d s (ev s.fr x)
  | .pick d c a b => rPick d s (ev s.fr c) (ev s.fr a) (ev s.fr b)
  | .new d cs => rNew d cs s (lk s.lh d)
  | .box d x => rBox d s (lk s.lh d) (ev s.fr x)
  | .ld d agg n x => rLd d agg n s (ev s.fr x)
  | .ldx d agg n x => rLdx d agg n s (ev s.fr x)
  | .st n x y => rSt n s (ev s.fr x) (ev s.fr y)
  | .bin d op x y => rBin d op s (ev s.fr x) (ev s.fr y)
  | .beq d neg x y => rBeq d neg s (ev s.fr x) (ev s.fr y)
  | .isnil d neg x => rNil d neg s (ev s.fr x)
  | .not d x => rNot d s (ev s.fr x)
  | .neg d x => rNeg d s (ev s.fr x)
  | .cv d k x => rCv d k s (ev s.fr x)
  | .fa d off x => rFa d off s (ev s.fr x)
  | .fd d agg n off x => rFd d agg n off s (ev s.fr x)
  | .ia d sz x i => rIa d sz s (ev s.fr x) (ev s.fr i)
  | .iaA d sz len x i => rIaA d sz len s (ev s.fr x) (ev s.fr i)
  | .ix d x i => rIx d s (ev s.fr x) (ev s.fr i)
  | .ex d i x => rEx d i s (ev s.fr x)
  | .len d x => rLen d s (ev s.fr x)
  | .lens d x => rLens d s (ev s.fr x)
  | .mm d isMax x y => rMm d isMax s (ev s.fr x) (ev s.fr y)
  | .sl d sz x lo hi => rSl d sz s (ev s.fr x) (ev s.fr lo) (ev s.fr hi)
  | .slh d x hi => rSlh d s (ev s.fr x) (ev s.fr hi)
  | .sll d sz x lo => rSll d sz s (ev s.fr x) (ev s.fr lo)
  | .ss d x lo hi => rSs d s lo hi (ev s.fr x)
  | .bld d cs parts => rBld d s (fillL s.fr parts cs)
  | .mk d T zs by_ x => rMk d T zs by_ s (ev s.fr x)
  | .bsl d T len cs parts => rBsl d T len s (fillL s.fr parts cs)
  | .call d false f args => rCall P d f s (evs s.fr args)
  | .call d true f args => rCallP P d f s (evs s.fr args)
  | .app d T sz by_ x y => rApp d T sz by_ s (ev s.fr x) (ev s.fr y)
  | .b2s d x => rB2s d s (ev s.fr x)
  | .s2b _ _ _ => .bad
  | .nop _ => .bad

def skipR (s : St) : Option Nat → Res
  | some d => .go (s.put d (.v undef))
  | none => .go s

def gateR (P : Program) (s : St) (pi : PI) : Option SV → Bool → Res
  | some (.v (.bool true)), true => stepI P s pi
  | some (.v (.bool true)), false => skipR s pi.dst
  | some (.v (.bool false)), true => skipR s pi.dst
  | some (.v (.bool false)), false => stepI P s pi
  | some (.v (.tuple _)), _ => skipR s pi.dst
  | _, _ => .bad

def gstep (P : Program) (s : St) (pi : PI) : Option (Nat × Bool) → Res
  | none => stepI P s pi
  | some (t, w) => gateR P s pi (lk s.fr t) w

theorem XL_nil (P : Program) (s : St) (K : St → Prop) : XL P .nil s K = K s := rfl
theorem XL_alt (P : Program) (l r : PT) (s : St) (K : St → Prop) : XL P (.alt l r) s K = (XL P l s K ∧ XL P r s K) := rfl

theorem XL_none (P : Program) (pi : PI) (r : PT) (s : St) (K : St → Prop) : XL P (.op none pi r) s K = runR (stepI P s pi) (XL P r) K := by
  have hn : gateOf s.fr none = some true := rfl
  cases pi
  case mv d x => simp only [XL, hn, stepI]; cases ev s.fr x <;> rfl
  case pick d c x y =>
    simp only [XL, hn, stepI]
    rcases ev s.fr c with _ | ⟨v⟩ | _ <;> rcases ev s.fr x with _ | _ <;> rcases ev s.fr y with _ | _ <;> first | rfl | (cases v <;> rfl)
  case new d cs => simp only [XL, hn, stepI]; cases lk s.lh d <;> rfl
  case box d x => simp only [XL, hn, stepI]; cases lk s.lh d <;> rcases ev s.fr x with _ | ⟨v⟩ | _ <;> rfl
  case ld d agg n x =>
    simp only [XL, hn, stepI]
    rcases ev s.fr x with _ | ⟨v⟩ | ⟨k, off⟩
    · rfl
    · rfl
    · simp only [rLd]
      cases lk s.lh k with
      | none => rfl
      | some cs => simp only [rLdL]; cases ldv agg n off cs <;> rfl
  case ldx d agg n x =>
    simp only [XL, hn, stepI]
    rcases ev s.fr x with _ | ⟨v⟩ | ⟨k, off⟩
    · rfl
    · rfl
    · simp only [rLdx]
      cases lk s.lh k with
      | none => rfl
      | some cs => simp only [rLdL]; cases ldv agg n off cs <;> rfl
  case st n x y =>
    simp only [XL, hn, stepI]
    rcases ev s.fr x with _ | ⟨v⟩ | ⟨k, off⟩ <;> rcases ev s.fr y with _ | ⟨u⟩ | ⟨k', off'⟩ <;> first | rfl | skip
    simp only [rSt]
    cases lk s.lh k with
    | none => rfl
    | some cs =>
      simp only [stAt]
      by_cases h1 : (cellsL u).length = n
      · by_cases h2 : (cellsL u).all (·.oneCell') = true
        · simp only [h1, h2, true_and, beq_self_eq_true, Bool.and_self]
          cases stv off (cellsL u) cs <;> rfl
        · have h2' : (cellsL u).all (·.oneCell') = false := by simpa using h2
          simp only [h2', Bool.and_false]
          simp [rStL, runR]
      · have h1' : ((cellsL u).length == n) = false := by simpa using h1
        simp only [h1', Bool.false_and]
        simp [h1, rStL, runR]
  case bin d op x y =>
    simp only [XL, hn, stepI]
    rcases ev s.fr x with _ | ⟨v⟩ | _ <;> rcases ev s.fr y with _ | ⟨u⟩ | _ <;> first | rfl | skip
    simp only [rBin]
    cases binV op v u <;> rfl
  case beq d neg x y =>
    simp only [XL, hn, stepI]
    rcases ev s.fr x with _ | ⟨v⟩ | _ <;> rcases ev s.fr y with _ | ⟨u⟩ | _ <;> first | rfl | (cases v <;> first | rfl | (cases u <;> rfl))
  case isnil d neg x =>
    simp only [XL, hn, stepI]
    rcases ev s.fr x with _ | ⟨v⟩ | _ <;> first | rfl | (cases v <;> rfl)
  case not d x =>
    simp only [XL, hn, stepI]
    rcases ev s.fr x with _ | ⟨v⟩ | _ <;> first | rfl | (cases v <;> rfl)
  case neg d x =>
    simp only [XL, hn, stepI]
    rcases ev s.fr x with _ | ⟨v⟩ | _ <;> first | rfl | (cases v <;> rfl)
  case cv d k x =>
    simp only [XL, hn, stepI]
    rcases ev s.fr x with _ | ⟨v⟩ | _ <;> first | rfl | (cases v <;> rfl)
  case fa d off x =>
    simp only [XL, hn, stepI]
    rcases ev s.fr x with _ | ⟨v⟩ | _ <;> first | rfl | skip
    cases v <;> first | rfl | skip
    case pointer p =>
      rcases p with _ | ⟨b, o, sp⟩
      · rfl
      · cases sp <;> rfl
  case fd d agg n off x =>
    simp only [XL, hn, stepI]
    rcases ev s.fr x with _ | ⟨v⟩ | _ <;> first | rfl | skip
    cases v <;> first | rfl | skip
    case agg cs => simp only [rFd]; cases ldv agg n off cs.toList <;> rfl
  case ia d sz x i =>
    simp only [XL, hn, stepI]
    rcases ev s.fr x with _ | ⟨v⟩ | _ <;> rcases ev s.fr i with _ | ⟨u⟩ | _ <;> first | rfl | (cases v <;> first | rfl | (cases u <;> rfl))
  case iaA d sz len x i =>
    simp only [XL, hn, stepI]
    rcases ev s.fr x with _ | ⟨v⟩ | _ <;> rcases ev s.fr i with _ | ⟨u⟩ | _ <;> first | rfl | skip
    · cases v <;> first | rfl | skip
      case pointer p =>
        rcases p with _ | ⟨b, o, sp⟩
        · rfl
        · cases sp <;> rfl
    · cases v <;> first | rfl | skip
      case pointer p =>
        rcases p with _ | ⟨b, o, sp⟩
        · rfl
        · cases sp <;> first | rfl | (cases u <;> rfl)
    · cases v <;> first | rfl | skip
      case pointer p =>
        rcases p with _ | ⟨b, o, sp⟩
        · rfl
        · cases sp <;> rfl
  case ix d x i =>
    simp only [XL, hn, stepI]
    rcases ev s.fr x with _ | ⟨v⟩ | _ <;> rcases ev s.fr i with _ | ⟨u⟩ | _ <;> first | rfl | (cases v <;> first | rfl | (cases u <;> rfl))
  case ex d i x =>
    simp only [XL, hn, stepI]
    rcases ev s.fr x with _ | ⟨v⟩ | _ <;> first | rfl | skip
    cases v <;> first | rfl | skip
    case tuple vs => simp only [rEx]; cases vs.toList[i]? <;> rfl
  case len d x =>
    simp only [XL, hn, stepI]
    rcases ev s.fr x with _ | ⟨v⟩ | _ <;> first | rfl | (cases v <;> rfl)
  case lens d x =>
    simp only [XL, hn, stepI]
    rcases ev s.fr x with _ | ⟨v⟩ | _ <;> first | rfl | (cases v <;> rfl)
  case mm d isMax x y =>
    simp only [XL, hn, stepI]
    rcases ev s.fr x with _ | ⟨v⟩ | _ <;> rcases ev s.fr y with _ | ⟨u⟩ | _ <;> first | rfl | (cases v <;> first | rfl | (cases u <;> rfl))
  case sl d sz x lo hi =>
    simp only [XL, hn, stepI]
    rcases ev s.fr x with _ | ⟨v⟩ | _ <;> rcases ev s.fr lo with _ | ⟨u⟩ | _ <;> rcases ev s.fr hi with _ | ⟨t⟩ | _ <;> first | rfl | (cases v <;> first | rfl | (cases u <;> first | rfl | (cases t <;> rfl)))
  case slh d x hi =>
    simp only [XL, hn, stepI]
    rcases ev s.fr x with _ | ⟨v⟩ | _ <;> rcases ev s.fr hi with _ | ⟨u⟩ | _ <;> first | rfl | (cases v <;> first | rfl | (cases u <;> rfl))
  case sll d sz x lo =>
    simp only [XL, hn, stepI]
    rcases ev s.fr x with _ | ⟨v⟩ | _ <;> rcases ev s.fr lo with _ | ⟨u⟩ | _ <;> first | rfl | (cases v <;> first | rfl | (cases u <;> rfl))
  case ss d x lo hi =>
    simp only [XL, hn, stepI]
    rcases ev s.fr x with _ | ⟨v⟩ | _ <;> first | rfl | skip
    cases v <;> first | rfl | skip
    case string t => simp only [rSs]; rcases oSV s.fr lo 0 with _ | l <;> rcases oSV s.fr hi t.size with _ | h <;> rfl
  case bld d cs parts => simp only [XL, hn, stepI]; cases fillL s.fr parts cs <;> rfl
  case mk d T zs by_ x =>
    simp only [XL, hn, stepI]
    rcases ev s.fr x with _ | ⟨v⟩ | _ <;> first | rfl | skip
    cases v <;> first | rfl | skip
    case int k j => cases k <;> rfl
  case bsl d T len cs parts => simp only [XL, hn, stepI]; cases fillL s.fr parts cs <;> rfl
  case call d pure f args => cases pure <;> (simp only [XL, hn, stepI]; cases evs s.fr args <;> rfl)
  case app d T sz by_ x y =>
    simp only [XL, hn, stepI]
    rcases ev s.fr x with _ | ⟨v⟩ | _ <;> rcases ev s.fr y with _ | ⟨u⟩ | _ <;> first | rfl | (cases v <;> first | rfl | (cases u <;> rfl))
  case b2s d x =>
    simp only [XL, hn, stepI]
    rcases ev s.fr x with _ | ⟨v⟩ | _ <;> first | rfl | (cases v <;> rfl)
  case s2b d T x => rfl
  case nop d => rfl

theorem XL_op (P : Program) (g : Option (Nat × Bool)) (pi : PI) (r : PT) (s : St) (K : St → Prop) : XL P (.op g pi r) s K = runR (gstep P s pi g) (XL P r) K := by
  cases g with
  | none => exact XL_none P pi r s K
  | some tw =>
    obtain ⟨t, want⟩ := tw
    simp only [gstep]
    have hg : ∀ b, gateOf s.fr (some (t, want)) = some b → XL P (.op (some (t, want)) pi r) s K = (match b with | true => runR (stepI P s pi) (XL P r) K | false => runR (skipR s pi.dst) (XL P r) K) := by
      intro b hb
      cases b with
      | true =>
        rw [← XL_none]
        have hn : gateOf s.fr none = some true := rfl
        simp only [XL, hb, hn]
      | false =>
        simp only [XL, hb]
        cases pi.dst <;> rfl
    rcases hl : lk s.fr t with _ | ⟨v⟩ | ⟨k, off⟩
    · have : gateOf s.fr (some (t, want)) = none := by simp [gateOf, hl]
      simp only [XL, this]; rfl
    · cases v with
      | bool b =>
        rw [hg (b == want) (by simp [gateOf, hl])]
        cases b <;> cases want <;> rfl
      | tuple cs =>
        rw [hg false (by simp [gateOf, hl])]
        cases want <;> rfl
      | _ =>
        have : gateOf s.fr (some (t, want)) = none := by simp [gateOf, hl]
        simp only [XL, this]; rfl
    · have : gateOf s.fr (some (t, want)) = none := by simp [gateOf, hl]
      simp only [XL, this]; rfl

end Go.Proofs.YtlhhdlhnpgiamaaDoor.X
