/- Stepping: the equations by which what is asked is worked out. -/
import Derived.Test.YtccdhgjfcgfgoaaGreatZX
import Derived.IntWalk
set_option linter.unusedVariables false
set_option linter.unusedSimpArgs false
namespace Go.Proofs.YtccdhgjfcgfgoaaGreat.X
open Go Go.RowKit

inductive Res where
  | go (s : St)
  | evt (e : XT → (St → Prop) → Prop)
  | bad

def runR : Res → XT → (St → Prop) → Prop
  | .go s, X, K => X s K
  | .evt e, X, K => e X K
  | .bad, _, _ => False

def putO (d : Nat) (s : St) : Option SV → Res
  | some sv => .go (s.put d sv)
  | none => .bad
def putV (d : Nat) (s : St) : Option Value → Res
  | some v => .go (s.put d (.v v))
  | none => .bad

def rPick (d : Nat) (s : St) : Option SV → Option SV → Option SV → Res
  | some (.v (.bool t)), some a, some b => .go (s.put d (selSV t a b))
  | _, _, _ => .bad
def rNew (d : Nat) (cs : List Value) (s : St) : Option (List Value) → Res
  | none => .go ⟨(d, .ptr d 0) :: s.fr, (d, cs) :: s.lh, s.H, s.M⟩
  | some _ => .bad
def rBox (d : Nat) (s : St) : Option (List Value) → Option SV → Res
  | none, some (.v v) => .go ⟨(d, .ptr d 0) :: s.fr, (d, cellsL v) :: s.lh, s.H, s.M⟩
  | _, _ => .bad
def rLdL (d : Nat) (agg : Bool) (n off : Nat) (s : St) : Option (List Value) → Res
  | some cs => putV d s (ldv agg n off cs)
  | none => .bad
def rLd (d : Nat) (agg : Bool) (n : Nat) (s : St) : Option SV → Res
  | some (.ptr k off) => rLdL d agg n off s (lk s.lh k)
  | some (.v p) => .evt fun X K => EvLd agg n p d X s K
  | none => .bad
def rLdx (d : Nat) (agg : Bool) (n : Nat) (s : St) : Option SV → Res
  | some (.ptr k off) => rLdL d agg n off s (lk s.lh k)
  | some (.v p) => .evt fun X K => EvLdx agg n p d X s K
  | none => .bad
def rStL (k : Nat) (s : St) : Option (List Value) → Res
  | some cs' => .go ⟨s.fr, upd s.lh k cs', s.H, s.M⟩
  | none => .bad
def stAt (n off : Nat) (v : Value) : Option (List Value) → Option (List Value)
  | some cs => (match (cellsL v).length == n && (cellsL v).all (·.oneCell') with | true => stv off (cellsL v) cs | false => none)
  | none => none
def rSt (n : Nat) (s : St) : Option SV → Option SV → Res
  | some (.ptr k off), some (.v v) => rStL k s (stAt n off v (lk s.lh k))
  | some (.v p), some (.v v) => .evt fun X K => EvSt n p v X s K
  | _, _ => .bad
def rB (d : Nat) (s : St) : BRes → Res
  | .val v => .go (s.put d (.v v))
  | .cnd c => .evt fun X K => EvIf c d X s K
  | .quo k a b => .evt fun X K => EvQuo k a b d X s K
  | .rem k a b => .evt fun X K => EvRem k a b d X s K
  | .shl k a b => .evt fun X K => EvShl k a b d X s K
  | .shr k a b => .evt fun X K => EvShr k a b d X s K
  | .cat a b => .evt fun X K => EvCat a b d X s K
  | .no => .bad
def rBin (d : Nat) (op : BinOp) (s : St) : Option SV → Option SV → Res
  | some (.v a), some (.v b) => rB d s (binV op a b)
  | _, _ => .bad
def rBeq (d : Nat) (neg : Bool) (s : St) : Option SV → Option SV → Res
  | some (.v (.bool a)), some (.v (.bool b)) => .go (s.put d (.v (.bool (if neg then a != b else a == b))))
  | _, _ => .bad
def rPeq (d : Nat) (s : St) : Option SV → Option SV → Res
  | some (.v (.agg u)), some (.v (.agg v)) => .evt fun X K => EvPeq u v d X s K
  | _, _ => .bad
def rNil (d : Nat) (neg : Bool) (s : St) : Option SV → Res
  | some (.v (.slice A _ _)) => .go (s.put d (.v (.bool (if neg then A.isSome else A.isNone))))
  | _ => .bad
def rNot (d : Nat) (s : St) : Option SV → Res
  | some (.v (.bool b)) => .go (s.put d (.v (.bool (!b))))
  | _ => .bad
def rNeg (d : Nat) (s : St) : Option SV → Res
  | some (.v (.int k n)) => .go (s.put d (.v (.int k (k.wrap (0 - n)))))
  | _ => .bad
def rCv (d : Nat) (k : IntKind) (s : St) : Option SV → Res
  | some (.v (.int _ n)) => .go (s.put d (.v (.int k (k.wrap n))))
  | _ => .bad
def rFa (d off : Nat) (s : St) : Option SV → Res
  | some (.ptr k o) => .go (s.put d (.ptr k (o + off)))
  | some (.v (.pointer (some ⟨b, o, none⟩))) => .go (s.put d (.v (.pointer (some ⟨b, o + off, none⟩))))
  | _ => .bad
def rFd (d : Nat) (agg : Bool) (n off : Nat) (s : St) : Option SV → Res
  | some (.v (.agg cs)) => putV d s (ldv agg n off cs.toList)
  | _ => .bad
def rIa (d sz : Nat) (s : St) : Option SV → Option SV → Res
  | some (.v (.slice A n _)), some (.v (.int _ j)) => .evt fun X K => EvIa sz A n j d X s K
  | _, _ => .bad
def rIaA (d sz len : Nat) (s : St) : Option SV → Option SV → Res
  | some (.v (.pointer (some ⟨b, o, none⟩))), some (.v (.int _ j)) => .evt fun X K => EvIa sz (some ⟨b, o, none⟩) len j d X s K
  | _, _ => .bad
def rIx (d : Nat) (s : St) : Option SV → Option SV → Res
  | some (.v (.string t)), some (.v (.int _ j)) => .evt fun X K => EvIx t j d X s K
  | _, _ => .bad
def rEx (d i : Nat) (s : St) : Option SV → Res
  | some (.v (.tuple vs)) => putV d s vs.toList[i]?
  | _ => .bad
def rLen (d : Nat) (s : St) : Option SV → Res
  | some (.v (.slice _ n _)) => .go (s.put d (.v (.int .i64 n)))
  | _ => .bad
def rLens (d : Nat) (s : St) : Option SV → Res
  | some (.v (.string t)) => .go (s.put d (.v (.int .i64 t.size)))
  | _ => .bad
def rMm (d : Nat) (isMax : Bool) (s : St) : Option SV → Option SV → Res
  | some (.v (.int k a)), some (.v (.int _ b)) => .go (s.put d (.v (.int k (if isMax then (if a < b then b else a) else (if b < a then b else a)))))
  | _, _ => .bad
def rSl (d sz : Nat) (s : St) : Option SV → Option SV → Option SV → Res
  | some (.v (.slice A _ c)), some (.v (.int _ l)), some (.v (.int _ h)) => .evt fun X K => EvSl sz A c l h d X s K
  | _, _, _ => .bad
def rSlh (d : Nat) (s : St) : Option SV → Option SV → Res
  | some (.v (.slice A _ c)), some (.v (.int _ h)) => .evt fun X K => EvSlh A c h d X s K
  | _, _ => .bad
def rSll (d sz : Nat) (s : St) : Option SV → Option SV → Res
  | some (.v (.slice A n c)), some (.v (.int _ l)) => .evt fun X K => n ≤ c ∧ EvSl sz A c l n d X s K
  | _, _ => .bad
def rSs2 (d : Nat) (t : ByteArray) (s : St) : Option Int → Option Int → Res
  | some l, some h => .evt fun X K => EvSs t l h d X s K
  | _, _ => .bad
def rSs (d : Nat) (s : St) (lo hi : Option Operand) : Option SV → Res
  | some (.v (.string t)) => rSs2 d t s (oSV s.fr lo 0) (oSV s.fr hi t.size)
  | _ => .bad
def rBld (d : Nat) (s : St) : Option (List Value) → Res
  | some cs => .go (s.put d (.v (.agg cs.toArray)))
  | none => .bad
def rMk (d T : Nat) (zs : List Value) (by_ : Nat) (s : St) : Option SV → Res
  | some (.v (.int .i64 j)) => .evt fun X K => EvMk T zs by_ j d X s K
  | _ => .bad
def rBsl (d T len : Nat) (s : St) : Option (List Value) → Res
  | some cs => .evt fun X K => EvBsl T len cs d X s K
  | none => .bad
def rCall (P : Program) (d : Nat) (f : Nat) (s : St) : Option (List Value) → Res
  | some vs => .evt fun X K => EvCall P f vs d X s K
  | none => .bad
def rCallP (P : Program) (d : Nat) (f : Nat) (s : St) : Option (List Value) → Res
  | some vs => .evt fun X K => EvCallP P f vs d X s K
  | none => .bad
def rCalv2 (P : Program) (d : Nat) (pure : Bool) (vs : List Value) (s : St) : Option Nat → Res
  | some f => .evt fun X K => hasBody P f = true ∧ (match pure with | true => EvCallP P f vs d X s K | false => EvCall P f vs d X s K)
  | none => .bad
def rCalv (P : Program) (d : Nat) (pure : Bool) (s : St) : Option SV → Option (List Value) → Res
  | some (.v v), some vs => rCalv2 P d pure vs s (fnV v)
  | _, _ => .bad
def rApp (d T sz by_ : Nat) (s : St) : Option SV → Option SV → Res
  | some (.v (.slice A n c)), some (.v (.slice B m _)) => .evt fun X K => EvApp T sz by_ A n c B m d X s K
  | _, _ => .bad
def rB2s (d : Nat) (s : St) : Option SV → Res
  | some (.v (.slice A n _)) => .evt fun X K => EvB2s A n d X s K
  | _ => .bad

def rS2b (d : Nat) (T : TypeId) (s : St) : Option SV → Res
  | some (.v (.string t)) => .evt fun X K => EvS2b T t d X s K
  | _ => .bad

def stepI (P : Program) (s : St) : PI → Res
  | .mv d x => putO d s (ev s.fr x)
  | .pick d c a b => rPick d s (ev s.fr c) (ev s.fr a) (ev s.fr b)
  | .new d cs => rNew d cs s (lk s.lh d)
  | .box d x => rBox d s (lk s.lh d) (ev s.fr x)
  | .ld d agg n x => rLd d agg n s (ev s.fr x)
  | .ldx d agg n x => rLdx d agg n s (ev s.fr x)
  | .st n x y => rSt n s (ev s.fr x) (ev s.fr y)
  | .bin d op x y => rBin d op s (ev s.fr x) (ev s.fr y)
  | .beq d neg x y => rBeq d neg s (ev s.fr x) (ev s.fr y)
  | .peq d x y => rPeq d s (ev s.fr x) (ev s.fr y)
  | .isnil d neg x => rNil d neg s (ev s.fr x)
  | .not d x => rNot d s (ev s.fr x)
  | .neg d x => rNeg d s (ev s.fr x)
  | .cv d k x => rCv d k s (ev s.fr x)
  | .fa d off x => rFa d off s (ev s.fr x)
  | .fd d agg n off x => rFd d agg n off s (ev s.fr x)
  | .ia d sz x i => rIa d sz s (ev s.fr x) (ev s.fr i)
  | .iaA d sz len x i => rIaA d sz len s (ev s.fr x) (ev s.fr i)
  | .ix d x i => rIx d s (ev s.fr x) (ev s.fr i)
  | .ex d i x => rEx d i s (ev s.fr x)
  | .len d x => rLen d s (ev s.fr x)
  | .lens d x => rLens d s (ev s.fr x)
  | .mm d isMax x y => rMm d isMax s (ev s.fr x) (ev s.fr y)
  | .sl d sz x lo hi => rSl d sz s (ev s.fr x) (ev s.fr lo) (ev s.fr hi)
  | .slh d x hi => rSlh d s (ev s.fr x) (ev s.fr hi)
  | .sll d sz x lo => rSll d sz s (ev s.fr x) (ev s.fr lo)
  | .ss d x lo hi => rSs d s lo hi (ev s.fr x)
  | .bld d cs parts => rBld d s (fillL s.fr parts cs)
  | .mk d T zs by_ x => rMk d T zs by_ s (ev s.fr x)
  | .bsl d T len cs parts => rBsl d T len s (fillL s.fr parts cs)
  | .call d false f args => rCall P d f s (evs s.fr args)
  | .call d true f args => rCallP P d f s (evs s.fr args)
  | .calv d pure x args => rCalv P d pure s (ev s.fr x) (evs s.fr args)
  | .app d T sz by_ x y => rApp d T sz by_ s (ev s.fr x) (ev s.fr y)
  | .b2s d x => rB2s d s (ev s.fr x)
  | .s2b d T x => rS2b d T s (ev s.fr x)
  | .nop _ => .bad

def skipR (s : St) : Option Nat → Res
  | some d => .go (s.put d (.v undef))
  | none => .go s

def gateR (P : Program) (s : St) (pi : PI) : Option SV → Bool → Res
  | some (.v (.bool true)), true => stepI P s pi
  | some (.v (.bool true)), false => skipR s pi.dst
  | some (.v (.bool false)), true => skipR s pi.dst
  | some (.v (.bool false)), false => stepI P s pi
  | some (.v (.tuple _)), _ => skipR s pi.dst
  | _, _ => .bad

def gstep (P : Program) (s : St) (pi : PI) : Option (Nat × Bool) → Res
  | none => stepI P s pi
  | some (t, w) => gateR P s pi (lk s.fr t) w

theorem XL_none (P : Program) (pi : PI) (r : PT) (s : St) (K : St → Prop) : XL P (.op none pi r) s K = runR (stepI P s pi) (XL P r) K := by
  have hn : gateOf s.fr none = some true := rfl
  cases pi
  case mv d x => simp only [XL, hn, stepI]; cases ev s.fr x <;> rfl
  case pick d c x y =>
    simp only [XL, hn, stepI]
    rcases ev s.fr c with _ | ⟨v⟩ | _ <;> rcases ev s.fr x with _ | _ <;> rcases ev s.fr y with _ | _ <;> first | rfl | (cases v <;> rfl)
  case new d cs => simp only [XL, hn, stepI]; cases lk s.lh d <;> rfl
  case box d x => simp only [XL, hn, stepI]; cases lk s.lh d <;> rcases ev s.fr x with _ | ⟨v⟩ | _ <;> rfl
  case ld d agg n x =>
    simp only [XL, hn, stepI]
    rcases ev s.fr x with _ | ⟨v⟩ | ⟨k, off⟩
    · rfl
    · rfl
    · simp only [rLd]
      cases lk s.lh k with
      | none => rfl
      | some cs => simp only [rLdL]; cases ldv agg n off cs <;> rfl
  case ldx d agg n x =>
    simp only [XL, hn, stepI]
    rcases ev s.fr x with _ | ⟨v⟩ | ⟨k, off⟩
    · rfl
    · rfl
    · simp only [rLdx]
      cases lk s.lh k with
      | none => rfl
      | some cs => simp only [rLdL]; cases ldv agg n off cs <;> rfl
  case st n x y =>
    simp only [XL, hn, stepI]
    rcases ev s.fr x with _ | ⟨v⟩ | ⟨k, off⟩ <;> rcases ev s.fr y with _ | ⟨u⟩ | ⟨k', off'⟩ <;> first | rfl | skip
    simp only [rSt]
    cases lk s.lh k with
    | none => rfl
    | some cs =>
      simp only [stAt]
      by_cases h1 : (cellsL u).length = n
      · by_cases h2 : (cellsL u).all (·.oneCell') = true
        · simp only [h1, h2, true_and, beq_self_eq_true, Bool.and_self]
          cases stv off (cellsL u) cs <;> rfl
        · have h2' : (cellsL u).all (·.oneCell') = false := by simpa using h2
          simp only [h2', Bool.and_false]
          simp [rStL, runR]
      · have h1' : ((cellsL u).length == n) = false := by simpa using h1
        simp only [h1', Bool.false_and]
        simp [h1, rStL, runR]
  case bin d op x y =>
    simp only [XL, hn, stepI]
    rcases ev s.fr x with _ | ⟨v⟩ | _ <;> rcases ev s.fr y with _ | ⟨u⟩ | _ <;> first | rfl | skip
    simp only [rBin]
    cases binV op v u <;> rfl
  case beq d neg x y =>
    simp only [XL, hn, stepI]
    rcases ev s.fr x with _ | ⟨v⟩ | _ <;> rcases ev s.fr y with _ | ⟨u⟩ | _ <;> first | rfl | (cases v <;> first | rfl | (cases u <;> rfl))
  case peq d x y =>
    simp only [XL, hn, stepI]
    rcases ev s.fr x with _ | ⟨v⟩ | _ <;> rcases ev s.fr y with _ | ⟨u⟩ | _ <;> first | rfl | (cases v <;> first | rfl | (cases u <;> rfl))
  case isnil d neg x =>
    simp only [XL, hn, stepI]
    rcases ev s.fr x with _ | ⟨v⟩ | _ <;> first | rfl | (cases v <;> rfl)
  case not d x =>
    simp only [XL, hn, stepI]
    rcases ev s.fr x with _ | ⟨v⟩ | _ <;> first | rfl | (cases v <;> rfl)
  case neg d x =>
    simp only [XL, hn, stepI]
    rcases ev s.fr x with _ | ⟨v⟩ | _ <;> first | rfl | (cases v <;> rfl)
  case cv d k x =>
    simp only [XL, hn, stepI]
    rcases ev s.fr x with _ | ⟨v⟩ | _ <;> first | rfl | (cases v <;> rfl)
  case fa d off x =>
    simp only [XL, hn, stepI]
    rcases ev s.fr x with _ | ⟨v⟩ | _ <;> first | rfl | skip
    cases v <;> first | rfl | skip
    case pointer p =>
      rcases p with _ | ⟨b, o, sp⟩
      · rfl
      · cases sp <;> rfl
  case fd d agg n off x =>
    simp only [XL, hn, stepI]
    rcases ev s.fr x with _ | ⟨v⟩ | _ <;> first | rfl | skip
    cases v <;> first | rfl | skip
    case agg cs => simp only [rFd]; cases ldv agg n off cs.toList <;> rfl
  case ia d sz x i =>
    simp only [XL, hn, stepI]
    rcases ev s.fr x with _ | ⟨v⟩ | _ <;> rcases ev s.fr i with _ | ⟨u⟩ | _ <;> first | rfl | (cases v <;> first | rfl | (cases u <;> rfl))
  case iaA d sz len x i =>
    simp only [XL, hn, stepI]
    rcases ev s.fr x with _ | ⟨v⟩ | _ <;> rcases ev s.fr i with _ | ⟨u⟩ | _ <;> first | rfl | skip
    · cases v <;> first | rfl | skip
      case pointer p =>
        rcases p with _ | ⟨b, o, sp⟩
        · rfl
        · cases sp <;> rfl
    · cases v <;> first | rfl | skip
      case pointer p =>
        rcases p with _ | ⟨b, o, sp⟩
        · rfl
        · cases sp <;> first | rfl | (cases u <;> rfl)
    · cases v <;> first | rfl | skip
      case pointer p =>
        rcases p with _ | ⟨b, o, sp⟩
        · rfl
        · cases sp <;> rfl
  case ix d x i =>
    simp only [XL, hn, stepI]
    rcases ev s.fr x with _ | ⟨v⟩ | _ <;> rcases ev s.fr i with _ | ⟨u⟩ | _ <;> first | rfl | (cases v <;> first | rfl | (cases u <;> rfl))
  case ex d i x =>
    simp only [XL, hn, stepI]
    rcases ev s.fr x with _ | ⟨v⟩ | _ <;> first | rfl | skip
    cases v <;> first | rfl | skip
    case tuple vs => simp only [rEx]; cases vs.toList[i]? <;> rfl
  case len d x =>
    simp only [XL, hn, stepI]
    rcases ev s.fr x with _ | ⟨v⟩ | _ <;> first | rfl | (cases v <;> rfl)
  case lens d x =>
    simp only [XL, hn, stepI]
    rcases ev s.fr x with _ | ⟨v⟩ | _ <;> first | rfl | (cases v <;> rfl)
  case mm d isMax x y =>
    simp only [XL, hn, stepI]
    rcases ev s.fr x with _ | ⟨v⟩ | _ <;> rcases ev s.fr y with _ | ⟨u⟩ | _ <;> first | rfl | (cases v <;> first | rfl | (cases u <;> rfl))
  case sl d sz x lo hi =>
    simp only [XL, hn, stepI]
    rcases ev s.fr x with _ | ⟨v⟩ | _ <;> rcases ev s.fr lo with _ | ⟨u⟩ | _ <;> rcases ev s.fr hi with _ | ⟨t⟩ | _ <;> first | rfl | (cases v <;> first | rfl | (cases u <;> first | rfl | (cases t <;> rfl)))
  case slh d x hi =>
    simp only [XL, hn, stepI]
    rcases ev s.fr x with _ | ⟨v⟩ | _ <;> rcases ev s.fr hi with _ | ⟨u⟩ | _ <;> first | rfl | (cases v <;> first | rfl | (cases u <;> rfl))
  case sll d sz x lo =>
    simp only [XL, hn, stepI]
    rcases ev s.fr x with _ | ⟨v⟩ | _ <;> rcases ev s.fr lo with _ | ⟨u⟩ | _ <;> first | rfl | (cases v <;> first | rfl | (cases u <;> rfl))
  case ss d x lo hi =>
    simp only [XL, hn, stepI]
    rcases ev s.fr x with _ | ⟨v⟩ | _ <;> first | rfl | skip
    cases v <;> first | rfl | skip
    case string t => simp only [rSs]; rcases oSV s.fr lo 0 with _ | l <;> rcases oSV s.fr hi t.size with _ | h <;> rfl
  case bld d cs parts => simp only [XL, hn, stepI]; cases fillL s.fr parts cs <;> rfl
  case mk d T zs by_ x =>
    simp only [XL, hn, stepI]
    rcases ev s.fr x with _ | ⟨v⟩ | _ <;> first | rfl | skip
    cases v <;> first | rfl | skip
    case int k j => cases k <;> rfl
  case bsl d T len cs parts => simp only [XL, hn, stepI]; cases fillL s.fr parts cs <;> rfl
  case call d pure f args => cases pure <;> (simp only [XL, hn, stepI]; cases evs s.fr args <;> rfl)
  case calv d pure x args =>
    simp only [XL, hn, stepI]
    rcases ev s.fr x with _ | ⟨v⟩ | _ <;> rcases evs s.fr args with _ | vs <;> first | rfl | skip
    simp only [rCalv]
    cases fnV v <;> rfl
  case app d T sz by_ x y =>
    simp only [XL, hn, stepI]
    rcases ev s.fr x with _ | ⟨v⟩ | _ <;> rcases ev s.fr y with _ | ⟨u⟩ | _ <;> first | rfl | (cases v <;> first | rfl | (cases u <;> rfl))
  case b2s d x =>
    simp only [XL, hn, stepI]
    rcases ev s.fr x with _ | ⟨v⟩ | _ <;> first | rfl | (cases v <;> rfl)
  case s2b d T x =>
    simp only [XL, hn, stepI]
    rcases ev s.fr x with _ | ⟨v⟩ | _ <;> first | rfl | (cases v <;> rfl)
  case nop d => rfl

theorem XL_op (P : Program) (g : Option (Nat × Bool)) (pi : PI) (r : PT) (s : St) (K : St → Prop) : XL P (.op g pi r) s K = runR (gstep P s pi g) (XL P r) K := by
  cases g with
  | none => exact XL_none P pi r s K
  | some tw =>
    obtain ⟨t, want⟩ := tw
    simp only [gstep]
    have hg : ∀ b, gateOf s.fr (some (t, want)) = some b → XL P (.op (some (t, want)) pi r) s K = (match b with | true => runR (stepI P s pi) (XL P r) K | false => runR (skipR s pi.dst) (XL P r) K) := by
      intro b hb
      cases b with
      | true =>
        rw [← XL_none]
        have hn : gateOf s.fr none = some true := rfl
        simp only [XL, hb, hn]
      | false =>
        simp only [XL, hb]
        cases pi.dst <;> rfl
    rcases hl : lk s.fr t with _ | ⟨v⟩ | ⟨k, off⟩
    · have : gateOf s.fr (some (t, want)) = none := by simp [gateOf, hl]
      simp only [XL, this]; rfl
    · cases v with
      | bool b =>
        rw [hg (b == want) (by simp [gateOf, hl])]
        cases b <;> cases want <;> rfl
      | tuple cs =>
        rw [hg false (by simp [gateOf, hl])]
        cases want <;> rfl
      | _ =>
        have : gateOf s.fr (some (t, want)) = none := by simp [gateOf, hl]
        simp only [XL, this]; rfl
    · have : gateOf s.fr (some (t, want)) = none := by simp [gateOf, hl]
      simp only [XL, this]; rfl

end Go.Proofs.YtccdhgjfcgfgoaaGreat.X
set_option linter.unusedVariables false
set_option linter.unusedSimpArgs false
namespace Go.Proofs.YtccdhgjfcgfgoaaGreat.X
open Go Go.RowKit

theorem length_toL {α : Type} (l : List α) : (List.toArray l).toList = l := rfl
theorem toL_mk {α : Type} (l : List α) : (Array.mk l).toList = l := rfl
theorem getElem?_zero {α : Type} (x : α) (l : List α) : (x :: l)[0]? = some x := rfl
theorem getElem?_one {α : Type} (x y : α) (l : List α) : (x :: y :: l)[1]? = some y := rfl
theorem getElem?_two {α : Type} (x y z : α) (l : List α) : (x :: y :: z :: l)[2]? = some z := rfl
theorem getElem?_three {α : Type} (x y z u : α) (l : List α) : (x :: y :: z :: u :: l)[3]? = some u := rfl
theorem getElem?_four {α : Type} (x y z u v : α) (l : List α) : (x :: y :: z :: u :: v :: l)[4]? = some v := rfl

/-- what follows in a sequence, not opened before its turn -/
def KS (P : Program) (b : PC) (K : Ex → St → Prop) : Ex → St → Prop := KSeq (X P b) K
-- none of these may be found to be 'rfl' by simp: the kernel would run the program to compare
theorem KS_normal (P : Program) (b : PC) (K : Ex → St → Prop) (s : St) : KS P b K .normal s = X P b s K := of_eq_true (eq_self _)
theorem KS_ret (P : Program) (b : PC) (K : Ex → St → Prop) (s : St) : KS P b K .ret s = K .ret s := of_eq_true (eq_self _)
theorem KS_exit (P : Program) (b : PC) (K : Ex → St → Prop) (i : Nat) (s : St) : KS P b K (.exit i) s = K (.exit i) s := of_eq_true (eq_self _)
theorem KBlk_normal (id : Nat) (K : Ex → St → Prop) (s : St) : KBlk id K .normal s = K .normal s := of_eq_true (eq_self _)
theorem KBlk_ret (id : Nat) (K : Ex → St → Prop) (s : St) : KBlk id K .ret s = K .ret s := of_eq_true (eq_self _)
theorem KBlk_exit (id : Nat) (K : Ex → St → Prop) (i : Nat) (s : St) : KBlk id K (.exit i) s = if i = id then K .normal s else K (.exit i) s := of_eq_true (eq_self _)
def condR (P : Program) (t e : PC) (s : St) (K : Ex → St → Prop) : Option SV → Prop
  | some (.v (.bool true)) => X P t s K
  | some (.v (.bool false)) => X P e s K
  | _ => False
theorem condR_true (P : Program) (t e : PC) (s : St) (K : Ex → St → Prop) : condR P t e s K (some (.v (.bool true))) = X P t s K := of_eq_true (eq_self _)
theorem condR_false (P : Program) (t e : PC) (s : St) (K : Ex → St → Prop) : condR P t e s K (some (.v (.bool false))) = X P e s K := of_eq_true (eq_self _)
theorem runR_go (s : St) (X : XT) (K : St → Prop) : runR (.go s) X K = X s K := of_eq_true (eq_self _)
theorem runR_evt (e : XT → (St → Prop) → Prop) (X : XT) (K : St → Prop) : runR (.evt e) X K = e X K := of_eq_true (eq_self _)
theorem runR_bad (X : XT) (K : St → Prop) : runR .bad X K = False := of_eq_true (eq_self _)
def topR (R : Value → PH → PH → Prop) (H M : PH) : Option Value → Prop
  | some v => R v H M
  | none => False
theorem topR_some (R : Value → PH → PH → Prop) (H M : PH) (v : Value) : topR R H M (some v) = R v H M := of_eq_true (eq_self _)
theorem KTop_normal (rs : List RV) (R : Value → PH → PH → Prop) (s : St) : KTop rs R .normal s = topR R s.H s.M (resV s rs) := by
  simp only [KTop]; cases resV s rs <;> rfl
theorem KTop_ret (rs : List RV) (R : Value → PH → PH → Prop) (s : St) : KTop rs R .ret s = topR R s.H s.M (resV s rs) := by
  simp only [KTop]; cases resV s rs <;> rfl
def Loop (P : Program) (b : PC) (s : St) (K : Ex → St → Prop) : Prop := EvLoop (X P b) s K
theorem X_skip (P : Program) (s : St) (K : Ex → St → Prop) : X P .skip s K = K .normal s := of_eq_true (eq_self _)
theorem X_ret (P : Program) (s : St) (K : Ex → St → Prop) : X P .ret s K = K .ret s := of_eq_true (eq_self _)
theorem X_exit (P : Program) (i : Nat) (s : St) (K : Ex → St → Prop) : X P (.exit i) s K = K (.exit i) s := of_eq_true (eq_self _)
theorem X_reg (P : Program) (t : PT) (s : St) (K : Ex → St → Prop) : X P (.reg t) s K = XL P t s (K .normal) := of_eq_true (eq_self _)
theorem X_seq (P : Program) (a b : PC) (s : St) (K : Ex → St → Prop) : X P (.seq a b) s K = X P a s (KS P b K) := of_eq_true (eq_self _)
theorem X_block (P : Program) (i : Nat) (b : PC) (s : St) (K : Ex → St → Prop) : X P (.block i b) s K = X P b s (KBlk i K) := of_eq_true (eq_self _)
theorem X_loop (P : Program) (b : PC) (s : St) (K : Ex → St → Prop) : X P (.loop b) s K = Loop P b s K := of_eq_true (eq_self _)
theorem XL_nilN (P : Program) (s : St) (K : St → Prop) : XL P .nil s K = K s := of_eq_true (eq_self _)
theorem XL_altN (P : Program) (l r : PT) (s : St) (K : St → Prop) : XL P (.alt l r) s K = (XL P l s K ∧ XL P r s K) := of_eq_true (eq_self _)
theorem X_cond (P : Program) (c : Operand) (t e : PC) (s : St) (K : Ex → St → Prop) : X P (.cond c t e) s K = condR P t e s K (ev s.fr c) := by
  simp only [X]
  rcases ev s.fr c with _ | ⟨v⟩ | _ <;> first | rfl | skip
  cases v <;> first | rfl | skip
  case bool b => cases b <;> rfl

theorem skipR_some (s : St) (d : Nat) : skipR s (some d) = .go (s.put d (.v (.tuple #[]))) := rfl
theorem skipR_none (s : St) : skipR s none = .go s := rfl
attribute [go_sem] X_skip X_ret X_exit X_reg X_seq X_block X_loop X_cond KS_normal KS_ret KS_exit condR_true condR_false XL_op XL_nilN XL_altN runR_go runR_evt runR_bad gstep gateR stepI skipR_some skipR_none putO putV rPick rNew rBox rLdL rLd rLdx rStL stAt rSt rB rBin rBeq rPeq rNil rNot rNeg rCv rFa rFd rIa rIaA rIx rEx rLen rLens rMm rSl rSlh rSll
  rSs2 rSs rBld rMk rBsl rCall rCallP rCalv rCalv2 fnV_func rApp rB2s rS2b KBlk_normal KBlk_ret KBlk_exit KTop_normal KTop_ret topR_some argFr lk upd ev evs St.put selSV cellsL ldv takeN stv binV binI fillL oSV PI.dst resV resVs resV1 wfB SubL
  List.drop_zero List.drop_succ_cons List.length_cons List.length_nil List.all_cons List.all_nil Value.oneCell' Bool.and_true length_toL toL_mk getElem?_zero getElem?_one getElem?_two getElem?_three getElem?_four
  Nat.zero_add Nat.add_zero Bool.not_true Bool.not_false Option.isNone Option.isSome List.append_nil List.nil_append

section
variable {P : Program} {X : XT} {s : St} {K : St → Prop} {d : Nat}

theorem ev_pos {c : Prop} (h : c) (k : X (s.put d (.v (.bool true))) K) : EvIf c d X s K := ⟨fun _ => k, fun hn => absurd h hn⟩
theorem ev_neg {c : Prop} (h : ¬ c) (k : X (s.put d (.v (.bool false))) K) : EvIf c d X s K := ⟨fun hc => absurd hc h, fun _ => k⟩
theorem ev_if {c : Prop} (k1 : c → X (s.put d (.v (.bool true))) K) (k2 : ¬ c → X (s.put d (.v (.bool false))) K) : EvIf c d X s K := ⟨k1, k2⟩
theorem ev_quo {k : IntKind} {a b : Int} (h : b ≠ 0) (k1 : X (s.put d (.v (.int k (k.wrap (a.tdiv b))))) K) : EvQuo k a b d X s K := ⟨h, k1⟩
theorem ev_rem {k : IntKind} {a b : Int} (h : b ≠ 0) (k1 : X (s.put d (.v (.int k (a.tmod b)))) K) : EvRem k a b d X s K := ⟨h, k1⟩
theorem ev_shl {k : IntKind} {a b : Int} (h : 0 ≤ b) (h2 : b ≤ k.bits) (k1 : X (s.put d (.v (.int k (k.wrap (a * 2 ^ b.toNat))))) K) : EvShl k a b d X s K := ⟨h, h2, k1⟩
theorem ev_shr {k : IntKind} {a b : Int} (h : 0 ≤ b) (h2 : b ≤ k.bits) (k1 : X (s.put d (.v (.int k (a.fdiv (2 ^ b.toNat))))) K) : EvShr k a b d X s K := ⟨h, h2, k1⟩
theorem ev_cat {a b : ByteArray} (h : a.size + b.size ≤ 9223372036854775807) (k1 : X (s.put d (.v (.string (a ++ b)))) K) : EvCat a b d X s K := ⟨h, k1⟩
theorem ev_ia {sz : Nat} {A : Option Addr} {n : Nat} {j : Int} {b off : Nat} (hA : A = some ⟨b, off, none⟩) (h0 : 0 ≤ j) (h1 : j < n) (k1 : X (s.put d (.v (.pointer (some ⟨b, off + j.toNat * sz, none⟩)))) K) : EvIa sz A n j d X s K :=
  ⟨h0, h1, b, off, hA, k1⟩
theorem ev_ix {t : ByteArray} {j : Int} (h0 : 0 ≤ j) (h1 : j < t.size) (k1 : X (s.put d (.v (.int .u8 (bAt t j.toNat)))) K) : EvIx t j d X s K := ⟨h0, h1, k1⟩
theorem ev_sl {sz : Nat} {A : Option Addr} {c : Nat} {lo hi : Int} (h0 : 0 ≤ lo) (h1 : lo ≤ hi) (h2 : hi ≤ c) (k1 : X (s.put d (.v (.slice (if c = lo.toNat then A else A.map (·.add (lo.toNat * sz))) (hi.toNat - lo.toNat) (c - lo.toNat)))) K) :
    EvSl sz A c lo hi d X s K := ⟨h0, h1, h2, k1⟩
theorem ev_slh {A : Option Addr} {c : Nat} {hi : Int} (h0 : 0 ≤ hi) (h1 : hi ≤ c) (k1 : X (s.put d (.v (.slice A hi.toNat c))) K) : EvSlh A c hi d X s K := ⟨h0, h1, k1⟩
theorem ev_ss {t : ByteArray} {lo hi : Int} (h0 : 0 ≤ lo) (h1 : lo ≤ hi) (h2 : hi ≤ t.size) (k1 : X (s.put d (.v (.string (t.extract lo.toNat hi.toNat)))) K) : EvSs t lo hi d X s K := ⟨h0, h1, h2, k1⟩

/-- a row of numbers of kind k -/
def nums (k : IntKind) (l : List Nat) : List Value := l.map fun x : Nat => Value.int k (x : Int)
def rowN (k : IntKind) (T : TypeId) (l : List Nat) : Obj := .cells (nums k l).toArray T (0, 0)

theorem nums_get {k : IntKind} {l : List Nat} {i : Nat} (h : i < l.length) : (nums k l)[i]? = some (.int k (l.getD i 0 : Nat)) := by
  simp [nums, h]

theorem ldv_nums {k : IntKind} {l : List Nat} {i : Nat} (h : i < l.length) : ldv false 1 i (nums k l) = some (.int k (l.getD i 0 : Nat)) := by
  have hl : i < (nums k l).length := by simpa [nums] using h
  simp only [ldv]
  rw [takeN_of 1 _ (by simp [nums]; omega)]
  have : (List.drop i (nums k l)).take 1 = [.int k (l.getD i 0 : Nat)] := by
    rw [List.take_one]
    have : (List.drop i (nums k l)).head? = some (.int k (l.getD i 0 : Nat)) := by
      rw [List.head?_drop]; exact nums_get h
    rw [this]; rfl
  rw [this]

/-- a slice in H that reads as numbers of kind k -/
def Sl (k : IntKind) (H : PH) (A : Option Addr) (l : List Nat) : Prop :=
  l = [] ∨ ∃ b off cs T fz, A = some ⟨b, off, none⟩ ∧ H b = some (.cells cs T fz) ∧ off + l.length ≤ cs.size ∧ (cs.toList.drop off).take l.length = nums k l

theorem Sl.le {k : IntKind} {H H' : PH} {A : Option Addr} {l : List Nat} (h : Sl k H A l) (hl : H.le H') : Sl k H' A l := by
  rcases h with h | ⟨b, off, cs, T, fz, h1, h2, h3, h4⟩
  · exact .inl h
  · exact .inr ⟨b, off, cs, T, fz, h1, hl b _ h2, h3, h4⟩

theorem ev_ldH {p : Value} {agg : Bool} {n b off : Nat} {cs : Array Value} {T : TypeId} {fz : Nat × Nat} {v : Value} (hp : p = .pointer (some ⟨b, off, none⟩)) (hH : s.H b = some (.cells cs T fz)) (hv : ldv agg n off cs.toList = some v)
    (k1 : X (s.put d (.v v)) K) : EvLd agg n p d X s K := ⟨b, off, cs, T, fz, v, hp, .inl hH, hv, k1⟩

/-- an element of a slice in H -/
theorem ev_ldS {k : IntKind} {A : Option Addr} {l : List Nat} {b off i : Nat} (hS : Sl k s.H A l) (hA : A = some ⟨b, off, none⟩) (hi : i < l.length) (k1 : X (s.put d (.v (.int k (l.getD i 0 : Nat)))) K) :
    EvLd false 1 (.pointer (some ⟨b, off + i * 1, none⟩)) d X s K := by
  rcases hS with h | ⟨b', off', cs, T, fz, h1, h2, h3, h4⟩
  · subst h; simp at hi
  · rw [hA] at h1; injection h1 with h1; injection h1 with e1 e2; subst e1; subst e2
    refine ev_ldH rfl h2 ?_ k1
    have := ldv_nums (k := k) hi
    rw [← h4] at this
    simp only [ldv, Nat.mul_one] at this ⊢
    rw [takeN_of _ _ (by simp; omega)] at this
    rw [takeN_of _ _ (by simp; omega)]
    rw [List.drop_take, List.drop_drop, List.take_take] at this
    rw [show min 1 (l.length - i) = 1 by omega] at this
    exact this

theorem Sl.base {k : IntKind} {H : PH} {A : Option Addr} {l : List Nat} (h : Sl k H A l) (hl : 0 < l.length) : ∃ b off, A = some ⟨b, off, none⟩ := by
  rcases h with h | ⟨b, off, cs, T, fz, h1, _⟩
  · subst h; simp at hl
  · exact ⟨b, off, h1⟩

theorem stv_nums {k : IntKind} {l : List Nat} {i x : Nat} (h : i < l.length) : stv i [Value.int k (x : Int)] (nums k l) = some (nums k (l.set i x)) := by
  rw [stv_of _ _ _ (by simp [nums]; omega)]
  congr 1
  simp only [nums, List.length_singleton, ← List.map_take, ← List.map_drop]
  rw [show [Value.int k (x : Int)] = [x].map (fun x : Nat => Value.int k (x : Int)) from rfl, ← List.map_append, ← List.map_append]
  congr 1
  rw [List.set_eq_take_append_cons_drop, if_pos h]
  simp

theorem replicate_one {α : Type} (n : Nat) (x : α) : (List.replicate n [x]).flatten = List.replicate n x := by
  induction n with
  | zero => rfl
  | succ n ih => simp [List.replicate_succ, ih]

/-- make([]T, j) -/
theorem ev_mkN {k : IntKind} {T : TypeId} {by_ : Nat} {j : Int} (h0 : 0 ≤ j) (h1 : j * by_ ≤ 140737488355328) (h2 : j ≤ 9223372036854775807)
    (k1 : ∀ g, s.H g = none → s.M g = none → X ⟨(d, .v (.slice (some ⟨g, 0, none⟩) j.toNat j.toNat)) :: s.fr, s.lh, s.H, s.M.set g (rowN k T (List.replicate j.toNat 0))⟩ K) :
    EvMk T [.int k 0] by_ j d X s K := by
  refine ⟨h0, h1, h2, fun g hH hM => ?_⟩
  have : (List.replicate j.toNat [Value.int k 0]).flatten = nums k (List.replicate j.toNat 0) := by
    rw [replicate_one]; simp [nums]
  rw [this]
  exact k1 g hH hM

/-- a call of a function that turns nothing -/
def FnP (P : Program) (f : Nat) (vs : List Value) (H : PH) (R : Value → PH → Prop) : Prop := Fn P f vs H PH.no fun v H' M' => M' = PH.no ∧ R v H'

theorem re_no (M : PH) : M.re PH.no PH.no = M := by
  funext x
  simp [PH.re, PH.no]

theorem ev_call {fr : List (Nat × SV)} {lh : List (Nat × List Value)} {H M : PH} {f : Nat} {vs : List Value} {R : Value → PH → Prop} (h : FnP P f vs H R) (k1 : ∀ v H', H.le H' → R v H' → PH.disj H' M → X ⟨(d, .v v) :: fr, lh, H', M⟩ K) : EvCall P f vs d X ⟨fr, lh, H, M⟩ K := by
  refine ⟨PH.no, _, (fun b o hb => by cases hb), h, ?_⟩
  rintro v H' M' hle ⟨rfl, hR⟩ hd _
  rw [re_no] at hd ⊢
  exact k1 v H' hle hR hd

theorem ev_callP {fr : List (Nat × SV)} {lh : List (Nat × List Value)} {H M : PH} {f : Nat} {vs : List Value} {R : Value → PH → Prop} (h : FnP P f vs H R) (k1 : ∀ v H', H.le H' → R v H' → PH.disj H' M → X ⟨(d, .v v) :: fr, lh, H', M⟩ K) : EvCallP P f vs d X ⟨fr, lh, H, M⟩ K := by
  refine ⟨_, h, ?_⟩
  rintro v H' M' hle ⟨rfl, hR⟩ hd _
  rw [re_no] at hd ⊢
  exact k1 v H' hle hR hd

end

/-- a row of one's own is nobody's any more: it may be read for ever -/
theorem ev_loop {P : Program} {b : PC} {s : St} {K : Ex → St → Prop} (J : Nat → St → Prop) (n : Nat) (s' : St) (h0 : J n s') (hs : Sub s' s) (hr : ∀ n s, J n s → X P b s (KLoop J n K)) : Loop P b s K := ⟨J, ⟨n, s', h0, hs⟩, hr⟩

theorem ev_cut {P : Program} {t : PT} {s : St} {K : Ex → St → Prop} (J : St → Prop) (h1 : XL P t s (KCut J)) (h2 : ∀ s', J s' → K .normal s') : X P (.cut t) s K := ⟨J, h1, h2⟩
theorem k_cut {J : St → Prop} {s : St} (s' : St) (hJ : J s') (hs : Sub s' s) : KCut J s := ⟨s', hJ, hs⟩

theorem k_next {J : Nat → St → Prop} {n : Nat} {K : Ex → St → Prop} {s : St} (m : Nat) (s' : St) (hm : m < n) (hJ : J m s') (hs : Sub s' s) : KLoop J n K .normal s := ⟨m, s', hm, hJ, hs⟩
theorem KLoop_ret {J : Nat → St → Prop} {n : Nat} {K : Ex → St → Prop} {s : St} : KLoop J n K .ret s = K .ret s := of_eq_true (eq_self _)
theorem KLoop_exit {J : Nat → St → Prop} {n i : Nat} {K : Ex → St → Prop} {s : St} : KLoop J n K (.exit i) s = K (.exit i) s := of_eq_true (eq_self _)
attribute [go_sem] KLoop_ret KLoop_exit

theorem PH.set_self (M : PH) (g : Nat) (o : Obj) : M.set g o g = some o := by simp [PH.set]
theorem PH.set_ne (M : PH) {g b : Nat} (o : Obj) (h : b ≠ g) : M.set g o b = M b := by simp [PH.set, h]
theorem w64 (n : Int) (h0 : -9223372036854775808 ≤ n) (h : n ≤ 9223372036854775807) : IntKind.i64.wrap n = n := IntWalk.i64_in n ⟨h0, h⟩
theorem wu64 (n : Int) (h0 : 0 ≤ n) (h : n ≤ 18446744073709551615) : IntKind.u64.wrap n = n := IntWalk.u64_in n ⟨h0, h⟩
theorem wu32 (n : Int) (h0 : 0 ≤ n) (h : n ≤ 4294967295) : IntKind.u32.wrap n = n := IntWalk.u32_in n ⟨h0, h⟩
theorem wu8 (n : Int) (h0 : 0 ≤ n) (h : n ≤ 255) : IntKind.u8.wrap n = n := IntWalk.u8_in n ⟨h0, h⟩
theorem wu32_mod (n : Int) : IntKind.u32.wrap n = n % 4294967296 := IntKind.wrap_u32 n
theorem wu64_mod (n : Int) : IntKind.u64.wrap n = n % 18446744073709551616 := by simp [IntKind.wrap, IntKind.bits, IntKind.signed]

attribute [go_sem] Bool.false_eq_true
/-- what most states owe to the next one -/
theorem sub_of {s' s : St} (h1 : wfB s'.fr s'.lh = true := by exact rfl)
    (h2 : SubL s'.fr s.fr := by simp only [go_sem, Nat.reduceEqDiff, Nat.reduceAdd, Nat.reduceBEq, ↓reduceIte, and_self, Option.some.injEq, SV.v.injEq, SV.ptr.injEq, Value.int.injEq, Value.bool.injEq, Value.slice.injEq, true_and, and_true] <;> (repeat' apply And.intro) <;> first | rfl | omega | (simp (disch := omega) only [w64, wu64, wu32, wu8] <;> omega))
    (h3 : SubL s'.lh s.lh := by simp only [go_sem, Nat.reduceEqDiff, Nat.reduceAdd, Nat.reduceBEq, ↓reduceIte, and_self, Option.some.injEq, SV.v.injEq, SV.ptr.injEq, Value.int.injEq, Value.bool.injEq, Value.slice.injEq, true_and, and_true] <;> (repeat' apply And.intro) <;> rfl)
    (h4 : s'.H = s.H ∧ s'.M.le s.M := by exact ⟨rfl, PH.le.refl _⟩) : Sub s' s := ⟨h1, h2, h3, .inl h4⟩

end Go.Proofs.YtccdhgjfcgfgoaaGreat.X
set_option linter.unusedVariables false
set_option linter.unusedSimpArgs false
namespace Go.Proofs.YtccdhgjfcgfgoaaGreat.X
open Go Go.RowKit

def PH.join (H M : PH) : PH := fun b => match H b with | some o => some o | none => M b
theorem PH.le_join (H M : PH) : H.le (H.join M) := fun b o h => by simp [PH.join, h]
theorem PH.le_joinR {H M : PH} (hd : PH.disj H M) : M.le (H.join M) := fun b o h => by
  simp only [PH.join]
  cases hb : H b with
  | none => exact h
  | some o' => have := hd b o' hb; rw [this] at h; cases h
theorem PH.join_no (H : PH) : H.join PH.no = H := by
  funext b; simp only [PH.join]; cases h : H b <;> rfl
theorem PH.join_some {H M : PH} {b : Nat} {o : Obj} (h : H.join M b = some o) : H b = some o ∨ (H b = none ∧ M b = some o) := by
  simp only [PH.join] at h
  cases hb : H b with
  | none => rw [hb] at h; exact .inr ⟨rfl, h⟩
  | some o' => rw [hb] at h; injection h with h; subst h; exact .inl rfl
theorem PH.disj_no (H : PH) : PH.disj H PH.no := fun _ _ _ => rfl
theorem PH.disj.le {H H' M : PH} (h : PH.disj H' M) (hl : H.le H') : PH.disj H M := fun b o hb => h b o (hl b o hb)
theorem PH.disj.set {H M : PH} (h : PH.disj H M) {g : Nat} {o : Obj} (hg : H g = none) : PH.disj H (M.set g o) := fun b o' hb => by
  simp only [PH.set]
  split
  · rename_i e; subst e; rw [hg] at hb; cases hb
  · exact h b o' hb
theorem PH.disj.at {H M : PH} (h : PH.disj H M) {g : Nat} {o : Obj} (hg : M g = some o) : H g = none := by
  cases hb : H g with
  | none => rfl
  | some o' => have := h g o' hb; rw [hg] at this; cases this

theorem Fn.weaken {P : Program} {f : Nat} {vs : List Value} {H M : PH} {R0 R : Value → PH → PH → Prop} (h : Fn P f vs H M R0)
    (hw : ∀ v H' M', H.le H' → PH.disj H' M' → R0 v H' M' → ∃ H'' M'', H'.le H'' ∧ (∀ b o, H'' b = some o → H' b = some o ∨ M' b = some o) ∧ M''.le M' ∧ PH.disj H'' M'' ∧ R v H'' M'') : Fn P f vs H M R := by
  intro w hH hM hd
  refine (h w hH hM hd).mono ?_
  rintro e w' ⟨v, H', M', he, hs, hl, hH', hM', hd', c1, c2, hR⟩
  obtain ⟨H'', M'', k1, k2, k3, k4, k5⟩ := hw v H' M' hl hd' hR
  refine ⟨v, H'', M'', he, hs, hl.trans k1, fun b o hb => ?_, fun b o hb => hM' b o (k3 b o hb), k4, fun b hb => ?_, fun b hb => ?_, k5⟩
  · rcases k2 b o hb with h | h
    · exact hH' b o h
    · exact hM' b o h
  · cases ho : H'' b with
    | none => exact absurd ho hb
    | some o =>
      rcases k2 b o ho with h | h
      · exact c1 b (by rw [h]; simp)
      · rcases c2 b (by rw [h]; simp) with h | h
        · exact .inr (.inl h)
        · exact .inr (.inr h)
  · cases ho : M'' b with
    | none => exact absurd ho hb
    | some o => exact c2 b (by rw [k3 b o ho]; simp)

theorem Fn.mono {P : Program} {f : Nat} {vs : List Value} {H M : PH} {R0 R : Value → PH → PH → Prop} (h : Fn P f vs H M R0) (hw : ∀ v H' M', H.le H' → PH.disj H' M' → R0 v H' M' → R v H' M') : Fn P f vs H M R :=
  h.weaken fun v H' M' hl hd hR => ⟨H', M', PH.le.refl _, fun b o hb => .inl hb, PH.le.refl _, hd, hw v H' M' hl hd hR⟩

theorem FnP.mono {P : Program} {f : Nat} {vs : List Value} {H : PH} {R0 R : Value → PH → Prop} (h : FnP P f vs H R0) (hw : ∀ v H', H.le H' → R0 v H' → R v H') : FnP P f vs H R :=
  Fn.mono h fun v H' M' hl _ hR => ⟨hR.1, hw v H' hl hR.2⟩

/-- all of one's own, left to stand -/
theorem Fn.release {P : Program} {f : Nat} {vs : List Value} {H M : PH} {R : Value → PH → Prop} (h : Fn P f vs H M fun v H' M' => PH.disj H' M' → R v (H'.join M')) : Fn P f vs H M fun v H' M' => M' = PH.no ∧ R v H' :=
  h.weaken fun v H' M' hl hd hR => ⟨H'.join M', PH.no, PH.le_join _ _, fun b o hb => (PH.join_some hb).imp_right (·.2), fun b o hb => (by cases hb), PH.disj_no _, rfl, hR hd⟩

/-- a reader may read what is one's own -/
theorem FnP.borrow {P : Program} {f : Nat} {vs : List Value} {H F : PH} {R : Value → PH → Prop} (h : FnP P f vs (H.join F) R) : Fn P f vs H F fun v H' M' => M' = F ∧ R v (H'.join F) := by
  intro w hH hF hd
  have hon : (H.join F).on w := fun b o hb => by
    rcases PH.join_some hb with h | h
    · exact hH b o h
    · exact hF b o h.2
  refine (h w hon (fun b o hb => by cases hb) (PH.disj_no _)).mono ?_
  rintro e w' ⟨v, H', M', he, hs, hl, hH', hM', hd', c1, c2, rfl, hR⟩
  have hFH : ∀ b o, F b = some o → H' b = some o := fun b o hb => hl b o (PH.le_joinR hd b o hb)
  refine ⟨v, fun b => if (F b).isSome then none else H' b, F, he, ⟨hs.os, hs.tape, hs.output, hs.size, fun b hb _ => hs.block b hb rfl⟩, fun b o hb => ?_, fun b o hb => ?_, fun b o hb => hH' b o (hFH b o hb), fun b o hb => ?_, fun b hb => ?_, fun b hb => .inl hb, rfl, ?_⟩
  · have := hd b o hb
    simp only [this]
    exact hl b o (PH.le_join _ _ b o hb)
  · simp only at hb
    split at hb
    · cases hb
    · exact hH' b o hb
  · simp only at hb
    split at hb
    · cases hb
    · rename_i hn
      cases hq : F b with
      | none => rfl
      | some o' => rw [hq] at hn; simp at hn
  · simp only at hb
    split at hb
    · exact absurd rfl hb
    · rename_i hn
      have hq : F b = none := by
        cases hq : F b with
        | none => rfl
        | some o' => rw [hq] at hn; simp at hn
      rcases c1 b hb with h | h | h
      · left
        intro h0
        apply h
        simp only [PH.join, h0, hq]
      · exact absurd rfl h
      · exact .inr (.inr h)
  · have : (PH.join (fun b => if (F b).isSome then none else H' b) F) = H' := by
      funext b
      simp only [PH.join]
      cases hq : F b with
      | none => simp; cases H' b <;> rfl
      | some o => simp; exact (hFH b o hq).symm
    rw [this]
    exact hR

/-- a reader may take what is one's own for good -/
theorem FnP.absorb {P : Program} {f : Nat} {vs : List Value} {H F : PH} {R : Value → PH → Prop} (h : FnP P f vs (H.join F) R) : Fn P f vs H F fun v H' M' => M' = PH.no ∧ R v H' :=
  Fn.release (h.borrow.mono fun v H' M' hl hd hR _ => by rw [hR.1]; exact hR.2)

theorem re_self (M : PH) : M.re M M = M := by
  funext x
  simp only [PH.re]
  cases M x <;> rfl
theorem re_all (M : PH) : M.re M PH.no = PH.no := by
  funext x
  simp only [PH.re, PH.no]
  cases h : M x <;> simp

section
variable {P : Program} {X : XT} {s : St} {K : St → Prop} {d : Nat}

/-- a call that reads what is one's own too -/
theorem ev_callB {fr : List (Nat × SV)} {lh : List (Nat × List Value)} {H M : PH} {f : Nat} {vs : List Value} {R : Value → PH → Prop} (h : FnP P f vs (H.join M) R) (k1 : ∀ v H', H.le H' → R v (H'.join M) → PH.disj H' M → X ⟨(d, .v v) :: fr, lh, H', M⟩ K) : EvCall P f vs d X ⟨fr, lh, H, M⟩ K := by
  refine ⟨M, _, PH.le.refl _, h.borrow, ?_⟩
  rintro v H' M' hle ⟨rfl, hR⟩ hd _
  rw [re_self] at hd ⊢
  exact k1 v H' hle hR hd

/-- a call that takes all of one's own for good -/
theorem ev_callA {fr : List (Nat × SV)} {lh : List (Nat × List Value)} {H M : PH} {f : Nat} {vs : List Value} {R : Value → PH → Prop} (h : FnP P f vs (H.join M) R) (k1 : ∀ v H', (H.join M).le H' → R v H' → X ⟨(d, .v v) :: fr, lh, H', PH.no⟩ K) : EvCall P f vs d X ⟨fr, lh, H, M⟩ K := by
  refine ⟨M, _, PH.le.refl _, (h.mono (R := fun v H' => (H.join M).le H' ∧ R v H') fun v H' hl hR => ⟨hl, hR⟩).absorb, ?_⟩
  rintro v H' M' hle ⟨rfl, hl, hR⟩ hd _
  rw [re_all] at hd ⊢
  exact k1 v H' hl hR

/-- a call that is handed all of one's own -/
theorem ev_callM {fr : List (Nat × SV)} {lh : List (Nat × List Value)} {H M : PH} {f : Nat} {vs : List Value} {R : Value → PH → PH → Prop} (h : Fn P f vs H M R) (k1 : ∀ v H' M', H.le H' → R v H' M' → PH.disj H' M' → X ⟨(d, .v v) :: fr, lh, H', M'⟩ K) : EvCall P f vs d X ⟨fr, lh, H, M⟩ K := by
  refine ⟨M, _, PH.le.refl _, h, ?_⟩
  intro v H' M' hle hR hd _
  have : M.re M M' = M' := by
    funext x
    simp only [PH.re]
    cases h1 : M' x with
    | some o => rfl
    | none => cases h2 : M x <;> simp
  rw [this] at hd ⊢
  exact k1 v H' M' hle hR hd

theorem re_new {M M' : PH} (h : PH.Fresh M PH.no M') : M.le (M.re PH.no M') ∧ M'.le (M.re PH.no M') := by
  constructor
  · intro b o hb
    simp only [PH.re]
    cases h1 : M' b with
    | none => simpa [PH.no] using hb
    | some o' =>
      rcases h b (by rw [h1]; simp) with h2 | h2
      · exact absurd rfl h2
      · rw [h2] at hb; cases hb
  · intro b o hb
    simp only [PH.re, hb]
/-- a call that makes something of one's own, beside what one has -/
theorem ev_callN {fr : List (Nat × SV)} {lh : List (Nat × List Value)} {H M : PH} {f : Nat} {vs : List Value} {R : Value → PH → PH → Prop} (h : Fn P f vs H PH.no R) (k1 : ∀ v H' M' M2, H.le H' → R v H' M' → M.le M2 → M'.le M2 → PH.disj H' M2 → PH.Fresh M PH.no M' → X ⟨(d, .v v) :: fr, lh, H', M2⟩ K) : EvCall P f vs d X ⟨fr, lh, H, M⟩ K :=
  ⟨PH.no, _, fun b o hb => (by cases hb), h, fun v H' M' hle hR hd hF => k1 v H' M' _ hle hR (re_new hF).1 (re_new hF).2 hd hF⟩
theorem ev_callPN {fr : List (Nat × SV)} {lh : List (Nat × List Value)} {H M : PH} {f : Nat} {vs : List Value} {R : Value → PH → PH → Prop} (h : Fn P f vs H PH.no R) (k1 : ∀ v H' M' M2, H.le H' → R v H' M' → M.le M2 → M'.le M2 → PH.disj H' M2 → PH.Fresh M PH.no M' → X ⟨(d, .v v) :: fr, lh, H', M2⟩ K) : EvCallP P f vs d X ⟨fr, lh, H, M⟩ K :=
  ⟨_, h, fun v H' M' hle hR hd hF => k1 v H' M' _ hle hR (re_new hF).1 (re_new hF).2 hd hF⟩
end

/-! ### rows of one's own -/
section
variable {P : Program} {X : XT} {s : St} {K : St → Prop} {d : Nat}

/-- A slice of one's own: nil, or at the head of a block of M, its numbers first. -/
def Own (k : IntKind) (T : TypeId) (M : PH) (A : Option Addr) (l : List Nat) (c : Nat) : Prop :=
  (A = none ∧ l = [] ∧ c = 0) ∨ ∃ g rest, A = some ⟨g, 0, none⟩ ∧ M g = some (.cells (nums k l ++ rest).toArray T (0, 0)) ∧ l.length + rest.length = c ∧ c ≤ 9223372036854775807

/-- M' has all of M but what lies at A -/
def But (M M' : PH) (A : Option Addr) : Prop := ∀ b o, M b = some o → A ≠ some ⟨b, 0, none⟩ → M' b = some o

theorem Own.le_cap {k : IntKind} {T : TypeId} {M : PH} {A : Option Addr} {l : List Nat} {c : Nat} (h : Own k T M A l c) : l.length ≤ c := by
  rcases h with ⟨_, rfl, rfl⟩ | ⟨g, rest, _, _, h, _⟩
  · exact Nat.le_refl _
  · omega
theorem Own.le {k : IntKind} {T : TypeId} {M M' : PH} {A : Option Addr} {l : List Nat} {c : Nat} (h : Own k T M A l c) (hl : M.le M') : Own k T M' A l c := by
  rcases h with h | ⟨g, rest, h1, h2, h3⟩
  · exact .inl h
  · exact .inr ⟨g, rest, h1, hl g _ h2, h3⟩
theorem Own.but {k : IntKind} {T : TypeId} {M M' : PH} {A B : Option Addr} {l : List Nat} {c : Nat} (h : Own k T M B l c) (hb : But M M' A) (hne : B = none ∨ B ≠ A) : Own k T M' B l c := by
  rcases h with h | ⟨g, rest, h1, h2, h3⟩
  · exact .inl h
  · refine .inr ⟨g, rest, h1, hb g _ h2 ?_, h3⟩
    rcases hne with h | h
    · rw [h] at h1; cases h1
    · rw [← h1]; exact fun e => h e.symm
theorem Own.sl {k : IntKind} {T : TypeId} {M H : PH} {A : Option Addr} {l : List Nat} {c : Nat} (h : Own k T M A l c) (hd : PH.disj H M) : Sl k (H.join M) A l := by
  rcases h with ⟨_, rfl, _⟩ | ⟨g, rest, h1, h2, h3, _⟩
  · exact .inl rfl
  · refine .inr ⟨g, 0, _, T, _, h1, PH.le_joinR hd g _ h2, ?_, ?_⟩
    · simp [nums]
    · simp [nums]
theorem Own.take {k : IntKind} {T : TypeId} {M : PH} {A : Option Addr} {l : List Nat} {c : Nat} (h : Own k T M A l c) (n : Nat) : Own k T M A (l.take n) c := by
  rcases h with ⟨h1, rfl, h3⟩ | ⟨g, rest, h1, h2, h3, h4⟩
  · exact .inl ⟨h1, by simp, h3⟩
  · refine .inr ⟨g, nums k (l.drop n) ++ rest, h1, ?_, ?_, h4⟩
    · rw [← List.append_assoc, show nums k (l.take n) ++ nums k (l.drop n) = nums k l by simp [nums, ← List.map_append]]
      exact h2
    · simp [nums]; omega
theorem Own.base {k : IntKind} {T : TypeId} {M : PH} {A : Option Addr} {l : List Nat} {c : Nat} (h : Own k T M A l c) (hl : 0 < c) : ∃ g, A = some ⟨g, 0, none⟩ := by
  rcases h with ⟨_, _, rfl⟩ | ⟨g, rest, h1, _⟩
  · cases hl
  · exact ⟨g, h1⟩
theorem Own.nil (k : IntKind) (T : TypeId) (M : PH) : Own k T M none [] 0 := .inl ⟨rfl, rfl, rfl⟩

theorem ldv_app {k : IntKind} {l : List Nat} {rest : List Value} {i : Nat} (h : i < l.length) : ldv false 1 i (nums k l ++ rest) = some (.int k (l.getD i 0 : Nat)) := by
  have hl : i < (nums k l).length := by simpa [nums] using h
  simp only [ldv]
  rw [takeN_of 1 _ (by simp [nums]; omega)]
  have : (List.drop i (nums k l ++ rest)).take 1 = [.int k (l.getD i 0 : Nat)] := by
    rw [List.take_one]
    have : (List.drop i (nums k l ++ rest)).head? = some (.int k (l.getD i 0 : Nat)) := by
      rw [List.head?_drop, List.getElem?_append_left hl]; exact nums_get h
    rw [this]; rfl
  rw [this]

theorem stv_app {k : IntKind} {l : List Nat} {rest : List Value} {i x : Nat} (h : i < l.length) : stv i [Value.int k (x : Int)] (nums k l ++ rest) = some (nums k (l.set i x) ++ rest) := by
  have hl : i < (nums k l).length := by simpa [nums] using h
  have e := stv_nums (k := k) (x := x) h
  rw [stv_of _ _ _ (by simp; omega)] at e
  rw [stv_of _ _ _ (by simp; omega)]
  injection e with e
  rw [← e]
  congr 1
  simp only [List.length_singleton]
  rw [List.take_append_of_le_length (by omega), List.drop_append_of_le_length (by omega)]
  simp

/-- an element of a slice of one's own -/
theorem ev_ldO {fr : List (Nat × SV)} {lh : List (Nat × List Value)} {H M : PH} {k : IntKind} {T : TypeId} {l : List Nat} {c b i : Nat} (hO : Own k T M (some ⟨b, 0, none⟩) l c) (hi : i < l.length) (k1 : X ⟨(d, .v (.int k (l.getD i 0 : Nat))) :: fr, lh, H, M⟩ K) :
    EvLd false 1 (.pointer (some ⟨b, i * 1, none⟩)) d X ⟨fr, lh, H, M⟩ K := by
  rcases hO with ⟨h, _⟩ | ⟨g, rest, h1, h2, h3, h4⟩
  · cases h
  · injection h1 with h1; injection h1 with e1 e2; subst e1
    exact ⟨b, i * 1, _, T, (0, 0), _, rfl, .inr h2, by rw [Nat.mul_one]; exact ldv_app hi, k1⟩

theorem ev_stO {fr : List (Nat × SV)} {lh : List (Nat × List Value)} {H M : PH} {k : IntKind} {T : TypeId} {l : List Nat} {c b i x : Nat} (hO : Own k T M (some ⟨b, 0, none⟩) l c) (hi : i < l.length)
    (k1 : ∀ M', Own k T M' (some ⟨b, 0, none⟩) (l.set i x) c → But M M' (some ⟨b, 0, none⟩) → (∀ H : PH, PH.disj H M → PH.disj H M') → X ⟨fr, lh, H, M'⟩ K) :
    EvSt 1 (.pointer (some ⟨b, i * 1, none⟩)) (.int k (x : Int)) X ⟨fr, lh, H, M⟩ K := by
  rcases hO with ⟨h, _⟩ | ⟨g, rest, h1, h2, h3, h4⟩
  · cases h
  · injection h1 with h1; injection h1 with e1 e2; subst e1
    refine ⟨b, i * 1, _, T, _, _, rfl, h2, .inl rfl, rfl, by simp [cellsL, Value.oneCell'], by rw [Nat.mul_one]; exact stv_app hi, ?_⟩
    refine k1 _ (.inr ⟨b, rest, rfl, PH.set_self _ _ _, by simpa using h3, h4⟩) ?_ ?_
    · intro b' o hb hne
      show PH.set M b _ b' = some o
      rw [PH.set_ne _ _ (fun e => hne (by rw [e]))]
      exact hb
    · intro H hd
      exact hd.set (hd.at h2)

theorem ev_mkO {fr : List (Nat × SV)} {lh : List (Nat × List Value)} {H M : PH} {k : IntKind} {T : TypeId} {by_ : Nat} {j : Int} (h0 : 0 ≤ j) (h1 : j * by_ ≤ 140737488355328) (h2 : j ≤ 9223372036854775807) (hd : PH.disj H M)
    (k1 : ∀ g M', Own k T M' (some ⟨g, 0, none⟩) (List.replicate j.toNat 0) j.toNat → M.le M' → M g = none → PH.disj H M' → X ⟨(d, .v (.slice (some ⟨g, 0, none⟩) j.toNat j.toNat)) :: fr, lh, H, M'⟩ K) :
    EvMk T [.int k 0] by_ j d X ⟨fr, lh, H, M⟩ K := by
  refine ev_mkN h0 h1 h2 fun g hH hM => k1 g _ (.inr ⟨g, [], rfl, ?_, by simp, by omega⟩) ?_ hM (hd.set hH)
  · rw [PH.set_self]; simp [rowN]
  · intro b o hb
    rw [PH.set_ne _ _ (fun e => by rw [e, show M g = none from hM] at hb; cases hb)]
    exact hb

/-- []T{x, ..} -/
theorem ev_bslO {fr : List (Nat × SV)} {lh : List (Nat × List Value)} {H M : PH} {k : IntKind} {T : TypeId} {l : List Nat} {cs : List Value} {n : Nat} (hcs : cs = nums k l) (hn : n = l.length) (hb : l.length ≤ 9223372036854775807) (hd : PH.disj H M)
    (k1 : ∀ g M', Own k T M' (some ⟨g, 0, none⟩) l l.length → M.le M' → M g = none → PH.disj H M' → X ⟨(d, .v (.slice (some ⟨g, 0, none⟩) l.length l.length)) :: fr, lh, H, M'⟩ K) :
    EvBsl T n cs d X ⟨fr, lh, H, M⟩ K := by
  subst hcs; subst hn
  intro g hH hM
  refine k1 g _ (.inr ⟨g, [], rfl, ?_, by simp, hb⟩) ?_ hM (hd.set hH)
  · rw [PH.set_self]; simp
  · intro b o hb
    rw [PH.set_ne _ _ (fun e => by rw [e, show M g = none from hM] at hb; cases hb)]
    exact hb

theorem nums_ok {k : IntKind} {l : List Nat} : ∀ u ∈ nums k l, u.oneCell' = true := by
  intro u hu
  simp only [nums, List.mem_map] at hu
  obtain ⟨x, _, rfl⟩ := hu
  rfl

/-- append to a slice of one's own -/
theorem ev_appO {fr : List (Nat × SV)} {lh : List (Nat × List Value)} {H M : PH} {k : IntKind} {T : TypeId} {by_ : Nat} {A B : Option Addr} {l m : List Nat} {n c q : Nat} (hO : Own k T M A l c) (hB : Sl k (H.join M) B m) (hn : n = l.length) (hq : q = m.length) (hm : m ≠ [])
    (h1 : l.length + m.length ≤ 9223372036854775807) (h2 : (l.length + m.length) * by_ ≤ 140737488355328) (hd : PH.disj H M)
    (k1 : ∀ A' c' M', Own k T M' A' (l ++ m) c' → But M M' A → (A' = A ∨ ∀ b o, M b = some o → A' ≠ some ⟨b, 0, none⟩) → PH.disj H M' → X ⟨(d, .v (.slice A' (l.length + m.length) c')) :: fr, lh, H, M'⟩ K) :
    EvApp T 1 by_ A n c B q d X ⟨fr, lh, H, M⟩ K := by
  subst hn; subst hq
  have hml : 1 ≤ m.length := List.length_pos_iff.2 hm
  refine .inr ⟨nums k l, nums k m, by simp [nums], by simp [nums], hml, h1, h2, nums_ok, nums_ok, ?_, ?_, ?_⟩
  · rcases hO with ⟨h, h', h''⟩ | ⟨g, rest, e1, e2, e3, e4⟩
    · exact .inl ⟨h, by rw [h']; rfl, h''⟩
    · exact .inr ⟨g, rest, e1, e2, by simp [nums]; omega, by omega, e4⟩
  · rcases hB with h | ⟨b, off, cs, U, fz, e1, e2, e3, e4⟩
    · exact absurd h hm
    · refine ⟨b, off, cs, U, fz, e1, (PH.join_some e2).imp_right (·.2), ?_⟩
      rw [takeN_of _ _ (by simp; omega), Nat.mul_one, e4]
  · intro g' c' rest' hg hc1 hc2 hlen
    replace hg : (H g' = none ∧ M g' = none) ∨ A = some ⟨g', 0, none⟩ := hg
    have hkey : nums k l ++ nums k m ++ rest' = nums k (l ++ m) ++ rest' := by simp [nums]
    refine k1 _ c' _ (.inr ⟨g', rest', rfl, ?_, ?_, hc2⟩) ?_ ?_ ?_
    · simp only [PH.mvd, if_true]; rw [hkey]
    · simp only [List.length_append, nums, List.length_map] at hlen ⊢; omega
    · intro b o hb hne
      simp only [PH.mvd]
      split
      · rename_i e
        subst e
        rcases hg with ⟨_, h⟩ | h
        · rw [h] at hb; cases hb
        · exact absurd h hne
      · first | (rw [if_neg hne]; exact hb) | exact hb
    · rcases hg with ⟨_, h⟩ | h
      · right
        intro b o hb e
        injection e with e; injection e with e _; subst e
        rw [h] at hb; cases hb
      · left; exact h.symm
    · intro b o hb
      simp only [PH.mvd]
      split
      · rename_i e
        subst e
        rcases hg with ⟨h, _⟩ | h
        · rw [h] at hb; cases hb
        · rcases hO with ⟨h', _⟩ | ⟨g, rest, e1, e2, _⟩
          · rw [h'] at h; cases h
          · rw [h] at e1; injection e1 with e1; injection e1 with e1 _; subst e1
            rw [hd _ _ hb] at e2; cases e2
      · split
        · rfl
        · exact hd b o hb
end

end Go.Proofs.YtccdhgjfcgfgoaaGreat.X
set_option linter.unusedVariables false
set_option linter.unusedSimpArgs false
namespace Go.Proofs.YtccdhgjfcgfgoaaGreat.X

/-- how many binary digits -/
def bl (x : Nat) : Nat := if x = 0 then 0 else Nat.log2 x + 1

theorem bl_zero : bl 0 = 0 := rfl
theorem lt_two_pow_bl (x : Nat) : x < 2 ^ bl x := by
  unfold bl
  split
  · subst_vars; simp
  · exact Nat.lt_log2_self
theorem two_pow_le_bl {x : Nat} (h : x ≠ 0) : 2 ^ (bl x - 1) ≤ x := by
  unfold bl
  rw [if_neg h]
  simpa using Nat.log2_self_le h
theorem bl_pos {x : Nat} (h : x ≠ 0) : 0 < bl x := by unfold bl; rw [if_neg h]; omega
theorem bl_le_iff {x k : Nat} : bl x ≤ k ↔ x < 2 ^ k := by
  constructor
  · intro h
    exact Nat.lt_of_lt_of_le (lt_two_pow_bl x) (Nat.pow_le_pow_right (by decide) h)
  · intro h
    by_cases hx : x = 0
    · subst hx; simp [bl_zero]
    · have := two_pow_le_bl hx
      have h2 : 2 ^ (bl x - 1) < 2 ^ k := Nat.lt_of_le_of_lt this h
      have h3 := (Nat.pow_lt_pow_iff_right (by decide : 1 < 2)).1 h2
      omega
theorem lt_bl_iff {x k : Nat} : k < bl x ↔ 2 ^ k ≤ x := by
  have := @bl_le_iff x k
  omega
theorem bl_eq_zero {x : Nat} : bl x = 0 ↔ x = 0 := by
  constructor
  · intro h
    by_cases hx : x = 0
    · exact hx
    · have := bl_pos hx; omega
  · rintro rfl; rfl
theorem bl_mono {x y : Nat} (h : x ≤ y) : bl x ≤ bl y := bl_le_iff.2 (Nat.lt_of_le_of_lt h (lt_two_pow_bl y))
theorem bl_eq {x k : Nat} (h1 : 2 ^ k ≤ x) (h2 : x < 2 ^ (k + 1)) : bl x = k + 1 := by
  have := lt_bl_iff.2 h1
  have := bl_le_iff.2 h2
  omega
theorem bl_add (x y : Nat) : bl (x + y) ≤ max (bl x) (bl y) + 1 := by
  rw [bl_le_iff, Nat.pow_succ]
  have h1 : x < 2 ^ max (bl x) (bl y) := bl_le_iff.1 (by omega)
  have h2 : y < 2 ^ max (bl x) (bl y) := bl_le_iff.1 (by omega)
  omega
theorem bl_mul (x y : Nat) : bl (x * y) ≤ bl x + bl y := by
  rw [bl_le_iff, Nat.pow_add]
  exact Nat.mul_lt_mul'' (lt_two_pow_bl x) (lt_two_pow_bl y)
theorem bl_shift (x k : Nat) (h : x ≠ 0) : bl (x * 2 ^ k) = bl x + k := by
  have h1 := two_pow_le_bl h
  have h2 := lt_two_pow_bl x
  have h3 := bl_pos h
  have h4 := Nat.two_pow_pos k
  obtain ⟨m, hm⟩ : ∃ m, bl x = m + 1 := ⟨bl x - 1, by omega⟩
  rw [hm] at h1 h2 ⊢
  simp at h1
  rw [show m + 1 + k = (m + k) + 1 by omega]
  refine bl_eq ?_ ?_
  · rw [Nat.pow_add]; exact Nat.mul_le_mul_right _ h1
  · rw [show m + k + 1 = (m + 1) + k by omega, Nat.pow_add]; exact Nat.mul_lt_mul_of_pos_right h2 h4

def val : List Nat → Nat
  | [] => 0
  | x :: l => x + 4294967296 * val l
def Lim (l : List Nat) : Prop := ∀ x ∈ l, x < 4294967296
def Norm (l : List Nat) : Prop := Lim l ∧ (∀ h : l ≠ [], l.getLast h ≠ 0)

theorem Lim.nil : Lim [] := fun _ h => by cases h
theorem Lim.cons {x : Nat} {l : List Nat} (hx : x < 4294967296) (h : Lim l) : Lim (x :: l) := fun y hy => by
  rcases List.mem_cons.1 hy with rfl | hy
  · exact hx
  · exact h y hy
theorem Lim.head {x : Nat} {l : List Nat} (h : Lim (x :: l)) : x < 4294967296 := h x List.mem_cons_self
theorem Lim.tail {x : Nat} {l : List Nat} (h : Lim (x :: l)) : Lim l := fun y hy => h y (List.mem_cons_of_mem _ hy)
theorem Lim.append {a b : List Nat} (ha : Lim a) (hb : Lim b) : Lim (a ++ b) := fun y hy => (List.mem_append.1 hy).elim (ha y) (hb y)
theorem Lim.take {a : List Nat} (ha : Lim a) (n : Nat) : Lim (a.take n) := fun y hy => ha y (List.mem_of_mem_take hy)
theorem Lim.drop {a : List Nat} (ha : Lim a) (n : Nat) : Lim (a.drop n) := fun y hy => ha y (List.mem_of_mem_drop hy)
theorem Lim.set {a : List Nat} (ha : Lim a) {i x : Nat} (hx : x < 4294967296) : Lim (a.set i x) := fun y hy => by
  rcases List.mem_or_eq_of_mem_set hy with h | rfl
  · exact ha y h
  · exact hx
theorem Lim.getD {a : List Nat} (ha : Lim a) (i : Nat) : a.getD i 0 < 4294967296 := by
  rw [List.getD_eq_getElem?_getD]
  cases h : a[i]? with
  | none => decide
  | some x => exact ha x (List.mem_of_getElem? h)
theorem Lim.replicate (n : Nat) : Lim (List.replicate n 0) := fun y hy => by rw [List.eq_of_mem_replicate hy]; decide
theorem Norm.nil : Norm [] := ⟨.nil, fun h => absurd rfl h⟩

theorem val_append (a b : List Nat) : val (a ++ b) = val a + 4294967296 ^ a.length * val b := by
  induction a with
  | nil => simp [val]
  | cons x a ih =>
    simp only [List.cons_append, val, ih, List.length_cons, Nat.pow_succ, Nat.mul_add]
    rw [Nat.mul_comm (4294967296 ^ a.length) 4294967296, Nat.mul_assoc]
    omega
theorem val_lt {l : List Nat} (h : Lim l) : val l < 4294967296 ^ l.length := by
  induction l with
  | nil => simp [val]
  | cons x l ih =>
    have h1 := ih h.tail
    have h2 := h.head
    simp only [val, List.length_cons, Nat.pow_succ]
    have : 4294967296 * (val l + 1) ≤ 4294967296 ^ l.length * 4294967296 := by rw [Nat.mul_comm]; exact Nat.mul_le_mul_right _ h1
    omega
theorem val_replicate (n : Nat) : val (List.replicate n 0) = 0 := by
  induction n with
  | zero => rfl
  | succ n ih => simp [List.replicate_succ, val, ih]
theorem val_take_drop (l : List Nat) (n : Nat) (h : n ≤ l.length) : val l = val (l.take n) + 4294967296 ^ n * val (l.drop n) := by
  have := val_append (l.take n) (l.drop n)
  rw [List.take_append_drop, List.length_take, Nat.min_eq_left h] at this
  exact this
theorem take_succ' (l : List Nat) (i : Nat) (h : i < l.length) : l.take (i + 1) = l.take i ++ [l.getD i 0] := by
  rw [List.take_succ_eq_append_getElem h]; simp [h]
theorem drop_eq (l : List Nat) (i : Nat) (h : i < l.length) : l.drop i = l.getD i 0 :: l.drop (i + 1) := by
  rw [List.drop_eq_getElem_cons h]; simp [h]
theorem val_take_succ (l : List Nat) (i : Nat) (h : i < l.length) : val (l.take (i + 1)) = val (l.take i) + 4294967296 ^ i * l.getD i 0 := by
  rw [take_succ' l i h, val_append, List.length_take, Nat.min_eq_left (by omega)]
  simp [val]
theorem val_pos {l : List Nat} (h : Norm l) (hne : l ≠ []) : 4294967296 ^ (l.length - 1) ≤ val l := by
  obtain ⟨h1, h2⟩ := h
  have h3 := h2 hne
  have e := List.dropLast_concat_getLast hne
  have : val l = val l.dropLast + 4294967296 ^ l.dropLast.length * (l.getLast hne) := by
    conv => lhs; rw [← e]
    rw [val_append]; simp [val]
  rw [this, List.length_dropLast]
  have : 1 ≤ l.getLast hne := by omega
  calc 4294967296 ^ (l.length - 1) = 4294967296 ^ (l.length - 1) * 1 := by omega
    _ ≤ 4294967296 ^ (l.length - 1) * l.getLast hne := Nat.mul_le_mul_left _ this
    _ ≤ _ := Nat.le_add_left _ _
theorem val_eq_zero {l : List Nat} (h : Norm l) : val l = 0 ↔ l = [] := by
  constructor
  · intro hv
    by_cases hne : l = []
    · exact hne
    · have := val_pos h hne
      have : 0 < 4294967296 ^ (l.length - 1) := Nat.pow_pos (by decide)
      omega
  · rintro rfl; rfl
theorem len_of_lt {l : List Nat} (h : Norm l) {k : Nat} (hv : val l < 4294967296 ^ k) : l.length ≤ k := by
  by_cases hne : l = []
  · subst hne; simp
  · have h1 := val_pos h hne
    have h2 : 4294967296 ^ (l.length - 1) < 4294967296 ^ k := Nat.lt_of_le_of_lt h1 hv
    have := (Nat.pow_lt_pow_iff_right (by decide : 1 < 4294967296)).1 h2
    omega
theorem pow32 (k : Nat) : (4294967296 : Nat) ^ k = 2 ^ (32 * k) := by
  rw [Nat.pow_mul]
theorem len_le_bl {l : List Nat} (h : Norm l) : 32 * l.length ≤ bl (val l) + 31 := by
  by_cases hne : l = []
  · subst hne; simp
  · have h1 := val_pos h hne
    rw [pow32] at h1
    have := lt_bl_iff.2 h1
    have : 0 < l.length := List.length_pos_iff.2 hne
    omega
theorem bl_le_len {l : List Nat} (h : Lim l) : bl (val l) ≤ 32 * l.length := by
  have := val_lt h
  rw [pow32] at this
  exact bl_le_iff.2 this
theorem Norm.uniq : ∀ {l l' : List Nat}, Norm l → Norm l' → val l = val l' → l = l'
  | [], l', h, h', hv => by
    have : val l' = 0 := by rw [← hv]; rfl
    exact ((val_eq_zero h').1 this).symm
  | x :: l, [], h, h', hv => by
    have := (val_eq_zero h).1 (by rw [hv]; rfl)
    cases this
  | x :: l, y :: l', h, h', hv => by
    simp only [val] at hv
    have h1 := h.1.head
    have h2 := h'.1.head
    have hxy : x = y := by omega
    have hll : val l = val l' := by omega
    have n1 : Norm l := ⟨h.1.tail, fun hne => by have := h.2 (by simp); rwa [List.getLast_cons hne] at this⟩
    have n2 : Norm l' := ⟨h'.1.tail, fun hne => by have := h'.2 (by simp); rwa [List.getLast_cons hne] at this⟩
    rw [hxy, Norm.uniq n1 n2 hll]
theorem norm_take_of {l : List Nat} {n : Nat} (h : Lim l) (hn : n ≤ l.length) (hz : n = 0 ∨ l.getD (n - 1) 0 ≠ 0) : Norm (l.take n) := by
  refine ⟨h.take n, fun hne => ?_⟩
  rw [List.getLast_eq_getElem]
  have hl : (l.take n).length = n := by simp; omega
  have hpos : 0 < n := by
    rcases Nat.eq_zero_or_pos n with h0 | h0
    · subst h0; simp at hne
    · exact h0
  rcases hz with h0 | hz
  · omega
  · have hlt : n - 1 < l.length := by omega
    have hz' : l[n - 1] ≠ 0 := by
      have e : l.getD (n - 1) 0 = l[n - 1] := by simp [List.getD, hlt]
      rwa [e] at hz
    simpa [hl] using hz'
theorem norm_snoc {l : List Nat} {x : Nat} (h : Lim l) (hx : x < 4294967296) (h0 : x ≠ 0) : Norm (l ++ [x]) :=
  ⟨h.append (.cons hx .nil), fun hne => by simpa using h0⟩

end Go.Proofs.YtccdhgjfcgfgoaaGreat.X
set_option linter.unusedVariables false
set_option linter.unusedSimpArgs false
namespace Go.Proofs.YtccdhgjfcgfgoaaGreat.X

theorem or_add (i a b : Nat) (h : a < 2 ^ i) : a ||| b * 2 ^ i = a + b * 2 ^ i := by
  have := Nat.two_pow_add_eq_or_of_lt h b
  rw [Nat.mul_comm b, Nat.or_comm]
  omega

end Go.Proofs.YtccdhgjfcgfgoaaGreat.X
set_option linter.unusedVariables false
set_option linter.unusedSimpArgs false
namespace Go.Proofs.YtccdhgjfcgfgoaaGreat.X

theorem val_set : ∀ (o : List Nat) (j x : Nat), j < o.length → val (o.set j x) + 4294967296 ^ j * o.getD j 0 = val o + 4294967296 ^ j * x
  | [], j, x, h => by simp at h
  | y :: o, 0, x, h => by simp [val]; omega
  | y :: o, j + 1, x, h => by
    have ih := val_set o j x (by simpa using h)
    simp only [List.set_cons_succ, val, List.getD_cons_succ, Nat.pow_succ]
    have e : ∀ q, 4294967296 ^ j * 4294967296 * q = 4294967296 * (4294967296 ^ j * q) := fun q => by rw [Nat.mul_comm (4294967296 ^ j), Nat.mul_assoc]
    rw [e, e]
    omega
theorem val_ge : ∀ (o : List Nat) (j : Nat), 4294967296 ^ j * o.getD j 0 ≤ val o
  | [], j => by simp
  | y :: o, 0 => by simp [val]
  | y :: o, j + 1 => by
    have ih := val_ge o j
    simp only [val, List.getD_cons_succ, Nat.pow_succ]
    rw [Nat.mul_comm (4294967296 ^ j), Nat.mul_assoc]
    omega
theorem getD_lt {o : List Nat} {j q : Nat} (h : val o < 4294967296 ^ j * q) : o.getD j 0 < q := by
  have := val_ge o j
  exact Nat.lt_of_mul_lt_mul_left (Nat.lt_of_le_of_lt this h)
theorem getD_zero {o : List Nat} {n j : Nat} (h : val o < 4294967296 ^ n) (hj : n ≤ j) : o.getD j 0 = 0 := by
  have h1 : val o < 4294967296 ^ j * 1 := by
    rw [Nat.mul_one]
    exact Nat.lt_of_lt_of_le h (Nat.pow_le_pow_right (by decide) hj)
  have := getD_lt h1
  omega
theorem getD_big {o : List Nat} {j : Nat} (h : o.length ≤ j) : o.getD j 0 = 0 := by simp [h]
theorem val_take_set (o : List Nat) (i x : Nat) (h : i < o.length) : val ((o.set i x).take (i + 1)) = val (o.take i) + 4294967296 ^ i * x := by
  rw [val_take_succ _ _ (by simpa using h)]
  have e1 : (o.set i x).take i = o.take i := by
    rw [List.take_set_of_le (by omega)]
  have e2 : (o.set i x).getD i 0 = x := by simp [List.getD, h]
  rw [e1, e2]
theorem val_take_ge (m : List Nat) (i : Nat) : val (m.take (i + 1)) = val (m.take i) + 4294967296 ^ i * m.getD i 0 := by
  by_cases h : i < m.length
  · exact val_take_succ m i h
  · rw [List.take_of_length_le (by omega), List.take_of_length_le (by omega), getD_big (by omega)]; simp

end Go.Proofs.YtccdhgjfcgfgoaaGreat.X
set_option linter.unusedVariables false
set_option linter.unusedSimpArgs false
namespace Go.Proofs.YtccdhgjfcgfgoaaGreat.X

/-- the bytes of a string -/
def bs (s : ByteArray) : List Nat := s.data.toList.map UInt8.toNat
theorem bs_length (s : ByteArray) : (bs s).length = s.size := by
  unfold bs
  rw [List.length_map]
  rfl
theorem bs_getD (s : ByteArray) (i : Nat) : bAt s i = (bs s).getD i 0 := by
  simp only [bAt, bs, List.getD, List.getElem?_map]
  cases s.data.toList[i]? <;> rfl
theorem bs_lt (s : ByteArray) : ∀ d ∈ bs s, d < 256 := by
  intro d hd
  simp only [bs, List.mem_map] at hd
  obtain ⟨x, _, rfl⟩ := hd
  exact x.toNat_lt
theorem bs_inj {s t : ByteArray} (h : bs s = bs t) : s = t := by
  have : s.data.toList = t.data.toList := by
    simp only [bs] at h
    exact (List.map_inj_right (fun a b e => UInt8.toNat_inj.1 e)).1 h
  cases s; cases t
  simp only [ByteArray.mk.injEq]
  exact Array.toList_inj.1 this
/-- the string with these bytes -/
def ofB (l : List Nat) : ByteArray := ⟨(l.map UInt8.ofNat).toArray⟩
theorem bs_ofB {l : List Nat} (h : ∀ d ∈ l, d < 256) : bs (ofB l) = l := by
  simp only [bs, ofB, List.map_map]
  conv => rhs; rw [← List.map_id l]
  apply List.map_congr_left
  intro d hd
  simp [Nat.mod_eq_of_lt (h d hd)]
theorem ofB_bs (s : ByteArray) : ofB (bs s) = s := bs_inj (bs_ofB (bs_lt s))

/-! ### decimal text -/
def dv (l : List Nat) : Nat := l.foldl (fun v d => v * 10 + (d - 48)) 0
theorem dv_snoc (l : List Nat) (d : Nat) : dv (l ++ [d]) = dv l * 10 + (d - 48) := by simp [dv]
def isDig (d : Nat) : Bool := decide (48 ≤ d) && decide (d ≤ 57)
def decOk (l : List Nat) : Bool := (!l.isEmpty && decide (l.length ≤ 4000)) && ((l.getD 0 0 != 48 || decide (l.length ≤ 1)) && l.all isDig)
theorem dv_lt' : ∀ (l : List Nat) (v : Nat), (∀ d ∈ l, d ≤ 57) → l.foldl (fun v d => v * 10 + (d - 48)) v < (v + 1) * 10 ^ l.length
  | [], v, _ => by simp
  | d :: l, v, h => by
    have h1 := dv_lt' l (v * 10 + (d - 48)) fun x hx => h x (List.mem_cons_of_mem _ hx)
    have h2 := h d List.mem_cons_self
    simp only [List.foldl_cons, List.length_cons, Nat.pow_succ]
    refine Nat.lt_of_lt_of_le h1 ?_
    rw [Nat.mul_comm (10 ^ l.length), ← Nat.mul_assoc]
    exact Nat.mul_le_mul_right _ (by omega)
theorem dv_lt {l : List Nat} (h : ∀ d ∈ l, d ≤ 57) : dv l < 10 ^ l.length := by
  have := dv_lt' l 0 h
  simpa [dv] using this
theorem bl_dv {l : List Nat} (h : ∀ d ∈ l, d ≤ 57) : bl (dv l) ≤ 4 * l.length := by
  rw [bl_le_iff, Nat.pow_mul]
  exact Nat.lt_of_lt_of_le (dv_lt h) (Nat.pow_le_pow_left (by decide) _)

end Go.Proofs.YtccdhgjfcgfgoaaGreat.X
set_option linter.unusedVariables false
set_option linter.unusedSimpArgs false
namespace Go.Proofs.YtccdhgjfcgfgoaaGreat.X

/-- k digits to base B, the lowest first -/
def dg (B : Nat) : Nat → Nat → List Nat
  | 0, _ => []
  | k + 1, x => x % B :: dg B k (x / B)
theorem dg_length (B : Nat) : ∀ k x, (dg B k x).length = k
  | 0, _ => rfl
  | k + 1, x => by simp [dg, dg_length B k]
theorem dg_add (B : Nat) : ∀ a b x, dg B (a + b) x = dg B a x ++ dg B b (x / B ^ a)
  | 0, b, x => by simp [dg]
  | a + 1, b, x => by
    rw [show a + 1 + b = (a + b) + 1 by omega]
    simp only [dg, List.cons_append]
    rw [dg_add B a b, Nat.div_div_eq_div_mul, Nat.pow_succ, Nat.mul_comm B]
theorem dg_snoc (B k x : Nat) : dg B (k + 1) x = dg B k x ++ [x / B ^ k % B] := by rw [dg_add]; rfl
theorem dg_getD (B : Nat) : ∀ k x i, i < k → (dg B k x).getD i 0 = x / B ^ i % B
  | 0, _, _, h => by omega
  | k + 1, x, 0, _ => by simp [dg]
  | k + 1, x, i + 1, h => by
    simp only [dg, List.getD_cons_succ]
    rw [dg_getD B k _ i (by omega), Nat.div_div_eq_div_mul, Nat.pow_succ, Nat.mul_comm B]
theorem dg_lt (B : Nat) (hB : 0 < B) : ∀ k x, ∀ d ∈ dg B k x, d < B
  | 0, _, d, h => by simp [dg] at h
  | k + 1, x, d, h => by
    simp only [dg, List.mem_cons] at h
    rcases h with rfl | h
    · exact Nat.mod_lt _ hB
    · exact dg_lt B hB k _ d h
/-- the value of digits, the lowest first -/
def lv (B : Nat) : List Nat → Nat
  | [] => 0
  | d :: l => d + B * lv B l
theorem dg_lv (B : Nat) (hB : 0 < B) : ∀ l : List Nat, (∀ d ∈ l, d < B) → dg B l.length (lv B l) = l
  | [], _ => rfl
  | d :: l, h => by
    have h2 := h d List.mem_cons_self
    simp only [List.length_cons, lv, dg]
    rw [Nat.add_mul_mod_self_left, Nat.mod_eq_of_lt h2, Nat.add_mul_div_left _ _ hB, Nat.div_eq_of_lt h2, Nat.zero_add, dg_lv B hB l fun x hx => h x (List.mem_cons_of_mem _ hx)]
/-! ### decimal text -/
/-- how many decimal digits -/
def nd (x : Nat) : Nat := if h : x = 0 then 0 else nd (x / 10) + 1
termination_by x
decreasing_by omega
theorem nd_zero : nd 0 = 0 := by unfold nd; rfl
theorem nd_pos {x : Nat} (h : x ≠ 0) : nd x = nd (x / 10) + 1 := by rw [nd, dif_neg h]
theorem lt_nd (x : Nat) : x < 10 ^ nd x := by
  induction x using Nat.strongRecOn with
  | _ x ih =>
    by_cases h : x = 0
    · subst h; rw [nd_zero]; decide
    · rw [nd_pos h, Nat.pow_succ]
      have := ih (x / 10) (by omega)
      omega
theorem nd_le {x : Nat} (h : x ≠ 0) : 10 ^ (nd x - 1) ≤ x := by
  induction x using Nat.strongRecOn with
  | _ x ih =>
    rw [nd_pos h, Nat.add_sub_cancel]
    by_cases h2 : x / 10 = 0
    · rw [h2, nd_zero]; omega
    · have h3 := ih (x / 10) (by omega) h2
      have h4 := nd_pos h2
      rw [h4, Nat.add_sub_cancel] at h3
      rw [h4, Nat.pow_succ]; omega
theorem nd_uniq {x k : Nat} (h1 : x < 10 ^ k) (h2 : k = 0 ∨ 10 ^ (k - 1) ≤ x) : nd x = k := by
  by_cases hx : x = 0
  · subst hx
    rcases h2 with h2 | h2
    · rw [h2, nd_zero]
    · have := Nat.pow_pos (n := k - 1) (show 0 < 10 by decide); omega
  · have a1 := lt_nd x
    have a2 := nd_le hx
    have e1 := nd_pos hx
    have hk : k ≠ 0 := by rintro rfl; rw [Nat.pow_zero] at h1; omega
    have h3 : 10 ^ (k - 1) ≤ x := h2.resolve_left hk
    have b1 := (Nat.pow_lt_pow_iff_right (by decide : 1 < 10)).1 (Nat.lt_of_le_of_lt h3 a1)
    have b2 := (Nat.pow_lt_pow_iff_right (by decide : 1 < 10)).1 (Nat.lt_of_le_of_lt a2 h1)
    omega
/-- decimal digits, the lowest first, none for 0 -/
def ds (k x : Nat) : List Nat := (dg 10 k x).map (48 + ·)
theorem ds_length (k x : Nat) : (ds k x).length = k := by simp [ds, dg_length]
theorem ds_add (a b x : Nat) : ds (a + b) x = ds a x ++ ds b (x / 10 ^ a) := by simp [ds, dg_add]
theorem ds_snoc (k x : Nat) : ds (k + 1) x = ds k x ++ [48 + x / 10 ^ k % 10] := by simp [ds, dg_snoc]
theorem ds_lt (k x : Nat) : ∀ d ∈ ds k x, d < 256 := by
  intro d hd
  simp only [ds, List.mem_map] at hd
  obtain ⟨y, hy, rfl⟩ := hd
  have := dg_lt 10 (by decide) k x y hy
  omega
/-- decimal text -/
def txt (x : Nat) : List Nat := if x = 0 then [48] else (ds (nd x) x).reverse
theorem txt_lt (x : Nat) : ∀ d ∈ txt x, d < 256 := by
  unfold txt
  split
  · intro d hd; simp at hd; omega
  · intro d hd; exact ds_lt _ _ d (by simpa using hd)
theorem ds_getD {k x i : Nat} (h : i < k) : (ds k x).getD i 0 = 48 + x / 10 ^ i % 10 := by
  have e := dg_getD 10 k x i h
  have hl : i < (dg 10 k x).length := by rw [dg_length]; exact h
  rw [List.getD, List.getElem?_eq_getElem hl] at e
  simp only [ds, List.getD, List.getElem?_map, List.getElem?_eq_getElem hl]
  simpa using e
theorem dv_rev : ∀ (l : List Nat), dv l.reverse = lv 10 (l.map (· - 48))
  | [] => rfl
  | d :: l => by
    rw [List.reverse_cons, dv_snoc, dv_rev l]
    simp only [List.map_cons, lv]
    omega
theorem dv_eq_lv (l : List Nat) : dv l = lv 10 (l.reverse.map (· - 48)) := by
  rw [← dv_rev, List.reverse_reverse]
theorem digits_ds {l : List Nat} (h : ∀ d ∈ l, isDig d = true) : l = (ds l.length (dv l)).reverse := by
  have h1 : ∀ d ∈ l.reverse.map (· - 48), d < 10 := by
    intro d hd
    simp only [List.mem_map, List.mem_reverse] at hd
    obtain ⟨y, hy, rfl⟩ := hd
    have := h y hy
    simp [isDig] at this; omega
  have h2 := dg_lv 10 (by decide) _ h1
  rw [← dv_eq_lv, List.length_map, List.length_reverse] at h2
  unfold ds
  rw [h2, List.map_map]
  rw [show List.map ((fun x => 48 + x) ∘ fun x => x - 48) l.reverse = l.reverse from ?_]
  · rw [List.reverse_reverse]
  · conv => rhs; rw [← List.map_id l.reverse]
    apply List.map_congr_left
    intro d hd
    have := h d (by simpa using hd)
    simp [isDig] at this
    simp; omega
theorem txt_dv {l : List Nat} (h : decOk l = true) : txt (dv l) = l := by
  simp only [decOk, Bool.and_eq_true, Bool.or_eq_true, decide_eq_true_eq, List.all_eq_true, bne_iff_ne, Bool.not_eq_true', List.isEmpty_eq_false_iff] at h
  obtain ⟨⟨h1, h2⟩, h3, h4⟩ := h
  have e := digits_ds h4
  have hlen : 0 < l.length := List.length_pos_iff.2 h1
  have h6 : dv l < 10 ^ l.length := dv_lt fun d hd => by have := h4 d hd; simp [isDig] at this; omega
  have h7 : l.getD 0 0 = 48 + dv l / 10 ^ (l.length - 1) % 10 := by
    have h8 : l.getD 0 0 = (ds l.length (dv l)).reverse.getD 0 0 := by rw [← e]
    rw [h8, List.getD, List.getElem?_reverse (by rw [ds_length]; exact hlen), ds_length]
    exact ds_getD (k := l.length) (x := dv l) (i := l.length - 1 - 0) (by omega)
  by_cases hz : dv l = 0
  · have hl1 : l.length = 1 := by
      rcases h3 with h3 | h3
      · rw [h7, hz] at h3; simp at h3
      · omega
    rw [hz] at e ⊢
    rw [e, hl1]; rfl
  · have hnd : nd (dv l) = l.length := by
      refine nd_uniq h6 (.inr ?_)
      rcases h3 with h3 | h3
      · rw [h7] at h3
        have h5 : dv l / 10 ^ (l.length - 1) ≠ 0 := by intro e0; rw [e0] at h3; simp at h3
        have h9 : 0 < dv l / 10 ^ (l.length - 1) := Nat.pos_of_ne_zero h5
        exact (Nat.div_pos_iff.1 h9).2
      · rw [show l.length - 1 = 0 by omega, Nat.pow_zero]; omega
    unfold txt
    rw [if_neg hz, hnd, ← e]
/-- what is left when 0s behind are struck -/
theorem ds_strip {x k m : Nat} (h : x < 10 ^ k) (hm : m ≤ k) (hz : ∀ i, m ≤ i → i < k → (ds k x).getD i 0 = 48) (ht : m = 0 ∨ (ds k x).getD (m - 1) 0 ≠ 48) : m = nd x ∧ (ds k x).take m = ds (nd x) x := by
  have e1 : (ds k x).take m = ds m x := by
    conv => lhs; rw [show k = m + (k - m) by omega, ds_add]
    rw [List.take_left' (ds_length _ _)]
  have e2 : x < 10 ^ m := by
    have key : ∀ j, j ≤ k - m → x < 10 ^ (k - j) := by
      intro j
      induction j with
      | zero => intro _; simpa using h
      | succ j ih =>
        intro hj
        have h1 := ih (by omega)
        have h2 := hz (k - (j + 1)) (by omega) (by omega)
        rw [ds_getD (by omega)] at h2
        have h3 : x / 10 ^ (k - (j + 1)) < 10 := by
          rw [Nat.div_lt_iff_lt_mul (Nat.pow_pos (by decide)), Nat.mul_comm, ← Nat.pow_succ, show (k - (j + 1)).succ = k - j by omega]
          exact h1
        generalize hy : x / 10 ^ (k - (j + 1)) = y at *
        have h4 : y = 0 := by clear h h1 hz ht ih e1; omega
        rw [← hy] at h4
        exact (Nat.div_eq_zero_iff.1 h4).resolve_left (Nat.ne_of_gt (Nat.pow_pos (by decide)))
    have := key (k - m) (Nat.le_refl _)
    rwa [show k - (k - m) = m by omega] at this
  have e3 : nd x = m := by
    refine nd_uniq e2 ?_
    by_cases hm0 : m = 0
    · exact .inl hm0
    · right
      have h1 := ht.resolve_left hm0
      rw [ds_getD (by omega)] at h1
      have h5 : x / 10 ^ (m - 1) ≠ 0 := by intro e0; rw [e0] at h1; simp at h1
      exact (Nat.div_pos_iff.1 (Nat.pos_of_ne_zero h5)).2
  exact ⟨e3.symm, by rw [e1, e3]⟩

end Go.Proofs.YtccdhgjfcgfgoaaGreat.X
set_option linter.unusedVariables false
set_option linter.unusedSimpArgs false
namespace Go.Proofs.YtccdhgjfcgfgoaaGreat.X

/-- What is guessed is never too small, -/
theorem guess_init {W V a b c f s P wl vl : Nat} (hW : W = ((a * 4294967296 + b) * 4294967296 + c) * P + wl) (hwl : wl < P) (hV : V = (f * 4294967296 + s) * P + vl) (hf : 0 < f) (hc : c < 4294967296) : W / V ≤ (a * 4294967296 + b) / f := by
  obtain ⟨top, ht⟩ : ∃ top, a * 4294967296 + b = top := ⟨_, rfl⟩
  rw [ht] at hW ⊢
  clear ht
  have h1 := Nat.lt_div_mul_add (a := top) hf
  have h2 : top + 1 ≤ (top / f + 1) * f := by rw [Nat.add_mul, Nat.one_mul]; omega
  have h3 : (top + 1) * 4294967296 * P ≤ (top / f + 1) * V := by
    rw [hV, Nat.mul_add, ← Nat.mul_assoc, Nat.mul_add, ← Nat.mul_assoc (top / f + 1)]
    refine Nat.le_trans ?_ (Nat.le_add_right _ _)
    refine Nat.mul_le_mul_right _ (Nat.le_trans ?_ (Nat.le_add_right _ _))
    exact Nat.mul_le_mul_right _ h2
  have h4 : W < (top + 1) * 4294967296 * P := by
    rw [hW]
    have : (top * 4294967296 + c + 1) * P ≤ (top + 1) * 4294967296 * P := Nat.mul_le_mul_right _ (by omega)
    rw [Nat.add_mul, Nat.one_mul] at this
    omega
  have h5 := Nat.lt_of_lt_of_le h4 h3
  exact Nat.le_of_lt_succ (Nat.div_lt_of_lt_mul (by rw [Nat.mul_comm]; exact h5))

theorem guess_hi {W V a b c f s P wl vl g r : Nat} (hW : W = ((a * 4294967296 + b) * 4294967296 + c) * P + wl) (hwl : wl < P) (hV : V = (f * 4294967296 + s) * P + vl) (hg : g * f + r = a * 4294967296 + b) (h : r * 4294967296 + c < g * s) : W / V < g := by
  have h1 : ((a * 4294967296 + b) * 4294967296 + c + 1) * P ≤ g * V := by
    rw [hV, Nat.mul_add, ← Nat.mul_assoc, ← hg]
    refine Nat.le_trans (Nat.mul_le_mul_right _ ?_) (Nat.le_add_right _ _)
    rw [Nat.mul_add, ← Nat.mul_assoc, Nat.add_mul]
    omega
  have h2 : W < g * V := by
    rw [Nat.add_mul, Nat.one_mul] at h1
    omega
  have hV0 : 0 < V := by
    rcases Nat.eq_zero_or_pos V with h0 | h0
    · rw [h0, Nat.mul_zero] at h2; omega
    · exact h0
  rw [Nat.div_lt_iff_lt_mul hV0]
  exact h2

theorem guess_lo {W V a b c f s P wl vl g r : Nat} (hW : W = ((a * 4294967296 + b) * 4294967296 + c) * P + wl) (hV : V = (f * 4294967296 + s) * P + vl) (hvl : vl < P) (hg : g * f + r = a * 4294967296 + b) (h : g * s ≤ r * 4294967296 + c) (hgB : g < 4294967296) (hf : 1 ≤ f) (hV0 : 0 < V) : g ≤ W / V + 1 := by
  rcases Nat.eq_zero_or_pos g with h0 | h0
  · rw [h0]; exact Nat.zero_le _
  obtain ⟨k, rfl⟩ : ∃ k, g = k + 1 := ⟨g - 1, by omega⟩
  refine Nat.succ_le_succ ?_
  rw [Nat.le_div_iff_mul_le hV0]
  have e1 : k * V ≤ k * ((f * 4294967296 + s) * P + P) := Nat.mul_le_mul_left _ (by rw [hV]; omega)
  have e2 : k * ((f * 4294967296 + s) * P + P) = (k * (f * 4294967296 + s) + k) * P := by rw [← Nat.succ_mul, ← Nat.mul_assoc, Nat.mul_succ]
  have e3 : k * (f * 4294967296 + s) + k ≤ (a * 4294967296 + b) * 4294967296 + c := by
    have e4 : (k + 1) * (f * 4294967296 + s) ≤ (a * 4294967296 + b) * 4294967296 + c := by
      rw [← hg, Nat.mul_add, ← Nat.mul_assoc, Nat.add_mul ((k + 1) * f), Nat.add_assoc]
      exact Nat.add_le_add_left h _
    rw [Nat.add_mul, Nat.one_mul] at e4
    omega
  have e5 := Nat.mul_le_mul_right P e3
  rw [hW]
  omega

/-- where a number of limbs is cut -/
theorem val_top3 (w : List Nat) (n : Nat) (hw : w.length = n + 1) (hn : 2 ≤ n) : val w = ((w.getD n 0 * 4294967296 + w.getD (n - 1) 0) * 4294967296 + w.getD (n - 2) 0) * 4294967296 ^ (n - 2) + val (w.take (n - 2)) := by
  have h1 := val_take_succ w n (by omega)
  rw [List.take_of_length_le (by omega)] at h1
  have h2 := val_take_succ w (n - 1) (by omega)
  have h3 := val_take_succ w (n - 2) (by omega)
  rw [show n - 1 + 1 = n by omega] at h2
  rw [show n - 2 + 1 = n - 1 by omega] at h3
  have e1 : (4294967296 : Nat) ^ (n - 1) = 4294967296 ^ (n - 2) * 4294967296 := by rw [← Nat.pow_succ]; congr 1; omega
  have e2 : (4294967296 : Nat) ^ n = 4294967296 ^ (n - 2) * 4294967296 * 4294967296 := by rw [← e1, ← Nat.pow_succ]; congr 1; omega
  rw [h1, h2, h3, e1, e2]
  generalize 4294967296 ^ (n - 2) = P
  rw [Nat.add_mul, Nat.mul_comm P, Nat.mul_right_comm, Nat.mul_comm (P * 4294967296 * 4294967296), Nat.add_mul, Nat.add_mul]
  simp only [Nat.mul_assoc, Nat.mul_comm, Nat.mul_left_comm, Nat.add_assoc, Nat.add_comm, Nat.add_left_comm]
theorem val_top2 (m : List Nat) (n : Nat) (hm : m.length = n) (hn : 2 ≤ n) : val m = (m.getD (n - 1) 0 * 4294967296 + m.getD (n - 2) 0) * 4294967296 ^ (n - 2) + val (m.take (n - 2)) := by
  have h2 := val_take_succ m (n - 1) (by omega)
  have h3 := val_take_succ m (n - 2) (by omega)
  rw [show n - 1 + 1 = n by omega, List.take_of_length_le (by omega)] at h2
  rw [show n - 2 + 1 = n - 1 by omega] at h3
  have e1 : (4294967296 : Nat) ^ (n - 1) = 4294967296 ^ (n - 2) * 4294967296 := by rw [← Nat.pow_succ]; congr 1; omega
  rw [h2, h3, e1]
  generalize 4294967296 ^ (n - 2) = P
  rw [Nat.add_mul]
  simp only [Nat.mul_assoc, Nat.mul_comm, Nat.mul_left_comm, Nat.add_assoc, Nat.add_comm, Nat.add_left_comm]

/-- a piece of a row, written over -/
theorem seg_set (o : List Nat) (j k i x : Nat) (h : i < k) : ((o.set (j + i) x).drop j).take k = ((o.drop j).take k).set i x := by
  rw [List.drop_set, if_neg (by omega), List.take_set, show j + i - j = i by omega]
theorem seg_getD (o : List Nat) (j k i : Nat) (h : i < k) : ((o.drop j).take k).getD i 0 = o.getD (j + i) 0 := by
  simp only [List.getD]
  rw [List.getElem?_take, if_pos h, List.getElem?_drop]
theorem seg_length (o : List Nat) (j k : Nat) (h : j + k ≤ o.length) : ((o.drop j).take k).length = k := by
  rw [List.length_take, List.length_drop]; omega
theorem val_seg (o : List Nat) (j k : Nat) (h : j + k ≤ o.length) : val o = val (o.take j) + 4294967296 ^ j * (val ((o.drop j).take k) + 4294967296 ^ k * val (o.drop (j + k))) := by
  rw [val_take_drop o j (by omega)]
  congr 2
  rw [val_take_drop (o.drop j) k (by rw [List.length_drop]; omega), List.drop_drop]

/-- one digit of a long division -/
theorem long_digit {W V g : Nat} (hV : 0 < V) (h1 : W / V ≤ g) (h2 : g ≤ W / V + 1) : (W < g * V → g = W / V + 1) ∧ (¬ W < g * V → g = W / V) := by
  have e1 := Nat.div_mul_le_self W V
  have e2 := Nat.lt_div_mul_add (a := W) hV
  constructor
  · intro h
    have : g ≠ W / V := by rintro rfl; omega
    omega
  · intro h
    have : g ≠ W / V + 1 := by
      rintro rfl
      rw [Nat.add_mul, Nat.one_mul] at h
      omega
    omega

end Go.Proofs.YtccdhgjfcgfgoaaGreat.X
set_option linter.unusedVariables false
set_option linter.unusedSimpArgs false
namespace Go.Proofs.YtccdhgjfcgfgoaaGreat.X

/-- a natural number with a sign -/
def sg (b : Bool) (x : Nat) : Int := if b then -(x : Int) else x
theorem sg_true (x : Nat) : sg true x = -(x : Int) := rfl
theorem sg_false (x : Nat) : sg false x = x := rfl
theorem sg_natAbs (b : Bool) (x : Nat) : (sg b x).natAbs = x := by cases b <;> simp [sg]
theorem sg_self (z : Int) : sg (decide (z < 0)) z.natAbs = z := by
  by_cases h : z < 0
  · rw [decide_eq_true h, sg_true]; omega
  · rw [decide_eq_false h, sg_false]; omega
def cmpI (z w : Int) : Int := if z < w then -1 else if w < z then 1 else 0
def sgnI (z : Int) : Int := if z < 0 then -1 else if 0 < z then 1 else 0
/-- text of a number with a sign -/
def itxt (z : Int) : List Nat := if z < 0 then 45 :: txt z.natAbs else txt z.natAbs
def intOk (l : List Nat) : Bool := if l.getD 0 0 = 45 then decOk (l.drop 1) && dv (l.drop 1) != 0 else decOk l
def iv (l : List Nat) : Int := if l.getD 0 0 = 45 then -(dv (l.drop 1) : Int) else dv l
theorem itxt_iv {l : List Nat} (h : intOk l = true) : itxt (iv l) = l := by
  unfold intOk at h
  unfold iv itxt
  split at h
  · rename_i h45
    rw [Bool.and_eq_true, bne_iff_ne] at h
    rw [if_pos h45, if_pos (by omega), Int.natAbs_neg, Int.natAbs_natCast, txt_dv h.1]
    cases l with
    | nil => simp at h45
    | cons d l => simp at h45; rw [h45]; rfl
  · rename_i h45
    rw [if_neg h45, if_neg (by omega), Int.natAbs_natCast, txt_dv h]

theorem sg_add_same (b : Bool) (x y : Nat) : sg b x + sg b y = sg b (x + y) := by cases b <;> simp [sg] <;> omega
theorem sg_add_ge (b : Bool) (x y : Nat) (h : y ≤ x) : sg b x + sg (!b) y = sg b (x - y) := by cases b <;> simp [sg] <;> omega
theorem sg_add_lt (b : Bool) (x y : Nat) (h : x ≤ y) : sg b x + sg (!b) y = sg (!b) (y - x) := by cases b <;> simp [sg] <;> omega
theorem sg_neg (b : Bool) (x : Nat) : -(sg b x) = sg (!b) x := by cases b <;> simp [sg]
theorem sg_mul (b d : Bool) (x y : Nat) : sg b x * sg d y = sg (b != d) (x * y) := by
  cases b <;> cases d <;> simp [sg, Int.natCast_mul, Int.neg_mul, Int.mul_neg]
theorem decide_sg (b : Bool) (x : Nat) : decide (sg b x < 0) = (b && decide (0 < x)) := by
  cases b <;> simp [sg] <;> omega

/-- how many binary digits -/
def bi (z : Int) : Nat := bl z.natAbs
theorem bi_add (z w : Int) : bi (z + w) ≤ max (bi z) (bi w) + 1 :=
  Nat.le_trans (bl_mono (Int.natAbs_add_le z w)) (bl_add _ _)
theorem bi_mul (z w : Int) : bi (z * w) ≤ bi z + bi w := by
  unfold bi; rw [Int.natAbs_mul]; exact bl_mul _ _
theorem bi_neg (z : Int) : bi (-z) = bi z := by unfold bi; rw [Int.natAbs_neg]
/-! ### division, downwards -/
theorem sgn_sub (z w : Int) : sgnI (z - w) = cmpI z w := by
  unfold sgnI cmpI
  by_cases h : z < w
  · rw [if_pos h, if_pos (by omega)]
  · rw [if_neg h, if_neg (by omega)]
    by_cases h2 : w < z
    · rw [if_pos h2, if_pos (by omega)]
    · rw [if_neg h2, if_neg (by omega)]
theorem cmpI_cases (x y : Int) : cmpI x y = -1 ∨ cmpI x y = 0 ∨ cmpI x y = 1 := by
  unfold cmpI
  by_cases h : x < y
  · rw [if_pos h]; exact .inl rfl
  · rw [if_neg h]
    by_cases h2 : y < x
    · rw [if_pos h2]; exact .inr (.inr rfl)
    · rw [if_neg h2]; exact .inr (.inl rfl)
theorem sgnI_cases (x : Int) : sgnI x = -1 ∨ sgnI x = 0 ∨ sgnI x = 1 := by
  rw [← show x - 0 = x by omega, sgn_sub]; exact cmpI_cases x 0
theorem txt_small {x : Nat} (h0 : x ≠ 0) (h : x < 10) : txt x = [48 + x] := by
  have e : nd x = 1 := nd_uniq (by simpa using h) (.inr (by simp; omega))
  unfold txt
  rw [if_neg h0, e]
  simp [ds, dg, Nat.mod_eq_of_lt h]
theorem bi_iv {l : List Nat} (h : intOk l = true) : bi (iv l) ≤ 4 * l.length := by
  have key : ∀ m : List Nat, decOk m = true → bl (dv m) ≤ 4 * m.length := by
    intro m hm
    simp only [decOk, Bool.and_eq_true, List.all_eq_true, decide_eq_true_eq] at hm
    exact bl_dv fun d hd => by have := hm.2.2 d hd; simp [isDig] at this; omega
  unfold intOk at h
  unfold iv bi
  split at h
  · rename_i h45
    rw [Bool.and_eq_true] at h
    rw [if_pos h45, Int.natAbs_neg, Int.natAbs_natCast]
    have := key _ h.1
    rw [List.length_drop] at this
    omega
  · rename_i h45
    rw [if_neg h45, Int.natAbs_natCast]
    exact key _ h

end Go.Proofs.YtccdhgjfcgfgoaaGreat.X
