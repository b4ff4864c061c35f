/- From the loaded code to the instructions. -/
import Derived.Test.YtlhhdlhnpgiamaaDoorXB
namespace Go.Proofs.YtlhhdlhnpgiamaaDoor.X
open Go Go.RowKit

def isAggT (P : Program) (t : TypeId) : Bool := match P.underlying t with | some (.struct _) | some (.array _ _) => true | _ => false

/-- where a struct's parts lie: (place, size) -/
def fieldPl (P : Program) (fs : Array Field) : Option (List (Nat × Nat)) := fs.toList.mapM fun f => (P.info? f.type).map fun i => (f.offset, i.size)

def partsOf (pl : Nat → Option (Nat × Nat)) : List (Nat × Operand) → Option (List (Nat × Nat × Operand))
  | [] => some []
  | (i, x) :: l => match pl i, partsOf pl l with | some (off, n), some r => some ((off, n, x) :: r) | _, _ => none

def hasBody (P : Program) (f : Nat) : Bool :=
  match P.funcs[f]? with
  | some fn => !(fn.name == "runtime.NumGoroutine") && fn.body.isSome
  | none => false

/-- One operation with a destination d. -/
def toPId (P : Program) (drawn app : Bool) (d : Nat) : Op → Option PI
  | .move x => some (.mv d x)
  | .assign x => some (.mv d x)
  | .pick c a b => some (.pick d c a b)
  | .alloc t => (match P.info? t with | some i => (match i.zero with | some z => some (.new d z.cells.toList) | none => none) | none => none)
  | .box _ x => some (.box d x)
  | .load t x => (match P.underlying t, P.info? t with
    | some u, some i => (match u with
      | .struct _ | .array _ _ => (match app with | true => some (.ldx d true i.size x) | false => some (.ld d true i.size x))
      | _ => (match app with | true => some (.ldx d false 1 x) | false => some (.ld d false 1 x)))
    | _, _ => none)
  | .binOp op t x y _ => (match P.underlying t with
    | some .bool => (match op with | .eql => some (.beq d false x y) | .neq => some (.beq d true x y) | _ => none)
    | some (.slice _) => (match y with
      | .const (.slice none 0 0) => (match op with | .eql => some (.isnil d false x) | .neq => some (.isnil d true x) | _ => none)
      | _ => none)
    | some (.int _) => some (.bin d op x y)
    | some .string => some (.bin d op x y)
    | _ => none)
  | .unOp op _ x => (match op with | .not => some (.not d x) | .neg => some (.neg d x) | _ => none)
  | .convert s t x => (match P.underlying s, P.underlying t with
    | some (.int _), some (.int k) => some (.cv d k x)
    | some (.slice e), some .string => (match P.underlying e with | some (.int .u8) => some (.b2s d x) | _ => none)
    | _, _ => none)
  | .fieldAddr t x f => (match P.underlying t with
    | some (.struct fs) => (match fs[f]? with
      | some fd => (match P.info? fd.type with | some i => (match i.size with | 0 => none | _ + 1 => some (.fa d fd.offset x)) | none => none)
      | none => none)
    | _ => none)
  | .field t x f => (match P.underlying t with
    | some (.struct fs) => (match fs[f]? with
      | some fd => (match P.underlying fd.type, P.info? fd.type with
        | some u, some i => (match u with | .struct _ | .array _ _ => some (.fd d true i.size fd.offset x) | _ => some (.fd d false 1 fd.offset x))
        | _, _ => none)
      | none => none)
    | _ => none)
  | .indexAddr t x i => (match P.underlying t with
    | some (.slice e) => (match P.info? e with | some j => some (.ia d j.size x i) | none => none)
    | some (.array n e) => (match P.info? e with | some j => some (.iaA d j.size n x i) | none => none)
    | _ => none)
  | .index t x i => (match P.underlying t with | some .string => some (.ix d x i) | _ => none)
  | .extract x i => some (.ex d i x)
  | .makeSlice t l c => (match l, c with
    | .tmp a, .tmp b => if a = b then (match P.underlying t with
      | some (.slice e) => (match P.info? e with | some i => (match i.zero with | some z => if z.cells.size = i.size then some (.mk d e z.cells.toList i.bytes (.tmp a)) else none | none => none) | none => none)
      | _ => none) else none
    | _, _ => none)
  | .slice t x lo hi mx => (match mx with
    | some _ => none
    | none => (match P.underlying t with
      | some .string => some (.ss d x lo hi)
      | some (.slice e) => (match P.info? e with
        | some i => (match lo, hi with
          | some l, some h => some (.sl d i.size x l h)
          | none, some h => some (.slh d x h)
          | some l, none => some (.sll d i.size x l)
          | none, none => none)
        | none => none)
      | _ => none))
  | .build t parts => (match P.info? t, P.underlying t with
    | some i, some (.struct fs) => (match i.zero, fieldPl P fs with
      | some z, some pl => (match partsOf (pl.toArray[·]?) parts.toList with | some ps => some (.bld d z.cells.toList ps) | none => none)
      | _, _ => none)
    | some i, some (.array _ e) => (match i.zero, P.info? e with
      | some z, some ie => (match partsOf (fun k => some (k * ie.size, ie.size)) parts.toList with | some ps => some (.bld d z.cells.toList ps) | none => none)
      | _, _ => none)
    | _, _ => none)
  | .buildSlice t len parts => (match P.underlying t with
    | some (.slice e) => (match P.info? e with
      | some i => (match i.zero, partsOf (fun k => some (k * i.size, i.size)) parts.toList with
        | some z, some ps => if z.cells.size = i.size ∧ len * i.size ≤ 16777216 then some (.bsl d e len (List.replicate len z.cells.toList).flatten ps) else none
        | _, _ => none)
      | none => none)
    | _ => none)
  | .call c => (match c.callee with
    | .value (.func f) => if hasBody P f then some (.call d drawn f c.args.toList) else none
    | .builtin .len => (match c.args.toList, c.argTypes.toList with
      | [x], [t] => (match P.underlying t with | some .string => some (.lens d x) | some (.slice _) => some (.len d x) | _ => none)
      | _, _ => none)
    | .builtin .max => (match c.args.toList with | [x, y] => some (.mm d true x y) | _ => none)
    | .builtin .min => (match c.args.toList with | [x, y] => some (.mm d false x y) | _ => none)
    | .builtin .append => (match c.args.toList, c.argTypes.toList with
      | [x, y], [t, t'] => (match P.underlying t, P.underlying t' with
        | some (.slice e), some (.slice _) => if t = t' then (match P.info? e with
          | some i => (match i.zero with | some z => if z.cells.size = i.size ∧ 0 < i.size then some (.app d e i.size i.bytes x y) else none | none => none)
          | none => none) else none
        | _, _ => none)
      | _, _ => none)
    | _ => none)
  | _ => none

def toPI (P : Program) (n : Nat) (drawn app : Bool) (o : Oper) : Option PI :=
  match o.dst with
  | some d => if d < n then toPId P drawn app d o.op else none
  | none => (match o.op with
    | .store t x y => (match P.info? t with | some i => some (.st i.size x y) | none => none)
    | _ => none)

def gateIn (ops : Array Oper) (o : Oper) : Option (Option (Nat × Bool)) :=
  match o.guard with
  | none => some none
  | some (j, want) => (match (ops[j]?).bind (·.dst) with | some t => some (some (t, want)) | none => none)

def one (P : Program) (n : Nat) (drawn app : Bool) (ops : Array Oper) (i : Nat) : Option (Option (Nat × Bool) × PI) :=
  match ops[i]? with
  | some o => (match gateIn ops o, toPI P n drawn app o with | some g, some pi => some (g, pi) | _, _ => none)
  | none => none

def PI.pure : PI → Bool
  | .mv .. | .pick .. | .bin .. | .beq .. | .isnil .. | .not .. | .neg .. | .cv .. | .fa .. | .fd .. | .ia .. | .iaA .. | .ix .. | .ex .. | .len .. | .lens .. | .mm .. | .sl .. | .slh .. | .sll .. | .ss .. | .bld .. => true
  | _ => false
def PI.isLd : PI → Bool
  | .ld .. => true
  | .ldx .. => true
  | _ => false

def isApp (o : Oper) : Bool := match o.op with | .call { callee := .builtin .append, .. } => true | _ => false
def hasApp (ops : Array Oper) : Bool := ops.toList.any isApp

def mkT (P : Program) (n : Nat) (ops : Array Oper) : IT → Option PT
  | .nil => some .nil
  | .fl i r => (match one P n true (hasApp ops) ops i, mkT P n ops r with | some (g, pi), some t => if pi.pure then some (.op g pi t) else none | _, _ => none)
  | .ld i r => (match one P n true (hasApp ops) ops i, mkT P n ops r with | some (g, pi), some t => if pi.isLd then some (.op g pi t) else none | _, _ => none)
  | .act i r => (match one P n true (hasApp ops) ops i, mkT P n ops r with | some (g, pi), some t => some (.op g pi t) | _, _ => none)
  | .alt l r => (match mkT P n ops l, mkT P n ops r with | some a, some b => some (.alt a b) | _, _ => none)

def mkL (P : Program) (n : Nat) (ops : Array Oper) : List Nat → Option PT
  | [] => some .nil
  | i :: l => (match one P n false false ops i, mkL P n ops l with | some (g, pi), some t => some (.op g pi t) | _, _ => none)

/-- The code as instructions; the plans: a tree for each region that draws. -/
def comp (P : Program) (n : Nat) : Code → List IT → Option (PC × List IT)
  | .skip, l => some (.skip, l)
  | .ret, l => some (.ret, l)
  | .exit i, l => some (.exit i, l)
  | .region _ ops false, l => (match mkL P n ops (List.range ops.size) with | some t => some (.reg t, l) | none => none)
  | .region _ ops true, it :: l => (match chkTop ops it, mkT P n ops it with | true, some t => some (.reg t, l) | _, _ => none)
  | .seq a b, l => (match comp P n a l with
    | some (p, l) => (match comp P n b l with | some (q, l) => some (.seq p q, l) | none => none)
    | none => none)
  | .cond c a b, l => (match comp P n a l with
    | some (p, l) => (match comp P n b l with | some (q, l) => some (.cond c p q, l) | none => none)
    | none => none)
  | .block id b, l => (match comp P n b l with | some (p, l) => some (.block id p, l) | none => none)
  | .loop b, l => (match comp P n b l with | some (p, l) => some (.loop p, l) | none => none)
  | _, _ => none

def compR (P : Program) : List ResultVar → Option (List RV)
  | [] => some []
  | .tmp t :: l => (match compR P l with | some r => some (.tmp t :: r) | none => none)
  | .cell a t :: l => (match P.underlying t, P.info? t, compR P l with
    | some u, some i, some r => (match u with | .struct _ | .array _ _ => some (.cell a true i.size :: r) | _ => some (.cell a false 1 :: r))
    | _, _, _ => none)

end Go.Proofs.YtlhhdlhnpgiamaaDoor.X
