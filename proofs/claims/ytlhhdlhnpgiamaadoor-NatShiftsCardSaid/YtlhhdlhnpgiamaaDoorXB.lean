/- The symbolic state, the instructions, what is asked at each (X). -/
import Derived.Test.YtlhhdlhnpgiamaaDoorXA
namespace Go.Proofs.YtlhhdlhnpgiamaaDoor.X
open Go Go.RowKit

abbrev PH := Nat → Option Obj
def PH.le (H H' : PH) : Prop := ∀ b o, H b = some o → H' b = some o
def PH.on (H : PH) (w : World) : Prop := ∀ b o, H b = some o → w.heap[b]? = some o
def PH.disj (H M : PH) : Prop := ∀ b o, H b = some o → M b = none
def PH.no : PH := fun _ => none
def PH.set (M : PH) (b : Nat) (o : Obj) : PH := fun x => if x = b then some o else M x
/-- What is left of M where the footprint F has become N. -/
def PH.re (M F N : PH) : PH := fun x => match N x with | some o => some o | none => if (F x).isSome then none else M x

/-- What was at A's block lies at g now (or somewhere that nobody reads). -/
def PH.mvd (M : PH) (A : Option Addr) (g : Nat) (o : Obj) : PH := fun x => if x = g then some o else if A = some ⟨x, 0, none⟩ then none else M x

theorem PH.le.refl (H : PH) : H.le H := fun _ _ h => h
theorem PH.le.trans {A B C : PH} (h : A.le B) (k : B.le C) : A.le C := fun b o hb => k b o (h b o hb)

inductive SV where
  | v (x : Value)
  | ptr (k off : Nat)

structure St where
  fr : List (Nat × SV)
  lh : List (Nat × List Value)
  H : PH
  M : PH

def lk {α : Type} : List (Nat × α) → Nat → Option α
  | [], _ => none
  | (i, x) :: l, j => if i = j then some x else lk l j

def upd {α : Type} : List (Nat × α) → Nat → α → List (Nat × α)
  | [], _, _ => []
  | (i, x) :: l, j, y => if i = j then (i, y) :: l else (i, x) :: upd l j y

def ev (fr : List (Nat × SV)) : Operand → Option SV
  | .tmp t => lk fr t
  | .const x => some (.v x)
  | .global g => some (.v (.pointer (some ⟨g, 0, none⟩)))
  | .func f => some (.v (.func (.func f) #[] #[]))

def St.put (s : St) (d : Nat) (x : SV) : St := ⟨(d, x) :: s.fr, s.lh, s.H, s.M⟩

def cellsL : Value → List Value
  | .agg cs => cs.toList
  | v => [v]

def takeN {α : Type} : Nat → List α → Option (List α)
  | 0, _ => some []
  | _ + 1, [] => none
  | n + 1, x :: l => match takeN n l with | some r => some (x :: r) | none => none

def ldv (agg : Bool) (n off : Nat) (cs : List Value) : Option Value :=
  match agg with
  | true => (match takeN n (cs.drop off) with | some l => some (.agg l.toArray) | none => none)
  | false => (match takeN 1 (cs.drop off) with | some [v] => some v | _ => none)

/-- cells written over from a place on -/
def stv {α : Type} : Nat → List α → List α → Option (List α)
  | 0, [], cs => some cs
  | 0, v :: vs, _ :: cs => (match stv 0 vs cs with | some r => some (v :: r) | none => none)
  | 0, _ :: _, [] => none
  | k + 1, vs, c :: cs => (match stv k vs cs with | some r => some (c :: r) | none => none)
  | _ + 1, _, [] => none

def gateOf (fr : List (Nat × SV)) : Option (Nat × Bool) → Option Bool
  | none => some true
  | some (t, want) => match lk fr t with | some (.v (.bool b)) => some (b == want) | some (.v (.tuple _)) => some false | _ => none

def selSV (b : Bool) (x y : SV) : SV := match b with | true => x | false => y

inductive BRes where
  | val (x : Value)
  | cnd (c : Prop)
  | quo (k : IntKind) (a b : Int)
  | rem (k : IntKind) (a b : Int)
  | shl (k : IntKind) (a b : Int)
  | shr (k : IntKind) (a b : Int)
  | cat (a b : ByteArray)
  | no

def bitsV (op : BinOp) (k : IntKind) (x y : Int) : Int :=
  match op with
  | .and => k.wrap (BitVec.ofInt k.bits x &&& BitVec.ofInt k.bits y).toNat
  | .or => k.wrap (BitVec.ofInt k.bits x ||| BitVec.ofInt k.bits y).toNat
  | .xor => k.wrap (BitVec.ofInt k.bits x ^^^ BitVec.ofInt k.bits y).toNat
  | _ => 0

def binI (op : BinOp) (k : IntKind) (a b : Int) : BRes :=
  match op with
  | .add => .val (.int k (k.wrap (a + b)))
  | .sub => .val (.int k (k.wrap (a - b)))
  | .mul => .val (.int k (k.wrap (a * b)))
  | .and => .val (.int k (bitsV .and k a b))
  | .or => .val (.int k (bitsV .or k a b))
  | .xor => .val (.int k (bitsV .xor k a b))
  | .eql => .cnd (a = b)
  | .neq => .cnd (a ≠ b)
  | .lss => .cnd (a < b)
  | .leq => .cnd (a ≤ b)
  | .gtr => .cnd (b < a)
  | .geq => .cnd (b ≤ a)
  | .quo => .quo k a b
  | .rem => .rem k a b
  | _ => .no

def binV (op : BinOp) (x y : Value) : BRes :=
  match x, y with
  | .int k a, .int k' b =>
    (match op with
    | .shl => .shl k a b
    | .shr => .shr k a b
    | _ => if k = k' then binI op k a b else .no)
  | .string a, .string b =>
    (match op with
    | .add => .cat a b
    | .eql => .cnd (a = b)
    | .neq => .cnd (a ≠ b)
    | _ => .no)
  | _, _ => .no

inductive PI where
  | mv (d : Nat) (x : Operand)
  | pick (d : Nat) (c a b : Operand)
  | new (d : Nat) (cs : List Value)
  | box (d : Nat) (x : Operand)
  | ld (d : Nat) (agg : Bool) (n : Nat) (x : Operand)
  | ldx (d : Nat) (agg : Bool) (n : Nat) (x : Operand)
  | st (n : Nat) (x y : Operand)
  | bin (d : Nat) (op : BinOp) (x y : Operand)
  | beq (d : Nat) (neg : Bool) (x y : Operand)
  | isnil (d : Nat) (neg : Bool) (x : Operand)
  | not (d : Nat) (x : Operand)
  | neg (d : Nat) (x : Operand)
  | cv (d : Nat) (k : IntKind) (x : Operand)
  | fa (d : Nat) (off : Nat) (x : Operand)
  | fd (d : Nat) (agg : Bool) (n off : Nat) (x : Operand)
  | ia (d : Nat) (sz : Nat) (x i : Operand)
  | iaA (d : Nat) (sz len : Nat) (x i : Operand)
  | ix (d : Nat) (x i : Operand)
  | ex (d : Nat) (i : Nat) (x : Operand)
  | len (d : Nat) (x : Operand)
  | lens (d : Nat) (x : Operand)
  | mm (d : Nat) (isMax : Bool) (x y : Operand)
  | sl (d : Nat) (sz : Nat) (x lo hi : Operand)
  | slh (d : Nat) (x hi : Operand)
  | sll (d : Nat) (sz : Nat) (x lo : Operand)
  | ss (d : Nat) (x : Operand) (lo hi : Option Operand)
  | bld (d : Nat) (cs : List Value) (parts : List (Nat × Nat × Operand))
  | mk (d : Nat) (T : TypeId) (zs : List Value) (by_ : Nat) (x : Operand)
  | bsl (d : Nat) (T : TypeId) (len : Nat) (cs : List Value) (parts : List (Nat × Nat × Operand))
  | call (d : Nat) (pure : Bool) (f : Nat) (args : List Operand)
  | app (d : Nat) (T : TypeId) (sz by_ : Nat) (x y : Operand)
  | b2s (d : Nat) (x : Operand)
  | s2b (d : Nat) (T : TypeId) (x : Operand)
  | nop (d : Nat)

def PI.dst : PI → Option Nat
  | .mv d _ | .pick d .. | .new d _ | .box d _ | .ld d .. | .ldx d .. | .bin d .. | .beq d .. | .isnil d .. | .not d _ | .neg d _ | .cv d .. | .fa d .. | .fd d .. | .ia d .. | .iaA d ..
  | .ix d .. | .ex d .. | .len d _ | .lens d _ | .mm d .. | .sl d .. | .slh d .. | .sll d .. | .ss d .. | .bld d .. | .mk d .. | .bsl d .. | .call d .. | .app d .. | .b2s d _ | .s2b d .. | .nop d => some d
  | .st .. => none

inductive PT where
  | nil
  | op (g : Option (Nat × Bool)) (pi : PI) (rest : PT)
  | alt (l r : PT)

abbrev XT := St → (St → Prop) → Prop

def EvIf (c : Prop) (d : Nat) (X : XT) (s : St) (K : St → Prop) : Prop :=
  (c → X (s.put d (.v (.bool true))) K) ∧ (¬ c → X (s.put d (.v (.bool false))) K)
def EvQuo (k : IntKind) (a b : Int) (d : Nat) (X : XT) (s : St) (K : St → Prop) : Prop := b ≠ 0 ∧ X (s.put d (.v (.int k (k.wrap (a.tdiv b))))) K
def EvRem (k : IntKind) (a b : Int) (d : Nat) (X : XT) (s : St) (K : St → Prop) : Prop := b ≠ 0 ∧ X (s.put d (.v (.int k (a.tmod b)))) K
def EvShl (k : IntKind) (a b : Int) (d : Nat) (X : XT) (s : St) (K : St → Prop) : Prop := 0 ≤ b ∧ b ≤ k.bits ∧ X (s.put d (.v (.int k (k.wrap (a * 2 ^ b.toNat))))) K
def EvShr (k : IntKind) (a b : Int) (d : Nat) (X : XT) (s : St) (K : St → Prop) : Prop := 0 ≤ b ∧ b ≤ k.bits ∧ X (s.put d (.v (.int k (a.fdiv (2 ^ b.toNat))))) K
def EvCat (a b : ByteArray) (d : Nat) (X : XT) (s : St) (K : St → Prop) : Prop := a.size + b.size ≤ 9223372036854775807 ∧ X (s.put d (.v (.string (a ++ b)))) K
def EvB (b : Bool) (d : Nat) (x y : SV) (X : XT) (s : St) (K : St → Prop) : Prop := X (s.put d (selSV b x y)) K
def EvIa (sz : Nat) (A : Option Addr) (n : Nat) (j : Int) (d : Nat) (X : XT) (s : St) (K : St → Prop) : Prop :=
  0 ≤ j ∧ j < n ∧ ∃ b off, A = some ⟨b, off, none⟩ ∧ X (s.put d (.v (.pointer (some ⟨b, off + j.toNat * sz, none⟩)))) K
/-- byte i of a string -/
def bAt (t : ByteArray) (i : Nat) : Nat := (t.data.toList.getD i 0).toNat
def EvIx (t : ByteArray) (j : Int) (d : Nat) (X : XT) (s : St) (K : St → Prop) : Prop := 0 ≤ j ∧ j < t.size ∧ X (s.put d (.v (.int .u8 (bAt t j.toNat)))) K
def EvLd (agg : Bool) (n : Nat) (p : Value) (d : Nat) (X : XT) (s : St) (K : St → Prop) : Prop :=
  ∃ b off cs T fz v, p = .pointer (some ⟨b, off, none⟩) ∧ (s.H b = some (.cells cs T fz) ∨ s.M b = some (.cells cs T fz)) ∧ ldv agg n off cs.toList = some v ∧ X (s.put d (.v v)) K
/-- a load that an append may not turn -/
def EvLdx (agg : Bool) (n : Nat) (p : Value) (d : Nat) (X : XT) (s : St) (K : St → Prop) : Prop :=
  ∃ b off cs T fz v, p = .pointer (some ⟨b, off, none⟩) ∧ s.H b = some (.cells cs T fz) ∧ ldv agg n off cs.toList = some v ∧ X (s.put d (.v v)) K
def EvSt (n : Nat) (p y : Value) (X : XT) (s : St) (K : St → Prop) : Prop :=
  ∃ b off cs T cs', p = .pointer (some ⟨b, off, none⟩) ∧ s.M b = some (.cells cs T (0, 0)) ∧ (cellsL y).length = n ∧ (∀ u ∈ cellsL y, u.oneCell' = true) ∧
    stv off (cellsL y) cs.toList = some cs' ∧ X ⟨s.fr, s.lh, s.H, s.M.set b (.cells cs'.toArray T (0, 0))⟩ K
def EvMk (T : TypeId) (zs : List Value) (by_ : Nat) (j : Int) (d : Nat) (X : XT) (s : St) (K : St → Prop) : Prop :=
  0 ≤ j ∧ j * by_ ≤ 140737488355328 ∧ j ≤ 9223372036854775807 ∧ ∀ g, s.H g = none → s.M g = none →
    X ⟨(d, .v (.slice (some ⟨g, 0, none⟩) j.toNat j.toNat)) :: s.fr, s.lh, s.H, s.M.set g (.cells (List.replicate j.toNat zs).flatten.toArray T (0, 0))⟩ K
def EvSl (sz : Nat) (A : Option Addr) (c : Nat) (lo hi : Int) (d : Nat) (X : XT) (s : St) (K : St → Prop) : Prop :=
  0 ≤ lo ∧ lo ≤ hi ∧ hi ≤ c ∧ X (s.put d (.v (.slice (if c = lo.toNat then A else A.map (·.add (lo.toNat * sz))) (hi.toNat - lo.toNat) (c - lo.toNat)))) K
def EvSlh (A : Option Addr) (c : Nat) (hi : Int) (d : Nat) (X : XT) (s : St) (K : St → Prop) : Prop :=
  0 ≤ hi ∧ hi ≤ c ∧ X (s.put d (.v (.slice A hi.toNat c))) K
def EvSs (t : ByteArray) (lo hi : Int) (d : Nat) (X : XT) (s : St) (K : St → Prop) : Prop :=
  0 ≤ lo ∧ lo ≤ hi ∧ hi ≤ t.size ∧ X (s.put d (.v (.string (t.extract lo.toNat hi.toNat)))) K
def EvBsl (T : TypeId) (len : Nat) (cs : List Value) (d : Nat) (X : XT) (s : St) (K : St → Prop) : Prop :=
  ∀ g, s.H g = none → s.M g = none → X ⟨(d, .v (.slice (some ⟨g, 0, none⟩) len len)) :: s.fr, s.lh, s.H, s.M.set g (.cells cs.toArray T (0, 0))⟩ K

/-- what a call turns: nothing of what stood but M -/
structure Stp (w w' : World) (M : PH) : Prop where
  os : w'.os = w.os
  tape : w'.tape = w.tape
  output : w'.output = w.output
  size : w.heap.size ≤ w'.heap.size
  block : ∀ b, b < w.heap.size → M b = none → w'.heap[b]? = w.heap[b]?

/-- **A contract**: called with 'vs' where H stands (never to be turned) and M is the caller's to hand on. -/
def Fn (P : Program) (f : Nat) (vs : List Value) (H M : PH) (R : Value → PH → PH → Prop) : Prop :=
  ∀ w : World, H.on w → M.on w → PH.disj H M → Calls P f vs.toArray w fun e w' => ∃ v H' M', e = .returned v ∧ Stp w w' M ∧ H.le H' ∧ H'.on w' ∧ PH.on M' w' ∧ PH.disj H' M' ∧
    (∀ b, H' b ≠ none → H b ≠ none ∨ M b ≠ none ∨ w.heap.size ≤ b) ∧ (∀ b, M' b ≠ none → M b ≠ none ∨ w.heap.size ≤ b) ∧ R v H' M'

def EvCall (P : Program) (f : Nat) (vs : List Value) (d : Nat) (X : XT) (s : St) (K : St → Prop) : Prop :=
  ∃ F R, F.le s.M ∧ Fn P f vs s.H F R ∧ ∀ v H' M', s.H.le H' → R v H' M' → PH.disj H' (s.M.re F M') → X ⟨(d, .v v) :: s.fr, s.lh, H', s.M.re F M'⟩ K
/-- A call in a region whose order is drawn: it turns nothing. -/
def EvCallP (P : Program) (f : Nat) (vs : List Value) (d : Nat) (X : XT) (s : St) (K : St → Prop) : Prop :=
  ∃ R, Fn P f vs s.H PH.no R ∧ ∀ v H' M', s.H.le H' → R v H' M' → PH.disj H' (s.M.re PH.no M') → X ⟨(d, .v v) :: s.fr, s.lh, H', s.M.re PH.no M'⟩ K
/-- append: x's cells are xs (x nil or at a block of M's head), y's are ys. -/
def EvApp (T : TypeId) (sz by_ : Nat) (A : Option Addr) (n c : Nat) (B : Option Addr) (m : Nat) (d : Nat) (X : XT) (s : St) (K : St → Prop) : Prop :=
  (m = 0 ∧ n ≤ c ∧ X (s.put d (.v (.slice A n c))) K) ∨ ∃ xs ys : List Value, xs.length = n * sz ∧ ys.length = m * sz ∧ 1 ≤ m ∧ n + m ≤ 9223372036854775807 ∧ (n + m) * by_ ≤ 140737488355328 ∧ (∀ u ∈ xs, u.oneCell' = true) ∧ (∀ u ∈ ys, u.oneCell' = true) ∧
    ((A = none ∧ n = 0 ∧ c = 0) ∨ ∃ g rest, A = some ⟨g, 0, none⟩ ∧ s.M g = some (.cells (xs ++ rest).toArray T (0, 0)) ∧ (xs ++ rest).length = c * sz ∧ n ≤ c ∧ c ≤ 9223372036854775807) ∧
    (∃ b off cs U fz, B = some ⟨b, off, none⟩ ∧ (s.H b = some (.cells cs U fz) ∨ s.M b = some (.cells cs U fz)) ∧ takeN (m * sz) (cs.toList.drop off) = some ys) ∧
    ∀ g' c' rest', ((s.H g' = none ∧ s.M g' = none) ∨ A = some ⟨g', 0, none⟩) → n + m ≤ c' → c' ≤ 9223372036854775807 → (xs ++ ys ++ rest').length = c' * sz →
      X ⟨(d, .v (.slice (some ⟨g', 0, none⟩) (n + m) c')) :: s.fr, s.lh, s.H, s.M.mvd A g' (.cells (xs ++ ys ++ rest').toArray T (0, 0))⟩ K
/-- bytes as a string -/
def EvB2s (A : Option Addr) (n : Nat) (d : Nat) (X : XT) (s : St) (K : St → Prop) : Prop :=
  ∃ l : List UInt8, l.length = n ∧ (A = none ∨ ∃ b off cs U fz, A = some ⟨b, off, none⟩ ∧ (s.H b = some (.cells cs U fz) ∨ s.M b = some (.cells cs U fz)) ∧
      takeN n (cs.toList.drop off) = some (l.map fun x => .int .u8 x.toNat)) ∧ X (s.put d (.v (.string ⟨if A.isNone then #[] else l.toArray⟩))) K

def evs (fr : List (Nat × SV)) : List Operand → Option (List Value)
  | [] => some []
  | x :: l => match ev fr x, evs fr l with | some (.v v), some r => some (v :: r) | _, _ => none

/-- parts (place, size, operand) put into cells -/
def fillL (fr : List (Nat × SV)) : List (Nat × Nat × Operand) → List Value → Option (List Value)
  | [], cs => some cs
  | (off, n, x) :: l, cs => match ev fr x with
    | some (.v v) => if (cellsL v).length = n then (match stv off (cellsL v) cs with | some cs' => fillL fr l cs' | none => none) else none
    | _ => none

def oSV (fr : List (Nat × SV)) (d : Option Operand) (z : Int) : Option Int :=
  match d with
  | none => some z
  | some x => match ev fr x with | some (.v (.int _ n)) => some n | _ => none

def XL (P : Program) : PT → XT
  | .nil, s, K => K s
  | .alt l r, s, K => XL P l s K ∧ XL P r s K
  | .op g pi r, s, K =>
    match gateOf s.fr g with
    | none => False
    | some false => (match pi.dst with | some d => XL P r (s.put d (.v undef)) K | none => XL P r s K)
    | some true =>
      match pi with
      | .mv d x => (match ev s.fr x with | some sv => XL P r (s.put d sv) K | none => False)
      | .pick d c a b => (match ev s.fr c, ev s.fr a, ev s.fr b with | some (.v (.bool t)), some sa, some sb => XL P r (s.put d (selSV t sa sb)) K | _, _, _ => False)
      | .new d cs => (match lk s.lh d with | none => XL P r ⟨(d, .ptr d 0) :: s.fr, (d, cs) :: s.lh, s.H, s.M⟩ K | some _ => False)
      | .box d x => (match lk s.lh d, ev s.fr x with | none, some (.v v) => XL P r ⟨(d, .ptr d 0) :: s.fr, (d, cellsL v) :: s.lh, s.H, s.M⟩ K | _, _ => False)
      | .ld d agg n x => (match ev s.fr x with
        | some (.ptr k off) => (match lk s.lh k with | some cs => (match ldv agg n off cs with | some v => XL P r (s.put d (.v v)) K | none => False) | none => False)
        | some (.v p) => EvLd agg n p d (XL P r) s K
        | none => False)
      | .ldx d agg n x => (match ev s.fr x with
        | some (.ptr k off) => (match lk s.lh k with | some cs => (match ldv agg n off cs with | some v => XL P r (s.put d (.v v)) K | none => False) | none => False)
        | some (.v p) => EvLdx agg n p d (XL P r) s K
        | none => False)
      | .st n x y => (match ev s.fr x, ev s.fr y with
        | some (.ptr k off), some (.v v) => (match lk s.lh k with
          | some cs => ((cellsL v).length = n ∧ (cellsL v).all (·.oneCell') = true ∧ (match stv off (cellsL v) cs with | some cs' => XL P r ⟨s.fr, upd s.lh k cs', s.H, s.M⟩ K | none => False))
          | none => False)
        | some (.v p), some (.v v) => EvSt n p v (XL P r) s K
        | _, _ => False)
      | .bin d op x y => (match ev s.fr x, ev s.fr y with
        | some (.v a), some (.v b) => (match binV op a b with
          | .val v => XL P r (s.put d (.v v)) K
          | .cnd c => EvIf c d (XL P r) s K
          | .quo k a b => EvQuo k a b d (XL P r) s K
          | .rem k a b => EvRem k a b d (XL P r) s K
          | .shl k a b => EvShl k a b d (XL P r) s K
          | .shr k a b => EvShr k a b d (XL P r) s K
          | .cat a b => EvCat a b d (XL P r) s K
          | .no => False)
        | _, _ => False)
      | .beq d neg x y => (match ev s.fr x, ev s.fr y with
        | some (.v (.bool a)), some (.v (.bool b)) => XL P r (s.put d (.v (.bool (if neg then a != b else a == b)))) K
        | _, _ => False)
      | .isnil d neg x => (match ev s.fr x with
        | some (.v (.slice A _ _)) => XL P r (s.put d (.v (.bool (if neg then A.isSome else A.isNone)))) K
        | _ => False)
      | .not d x => (match ev s.fr x with | some (.v (.bool b)) => XL P r (s.put d (.v (.bool (!b)))) K | _ => False)
      | .neg d x => (match ev s.fr x with | some (.v (.int k n)) => XL P r (s.put d (.v (.int k (k.wrap (0 - n))))) K | _ => False)
      | .cv d k x => (match ev s.fr x with | some (.v (.int _ n)) => XL P r (s.put d (.v (.int k (k.wrap n)))) K | _ => False)
      | .fa d off x => (match ev s.fr x with
        | some (.ptr k o) => XL P r (s.put d (.ptr k (o + off))) K
        | some (.v (.pointer (some ⟨b, o, none⟩))) => XL P r (s.put d (.v (.pointer (some ⟨b, o + off, none⟩)))) K
        | _ => False)
      | .fd d agg n off x => (match ev s.fr x with
        | some (.v (.agg cs)) => (match ldv agg n off cs.toList with | some v => XL P r (s.put d (.v v)) K | none => False)
        | _ => False)
      | .ia d sz x i => (match ev s.fr x, ev s.fr i with
        | some (.v (.slice A n _)), some (.v (.int _ j)) => EvIa sz A n j d (XL P r) s K
        | _, _ => False)
      | .iaA d sz len x i => (match ev s.fr x, ev s.fr i with
        | some (.v (.pointer (some ⟨b, o, none⟩))), some (.v (.int _ j)) => EvIa sz (some ⟨b, o, none⟩) len j d (XL P r) s K
        | _, _ => False)
      | .ix d x i => (match ev s.fr x, ev s.fr i with
        | some (.v (.string t)), some (.v (.int _ j)) => EvIx t j d (XL P r) s K
        | _, _ => False)
      | .ex d i x => (match ev s.fr x with
        | some (.v (.tuple vs)) => (match vs.toList[i]? with | some v => XL P r (s.put d (.v v)) K | none => False)
        | _ => False)
      | .len d x => (match ev s.fr x with
        | some (.v (.slice _ n _)) => XL P r (s.put d (.v (.int .i64 n))) K
        | _ => False)
      | .lens d x => (match ev s.fr x with
        | some (.v (.string t)) => XL P r (s.put d (.v (.int .i64 t.size))) K
        | _ => False)
      | .mm d isMax x y => (match ev s.fr x, ev s.fr y with
        | some (.v (.int k a)), some (.v (.int _ b)) => XL P r (s.put d (.v (.int k (if isMax then (if a < b then b else a) else (if b < a then b else a))))) K
        | _, _ => False)
      | .sl d sz x lo hi => (match ev s.fr x, ev s.fr lo, ev s.fr hi with
        | some (.v (.slice A _ c)), some (.v (.int _ l)), some (.v (.int _ h)) => EvSl sz A c l h d (XL P r) s K
        | _, _, _ => False)
      | .slh d x hi => (match ev s.fr x, ev s.fr hi with
        | some (.v (.slice A _ c)), some (.v (.int _ h)) => EvSlh A c h d (XL P r) s K
        | _, _ => False)
      | .sll d sz x lo => (match ev s.fr x, ev s.fr lo with
        | some (.v (.slice A n c)), some (.v (.int _ l)) => (n ≤ c ∧ EvSl sz A c l n d (XL P r) s K)
        | _, _ => False)
      | .ss d x lo hi => (match ev s.fr x with
        | some (.v (.string t)) => (match oSV s.fr lo 0, oSV s.fr hi t.size with
          | some l, some h => EvSs t l h d (XL P r) s K
          | _, _ => False)
        | _ => False)
      | .bld d cs parts => (match fillL s.fr parts cs with | some cs' => XL P r (s.put d (.v (.agg cs'.toArray))) K | none => False)
      | .mk d T zs by_ x => (match ev s.fr x with | some (.v (.int .i64 j)) => EvMk T zs by_ j d (XL P r) s K | _ => False)
      | .bsl d T len cs parts => (match fillL s.fr parts cs with | some cs' => EvBsl T len cs' d (XL P r) s K | none => False)
      | .call d pure f args => (match evs s.fr args with
        | some vs => (match pure with | true => EvCallP P f vs d (XL P r) s K | false => EvCall P f vs d (XL P r) s K)
        | none => False)
      | .app d T sz by_ x y => (match ev s.fr x, ev s.fr y with
        | some (.v (.slice A n c)), some (.v (.slice B m _)) => EvApp T sz by_ A n c B m d (XL P r) s K
        | _, _ => False)
      | .b2s d x => (match ev s.fr x with | some (.v (.slice A n _)) => EvB2s A n d (XL P r) s K | _ => False)
      | .s2b _ _ _ => False
      | .nop _ => False

inductive PC where
  | skip
  | ret
  | exit (id : Nat)
  | reg (t : PT)
  | seq (a b : PC)
  | cond (c : Operand) (t e : PC)
  | block (id : Nat) (b : PC)
  | loop (b : PC)

inductive Ex where
  | normal
  | ret
  | exit (id : Nat)

abbrev XC := St → (Ex → St → Prop) → Prop

def KSeq (X : XC) (K : Ex → St → Prop) : Ex → St → Prop
  | .normal, s => X s K
  | .ret, s => K .ret s
  | .exit i, s => K (.exit i) s
def KBlk (id : Nat) (K : Ex → St → Prop) : Ex → St → Prop
  | .normal, s => K .normal s
  | .ret, s => K .ret s
  | .exit i, s => if i = id then K .normal s else K (.exit i) s
def XB (b : Bool) (t e : XC) (s : St) (K : Ex → St → Prop) : Prop :=
  match b with
  | true => t s K
  | false => e s K

/-- s has all that s' tells -/
def SubL {α : Type} (l : List (Nat × α)) (l' : List (Nat × α)) : Prop :=
  match l with
  | [] => True
  | (i, x) :: r => lk l' i = some x ∧ SubL r l'
def wfB (fr : List (Nat × SV)) (lh : List (Nat × List Value)) : Bool :=
  match fr with
  | [] => true
  | (_, .v _) :: r => wfB r lh
  | (_, .ptr k _) :: r => (lk lh k).isSome && wfB r lh
structure Sub (s' s : St) : Prop where
  wf : wfB s'.fr s'.lh = true
  fr : SubL s'.fr s.fr
  lh : SubL s'.lh s.lh
  H : s'.H = s.H
  M : s'.M.le s.M

def KLoop (J : Nat → St → Prop) (n : Nat) (K : Ex → St → Prop) : Ex → St → Prop
  | .normal, s => ∃ m s', m < n ∧ J m s' ∧ Sub s' s
  | .ret, s => K .ret s
  | .exit i, s => K (.exit i) s
def EvLoop (X : XC) (s : St) (K : Ex → St → Prop) : Prop :=
  ∃ J : Nat → St → Prop, (∃ n s', J n s' ∧ Sub s' s) ∧ ∀ n s, J n s → X s (KLoop J n K)

def X (P : Program) : PC → XC
  | .skip, s, K => K .normal s
  | .ret, s, K => K .ret s
  | .exit i, s, K => K (.exit i) s
  | .reg t, s, K => XL P t s (K .normal)
  | .seq a b, s, K => X P a s (KSeq (X P b) K)
  | .cond c t e, s, K => (match ev s.fr c with | some (.v (.bool b)) => XB b (X P t) (X P e) s K | _ => False)
  | .block id b, s, K => X P b s (KBlk id K)
  | .loop b, s, K => EvLoop (X P b) s K

inductive RV where
  | tmp (t : Nat)
  | cell (t : Nat) (agg : Bool) (n : Nat)

def resV1 (s : St) : RV → Option Value
  | .tmp t => (match lk s.fr t with | some (.v v) => some v | _ => none)
  | .cell t agg n => (match lk s.fr t with
    | some (.ptr k off) => (match lk s.lh k with | some cs => ldv agg n off cs | none => none)
    | _ => none)
def resVs (s : St) : List RV → Option (List Value)
  | [] => some []
  | r :: l => match resV1 s r, resVs s l with | some v, some vs => some (v :: vs) | _, _ => none
def resV (s : St) (l : List RV) : Option Value :=
  match resVs s l with
  | some [v] => some v
  | some vs => some (.tuple vs.toArray)
  | none => none
def KTop (rs : List RV) (R : Value → PH → PH → Prop) : Ex → St → Prop
  | .normal, s => (match resV s rs with | some v => R v s.H s.M | none => False)
  | .ret, s => (match resV s rs with | some v => R v s.H s.M | none => False)
  | .exit _, _ => False

def argFr : List Value → Nat → List (Nat × SV)
  | [], _ => []
  | v :: l, i => (i, .v v) :: argFr l (i + 1)

end Go.Proofs.YtlhhdlhnpgiamaaDoor.X
