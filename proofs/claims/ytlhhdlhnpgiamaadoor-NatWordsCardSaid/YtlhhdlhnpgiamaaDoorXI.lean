/- The stepping set, and the rules for what is asked. -/
import Derived.Test.YtlhhdlhnpgiamaaDoorXH
import Derived.IntWalk
set_option linter.unusedVariables false
set_option linter.unusedSimpArgs false
namespace Go.Proofs.YtlhhdlhnpgiamaaDoor.X
open Go Go.RowKit

theorem length_toL {α : Type} (l : List α) : (List.toArray l).toList = l := rfl
theorem toL_mk {α : Type} (l : List α) : (Array.mk l).toList = l := rfl
theorem getElem?_zero {α : Type} (x : α) (l : List α) : (x :: l)[0]? = some x := rfl
theorem getElem?_one {α : Type} (x y : α) (l : List α) : (x :: y :: l)[1]? = some y := rfl
theorem getElem?_two {α : Type} (x y z : α) (l : List α) : (x :: y :: z :: l)[2]? = some z := rfl
theorem getElem?_three {α : Type} (x y z u : α) (l : List α) : (x :: y :: z :: u :: l)[3]? = some u := rfl
theorem getElem?_four {α : Type} (x y z u v : α) (l : List α) : (x :: y :: z :: u :: v :: l)[4]? = some v := rfl

/-- what follows in a sequence, not opened before its turn -/
def KS (P : Program) (b : PC) (K : Ex → St → Prop) : Ex → St → Prop := KSeq (X P b) K
-- none of these may be found to be 'rfl' by simp: the kernel would run the program to compare
theorem KS_normal (P : Program) (b : PC) (K : Ex → St → Prop) (s : St) : KS P b K .normal s = X P b s K := of_eq_true (eq_self _)
theorem KS_ret (P : Program) (b : PC) (K : Ex → St → Prop) (s : St) : KS P b K .ret s = K .ret s := of_eq_true (eq_self _)
theorem KS_exit (P : Program) (b : PC) (K : Ex → St → Prop) (i : Nat) (s : St) : KS P b K (.exit i) s = K (.exit i) s := of_eq_true (eq_self _)
theorem KBlk_normal (id : Nat) (K : Ex → St → Prop) (s : St) : KBlk id K .normal s = K .normal s := of_eq_true (eq_self _)
theorem KBlk_ret (id : Nat) (K : Ex → St → Prop) (s : St) : KBlk id K .ret s = K .ret s := of_eq_true (eq_self _)
theorem KBlk_exit (id : Nat) (K : Ex → St → Prop) (i : Nat) (s : St) : KBlk id K (.exit i) s = if i = id then K .normal s else K (.exit i) s := of_eq_true (eq_self _)
def condR (P : Program) (t e : PC) (s : St) (K : Ex → St → Prop) : Option SV → Prop
  | some (.v (.bool true)) => X P t s K
  | some (.v (.bool false)) => X P e s K
  | _ => False
theorem condR_true (P : Program) (t e : PC) (s : St) (K : Ex → St → Prop) : condR P t e s K (some (.v (.bool true))) = X P t s K := of_eq_true (eq_self _)
theorem condR_false (P : Program) (t e : PC) (s : St) (K : Ex → St → Prop) : condR P t e s K (some (.v (.bool false))) = X P e s K := of_eq_true (eq_self _)
theorem runR_go (s : St) (X : XT) (K : St → Prop) : runR (.go s) X K = X s K := of_eq_true (eq_self _)
theorem runR_evt (e : XT → (St → Prop) → Prop) (X : XT) (K : St → Prop) : runR (.evt e) X K = e X K := of_eq_true (eq_self _)
theorem runR_bad (X : XT) (K : St → Prop) : runR .bad X K = False := of_eq_true (eq_self _)
def topR (R : Value → PH → PH → Prop) (H M : PH) : Option Value → Prop
  | some v => R v H M
  | none => False
theorem topR_some (R : Value → PH → PH → Prop) (H M : PH) (v : Value) : topR R H M (some v) = R v H M := of_eq_true (eq_self _)
theorem KTop_normal (rs : List RV) (R : Value → PH → PH → Prop) (s : St) : KTop rs R .normal s = topR R s.H s.M (resV s rs) := by
  simp only [KTop]; cases resV s rs <;> rfl
theorem KTop_ret (rs : List RV) (R : Value → PH → PH → Prop) (s : St) : KTop rs R .ret s = topR R s.H s.M (resV s rs) := by
  simp only [KTop]; cases resV s rs <;> rfl
def Loop (P : Program) (b : PC) (s : St) (K : Ex → St → Prop) : Prop := EvLoop (X P b) s K
theorem X_skip (P : Program) (s : St) (K : Ex → St → Prop) : X P .skip s K = K .normal s := of_eq_true (eq_self _)
theorem X_ret (P : Program) (s : St) (K : Ex → St → Prop) : X P .ret s K = K .ret s := of_eq_true (eq_self _)
theorem X_exit (P : Program) (i : Nat) (s : St) (K : Ex → St → Prop) : X P (.exit i) s K = K (.exit i) s := of_eq_true (eq_self _)
theorem X_reg (P : Program) (t : PT) (s : St) (K : Ex → St → Prop) : X P (.reg t) s K = XL P t s (K .normal) := of_eq_true (eq_self _)
theorem X_seq (P : Program) (a b : PC) (s : St) (K : Ex → St → Prop) : X P (.seq a b) s K = X P a s (KS P b K) := of_eq_true (eq_self _)
theorem X_block (P : Program) (i : Nat) (b : PC) (s : St) (K : Ex → St → Prop) : X P (.block i b) s K = X P b s (KBlk i K) := of_eq_true (eq_self _)
theorem X_loop (P : Program) (b : PC) (s : St) (K : Ex → St → Prop) : X P (.loop b) s K = Loop P b s K := of_eq_true (eq_self _)
theorem XL_nilN (P : Program) (s : St) (K : St → Prop) : XL P .nil s K = K s := of_eq_true (eq_self _)
theorem XL_altN (P : Program) (l r : PT) (s : St) (K : St → Prop) : XL P (.alt l r) s K = (XL P l s K ∧ XL P r s K) := of_eq_true (eq_self _)
theorem X_cond (P : Program) (c : Operand) (t e : PC) (s : St) (K : Ex → St → Prop) : X P (.cond c t e) s K = condR P t e s K (ev s.fr c) := by
  simp only [X]
  rcases ev s.fr c with _ | ⟨v⟩ | _ <;> first | rfl | skip
  cases v <;> first | rfl | skip
  case bool b => cases b <;> rfl

theorem skipR_some (s : St) (d : Nat) : skipR s (some d) = .go (s.put d (.v (.tuple #[]))) := rfl
theorem skipR_none (s : St) : skipR s none = .go s := rfl
attribute [go_sem] X_skip X_ret X_exit X_reg X_seq X_block X_loop X_cond KS_normal KS_ret KS_exit condR_true condR_false XL_op XL_nilN XL_altN runR_go runR_evt runR_bad gstep gateR stepI skipR_some skipR_none putO putV rPick rNew rBox rLdL rLd rLdx rStL stAt rSt rB rBin rBeq rNil rNot rNeg rCv rFa rFd rIa rIaA rIx rEx rLen rLens rMm rSl rSlh rSll
  rSs2 rSs rBld rMk rBsl rCall rCallP rApp rB2s KBlk_normal KBlk_ret KBlk_exit KTop_normal KTop_ret topR_some argFr lk upd ev evs St.put selSV cellsL ldv takeN stv binV binI fillL oSV PI.dst resV resVs resV1 wfB SubL
  List.drop_zero List.drop_succ_cons List.length_cons List.length_nil List.all_cons List.all_nil Value.oneCell' Bool.and_true length_toL toL_mk getElem?_zero getElem?_one getElem?_two getElem?_three getElem?_four
  Nat.zero_add Nat.add_zero Bool.not_true Bool.not_false Option.isNone Option.isSome List.append_nil List.nil_append

section
variable {P : Program} {X : XT} {s : St} {K : St → Prop} {d : Nat}

theorem ev_pos {c : Prop} (h : c) (k : X (s.put d (.v (.bool true))) K) : EvIf c d X s K := ⟨fun _ => k, fun hn => absurd h hn⟩
theorem ev_neg {c : Prop} (h : ¬ c) (k : X (s.put d (.v (.bool false))) K) : EvIf c d X s K := ⟨fun hc => absurd hc h, fun _ => k⟩
theorem ev_if {c : Prop} (k1 : c → X (s.put d (.v (.bool true))) K) (k2 : ¬ c → X (s.put d (.v (.bool false))) K) : EvIf c d X s K := ⟨k1, k2⟩
theorem ev_quo {k : IntKind} {a b : Int} (h : b ≠ 0) (k1 : X (s.put d (.v (.int k (k.wrap (a.tdiv b))))) K) : EvQuo k a b d X s K := ⟨h, k1⟩
theorem ev_rem {k : IntKind} {a b : Int} (h : b ≠ 0) (k1 : X (s.put d (.v (.int k (a.tmod b)))) K) : EvRem k a b d X s K := ⟨h, k1⟩
theorem ev_shl {k : IntKind} {a b : Int} (h : 0 ≤ b) (h2 : b ≤ k.bits) (k1 : X (s.put d (.v (.int k (k.wrap (a * 2 ^ b.toNat))))) K) : EvShl k a b d X s K := ⟨h, h2, k1⟩
theorem ev_shr {k : IntKind} {a b : Int} (h : 0 ≤ b) (h2 : b ≤ k.bits) (k1 : X (s.put d (.v (.int k (a.fdiv (2 ^ b.toNat))))) K) : EvShr k a b d X s K := ⟨h, h2, k1⟩
theorem ev_cat {a b : ByteArray} (h : a.size + b.size ≤ 9223372036854775807) (k1 : X (s.put d (.v (.string (a ++ b)))) K) : EvCat a b d X s K := ⟨h, k1⟩
theorem ev_ia {sz : Nat} {A : Option Addr} {n : Nat} {j : Int} {b off : Nat} (hA : A = some ⟨b, off, none⟩) (h0 : 0 ≤ j) (h1 : j < n) (k1 : X (s.put d (.v (.pointer (some ⟨b, off + j.toNat * sz, none⟩)))) K) : EvIa sz A n j d X s K :=
  ⟨h0, h1, b, off, hA, k1⟩
theorem ev_ix {t : ByteArray} {j : Int} (h0 : 0 ≤ j) (h1 : j < t.size) (k1 : X (s.put d (.v (.int .u8 (bAt t j.toNat)))) K) : EvIx t j d X s K := ⟨h0, h1, k1⟩
theorem ev_sl {sz : Nat} {A : Option Addr} {c : Nat} {lo hi : Int} (h0 : 0 ≤ lo) (h1 : lo ≤ hi) (h2 : hi ≤ c) (k1 : X (s.put d (.v (.slice (if c = lo.toNat then A else A.map (·.add (lo.toNat * sz))) (hi.toNat - lo.toNat) (c - lo.toNat)))) K) :
    EvSl sz A c lo hi d X s K := ⟨h0, h1, h2, k1⟩
theorem ev_slh {A : Option Addr} {c : Nat} {hi : Int} (h0 : 0 ≤ hi) (h1 : hi ≤ c) (k1 : X (s.put d (.v (.slice A hi.toNat c))) K) : EvSlh A c hi d X s K := ⟨h0, h1, k1⟩
theorem ev_ss {t : ByteArray} {lo hi : Int} (h0 : 0 ≤ lo) (h1 : lo ≤ hi) (h2 : hi ≤ t.size) (k1 : X (s.put d (.v (.string (t.extract lo.toNat hi.toNat)))) K) : EvSs t lo hi d X s K := ⟨h0, h1, h2, k1⟩

/-- a row of numbers of kind k -/
def nums (k : IntKind) (l : List Nat) : List Value := l.map fun x : Nat => Value.int k (x : Int)
def rowN (k : IntKind) (T : TypeId) (l : List Nat) : Obj := .cells (nums k l).toArray T (0, 0)

theorem nums_get {k : IntKind} {l : List Nat} {i : Nat} (h : i < l.length) : (nums k l)[i]? = some (.int k (l.getD i 0 : Nat)) := by
  simp [nums, h]

theorem ldv_nums {k : IntKind} {l : List Nat} {i : Nat} (h : i < l.length) : ldv false 1 i (nums k l) = some (.int k (l.getD i 0 : Nat)) := by
  have hl : i < (nums k l).length := by simpa [nums] using h
  simp only [ldv]
  rw [takeN_of 1 _ (by simp [nums]; omega)]
  have : (List.drop i (nums k l)).take 1 = [.int k (l.getD i 0 : Nat)] := by
    rw [List.take_one]
    have : (List.drop i (nums k l)).head? = some (.int k (l.getD i 0 : Nat)) := by
      rw [List.head?_drop]; exact nums_get h
    rw [this]; rfl
  rw [this]

/-- a slice in H that reads as numbers of kind k -/
def Sl (k : IntKind) (H : PH) (A : Option Addr) (l : List Nat) : Prop :=
  l = [] ∨ ∃ b off cs T fz, A = some ⟨b, off, none⟩ ∧ H b = some (.cells cs T fz) ∧ off + l.length ≤ cs.size ∧ (cs.toList.drop off).take l.length = nums k l

theorem Sl.le {k : IntKind} {H H' : PH} {A : Option Addr} {l : List Nat} (h : Sl k H A l) (hl : H.le H') : Sl k H' A l := by
  rcases h with h | ⟨b, off, cs, T, fz, h1, h2, h3, h4⟩
  · exact .inl h
  · exact .inr ⟨b, off, cs, T, fz, h1, hl b _ h2, h3, h4⟩

theorem ev_ldH {p : Value} {agg : Bool} {n b off : Nat} {cs : Array Value} {T : TypeId} {fz : Nat × Nat} {v : Value} (hp : p = .pointer (some ⟨b, off, none⟩)) (hH : s.H b = some (.cells cs T fz)) (hv : ldv agg n off cs.toList = some v)
    (k1 : X (s.put d (.v v)) K) : EvLd agg n p d X s K := ⟨b, off, cs, T, fz, v, hp, .inl hH, hv, k1⟩

/-- an element of a slice in H -/
theorem ev_ldS {k : IntKind} {A : Option Addr} {l : List Nat} {b off i : Nat} (hS : Sl k s.H A l) (hA : A = some ⟨b, off, none⟩) (hi : i < l.length) (k1 : X (s.put d (.v (.int k (l.getD i 0 : Nat)))) K) :
    EvLd false 1 (.pointer (some ⟨b, off + i * 1, none⟩)) d X s K := by
  rcases hS with h | ⟨b', off', cs, T, fz, h1, h2, h3, h4⟩
  · subst h; simp at hi
  · rw [hA] at h1; injection h1 with h1; injection h1 with e1 e2; subst e1; subst e2
    refine ev_ldH rfl h2 ?_ k1
    have := ldv_nums (k := k) hi
    rw [← h4] at this
    simp only [ldv, Nat.mul_one] at this ⊢
    rw [takeN_of _ _ (by simp; omega)] at this
    rw [takeN_of _ _ (by simp; omega)]
    rw [List.drop_take, List.drop_drop, List.take_take] at this
    rw [show min 1 (l.length - i) = 1 by omega] at this
    exact this

theorem Sl.base {k : IntKind} {H : PH} {A : Option Addr} {l : List Nat} (h : Sl k H A l) (hl : 0 < l.length) : ∃ b off, A = some ⟨b, off, none⟩ := by
  rcases h with h | ⟨b, off, cs, T, fz, h1, _⟩
  · subst h; simp at hl
  · exact ⟨b, off, h1⟩

/-- an element of a row of one's own -/
theorem ev_ldM {k : IntKind} {T : TypeId} {l : List Nat} {g i : Nat} (hM : s.M g = some (rowN k T l)) (hi : i < l.length) (k1 : X (s.put d (.v (.int k (l.getD i 0 : Nat)))) K) :
    EvLd false 1 (.pointer (some ⟨g, i, none⟩)) d X s K :=
  ⟨g, i, _, T, (0, 0), _, rfl, .inr hM, ldv_nums hi, k1⟩

theorem stv_nums {k : IntKind} {l : List Nat} {i x : Nat} (h : i < l.length) : stv i [Value.int k (x : Int)] (nums k l) = some (nums k (l.set i x)) := by
  rw [stv_of _ _ _ (by simp [nums]; omega)]
  congr 1
  simp only [nums, List.length_singleton, ← List.map_take, ← List.map_drop]
  rw [show [Value.int k (x : Int)] = [x].map (fun x : Nat => Value.int k (x : Int)) from rfl, ← List.map_append, ← List.map_append]
  congr 1
  rw [List.set_eq_take_append_cons_drop, if_pos h]
  simp

theorem ev_stM {k : IntKind} {T : TypeId} {l : List Nat} {g i x : Nat} (hM : s.M g = some (rowN k T l)) (hi : i < l.length) (k1 : X ⟨s.fr, s.lh, s.H, s.M.set g (rowN k T (l.set i x))⟩ K) :
    EvSt 1 (.pointer (some ⟨g, i, none⟩)) (.int k (x : Int)) X s K :=
  ⟨g, i, _, T, _, rfl, hM, rfl, by simp [cellsL, Value.oneCell'], stv_nums hi, k1⟩

theorem replicate_one {α : Type} (n : Nat) (x : α) : (List.replicate n [x]).flatten = List.replicate n x := by
  induction n with
  | zero => rfl
  | succ n ih => simp [List.replicate_succ, ih]

/-- make([]T, j) -/
theorem ev_mkN {k : IntKind} {T : TypeId} {by_ : Nat} {j : Int} (h0 : 0 ≤ j) (h1 : j * by_ ≤ 140737488355328) (h2 : j ≤ 9223372036854775807)
    (k1 : ∀ g, s.H g = none → s.M g = none → X ⟨(d, .v (.slice (some ⟨g, 0, none⟩) j.toNat j.toNat)) :: s.fr, s.lh, s.H, s.M.set g (rowN k T (List.replicate j.toNat 0))⟩ K) :
    EvMk T [.int k 0] by_ j d X s K := by
  refine ⟨h0, h1, h2, fun g hH hM => ?_⟩
  have : (List.replicate j.toNat [Value.int k 0]).flatten = nums k (List.replicate j.toNat 0) := by
    rw [replicate_one]; simp [nums]
  rw [this]
  exact k1 g hH hM

/-- a call of a function that turns nothing -/
def FnP (P : Program) (f : Nat) (vs : List Value) (H : PH) (R : Value → PH → Prop) : Prop := Fn P f vs H PH.no fun v H' M' => M' = PH.no ∧ R v H'

theorem re_no (M : PH) : M.re PH.no PH.no = M := by
  funext x
  simp [PH.re, PH.no]

theorem ev_call {fr : List (Nat × SV)} {lh : List (Nat × List Value)} {H M : PH} {f : Nat} {vs : List Value} {R : Value → PH → Prop} (h : FnP P f vs H R) (k1 : ∀ v H', H.le H' → R v H' → PH.disj H' M → X ⟨(d, .v v) :: fr, lh, H', M⟩ K) : EvCall P f vs d X ⟨fr, lh, H, M⟩ K := by
  refine ⟨PH.no, _, (fun b o hb => by cases hb), h, ?_⟩
  rintro v H' M' hle ⟨rfl, hR⟩ hd
  rw [re_no] at hd ⊢
  exact k1 v H' hle hR hd

theorem ev_callP {fr : List (Nat × SV)} {lh : List (Nat × List Value)} {H M : PH} {f : Nat} {vs : List Value} {R : Value → PH → Prop} (h : FnP P f vs H R) (k1 : ∀ v H', H.le H' → R v H' → PH.disj H' M → X ⟨(d, .v v) :: fr, lh, H', M⟩ K) : EvCallP P f vs d X ⟨fr, lh, H, M⟩ K := by
  refine ⟨_, h, ?_⟩
  rintro v H' M' hle ⟨rfl, hR⟩ hd
  rw [re_no] at hd ⊢
  exact k1 v H' hle hR hd

end

/-- a row of one's own is nobody's any more: it may be read for ever -/
theorem ev_loop {P : Program} {b : PC} {s : St} {K : Ex → St → Prop} (J : Nat → St → Prop) (n : Nat) (s' : St) (h0 : J n s') (hs : Sub s' s) (hr : ∀ n s, J n s → X P b s (KLoop J n K)) : Loop P b s K := ⟨J, ⟨n, s', h0, hs⟩, hr⟩

theorem k_next {J : Nat → St → Prop} {n : Nat} {K : Ex → St → Prop} {s : St} (m : Nat) (s' : St) (hm : m < n) (hJ : J m s') (hs : Sub s' s) : KLoop J n K .normal s := ⟨m, s', hm, hJ, hs⟩
theorem KLoop_ret {J : Nat → St → Prop} {n : Nat} {K : Ex → St → Prop} {s : St} : KLoop J n K .ret s = K .ret s := of_eq_true (eq_self _)
theorem KLoop_exit {J : Nat → St → Prop} {n i : Nat} {K : Ex → St → Prop} {s : St} : KLoop J n K (.exit i) s = K (.exit i) s := of_eq_true (eq_self _)
attribute [go_sem] KLoop_ret KLoop_exit

theorem PH.set_self (M : PH) (g : Nat) (o : Obj) : M.set g o g = some o := by simp [PH.set]
theorem PH.set_ne (M : PH) {g b : Nat} (o : Obj) (h : b ≠ g) : M.set g o b = M b := by simp [PH.set, h]
theorem PH.set_set (M : PH) (g : Nat) (o o' : Obj) : (M.set g o).set g o' = M.set g o' := by
  funext x
  simp only [PH.set]
  split <;> rfl
theorem PH.set_le {M M' : PH} {g : Nat} {o : Obj} (h : M.le M') : (M.set g o).le (M'.set g o) := by
  intro b ob hb
  simp only [PH.set] at hb ⊢
  split
  · rename_i e; rw [if_pos e] at hb; exact hb
  · rename_i e; rw [if_neg e] at hb; exact h b ob hb

theorem w64 (n : Int) (h0 : -9223372036854775808 ≤ n) (h : n ≤ 9223372036854775807) : IntKind.i64.wrap n = n := IntWalk.i64_in n ⟨h0, h⟩
theorem wu64 (n : Int) (h0 : 0 ≤ n) (h : n ≤ 18446744073709551615) : IntKind.u64.wrap n = n := IntWalk.u64_in n ⟨h0, h⟩
theorem wu32 (n : Int) (h0 : 0 ≤ n) (h : n ≤ 4294967295) : IntKind.u32.wrap n = n := IntWalk.u32_in n ⟨h0, h⟩
theorem wu8 (n : Int) (h0 : 0 ≤ n) (h : n ≤ 255) : IntKind.u8.wrap n = n := IntWalk.u8_in n ⟨h0, h⟩
theorem wu32_mod (n : Int) : IntKind.u32.wrap n = n % 4294967296 := IntKind.wrap_u32 n
theorem wu64_mod (n : Int) : IntKind.u64.wrap n = n % 18446744073709551616 := by simp [IntKind.wrap, IntKind.bits, IntKind.signed]

end Go.Proofs.YtlhhdlhnpgiamaaDoor.X
