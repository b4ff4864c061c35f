/- A range over slices.Backward: one law for the caller's loop. -/
import Derived.RangeFuncNested
import Derived.RangeFuncBound
import Derived.RangeFuncCalls
import Derived.RangeFuncLeaves
import Derived.RangeFuncBox
import Derived.Shelf.Abstract
import Derived.Shelf.RegionOpen
import Derived.WalkKit
import Derived.OwnWalkIn
import Derived.TacticsInMore
import Derived.LoopNIn
import Derived.LoopIn
import Derived.Test.YtccdhgjfcgfgoaaGreatZY
import Derived.Test.YtccdhgjfcgfgoaaGreatZN
import Derived.Laws.Bits64b
set_option linter.unusedSimpArgs false
set_option linter.unusedVariables false
namespace Go.Proofs.YtccdhgjfcgfgoaaGreat.X
open Go Go.RowKit

def backPost (I : Nat → World → Prop) (Ix : Nat → World → Prop) (k : Nat) (W : World) : Exit → Act → World → Prop
  | .normal, _, W' => KeepsOthers W W' ∧ I (k + 1) W'
  | .ret, _, W' => KeepsOthers W W' ∧ Ix k W'
  | _, _, _ => False

/-- what the iterator does: it calls yield at encs 0, encs 1, .. and turns nothing itself -/
def Iter (F : Fence) (n : Nat) (P : Program) (gf : Nat) (lb : Array Value) (encs : Nat → Array Value) (N : Nat) (I : Nat → World → Prop) : Prop :=
  ∀ (l : Nat) (Z : World → Prop) (Zx : Nat → World → Prop) (W : World),
    (∀ k W1, I k W1 → Z W1 → k < N → YieldAt F (n - 1) P l (encs k) W1 fun e W' => (e = .returned (.bool true) ∧ I (k + 1) W' ∧ Z W') ∨ (e = .returned (.bool false) ∧ Zx k W')) →
    I 0 W → Z W → CallsIn F n P gf (#[.func (.yield l) #[] #[]] ++ lb) W fun e W' => (∃ v, e = .returned v) ∧ ((I N W' ∧ Z W') ∨ ∃ k, Zx k W')

theorem wpIn_back {F : Fence} {n : Nat} {P : Program} {g : Operand} {ps : Array Tmp} {assign body : Code} {Q : Exit → Act → World → Prop} {a : Act} {w : World} (hro : F.round = none) (h1 : 1 ≤ n) {gf : Nat} {lb : Array Value} (hg : a.eval g = .func (.func gf) #[] lb)
    (hFg : F.fn gf) (eg : ∀ args w, (callFunc gf args).run P w = .ok (.enter gf args) w) {N : Nat} {encs : Nat → Array Value} (hps : ∀ k, (encs k).size = ps.size) (I Ix : Nat → World → Prop)
    (hI : ∀ k W r o o', w.heap.size ≤ r → W.heap[r]? = some o → o.isCells = false → I k W → I k (W.putObj r o'))
    (hIx : ∀ k W r o o', w.heap.size ≤ r → W.heap[r]? = some o → o.isCells = false → Ix k W → Ix k (W.putObj r o'))
    (h0 : ∀ r, I 0 ((w.alloc (.deferred (some []))).alloc (.loop r)))
    (hit : Iter F (n - 1) P gf lb encs N I)
    (a₁ : Nat → Act)
    (hassign : ∀ (l k : Nat) (W : World) (K : Act → World → Prop), K (a₁ k) W →
      assign.wpIn (F.inRound l) (n - 1 - 1) P (Exit.then K (fun _ _ _ => False)) { tmps := (ps.zip (encs k)).foldl (fun t (p, v) => t.setIfInBounds p v) a.tmps, defers := [] } W)
    (hbody : ∀ (l k : Nat) (W : World), I k W → k < N → body.wpIn (F.inRound l) (n - 1 - 1) P (backPost I Ix k W) (a₁ k) W)
    (hdone : ∀ (W : World), I N W → W.heap[w.heap.size]? = some (.deferred (some [])) → Q .normal { a with defers := { target := .collected w.heap.size, args := #[] } :: a.defers } W)
    (hstop : ∀ (k : Nat) (W : World), Ix k W → W.heap[w.heap.size]? = some (.deferred (some [])) → Code.ret.wpIn F n P Q { a with defers := { target := .collected w.heap.size, args := #[] } :: a.defers } W) :
    (Code.rangeFunc g ps assign body).wpIn F n P Q a w := by
  refine wpIn_rangeFunc fun fn hfn => ?_
  rw [hro]
  let R : LoopState → Option Code → Obj := fun st pe => .loop { state := st, pending := pe, fn := fn, tmps := a.tmps, params := ps, assign := assign, body := body, defers := w.heap.size }
  let D : Obj := .deferred (some [])
  let L := w.heap.size + 1
  let W1 := (w.alloc D).alloc (R .ready none)
  have hLrec : W1.heap[L]? = some (R .ready none) := by
    have := World.alloc_heap_new (w.alloc D) (R .ready none)
    rwa [World.size_alloc] at this
  have hLdef : W1.heap[w.heap.size]? = some D := (Below.heap_alloc _ _ _ (by simp)).trans (World.alloc_heap_new w D)
  refine ⟨L, [{ target := .collected w.heap.size, args := #[] }], W1, { target := .fn (.func gf) lb, args := #[.func (.yield L) #[] #[]] }, W1, gf, #[.func (.yield L) #[] #[]] ++ lb, W1,
    run_enterLoop_outer _ _ _ _ _, ?_, ?_, ?_, fun _ => h1, ?_⟩
  · simp only [resolve, hg]
    simp [go_sem]
  · intro f' hf'
    simp [Target.leads] at hf'
    subst hf'
    exact hFg
  · simp [invoke, go_sem, eg]
  · -- the record and the block for deferred calls, at their places
    let Z : World → Prop := fun W => W.heap[L]? = some (R .ready none) ∧ W.heap[w.heap.size]? = some D
    refine (hit L Z (fun k W => Ix k W ∧ W.heap[L]? = some (R .done (some .ret)) ∧ W.heap[w.heap.size]? = some D) W1 ?_ (h0 _) ⟨hLrec, hLdef⟩).mono ?_
    · rintro k W hk ⟨hl, hd⟩ hlt
      have hL : L < W.heap.size := (Array.getElem?_eq_some_iff.1 hl).1
      refine ⟨fn, _, assign, body, run_yield hl (hps k), roundIn_of_wpIn hfn (hassign L k W _ ⟨_, run_beginRound hl rfl, ?_⟩)⟩
      have hb1 : (W.putObj L (R .busy none)).heap[L]? = some (R .busy none) := World.putObj_heap_same hL
      have hb2 : (W.putObj L (R .busy none)).heap[w.heap.size]? = some D := (World.putObj_heap_other (Nat.ne_of_lt (Nat.lt_succ_self _))).trans hd
      have last : ∀ (j : Option Code) (V : World), KeepsOthers (W.putObj L (R .busy none)) V →
          (Instr.endRound L j).run P V = .ok (.bool j.isNone) (V.putObj L (R (if j.isNone then .ready else .done) j)) ∧ V.heap[L]? = some (R .busy none) ∧
          (V.putObj L (R (if j.isNone then .ready else .done) j)).heap[L]? = some (R (if j.isNone then .ready else .done) j) ∧ (V.putObj L (R (if j.isNone then .ready else .done) j)).heap[w.heap.size]? = some D := by
        intro j V hV
        have e1 := hV.same L _ hb1 rfl
        exact ⟨run_endRound j e1, e1, World.putObj_heap_same (Array.getElem?_eq_some_iff.1 e1).1, (World.putObj_heap_other (Nat.ne_of_lt (Nat.lt_succ_self _))).trans (hV.same _ _ hb2 rfl)⟩
      refine wpIn_mono (hbody L k _ (hI k W L _ _ (Nat.le_succ _) hl rfl hk) hlt) ?_
      intro e a3 V hp
      cases e with
      | normal =>
        obtain ⟨h2, h3⟩ := hp
        obtain ⟨r1, r2, r3, r4⟩ := last none V h2
        exact ⟨_, _, r1, .inl ⟨rfl, hI _ V L _ _ (Nat.le_succ _) r2 rfl h3, r3, r4⟩⟩
      | ret =>
        obtain ⟨h2, h3⟩ := hp
        obtain ⟨r1, r2, r3, r4⟩ := last (some .ret) V h2
        exact ⟨_, _, r1, .inr ⟨rfl, hIx _ V L _ _ (Nat.le_succ _) r2 rfl h3, r3, r4⟩⟩
      | exit i => exact hp.elim
      | goto i => exact hp.elim
      | panic c => exact hp.elim
      | outgrown => exact hp.elim
    · rintro e V ⟨⟨v, rfl⟩, h | ⟨k, h⟩⟩
      · obtain ⟨h2, h3, h4⟩ := h
        exact ⟨none, _, run_endLoop h3 (by simp), hdone _ (hI _ V L _ _ (Nat.le_succ _) h3 rfl h2) ((World.putObj_heap_other (Nat.ne_of_lt (Nat.lt_succ_self _))).trans h4)⟩
      · obtain ⟨h2, h3, h4⟩ := h
        exact ⟨some .ret, _, run_endLoop h3 (by simp), hstop k _ (hIx _ V L _ _ (Nat.le_succ _) h3 rfl h2) ((World.putObj_heap_other (Nat.ne_of_lt (Nat.lt_succ_self _))).trans h4)⟩

end Go.Proofs.YtccdhgjfcgfgoaaGreat.X
set_option linter.unusedSimpArgs false
set_option linter.unusedVariables false
namespace Go.Proofs.YtccdhgjfcgfgoaaGreat.X
open Go Go.RowKit Go.Shelf Go.Proofs

attribute [local go_sem] Oper.semAt_some

set_option maxRecDepth 100000 in
set_option maxHeartbeats 2000000 in
theorem back_iter (F : Fence) (n : Nat) (hf : F.fn 129) (hro : F.round = none) (hn : 1 ≤ n) (Bs : Nat) (A : Option Addr) (len cap : Nat) (hlen : len ≤ 1000000000) (x : Nat → Nat) (I : Nat → World → Prop)
    (hR : ∀ k W, I k W → W.cell? ⟨Bs, 0, none⟩ = some (.slice A len cap) ∧ (k < len → ∃ b off, A = some ⟨b, off, none⟩ ∧ W.cell? ⟨b, off + (len - 1 - k), none⟩ = some (.int .u32 (x k : Nat)))) :
    Iter F n Tryz.prog 129 #[.pointer (some ⟨Bs, 0, none⟩)] (fun k => #[.int .i64 (len - 1 - k : Nat), .int .u32 (x k : Nat)]) len I := by
  intro l Z Zx W hY h0 hZ
  refine callsIn_of_wp Tryz.func129 rfl hf ?_ hro
  simp only [Tryz.ntmps129, List.size_toArray, List.length_cons, List.length_nil, Nat.reduceAdd, Nat.reduceSub, Array.replicate_succ, Array.replicate_zero, List.push_toArray, List.append_toArray, List.nil_append, List.cons_append]
  have hBs := (hR 0 W h0).1
  gi_wp2
  gi_loopw [3] (fun i wr => ∃ k : Nat, k ≤ len ∧ i = .int .i64 ((len : Int) - 1 - k) ∧ I k wr ∧ Z wr) (fun i _ => (intOf i + 1).toNat)
  case atStart => exact ⟨0, Nat.zero_le _, by simp, h0, hZ⟩
  case round =>
    obtain ⟨k, hk, rfl, hI, hZk⟩ := hrel
    have hb := (hR k wr hI).1
    by_cases hlt : k < len
    · obtain ⟨b, off, rfl, hc⟩ := (hR k wr hI).2 hlt
      obtain ⟨fn, tmps, assign, body, hy, hR2⟩ := hY k wr hI hZk hlt
      have e1 : ((len : Int) - 1 - k).toNat = len - 1 - k := by omega
      have e2 : ((len - 1 - k : Nat) : Int) = (len : Int) - 1 - k := by omega
      rw [e2] at hy
      have p1 : 0 ≤ (len : Int) - 1 - k := by omega
      have p2 : (len : Int) - 1 - k < len := by omega
      gi_wp2
      refine hR2.mono ?_
      rintro e W3 (⟨rfl, hI3, hZ3⟩ | ⟨rfl, hZx⟩)
      · gi_wp2
        go_roundw
        case rel => exact ⟨k + 1, by omega, by simp; omega, hI3, hZ3⟩
        case measure => simp [intOf]; omega
      · gi_wp2
        refine bodyPost_ret (results_none rfl _ _ _) rfl ?_
        exact ⟨⟨_, rfl⟩, .inr ⟨_, hZx⟩⟩
    · obtain rfl : k = len := by omega
      gi_wp2
      go_end0
      exact ⟨⟨_, rfl⟩, .inl ⟨hI, hZk⟩⟩

set_option maxHeartbeats 1000000 in
/-- slices.Backward(s): the slice value is boxed; the function value captures the box -/
theorem back_in (F : Fence) (n : Nat) (hf : F.fn 115) (hro : F.round = none) (a : Option Addr) (len cap : Nat) (w : World) :
    CallsIn F n Tryz.prog 115 #[.slice a len cap] w fun e w' => e = .returned (.func (.func 129) #[] #[.pointer (some ⟨w.heap.size, 0, none⟩)]) ∧ w' = w.alloc (.cells #[.slice a len cap] 30) := by
  refine callsIn_of_wp Tryz.func115 rfl hf ?_ hro
  simp only [Tryz.ntmps115, List.size_toArray, List.length_cons, List.length_nil, Nat.reduceAdd, Nat.reduceSub, Array.replicate_succ, Array.replicate_zero, List.push_toArray, List.append_toArray, List.nil_append, List.cons_append]
  gi_wp2
  go_ret
  exact ⟨rfl, rfl⟩

end Go.Proofs.YtccdhgjfcgfgoaaGreat.X
set_option linter.unusedSimpArgs false
set_option linter.unusedVariables false
namespace Go.Proofs.YtccdhgjfcgfgoaaGreat.X
open Go Go.RowKit Go.Shelf Go.Proofs

attribute [local go_sem] Oper.semAt_some

/-- the numbers of a slice, cell by cell, below the heap's size -/
def Cells (w : World) (A : Option Addr) (l : List Nat) : Prop := l = [] ∨ ∃ b off, A = some ⟨b, off, none⟩ ∧ b < w.heap.size ∧ ∀ j, j < l.length → w.cell? ⟨b, off + j, none⟩ = some (.int .u32 (l.getD j 0 : Nat))

def cmpN (a b : Nat) : Int := if a < b then -1 else if b < a then 1 else 0

theorem newc (W : World) (v : Value) (t : TypeId) : (W.alloc (.cells #[v] t)).cell? ⟨W.heap.size, 0, none⟩ = some v ∧ (W.alloc (.cells #[v] t)).frozen? ⟨W.heap.size, 0, none⟩ = false := by
  have h := World.alloc_heap_new W (.cells #[v] t)
  generalize W.alloc (.cells #[v] t) = W' at h
  generalize W.heap.size = B at h
  constructor <;> simp [World.cell?, World.frozen?, h]

theorem below_alloc (W : World) (o : Obj) : Below W.heap.size W (W.alloc o) := (Below.refl _ W).alloc (Nat.le_refl _) o
theorem below_put {n0 : Nat} (W : World) (r : Nat) (o' : Obj) (h : n0 ≤ r) : Below n0 W (W.putObj r o') :=
  ⟨rfl, rfl, rfl, by simp, fun k hk => World.putObj_heap_other (by omega)⟩

theorem val_lt_top {l m : List Nat} (hl : Lim l) (hm : Lim m) (hlen : l.length = m.length) {i : Nat} (hi : i < l.length) (he : ∀ j, i < j → j < l.length → l.getD j 0 = m.getD j 0) (h : l.getD i 0 < m.getD i 0) : val l < val m := by
  have e1 := val_take_drop l (i + 1) (by omega)
  have e2 := val_take_drop m (i + 1) (by omega)
  have e3 := val_take_succ l i hi
  have e4 := val_take_succ m i (by omega)
  have h1 := val_lt (hl.take i)
  rw [List.length_take, Nat.min_eq_left (by omega)] at h1
  have e5 : l.drop (i + 1) = m.drop (i + 1) := by
    apply List.ext_getElem
    · simp [hlen]
    · intro j h1 h2
      simp only [List.length_drop] at h1
      have := he (i + 1 + j) (by omega) (by omega)
      simp only [List.getElem_drop]
      rw [List.getD, List.getD, List.getElem?_eq_getElem (by omega), List.getElem?_eq_getElem (by omega)] at this
      exact this
  rw [e5] at e1
  have h2 := Nat.mul_le_mul_left (4294967296 ^ i) (Nat.succ_le_of_lt h)
  rw [Nat.mul_succ] at h2
  omega

set_option maxRecDepth 100000 in
set_option maxHeartbeats 4000000 in
theorem cmp_in (A B : Option Addr) (l m : List Nat) (ca cb : Nat) (hl : l.length ≤ 1000000000) (hm : m.length ≤ 1000000000) (w : World) (hA : Cells w A l) (hB : Cells w B m) (hln : Norm l) (hmn : Norm m) :
    CallsIn Fence.wide 3 Tryz.prog 90 #[.agg #[.slice A l.length ca], .agg #[.slice B m.length cb]] w fun e w' => e = .returned (.int .i64 (cmpN (val l) (val m))) ∧ Below w.heap.size w w' := by
  refine callsIn_of_wp_marks Tryz.func90 rfl trivial ?_ rfl
  simp only [Tryz.ntmps90, List.size_toArray, List.length_cons, List.length_nil, Nat.reduceAdd, Nat.reduceSub, Array.replicate_succ, Array.replicate_zero, List.push_toArray, List.append_toArray, List.nil_append, List.cons_append]
  by_cases h1 : l.length = m.length
  · gi_wp2_with (refine ⟨trivial, ?_⟩; gi_at_call 115; refine (back_in Fence.wide 2 trivial rfl _ _ _ _).mono ?_; rintro e w' ⟨rfl, rfl⟩)
    obtain ⟨N, hN⟩ : ∃ N, m.length = N := ⟨_, rfl⟩
    rw [hN] at h1
    simp only [hN]
    have c2 := newc (w.alloc (.cells #[.slice A N ca] 32)) (.slice B N cb) 32
    obtain ⟨W2, hW2⟩ : ∃ W2, (w.alloc (.cells #[.slice A N ca] 32)).alloc (.cells #[.slice B N cb] 32) = W2 := ⟨_, rfl⟩
    rw [hW2] at c2 ⊢
    have c3 := newc W2 (.int .i64 0) 3
    obtain ⟨W3, hW3⟩ : ∃ W3, W2.alloc (.cells #[.int .i64 0] 3) = W3 := ⟨_, rfl⟩
    rw [hW3] at c3 ⊢
    have c4 := newc W3 (.slice A N ca) 30
    obtain ⟨W4, hW4⟩ : ∃ W4, W3.alloc (.cells #[.slice A N ca] 30) = W4 := ⟨_, rfl⟩
    rw [hW4] at c4 ⊢
    have s2 : W2.heap.size = w.heap.size + 2 := by rw [← hW2]; simp
    have s3 : W3.heap.size = w.heap.size + 3 := by rw [← hW3]; simp [s2]
    have s4 : W4.heap.size = w.heap.size + 4 := by rw [← hW4]; simp [s3]
    have b2 : Below w.heap.size w W2 := by rw [← hW2]; exact ((Below.refl _ w).alloc (Nat.le_refl _) _).alloc (by simp) _
    have b3 : Below (w.heap.size + 2) W2 W3 := by rw [← hW3, ← s2]; exact below_alloc _ _
    have b4 : Below (w.heap.size + 3) W3 W4 := by rw [← hW4, ← s3]; exact below_alloc _ _
    have d2 : W4.cell? ⟨w.heap.size + 1, 0, none⟩ = some (.slice B N cb) := by
      rw [World.size_alloc] at c2
      exact (b4.cell (p := ⟨w.heap.size + 1, 0, none⟩) (by simp)).trans ((b3.cell (p := ⟨w.heap.size + 1, 0, none⟩) (by simp)).trans c2.1)
    rw [s2] at c3
    rw [s3] at c4
    have d3 : W4.cell? ⟨w.heap.size + 2, 0, none⟩ = some (.int .i64 0) := (b4.cell (p := ⟨w.heap.size + 2, 0, none⟩) (by simp)).trans c3.1
    have d3f : W4.frozen? ⟨w.heap.size + 2, 0, none⟩ = false := (b4.frozen (p := ⟨w.heap.size + 2, 0, none⟩) (by simp)).trans c3.2
    have d4 := c4.1
    have bW : Below w.heap.size w W4 := b2.trans ((b3.mono (by omega)).trans (b4.mono (by omega)))
    clear c2 c3 c4 b2 b3 b4 hW2 hW3 hW4 s2 s3
    -- between two rounds; behind a return
    let I : Nat → World → Prop := fun k W => k ≤ N ∧ Below w.heap.size w W ∧ W.cell? ⟨w.heap.size + 1, 0, none⟩ = some (.slice B N cb) ∧ W.cell? ⟨w.heap.size + 2, 0, none⟩ = some (.int .i64 0) ∧
      W.frozen? ⟨w.heap.size + 2, 0, none⟩ = false ∧ W.cell? ⟨w.heap.size + 3, 0, none⟩ = some (.slice A N ca) ∧ w.heap.size + 4 ≤ W.heap.size ∧ ∀ j, N - k ≤ j → j < N → l.getD j 0 = m.getD j 0
    let Ix : Nat → World → Prop := fun k W => Below w.heap.size w W ∧ W.cell? ⟨w.heap.size + 2, 0, none⟩ = some (.int .i64 (cmpN (val l) (val m)))
    have stab : ∀ k W W', Below (w.heap.size + 4) W W' → I k W → I k W' := by
      rintro k W W' h ⟨i1, i2, i3, i4, i5, i6, i7, i8⟩
      exact ⟨i1, i2.trans (h.mono (by omega)), (h.cell (p := ⟨w.heap.size + 1, 0, none⟩) (by simp)).trans i3, (h.cell (p := ⟨w.heap.size + 2, 0, none⟩) (by simp)).trans i4, (h.frozen (p := ⟨w.heap.size + 2, 0, none⟩) (by simp)).trans i5, (h.cell (p := ⟨w.heap.size + 3, 0, none⟩) (by simp)).trans i6, Nat.le_trans i7 h.size, i8⟩
    have stabx : ∀ k W W', Below (w.heap.size + 4) W W' → Ix k W → Ix k W' := by
      rintro k W W' h ⟨i2, i4⟩
      exact ⟨i2.trans (h.mono (by omega)), (h.cell (p := ⟨w.heap.size + 2, 0, none⟩) (by simp)).trans i4⟩
    refine wpIn_back rfl (by decide) (gf := 129) (lb := #[.pointer (some ⟨w.heap.size + 3, 0, none⟩)]) rfl trivial (enters_of Tryz.func129 (by kernel_rfl) rfl)
      (N := N) (encs := fun k => #[.int .i64 (N - 1 - k : Nat), .int .u32 (l.getD (N - 1 - k) 0 : Nat)]) (fun k => rfl) I Ix
      (fun k W r o o' hr _ _ h => stab k W _ (below_put W r o' (by omega)) h) (fun k W r o o' hr _ _ h => stabx k W _ (below_put W r o' (by omega)) h) ?start
      (back_iter Fence.wide 2 trivial rfl (by decide) (w.heap.size + 3) A N ca (by omega) (fun k => l.getD (N - 1 - k) 0) I ?reads)
      (fun k => { tmps := #[.agg #[.slice A N ca], .agg #[.slice B N cb], .pointer (some ⟨w.heap.size, 0, none⟩), .pointer (some ⟨w.heap.size + 1, 0, none⟩), .pointer (some ⟨w.heap.size + 2, 0, none⟩), .int .i64 (N - 1 - k : Nat), .int .u32 (l.getD (N - 1 - k) 0 : Nat),
          .pointer (some ⟨w.heap.size, 0, none⟩), .slice A N ca, .int .i64 (N : Nat), .pointer (some ⟨w.heap.size + 1, 0, none⟩), .slice B N cb, .int .i64 (N : Nat), .bool false, undef, undef, undef, undef, undef, undef, undef, .pointer (some ⟨w.heap.size, 0, none⟩), .slice A N ca,
          .func (.func 129) #[] #[.pointer (some ⟨w.heap.size + 3, 0, none⟩)], .int .i64 (N - 1 - k : Nat), .int .u32 (l.getD (N - 1 - k) 0 : Nat), undef, undef, undef, undef, undef, undef, undef, undef, undef, undef, undef, undef, undef, undef, undef, undef], defers := [] })
      ?assign ?body ?done ?stop
    case start =>
      intro r
      refine stab 0 W4 _ ?_ ⟨Nat.zero_le _, bW, d2, d3, d3f, d4, by omega, fun j h1 h2 => by omega⟩
      rw [← s4]
      exact ((Below.refl _ W4).alloc (Nat.le_refl _) _).alloc (by simp) _
    case reads =>
      rintro k W ⟨i1, i2, i3, i4, i5, i6, i7, i8⟩
      refine ⟨i6, fun hk => ?_⟩
      rcases hA with h | ⟨b, off, hA1, hA2, hA3⟩
      · rw [h] at h1; simp at h1; omega
      · exact ⟨b, off, hA1, (i2.cell (p := ⟨b, off + (N - 1 - k), none⟩) hA2).trans (hA3 _ (by omega))⟩
    case assign =>
      intro l' k W K hK
      gi_wp2
      exact hK
    case body =>
      rintro l' k W ⟨i1, i2, i3, i4, i5, i6, i7, i8⟩ hk
      have hB' : ∃ b off, B = some ⟨b, off, none⟩ ∧ W.cell? ⟨b, off + (N - 1 - k), none⟩ = some (.int .u32 (m.getD (N - 1 - k) 0 : Nat)) := by
        rcases hB with h | ⟨b, off, hB1, hB2, hB3⟩
        · rw [h] at hN; simp at hN; omega
        · exact ⟨b, off, hB1, (i2.cell (p := ⟨b, off + (N - 1 - k), none⟩) hB2).trans (hB3 _ (by omega))⟩
      obtain ⟨b, off, rfl, hc⟩ := hB'
      have top : ∀ j, N - 1 - k < j → j < N → l.getD j 0 = m.getD j 0 := fun j h2 h3 => i8 j (by omega) h3
      generalize hi : N - 1 - k = i at *
      have hiN : i < N := by omega
      by_cases g1 : l.getD i 0 < m.getD i 0
      · have res : cmpN (val l) (val m) = -1 := by
          have := val_lt_top hln.1 hmn.1 (by omega) (i := i) (by omega) (fun j h2 h3 => top j h2 (by omega)) g1
          unfold cmpN; rw [if_pos this]
        generalize l.getD i 0 = x at *
        generalize m.getD i 0 = y at *
        gi_wp2
        refine ⟨KeepsOthers.setCell _ _ _, i2.setCell (p := ⟨w.heap.size + 2, 0, none⟩) (by simp) _, ?_⟩
        rw [res]
        exact World.cell?_setCell_same' _ _ _ (by rw [i4]; rfl)
      · by_cases g2 : m.getD i 0 < l.getD i 0
        · have res : cmpN (val l) (val m) = 1 := by
            have := val_lt_top hmn.1 hln.1 (by omega) (i := i) (by omega) (fun j h2 h3 => (top j h2 (by omega)).symm) g2
            unfold cmpN; rw [if_neg (by omega), if_pos this]
          generalize l.getD i 0 = x at *
          generalize m.getD i 0 = y at *
          gi_wp2
          refine ⟨KeepsOthers.setCell _ _ _, i2.setCell (p := ⟨w.heap.size + 2, 0, none⟩) (by simp) _, ?_⟩
          rw [res]
          exact World.cell?_setCell_same' _ _ _ (by rw [i4]; rfl)
        · have e : l.getD i 0 = m.getD i 0 := by omega
          have fin : I (k + 1) W := ⟨hk, i2, i3, i4, i5, i6, i7, fun j h2 h3 => by
            by_cases hj : j = i
            · rw [hj]; exact e
            · exact top j (by omega) h3⟩
          generalize l.getD i 0 = x at *
          generalize m.getD i 0 = y at *
          gi_wp2
          exact ⟨KeepsOthers.refl _, fin⟩
    case done =>
      rintro W ⟨i1, i2, i3, i4, i5, i6, i7, i8⟩ hD
      have e : l = m := by
        apply List.ext_getElem
        · omega
        · intro j h2 h3
          have := i8 j (by omega) (by omega)
          rw [List.getD, List.getD, List.getElem?_eq_getElem h2, List.getElem?_eq_getElem h3] at this
          exact this
      have res : cmpN (val l) (val m) = 0 := by
        rw [e]; unfold cmpN; simp
      have hb : Below (w.heap.size + 4) W (W.putObj W4.heap.size (.deferred none)) := below_put _ _ _ (by omega)
      have e4 : (W.putObj W4.heap.size (.deferred none)).cell? ⟨w.heap.size + 2, 0, none⟩ = some (.int .i64 0) := (hb.cell (p := ⟨w.heap.size + 2, 0, none⟩) (by simp)).trans i4
      have k1 := KeepsOthers.setCell W ⟨w.heap.size + 2, 0, none⟩ (.int .i64 0)
      have k2 := Below.setCell (p := ⟨w.heap.size + 2, 0, none⟩) (Below.refl w.heap.size W) (Nat.le_add_right _ _) (.int .i64 0)
      have k3 : (W.setCell ⟨w.heap.size + 2, 0, none⟩ (.int .i64 0)).cell? ⟨w.heap.size + 2, 0, none⟩ = some (.int .i64 0) := World.cell?_setCell_same' _ _ _ (by rw [i4]; rfl)
      have hb2 : Below (w.heap.size + 4) (W.setCell ⟨w.heap.size + 2, 0, none⟩ (.int .i64 0)) ((W.setCell ⟨w.heap.size + 2, 0, none⟩ (.int .i64 0)).putObj W4.heap.size (.deferred none)) := below_put _ _ _ (by omega)
      have e5 := (hb2.cell (p := ⟨w.heap.size + 2, 0, none⟩) (by simp)).trans k3
      gi_wp2
      refine ⟨by simp, .inl ⟨_, _, rfl, run_takeDeferred (k1.same _ _ hD rfl), ?_⟩⟩
      refine ⟨.int .i64 0, ?_, by first | rw [res] | rfl, i2.trans (k2.trans (hb2.mono (by omega)))⟩
      simp [results, Tryz.f90, go_sem, e5]
    case stop =>
      rintro k W ⟨i2, i4⟩ hD
      have hb : Below (w.heap.size + 4) W (W.putObj W4.heap.size (.deferred none)) := below_put _ _ _ (by omega)
      have e4 : (W.putObj W4.heap.size (.deferred none)).cell? ⟨w.heap.size + 2, 0, none⟩ = some (.int .i64 (cmpN (val l) (val m))) := (hb.cell (p := ⟨w.heap.size + 2, 0, none⟩) (by simp)).trans i4
      gi_wp2
      refine ⟨by simp, .inl ⟨_, _, rfl, run_takeDeferred hD, ?_⟩⟩
      refine ⟨.int .i64 (cmpN (val l) (val m)), ?_, rfl, i2.trans (hb.mono (by omega))⟩
      simp [results, Tryz.f90, go_sem, e4]
  · have hne : val l ≠ val m := fun e => h1 (by rw [Norm.uniq hln hmn e])
    have ret : ∀ (v : Int) (W : World), W.heap.size = w.heap.size + 2 → Below w.heap.size w W → (W.alloc (.cells #[.int .i64 v] 3)).cell? ⟨w.heap.size + 2, 0, none⟩ = some (.int .i64 v) ∧ Below w.heap.size w (W.alloc (.cells #[.int .i64 v] 3)) := by
      intro v W h3 h4
      have := (newc W (.int .i64 v) 3).1
      rw [h3] at this
      exact ⟨this, h4.alloc (by omega) _⟩
    have hb := ((Below.refl _ w).alloc (Nat.le_refl _) (.cells #[.slice A l.length ca] 32)).alloc (by simp) (.cells #[.slice B m.length cb] 32)
    by_cases h2 : l.length < m.length
    · have res : cmpN (val l) (val m) = -1 := by
        have h3 := val_lt hln.1
        have h4 := val_pos hmn (fun e => by rw [e] at h2; simp at h2)
        have h5 := Nat.pow_le_pow_right (n := 4294967296) (by decide) (show l.length ≤ m.length - 1 by omega)
        unfold cmpN; rw [if_pos (by omega)]
      obtain ⟨r1, r2⟩ := ret (-1) _ (by simp) hb
      gi_wp2
      refine ⟨.int .i64 (-1), ?_, by first | rw [res] | rfl, r2⟩
      simp [results, Tryz.f90, go_sem, r1]
    · have h3 : ¬ ((l.length : Int) < m.length) := by omega
      have res : cmpN (val l) (val m) = 1 := by
        have h3 := val_lt hmn.1
        have h4 := val_pos hln (fun e => by rw [e] at h2 h1; simp only [List.length_nil] at h2 h1; omega)
        have h5 := Nat.pow_le_pow_right (n := 4294967296) (by decide) (show m.length ≤ l.length - 1 by omega)
        unfold cmpN; rw [if_neg (by omega), if_pos (by omega)]
      obtain ⟨r1, r2⟩ := ret 1 _ (by simp) hb
      gi_wp2
      refine ⟨.int .i64 1, ?_, by first | rw [res] | rfl, r2⟩
      simp [results, Tryz.f90, go_sem, r1]

theorem sl_cells {H : PH} {w : World} {A : Option Addr} {l : List Nat} (h : Sl .u32 H A l) (hH : H.on w) : Cells w A l := by
  rcases h with h | ⟨b, off, cs, T, fz, h1, h2, h3, h4⟩
  · exact .inl h
  · have hb := hH b _ h2
    refine .inr ⟨b, off, h1, (Array.getElem?_eq_some_iff.1 hb).1, fun j hj => ?_⟩
    simp only [World.cell?, hb]
    have e := nums_get (k := .u32) hj
    rw [← h4, List.getElem?_take, if_pos hj, List.getElem?_drop] at e
    simpa using e

theorem below_fn {P : Program} {f : Nat} {vs : List Value} {H : PH} {R : Value → Prop} (h : ∀ w, H.on w → Calls P f vs.toArray w fun e w' => ∃ v, e = .returned v ∧ R v ∧ Below w.heap.size w w') : FnP P f vs H fun v _ => R v := by
  intro w hH hM hd
  refine (h w hH).mono ?_
  rintro e w' ⟨v, rfl, hR, hb⟩
  refine ⟨v, H, PH.no, rfl, ⟨hb.os, hb.tape, hb.output, hb.size, fun b hb' _ => hb.block b hb'⟩, PH.le.refl _, fun b o ho => ?_, fun b o ho => (by cases ho), PH.disj_no _, fun b hb' => .inl hb', fun b hb' => absurd rfl hb', rfl, hR⟩
  have := hH b o ho
  rw [hb.block b (Array.getElem?_eq_some_iff.1 this).1]
  exact this

theorem cmp_ok (H : PH) (va vb : Value) (x y : Nat) (ha : NatV H va x) (hb : NatV H vb y) (hbx : bl x ≤ 4294967296) (hby : bl y ≤ 4294967296) : FnP Tryz.prog 90 [va, vb] H fun v _ => v = .int .i64 (cmpN x y) := by
  obtain ⟨A, l, c, rfl, hc, hS, hn, rfl⟩ := ha
  obtain ⟨B, m, e, rfl, he, hT, hm, rfl⟩ := hb
  have hlen : l.length ≤ 200000000 := by have := len_le_bl hn; omega
  have hlen2 : m.length ≤ 200000000 := by have := len_le_bl hm; omega
  refine below_fn fun w hH => ((callsIn_wide (n := 3)).1 (cmp_in A B l m c e (by omega) (by omega) w (sl_cells hS hH) (sl_cells hT hH) hn hm)).mono ?_
  rintro e' w' ⟨rfl, h⟩
  exact ⟨_, rfl, rfl, h⟩

end Go.Proofs.YtccdhgjfcgfgoaaGreat.X
set_option linter.unusedSimpArgs false
set_option linter.unusedVariables false
namespace Go.Proofs.YtccdhgjfcgfgoaaGreat.X
open Go Go.RowKit

theorem wpAnyIn_of {P : Program} {ops : Array Oper} {Q : Exit → Act → World → Prop} {l n : Nat} (hno : ¬ LetsOut Q) (hp : ∀ (i : Nat) (o : Oper), ops[i]? = some o → (∀ c, o.op ≠ .defer c) ∧ ∀ c, o.op ≠ .call c) :
    ∀ (f : Nat) (listed : Array Bool) (a : Act) (w : World), wpAny P .any ops Q f listed a w → wpAnyIn (Fence.wide.inRound l) n P .any ops Q f listed a w
  | 0, _, _, _, h => h
  | f + 1, listed, a, w, h => by
    refine ⟨h.1, fun i hi => ?_⟩
    have h2 := h.2 i hi
    unfold wpOp at h2
    unfold wpOpIn
    cases ho : ops[i]? with
    | none =>
      simp only [ho] at h2 ⊢
      exact wpAnyIn_of hno hp f _ a w h2
    | some o =>
      obtain ⟨p1, p2⟩ := hp i o ho
      have hab : ∀ g, o.about P w a.eval = some g → (Fence.wide.inRound l).fn g := fun g _ => trivial
      simp only [ho] at h2 ⊢
      split
      · rename_i hw
        rw [if_pos hw] at h2
        rcases h2 with h2 | h2
        · refine ⟨hab, ?_⟩
          rw [Oper.semAt_eq _ _ _ p1]
          unfold Oper.wp at h2
          generalize (execOp a.eval o).run P w = r at h2
          cases r with
          | ok x w' =>
            cases x with
            | value v => exact wpAnyIn_of hno hp f _ _ _ h2
            | skip => exact wpAnyIn_of hno hp f _ _ _ h2
            | defer d => exact wpAnyIn_of hno hp f _ _ _ h2
            | enter g args =>
              refine ⟨fun h => (by cases h), (CallsIn.inRound l (callsIn_wide.2 h2)).mono ?_⟩
              intro e w'' he
              cases e with
              | returned v => exact wpAnyIn_of hno hp f _ _ _ he
              | panicked c => exact he
              | outgrown => exact he
            | row _ _ =>
              refine ⟨fun h => (by cases h), fun c cs _ => ?_⟩
              obtain ⟨v, w'', r1, r2⟩ := h2 c cs
              exact ⟨v, w'', wpAnyIn_of hno hp f _ _ _ r1, stepsIn_wide.2 r2⟩
            | round => exact h2.elim
            | _ => exact h2.elim
          | halt x w' =>
            cases x with
            | panic v => exact h2
            | _ => exact h2.elim
        · exact absurd h2.2 hno
      · rename_i hw
        rw [if_neg hw] at h2
        exact ⟨hab, wpAnyIn_of hno hp f _ _ _ h2⟩

section
variable {P : Program} {ops : Array Oper} {Q : Exit → Act → World → Prop} {L : List Nat} {i : Nat} {r : IT} {a : Act} {w : World} {o : Oper}
theorem W_ld (v : Value) (b : Nat) (ho : ops[i]? = some o) (hw : o.guard = none) (hr : ∀ w', SameAt w b w' → (execOp a.eval o).run P w' = .ok (.value v) w') (k : W P ops Q (b :: L) r (a.put o.dst v) w) : W P ops Q L (.ld i r) a w :=
  .inr ⟨o, v, b, ho, .inl ⟨by unfold Region.wanted; rw [hw], hr⟩, k⟩
theorem W_fl (v : Value) (ho : ops[i]? = some o) (hw : o.guard = none) (hr : ∀ w', (execOp a.eval o).run P w' = .ok (.value v) w') (k : W P ops Q L r (a.put o.dst v) w) : W P ops Q L (.fl i r) a w :=
  ⟨o, v, ho, .inl ⟨by unfold Region.wanted; rw [hw], hr⟩, k⟩
/-- the region's one store, at its end -/
theorem W_st {w' : World} (ho : ops[i]? = some o) (hw : o.guard = none) (hs : isStore ops i = true) (hr : (execOp a.eval o).run P w = .ok .skip w') (k : Q .normal (a.put o.dst undef) w') : W P ops Q L (.act i .nil) a w := by
  unfold W wpOp
  rw [ho]
  have hw' : Region.wanted o (yielded ops a.tmps) = true := by unfold Region.wanted; rw [hw]
  simp only [hw', if_true]
  refine .inl ?_
  unfold Oper.wp
  rw [hr]
  exact ⟨fun h => by rw [hs] at h; (cases h), k⟩
end

def plainOps (ops : Array Oper) : Bool := ops.toList.all fun o => match o.op with | .defer _ | .call _ => false | _ => true
theorem plainOps_spec {ops : Array Oper} (h : plainOps ops = true) (i : Nat) (o : Oper) (ho : ops[i]? = some o) : (∀ c, o.op ≠ .defer c) ∧ ∀ c, o.op ≠ .call c := by
  have := List.all_eq_true.1 h o (by simpa using Array.mem_of_getElem? ho)
  constructor
  · intro c e; rw [e] at this; cases this
  · intro c e; rw [e] at this; cases this

/-- **A region that draws its order, in a round**: by a tree -/
theorem wpIn_tree {P : Program} {ops : Array Oper} {Q : Exit → Act → World → Prop} {l n id : Nat} {t : IT} {a : Act} {w : World} (hm : P.follows .mixedOrders = true) (hc : chkTop ops t = true) (hno : ¬ LetsOut Q) (hp : plainOps ops = true)
    (hQ : ∀ c a w d v, Q (.panic c) (Act.put a d v) w → Q (.panic c) a w) (h : W P ops Q [] t a { w with drawn := w.drawn + 1 }) : (Code.region id ops true).wpIn (Fence.wide.inRound l) n P Q a w := by
  simp only [chkTop, Bool.and_eq_true, decide_eq_true_eq] at hc
  refine wpIn_region_any hm (wpAnyIn_of hno (plainOps_spec hp) _ _ _ _ (wpAny_of_D (D := DL ops []) _ _ _ _ ((chk_sound hc.1.1 hQ t _ [] [] [] [] a _ ?_ (by simp) (by simp) (by simp) h).1 hc.2 _ hc.1.2)))
  intro j o _ hl e _ _
  simp [Array.getD_eq_getD_getElem?, Array.getElem?_replicate] at hl
  split at hl <;> simp at hl

end Go.Proofs.YtccdhgjfcgfgoaaGreat.X
set_option linter.unusedSimpArgs false
set_option linter.unusedVariables false
namespace Go.Proofs.YtccdhgjfcgfgoaaGreat.X
open Go Go.RowKit Go.Shelf Go.Proofs

attribute [local go_sem] Oper.semAt_some

/-- whatever lay below n0 lies as it lay, but for block b -/
structure ButB (n0 b : Nat) (w W : World) : Prop where
  os : W.os = w.os
  tape : W.tape = w.tape
  output : W.output = w.output
  size : w.heap.size ≤ W.heap.size
  block : ∀ k, k < n0 → k ≠ b → W.heap[k]? = w.heap[k]?

theorem ButB.below {n0 n1 b : Nat} {w W W' : World} (h : ButB n0 b w W) (hb : Below n1 W W') (hn : n0 ≤ n1) : ButB n0 b w W' :=
  ⟨hb.os.trans h.os, hb.tape.trans h.tape, hb.output.trans h.output, Nat.le_trans h.size hb.size, fun k hk hne => (hb.block k (Nat.lt_of_lt_of_le hk hn)).trans (h.block k hk hne)⟩
theorem ButB.setB {n0 b : Nat} {w W : World} (h : ButB n0 b w W) (off : Nat) (v : Value) : ButB n0 b w (W.setCell ⟨b, off, none⟩ v) := by
  have hk := Below.heap_setCell W ⟨b, off, none⟩ v
  exact ⟨h.os, h.tape, h.output, by simpa using h.size, fun k hk' hne => (hk k hne).trans (h.block k hk' hne)⟩

theorem short_step (N i by_ r : Nat) (l o : List Nat) (hl : Lim l) (ho : Lim o) (hN : l.length = N) (hoN : o.length = N) (hi : i < N) (hb : 0 < by_) (hb2 : by_ < 4294967296) (hr : r < by_) (hv : val (l.drop (i + 1)) = val (o.drop (i + 1)) * by_ + r) (he : ∀ j, j < i + 1 → o.getD j 0 = l.getD j 0) :
    let t := r * 4294967296 + l.getD i 0
    t < 18446744073709551616 ∧ t / by_ < 4294967296 ∧ t % by_ < by_ ∧ val (l.drop i) = val ((o.set i (t / by_)).drop i) * by_ + t % by_ := by
  intro t
  have hx := hl.getD i
  have h1 : t / by_ < 4294967296 := by
    rw [Nat.div_lt_iff_lt_mul hb]
    have := Nat.mul_le_mul_right 4294967296 (Nat.succ_le_of_lt hr)
    rw [Nat.succ_mul, Nat.mul_comm by_] at this
    show r * 4294967296 + l.getD i 0 < _
    omega
  refine ⟨by show r * 4294967296 + l.getD i 0 < _; omega, h1, Nat.mod_lt _ hb, ?_⟩
  have e1 := drop_eq l i (by omega)
  have e2 : (o.set i (t / by_)).drop i = t / by_ :: o.drop (i + 1) := by
    rw [drop_eq _ i (by simp; omega)]
    congr 1
    · simp [List.getD, show i < o.length by omega]
    · rw [List.drop_set_of_lt (by omega)]
  rw [e1, e2]
  simp only [val]
  rw [hv, Nat.add_mul]
  have e3 : t = by_ * (t / by_) + t % by_ := (Nat.div_add_mod t by_).symm
  have e4 : 4294967296 * (val (o.drop (i + 1)) * by_ + r) + l.getD i 0 = 4294967296 * val (o.drop (i + 1)) * by_ + t := by
    show _ = _ + (r * 4294967296 + l.getD i 0)
    rw [Nat.mul_add, Nat.mul_assoc]; omega
  rw [Nat.mul_comm (t / by_)]
  omega

theorem or_step (r x : Nat) (hr : r < 4294967296) (hx : x < 4294967296) : Go.bits .or .u64 ((r : Int) * 4294967296) (x : Int) = ((r * 4294967296 + x : Nat) : Int) := by
  have h1 := bits_or_u64_nat (r * 4294967296) x (by omega) (by omega)
  have h2 := or_add 32 x r hx
  have h3 : r * 4294967296 ||| x = r * 4294967296 + x := by
    rw [Nat.or_comm]
    have : x ||| r * 4294967296 = x + r * 4294967296 := h2
    omega
  rw [h3] at h1
  rw [← h1, Int.natCast_mul]
  rfl

set_option maxRecDepth 100000 in
set_option maxHeartbeats 4000000 in
theorem short_in (b by_ : Nat) (l : List Nat) (rest : List Value) (c : Nat) (T : TypeId) (hl : l.length ≤ 1000000000) (hlim : Lim l) (h0 : 0 < l.length) (hc : l.length ≤ c) (hby : 0 < by_) (hby2 : by_ < 4294967296) (w : World) (hA : w.heap[b]? = some (.cells (nums .u32 l ++ rest).toArray T (0, 0))) :
    CallsIn Fence.wide 3 Tryz.prog 108 #[.slice (some ⟨b, 0, none⟩) l.length c, .int .u32 (by_ : Nat)] w fun e w' => ∃ o : List Nat, e = .returned (.int .u32 (val l % by_ : Nat)) ∧ o.length = l.length ∧ Lim o ∧ val o = val l / by_ ∧
      w'.heap[b]? = some (.cells (nums .u32 o ++ rest).toArray T (0, 0)) ∧ ButB w.heap.size b w w' := by
  refine callsIn_of_wp_marks Tryz.func108 rfl trivial ?_ rfl
  simp only [Tryz.ntmps108, List.size_toArray, List.length_cons, List.length_nil, Nat.reduceAdd, Nat.reduceSub, Array.replicate_succ, Array.replicate_zero, List.push_toArray, List.append_toArray, List.nil_append, List.cons_append]
  have hblt : b < w.heap.size := (Array.getElem?_eq_some_iff.1 hA).1
  obtain ⟨N, hN⟩ : ∃ N, l.length = N := ⟨_, rfl⟩
  simp only [hN]
  gi_wp2_with (refine ⟨trivial, ?_⟩; gi_at_call 115; refine (back_in Fence.wide 2 trivial rfl _ _ _ _).mono ?_; rintro e w' ⟨rfl, rfl⟩)
  have c1 := newc w (.slice (some ⟨b, 0, none⟩) N c) 30
  obtain ⟨W1, hW1⟩ : ∃ W1, w.alloc (.cells #[.slice (some ⟨b, 0, none⟩) N c] 30) = W1 := ⟨_, rfl⟩
  rw [hW1] at c1 ⊢
  have s1 : W1.heap.size = w.heap.size + 1 := by rw [← hW1]; simp
  have b1 : Below w.heap.size w W1 := by rw [← hW1]; exact below_alloc _ _
  have c2 := newc W1 (.int .u32 (by_ : Nat)) 130
  obtain ⟨W2, hW2⟩ : ∃ W2, W1.alloc (.cells #[.int .u32 (by_ : Nat)] 130) = W2 := ⟨_, rfl⟩
  rw [hW2] at c2 ⊢
  have s2 : W2.heap.size = w.heap.size + 2 := by rw [← hW2]; simp [s1]
  have b2 : Below (w.heap.size + 1) W1 W2 := by rw [← hW2, ← s1]; exact below_alloc _ _
  have c3 := newc W2 (.int .u64 0) 117
  obtain ⟨W3, hW3⟩ : ∃ W3, W2.alloc (.cells #[.int .u64 0] 117) = W3 := ⟨_, rfl⟩
  rw [hW3] at c3 ⊢
  have s3 : W3.heap.size = w.heap.size + 3 := by rw [← hW3]; simp [s2]
  have b3 : Below (w.heap.size + 2) W2 W3 := by rw [← hW3, ← s2]; exact below_alloc _ _
  have c4 := newc W3 (.slice (some ⟨b, 0, none⟩) N c) 30
  obtain ⟨W4, hW4⟩ : ∃ W4, W3.alloc (.cells #[.slice (some ⟨b, 0, none⟩) N c] 30) = W4 := ⟨_, rfl⟩
  rw [hW4] at c4 ⊢
  have s4 : W4.heap.size = w.heap.size + 4 := by rw [← hW4]; simp [s3]
  have b4 : Below (w.heap.size + 3) W3 W4 := by rw [← hW4, ← s3]; exact below_alloc _ _
  rw [s1] at c2
  rw [s2] at c3
  rw [s3] at c4
  have d1 : W4.cell? ⟨w.heap.size, 0, none⟩ = some (.slice (some ⟨b, 0, none⟩) N c) := (b4.cell (p := ⟨w.heap.size, 0, none⟩) (by simp)).trans ((b3.cell (p := ⟨w.heap.size, 0, none⟩) (by simp)).trans ((b2.cell (p := ⟨w.heap.size, 0, none⟩) (by simp)).trans c1.1))
  have d2 : W4.cell? ⟨w.heap.size + 1, 0, none⟩ = some (.int .u32 (by_ : Nat)) := (b4.cell (p := ⟨w.heap.size + 1, 0, none⟩) (by simp)).trans ((b3.cell (p := ⟨w.heap.size + 1, 0, none⟩) (by simp)).trans c2.1)
  have d3 : W4.cell? ⟨w.heap.size + 2, 0, none⟩ = some (.int .u64 0) := (b4.cell (p := ⟨w.heap.size + 2, 0, none⟩) (by simp)).trans c3.1
  have d3f : W4.frozen? ⟨w.heap.size + 2, 0, none⟩ = false := (b4.frozen (p := ⟨w.heap.size + 2, 0, none⟩) (by simp)).trans c3.2
  have d4 := c4.1
  have bW : Below w.heap.size w W4 := b1.trans ((b2.mono (by omega)).trans ((b3.mono (by omega)).trans (b4.mono (by omega))))
  clear c1 c2 c3 c4 b1 b2 b3 b4 hW1 hW2 hW3 hW4 s1 s2 s3
  let I : Nat → World → Prop := fun k W => ∃ (o : List Nat) (r : Nat), k ≤ N ∧ ButB w.heap.size b w W ∧ W.cell? ⟨w.heap.size, 0, none⟩ = some (.slice (some ⟨b, 0, none⟩) N c) ∧ W.cell? ⟨w.heap.size + 1, 0, none⟩ = some (.int .u32 (by_ : Nat)) ∧
    W.cell? ⟨w.heap.size + 2, 0, none⟩ = some (.int .u64 (r : Nat)) ∧ W.frozen? ⟨w.heap.size + 2, 0, none⟩ = false ∧ W.cell? ⟨w.heap.size + 3, 0, none⟩ = some (.slice (some ⟨b, 0, none⟩) N c) ∧ w.heap.size + 4 ≤ W.heap.size ∧
    W.heap[b]? = some (.cells (nums .u32 o ++ rest).toArray T (0, 0)) ∧ o.length = N ∧ Lim o ∧ r < by_ ∧ (∀ j, j < N - k → o.getD j 0 = l.getD j 0) ∧ val (l.drop (N - k)) = val (o.drop (N - k)) * by_ + r
  have stab : ∀ k W W', Below (w.heap.size + 4) W W' → I k W → I k W' := by
    rintro k W W' h ⟨o, r, i1, i2, i3, i4, i5, i6, i7, i8, i9, i10⟩
    exact ⟨o, r, i1, i2.below h (by omega), (h.cell (p := ⟨w.heap.size, 0, none⟩) (by simp)).trans i3, (h.cell (p := ⟨w.heap.size + 1, 0, none⟩) (by simp)).trans i4, (h.cell (p := ⟨w.heap.size + 2, 0, none⟩) (by simp)).trans i5,
      (h.frozen (p := ⟨w.heap.size + 2, 0, none⟩) (by simp)).trans i6, (h.cell (p := ⟨w.heap.size + 3, 0, none⟩) (by simp)).trans i7, Nat.le_trans i8 h.size, (h.block b (by omega)).trans i9, i10⟩
  refine wpIn_back rfl (by decide) (gf := 129) (lb := #[.pointer (some ⟨w.heap.size + 3, 0, none⟩)]) rfl trivial (enters_of Tryz.func129 (by kernel_rfl) rfl)
    (N := N) (encs := fun k => #[.int .i64 (N - 1 - k : Nat), .int .u32 (l.getD (N - 1 - k) 0 : Nat)]) (fun k => rfl) I (fun _ _ => False)
    (fun k W r o o' hr _ _ h => stab k W _ (below_put W r o' (by omega)) h) (fun k W r o o' hr _ _ h => h) ?start
    (back_iter Fence.wide 2 trivial rfl (by decide) (w.heap.size + 3) (some ⟨b, 0, none⟩) N c (by omega) (fun k => l.getD (N - 1 - k) 0) I ?reads)
    (fun k => { tmps := #[.slice (some ⟨b, 0, none⟩) N c, .int .u32 (by_ : Nat), .pointer (some ⟨w.heap.size, 0, none⟩), .pointer (some ⟨w.heap.size + 1, 0, none⟩), .int .u32 0, .pointer (some ⟨w.heap.size + 2, 0, none⟩), .int .i64 (N - 1 - k : Nat), .int .u32 (l.getD (N - 1 - k) 0 : Nat),
        .slice (some ⟨b, 0, none⟩) N c, .func (.func 129) #[] #[.pointer (some ⟨w.heap.size + 3, 0, none⟩)], .int .i64 (N - 1 - k : Nat), .int .u32 (l.getD (N - 1 - k) 0 : Nat), undef, undef, undef, undef, undef, undef, undef, undef, undef, undef, undef, undef, undef, undef, undef, undef, undef, undef, undef], defers := [] })
    ?assign ?body ?done ?stop
  case start =>
    intro r
    refine stab 0 W4 _ ?_ ⟨l, 0, Nat.zero_le _, ⟨bW.os, bW.tape, bW.output, bW.size, fun k hk _ => bW.block k hk⟩, d1, d2, d3, d3f, d4, by omega, (bW.block b hblt).trans hA, hN, hlim, hby, fun j _ => rfl, by simp [← hN, val]⟩
    rw [← s4]
    exact ((Below.refl _ W4).alloc (Nat.le_refl _) _).alloc (by simp) _
  case reads =>
    rintro k W ⟨o, r, i1, i2, i3, i4, i5, i6, i7, i8, i9, i10, i11, i12, i13, i14⟩
    refine ⟨i7, fun hk => ⟨b, 0, rfl, ?_⟩⟩
    rw [Nat.zero_add, ← i13 (N - 1 - k) (by omega)]
    simp only [World.cell?, i9]
    have := nums_get (k := .u32) (l := o) (i := N - 1 - k) (by omega)
    have h2 : N - 1 - k < (nums .u32 o).length := by simp [nums]; omega
    simpa [List.getElem?_append_left h2] using this
  case assign =>
    intro l' k W K hK
    gi_wp2
    exact hK
  case body =>
    rintro l' k W ⟨o, r, i1, i2, i3, i4, i5, i6, i7, i8, i9, i10, i11, i12, i13, i14⟩ hk
    obtain ⟨z1, z2, z3, z4⟩ := short_step N (N - 1 - k) by_ r l o hlim i11 hN i10 (by omega) hby hby2 i12 (by rw [show N - 1 - k + 1 = N - k by omega]; exact i14) (fun j hj => i13 j (by omega))
    have hx := hlim.getD (N - 1 - k)
    have ek : N - (k + 1) = N - 1 - k := by omega
    generalize hi : N - 1 - k = i at *
    generalize hxx : l.getD i 0 = x at *
    have hmix : Tryz.prog.follows .mixedOrders = true := mixed
    gi_wp2
    have hor := or_step r x (Nat.lt_trans i12 hby2) hx
    rw [hor]
    generalize ht : r * 4294967296 + x = t at *
    have k1 := KeepsOthers.setCell W ⟨w.heap.size + 2, 0, none⟩ (.int .u64 (t : Nat))
    have b1 : Below (w.heap.size + 2) W (W.setCell ⟨w.heap.size + 2, 0, none⟩ (.int .u64 (t : Nat))) := (Below.refl _ W).setCell (p := ⟨w.heap.size + 2, 0, none⟩) (Nat.le_refl _) _
    have e1 := (b1.cell (p := ⟨w.heap.size, 0, none⟩) (by simp)).trans i3
    have e2 := (b1.cell (p := ⟨w.heap.size + 1, 0, none⟩) (by simp)).trans i4
    have e3 : (W.setCell ⟨w.heap.size + 2, 0, none⟩ (.int .u64 (t : Nat))).cell? ⟨w.heap.size + 2, 0, none⟩ = some (.int .u64 (t : Nat)) := World.cell?_setCell_same' _ _ _ (by rw [i5]; rfl)
    have e3f : (W.setCell ⟨w.heap.size + 2, 0, none⟩ (.int .u64 (t : Nat))).frozen? ⟨w.heap.size + 2, 0, none⟩ = false := by rw [World.frozen?_setCell]; exact i6
    have e4 := (b1.block b (by omega)).trans i9
    have e5 : (W.setCell ⟨w.heap.size + 2, 0, none⟩ (.int .u64 (t : Nat))).cell? ⟨w.heap.size + 3, 0, none⟩ = some (.slice (some ⟨b, 0, none⟩) N c) := by
      rw [World.cell?_setCell_other _ _ _ _ (by simp)]; exact i7
    have e6 : ButB w.heap.size b w (W.setCell ⟨w.heap.size + 2, 0, none⟩ (.int .u64 (t : Nat))) := i2.below (b1.mono (by omega)) (Nat.le_refl _)
    have e7 : w.heap.size + 4 ≤ (W.setCell ⟨w.heap.size + 2, 0, none⟩ (.int .u64 (t : Nat))).heap.size := by simpa using i8
    generalize W.setCell ⟨w.heap.size + 2, 0, none⟩ (.int .u64 (t : Nat)) = V at *
    have f1 : V.cell? ⟨b, i, none⟩ = some (.int .u32 (o.getD i 0 : Nat)) := by
      simp only [World.cell?, e4]
      have := nums_get (k := .u32) (l := o) (i := i) (by omega)
      have h2 : i < (nums .u32 o).length := by simp [nums]; omega
      simpa [List.getElem?_append_left h2] using this
    have f2 : V.frozen? ⟨b, i, none⟩ = false := by simp [World.frozen?, e4]
    have hby0 : (by_ : Int) ≠ 0 := by omega
    have hiN : (i : Int) < (N : Int) := by omega
    have hbyN : ¬ by_ = 0 := by omega
    have f3 : ∀ V' : World, SameAt V w.heap.size V' → V'.cell? ⟨w.heap.size, 0, none⟩ = some (.slice (some ⟨b, 0, none⟩) N c) := fun V' h => (World.cell?_of_block (a := ⟨w.heap.size, 0, none⟩) (h.2 (by omega))).trans e1
    have f4 : ∀ V' : World, SameAt V (w.heap.size + 1) V' → V'.cell? ⟨w.heap.size + 1, 0, none⟩ = some (.int .u32 (by_ : Nat)) := fun V' h => (World.cell?_of_block (a := ⟨w.heap.size + 1, 0, none⟩) (h.2 (by omega))).trans e2
    have f5 : ∀ V' : World, SameAt V (w.heap.size + 2) V' → V'.cell? ⟨w.heap.size + 2, 0, none⟩ = some (.int .u64 (t : Nat)) := fun V' h => (World.cell?_of_block (a := ⟨w.heap.size + 2, 0, none⟩) (h.2 (by omega))).trans e3
    refine wpIn_tree hmix (t := .ld 0 (.fl 1 (.ld 2 (.ld 3 (.fl 4 (.fl 5 (.fl 6 (.fl 7 (.act 8 .nil))))))))) (by kernel_rfl) (by rintro ⟨_, _, h⟩; exact h) (by kernel_rfl) (fun _ _ _ _ _ h => h) ?_
    have hby1 : IntKind.u64.wrap (by_ : Int) = (by_ : Int) := nCu64 (by clear z2 z3 z4; omega)
    have hq : IntKind.u64.wrap ((t : Int) / (by_ : Int)) = ((t / by_ : Nat) : Int) := by
      rw [← Int.natCast_ediv]; exact nCu64 (Nat.le_of_lt (Nat.lt_trans z2 (by decide)))
    have hq2 : IntKind.u32.wrap ((t / by_ : Nat) : Int) = ((t / by_ : Nat) : Int) := nCu32 (Nat.le_of_lt_succ z2)
    generalize hu : t / by_ = u at *
    refine W_ld (.slice (some ⟨b, 0, none⟩) N c) w.heap.size rfl rfl (fun V' h => ?_) ?_
    · have := f3 V' h
      simp [go_sem, this]
    refine W_fl (.int .i64 (i : Nat)) rfl rfl (fun V' => ?_) ?_
    · simp [go_sem]
    refine W_ld (.int .u64 (t : Nat)) (w.heap.size + 2) rfl rfl (fun V' h => ?_) ?_
    · have := f5 V' h
      simp [go_sem, this]
    refine W_ld (.int .u32 (by_ : Nat)) (w.heap.size + 1) rfl rfl (fun V' h => ?_) ?_
    · have := f4 V' h
      simp [go_sem, this]
    refine W_fl (.int .u64 (by_ : Nat)) rfl rfl (fun V' => ?_) ?_
    · simp [go_sem, hby1]
    refine W_fl (.int .u64 (u : Nat)) rfl rfl (fun V' => ?_) ?_
    · simp [go_sem, hbyN, hq]
    refine W_fl (.int .u32 (u : Nat)) rfl rfl (fun V' => ?_) ?_
    · simp [go_sem, hq2]
    refine W_fl (.pointer (some ⟨b, i, none⟩)) rfl rfl (fun V' => ?_) ?_
    · simp [go_sem, hiN]
    refine W_st (w' := (V.setCell ⟨b, i, none⟩ (.int .u32 (u : Nat))).drew) rfl rfl rfl ?_ ?_
    · simp [go_sem, f1, f2]
    rename_i hK
    have g0 := KeepsOthers.setCell V ⟨b, i, none⟩ (.int .u32 (u : Nat))
    have g1 : ∀ x, x ≠ b → (V.setCell ⟨b, i, none⟩ (.int .u32 (u : Nat))).drew.heap[x]? = V.heap[x]? := fun x hx => Below.heap_setCell V ⟨b, i, none⟩ _ x hx
    have g2 : (V.setCell ⟨b, i, none⟩ (.int .u32 (u : Nat))).drew.heap[b]? = some (.cells (nums .u32 (o.set i u) ++ rest).toArray T (0, 0)) := by
      show (V.heap.modify b _)[b]? = _
      rw [Array.getElem?_modify]
      simp only [if_true, e4, Option.map_some]
      have := stv_app (k := .u32) (l := o) (rest := rest) (i := i) (x := u) (by omega)
      rw [stv_of _ _ _ (by simp [nums]; omega)] at this
      injection this with this
      rw [← this]
      simp [List.set_eq_take_append_cons_drop, nums]
      intro h
      omega
    have g3 := (KeepsOthers.trans g0 (KeepsOthers.drew _))
    have g4 : ButB w.heap.size b w (V.setCell ⟨b, i, none⟩ (.int .u32 (u : Nat))).drew := by
      have h := e6.setB i (.int .u32 (u : Nat))
      exact ⟨h.os, h.tape, h.output, h.size, h.block⟩
    have g5 : w.heap.size + 4 ≤ (V.setCell ⟨b, i, none⟩ (.int .u32 (u : Nat))).drew.heap.size := by simpa using e7
    have g6 : ∀ x, b ≠ x → (V.setCell ⟨b, i, none⟩ (.int .u32 (u : Nat))).drew.cell? ⟨x, 0, none⟩ = V.cell? ⟨x, 0, none⟩ := fun x hx => World.cell?_of_block (a := ⟨x, 0, none⟩) (g1 x (Ne.symm hx))
    have g7 : ∀ x, b ≠ x → (V.setCell ⟨b, i, none⟩ (.int .u32 (u : Nat))).drew.frozen? ⟨x, 0, none⟩ = V.frozen? ⟨x, 0, none⟩ := fun x hx => World.frozen?_of_block (a := ⟨x, 0, none⟩) (g1 x (Ne.symm hx))
    have k2 : KeepsOthers W (V.setCell ⟨b, i, none⟩ (.int .u32 (u : Nat))).drew := k1.trans g3
    have h1 := (g6 _ (by omega)).trans e1
    have h2 := (g6 _ (by omega)).trans e2
    have h3 := (g6 _ (by omega)).trans e3
    have h3f := (g7 _ (by omega)).trans e3f
    have h5 := (g6 _ (by omega)).trans e5
    refine hK _ _ ?_
    generalize (V.setCell ⟨b, i, none⟩ (.int .u32 (u : Nat))).drew = V2 at *
    have hmod : (t : Int).tmod (by_ : Int) = ((t % by_ : Nat) : Int) := by rw [Int.natCast_emod, Int.tmod_eq_emod_of_nonneg (Int.natCast_nonneg _)]
    gi_wp2
    have b2 : Below (w.heap.size + 2) V2 (V2.setCell ⟨w.heap.size + 2, 0, none⟩ (.int .u64 (t % by_ : Nat))) := (Below.refl _ V2).setCell (p := ⟨w.heap.size + 2, 0, none⟩) (Nat.le_refl _) _
    rw [show ((t : Int) % (by_ : Int)) = ((t % by_ : Nat) : Int) from (Int.natCast_emod t by_).symm]
    refine ⟨k2.trans (KeepsOthers.setCell _ _ _), o.set i u, t % by_, by omega, g4.below (b2.mono (by omega)) (Nat.le_refl _), (b2.cell (p := ⟨w.heap.size, 0, none⟩) (by simp)).trans h1, (b2.cell (p := ⟨w.heap.size + 1, 0, none⟩) (by simp)).trans h2,
      World.cell?_setCell_same' _ _ _ (by rw [h3]; rfl), by rw [World.frozen?_setCell]; exact h3f, by rw [World.cell?_setCell_other _ _ _ _ (by simp)]; exact h5, by simpa using g5, (b2.block b (by omega)).trans g2, by simpa using i10, i11.set z2, z3, fun j hj => ?_, by rw [ek]; exact z4⟩
    rw [← i13 j (by omega)]
    simp only [List.getD]
    rw [List.getElem?_set_ne (by omega)]
  case done =>
    rintro W ⟨o, r, i1, i2, i3, i4, i5, i6, i7, i8, i9, i10, i11, i12, i13, i14⟩ hD
    have hb : Below (w.heap.size + 4) W (W.putObj W4.heap.size (.deferred none)) := below_put _ _ _ (by omega)
    have hr32 : IntKind.u32.wrap (r : Int) = (r : Int) := nCu32 (Nat.le_of_lt_succ (Nat.lt_trans i12 hby2))
    rw [Nat.sub_self, List.drop_zero, List.drop_zero] at i14
    have e1 : val l % by_ = r := by rw [i14, Nat.add_comm, Nat.add_mul_mod_self_right, Nat.mod_eq_of_lt i12]
    have e2 : val l / by_ = val o := by rw [i14, Nat.add_comm, Nat.add_mul_div_right _ _ hby, Nat.div_eq_of_lt i12, Nat.zero_add]
    gi_wp2
    refine ⟨by simp, .inl ⟨_, _, rfl, run_takeDeferred hD, ?_⟩⟩
    refine ⟨_, results_tmp rfl _ _ _, o, ?_, by rw [i10], i11, e2.symm, (hb.block b (by omega)).trans i9, i2.below (hb.mono (by omega)) (Nat.le_refl _)⟩
    rw [e1]
    simp
  case stop =>
    intro k W h
    exact h.elim

theorem short_ok (H : PH) (T : TypeId) (M : PH) (A : Option Addr) (l : List Nat) (c by_ : Nat) (hO : Own .u32 T M A l c) (hlim : Lim l) (h0 : l ≠ []) (hl : l.length ≤ 1000000000) (hby : 0 < by_) (hby2 : by_ < 4294967296) :
    Fn Tryz.prog 108 [.slice A l.length c, .int .u32 (by_ : Nat)] H M fun v H' M' => ∃ o : List Nat, v = .int .u32 (val l % by_ : Nat) ∧ H' = H ∧ o.length = l.length ∧ Lim o ∧ val o = val l / by_ ∧ Own .u32 T M' A o c ∧ But M M' A := by
  rcases hO with ⟨_, h, _⟩ | ⟨b, rest, rfl, hM, hc, hcm⟩
  · exact absurd h h0
  intro w hH hMw hd
  have hw := hMw b _ hM
  refine ((callsIn_wide (n := 3)).1 (short_in b by_ l rest c T hl hlim (List.length_pos_iff.2 h0) (by omega) hby hby2 w hw)).mono ?_
  rintro e w' ⟨o, rfl, ho, hlo, hv, hw', hB⟩
  refine ⟨_, H, M.set b (.cells (nums .u32 o ++ rest).toArray T (0, 0)), rfl, ⟨hB.os, hB.tape, hB.output, hB.size, fun k hk hn => hB.block k hk (fun e => by rw [e, hM] at hn; cases hn)⟩, PH.le.refl _, fun k ob hk => ?_, fun k ob hk => ?_, hd.set (hd.at hM), fun k hk => .inl hk, fun k hk => ?_,
    o, rfl, rfl, ho, hlo, hv, .inr ⟨b, rest, rfl, PH.set_self _ _ _, by omega, hcm⟩, fun k ob hk hne => ?_⟩
  · have h := hH k ob hk
    rw [hB.block k (Array.getElem?_eq_some_iff.1 h).1 (fun e => by rw [e] at hk; rw [hd.at hM] at hk; cases hk)]
    exact h
  · by_cases hkb : k = b
    · subst hkb
      rw [PH.set_self] at hk
      injection hk with hk
      rw [← hk]; exact hw'
    · rw [PH.set_ne _ _ hkb] at hk
      have h := hMw k ob hk
      rw [hB.block k (Array.getElem?_eq_some_iff.1 h).1 hkb]
      exact h
  · by_cases hkb : k = b
    · left; rw [hkb, hM]; simp
    · rw [PH.set_ne _ _ hkb] at hk; exact .inl hk
  · rw [PH.set_ne _ _ (fun e => hne (by rw [e]))]
    exact hk

end Go.Proofs.YtccdhgjfcgfgoaaGreat.X
