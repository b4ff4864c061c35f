/- A range over slices.Backward: one law for the caller's loop. -/
import Derived.RangeFuncNested
import Derived.RangeFuncBound
import Derived.RangeFuncCalls
import Derived.RangeFuncLeaves
import Derived.RangeFuncBox
import Derived.Shelf.Abstract
import Derived.Shelf.RegionOpen
import Derived.WalkKit
import Derived.OwnWalkIn
import Derived.TacticsInMore
import Derived.LoopNIn
import Derived.LoopIn
import Derived.Test.YtlhhdlhnpgiamaaDoorXJ
set_option linter.unusedVariables false
namespace Go.Proofs.YtlhhdlhnpgiamaaDoor.X
open Go Go.RowKit

def backPost (I : Nat → World → Prop) (Ix : Nat → World → Prop) (k : Nat) (W : World) : Exit → Act → World → Prop
  | .normal, _, W' => KeepsOthers W W' ∧ I (k + 1) W'
  | .ret, _, W' => KeepsOthers W W' ∧ Ix k W'
  | _, _, _ => False

/-- what the iterator does: it calls yield at encs 0, encs 1, .. and turns nothing itself -/
def Iter (F : Fence) (n : Nat) (P : Program) (gf : Nat) (lb : Array Value) (encs : Nat → Array Value) (N : Nat) (I : Nat → World → Prop) : Prop :=
  ∀ (l : Nat) (Z : World → Prop) (Zx : Nat → World → Prop) (W : World),
    (∀ k W1, I k W1 → Z W1 → k < N → YieldAt F (n - 1) P l (encs k) W1 fun e W' => (e = .returned (.bool true) ∧ I (k + 1) W' ∧ Z W') ∨ (e = .returned (.bool false) ∧ Zx k W')) →
    I 0 W → Z W → CallsIn F n P gf (#[.func (.yield l) #[] #[]] ++ lb) W fun e W' => (∃ v, e = .returned v) ∧ ((I N W' ∧ Z W') ∨ ∃ k, Zx k W')

theorem wpIn_back {F : Fence} {n : Nat} {P : Program} {g : Operand} {ps : Array Tmp} {assign body : Code} {Q : Exit → Act → World → Prop} {a : Act} {w : World} (hro : F.round = none) (h1 : 1 ≤ n) {gf : Nat} {lb : Array Value} (hg : a.eval g = .func (.func gf) #[] lb)
    (hFg : F.fn gf) (eg : ∀ args w, (callFunc gf args).run P w = .ok (.enter gf args) w) {N : Nat} {encs : Nat → Array Value} (hps : ∀ k, (encs k).size = ps.size) (I Ix : Nat → World → Prop)
    (hI : ∀ k W r o o', w.heap.size ≤ r → W.heap[r]? = some o → o.isCells = false → I k W → I k (W.putObj r o'))
    (hIx : ∀ k W r o o', w.heap.size ≤ r → W.heap[r]? = some o → o.isCells = false → Ix k W → Ix k (W.putObj r o'))
    (h0 : ∀ r, I 0 ((w.alloc (.deferred (some []))).alloc (.loop r)))
    (hit : Iter F (n - 1) P gf lb encs N I)
    (a₁ : Nat → Act)
    (hassign : ∀ (l k : Nat) (W : World) (K : Act → World → Prop), K (a₁ k) W →
      assign.wpIn (F.inRound l) (n - 1 - 1) P (Exit.then K (fun _ _ _ => False)) { tmps := (ps.zip (encs k)).foldl (fun t (p, v) => t.setIfInBounds p v) a.tmps, defers := [] } W)
    (hbody : ∀ (l k : Nat) (W : World), I k W → k < N → body.wpIn (F.inRound l) (n - 1 - 1) P (backPost I Ix k W) (a₁ k) W)
    (hdone : ∀ (W : World), I N W → W.heap[w.heap.size]? = some (.deferred (some [])) → Q .normal { a with defers := { target := .collected w.heap.size, args := #[] } :: a.defers } W)
    (hstop : ∀ (k : Nat) (W : World), Ix k W → W.heap[w.heap.size]? = some (.deferred (some [])) → Code.ret.wpIn F n P Q { a with defers := { target := .collected w.heap.size, args := #[] } :: a.defers } W) :
    (Code.rangeFunc g ps assign body).wpIn F n P Q a w := by
  refine wpIn_rangeFunc fun fn hfn => ?_
  rw [hro]
  let R : LoopState → Option Code → Obj := fun st pe => .loop { state := st, pending := pe, fn := fn, tmps := a.tmps, params := ps, assign := assign, body := body, defers := w.heap.size }
  let D : Obj := .deferred (some [])
  let L := w.heap.size + 1
  let W1 := (w.alloc D).alloc (R .ready none)
  have hLrec : W1.heap[L]? = some (R .ready none) := by
    have := World.alloc_heap_new (w.alloc D) (R .ready none)
    rwa [World.size_alloc] at this
  have hLdef : W1.heap[w.heap.size]? = some D := (Below.heap_alloc _ _ _ (by simp)).trans (World.alloc_heap_new w D)
  refine ⟨L, [{ target := .collected w.heap.size, args := #[] }], W1, { target := .fn (.func gf) lb, args := #[.func (.yield L) #[] #[]] }, W1, gf, #[.func (.yield L) #[] #[]] ++ lb, W1,
    run_enterLoop_outer _ _ _ _ _, ?_, ?_, ?_, fun _ => h1, ?_⟩
  · simp only [resolve, hg]
    simp [go_sem]
  · intro f' hf'
    simp [Target.leads] at hf'
    subst hf'
    exact hFg
  · simp [invoke, go_sem, eg]
  · -- the record and the block for deferred calls, at their places
    let Z : World → Prop := fun W => W.heap[L]? = some (R .ready none) ∧ W.heap[w.heap.size]? = some D
    refine (hit L Z (fun k W => Ix k W ∧ W.heap[L]? = some (R .done (some .ret)) ∧ W.heap[w.heap.size]? = some D) W1 ?_ (h0 _) ⟨hLrec, hLdef⟩).mono ?_
    · rintro k W hk ⟨hl, hd⟩ hlt
      have hL : L < W.heap.size := (Array.getElem?_eq_some_iff.1 hl).1
      refine ⟨fn, _, assign, body, run_yield hl (hps k), roundIn_of_wpIn hfn (hassign L k W _ ⟨_, run_beginRound hl rfl, ?_⟩)⟩
      have hb1 : (W.putObj L (R .busy none)).heap[L]? = some (R .busy none) := World.putObj_heap_same hL
      have hb2 : (W.putObj L (R .busy none)).heap[w.heap.size]? = some D := (World.putObj_heap_other (Nat.ne_of_lt (Nat.lt_succ_self _))).trans hd
      have last : ∀ (j : Option Code) (V : World), KeepsOthers (W.putObj L (R .busy none)) V →
          (Instr.endRound L j).run P V = .ok (.bool j.isNone) (V.putObj L (R (if j.isNone then .ready else .done) j)) ∧ V.heap[L]? = some (R .busy none) ∧
          (V.putObj L (R (if j.isNone then .ready else .done) j)).heap[L]? = some (R (if j.isNone then .ready else .done) j) ∧ (V.putObj L (R (if j.isNone then .ready else .done) j)).heap[w.heap.size]? = some D := by
        intro j V hV
        have e1 := hV.same L _ hb1 rfl
        exact ⟨run_endRound j e1, e1, World.putObj_heap_same (Array.getElem?_eq_some_iff.1 e1).1, (World.putObj_heap_other (Nat.ne_of_lt (Nat.lt_succ_self _))).trans (hV.same _ _ hb2 rfl)⟩
      refine wpIn_mono (hbody L k _ (hI k W L _ _ (Nat.le_succ _) hl rfl hk) hlt) ?_
      intro e a3 V hp
      cases e with
      | normal =>
        obtain ⟨h2, h3⟩ := hp
        obtain ⟨r1, r2, r3, r4⟩ := last none V h2
        exact ⟨_, _, r1, .inl ⟨rfl, hI _ V L _ _ (Nat.le_succ _) r2 rfl h3, r3, r4⟩⟩
      | ret =>
        obtain ⟨h2, h3⟩ := hp
        obtain ⟨r1, r2, r3, r4⟩ := last (some .ret) V h2
        exact ⟨_, _, r1, .inr ⟨rfl, hIx _ V L _ _ (Nat.le_succ _) r2 rfl h3, r3, r4⟩⟩
      | exit i => exact hp.elim
      | goto i => exact hp.elim
      | panic c => exact hp.elim
      | outgrown => exact hp.elim
    · rintro e V ⟨⟨v, rfl⟩, h | ⟨k, h⟩⟩
      · obtain ⟨h2, h3, h4⟩ := h
        exact ⟨none, _, run_endLoop h3 (by simp), hdone _ (hI _ V L _ _ (Nat.le_succ _) h3 rfl h2) ((World.putObj_heap_other (Nat.ne_of_lt (Nat.lt_succ_self _))).trans h4)⟩
      · obtain ⟨h2, h3, h4⟩ := h
        exact ⟨some .ret, _, run_endLoop h3 (by simp), hstop k _ (hIx _ V L _ _ (Nat.le_succ _) h3 rfl h2) ((World.putObj_heap_other (Nat.ne_of_lt (Nat.lt_succ_self _))).trans h4)⟩

end Go.Proofs.YtlhhdlhnpgiamaaDoor.X
