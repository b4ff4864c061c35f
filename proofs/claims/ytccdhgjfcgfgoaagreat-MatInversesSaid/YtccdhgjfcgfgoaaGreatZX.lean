/- Regions whose order is drawn: one walk over a tree of operation numbers serves every order. -/
import Derived.OrdersHeld
import Derived.Below
import Derived.Laws.StructEq
import Derived.ChangeKeysEq
import Derived.WalkKit
import Derived.Laws.Cover3
import Derived.Laws.Slices
import Derived.Laws.MakeOwn
import Derived.Laws.Rows
import Derived.Laws.OwnMore
import Derived.Laws.BytesString
import Derived.Laws.CopyRow
import Derived.Maps.AppendAt
import Derived.Lib.ConvBytes
import Derived.Deep.LoopGhost
set_option linter.unusedVariables false
set_option linter.unusedSimpArgs false
namespace Go.Proofs.YtccdhgjfcgfgoaaGreat.X
open Go Go.RowKit

/-- A tree of operations' numbers: 'fl' a pure one, 'ld' a load, 'act' any; 'alt': either may come. -/
inductive IT where
  | nil
  | fl (i : Nat) (rest : IT)
  | ld (i : Nat) (rest : IT)
  | act (i : Nat) (rest : IT)
  | alt (l r : IT)

def IT.heads : IT → List Nat
  | .act i _ => [i]
  | .alt l r => l.heads ++ r.heads
  | _ => []

def IT.depth : IT → Nat
  | .nil => 0
  | .fl _ r | .ld _ r | .act _ r => r.depth + 1
  | .alt l r => max l.depth r.depth

def isPure (ops : Array Oper) (i : Nat) : Bool :=
  match ops[i]? with
  | some o => (match o.op with | .move _ | .assign _ | .pick .. | .binOp .. | .unOp .. | .convert .. | .fieldAddr .. | .field .. | .indexAddr .. | .index .. | .extract .. | .slice .. | .build .. | .call _ => true | _ => false)
  | none => false

/-- Operations that may turn a block that stood before. -/
def isStore (ops : Array Oper) (i : Nat) : Bool :=
  match ops[i]? with
  | some o => (match o.op with | .store .. => true | _ => false)
  | none => false

/-- Does j come behind i in every order? -/
def anc (ops : Array Oper) : Nat → Nat → Nat → Bool
  | 0, _, _ => false
  | n + 1, j, i =>
    match ops[j]? with
    | none => false
    | some o => o.after.toList.any fun e => Region.binds .any e && (e.on == i || anc ops n e.on i)

def SameAt (w0 : World) (b : Nat) (w : World) : Prop := w0.heap.size ≤ w.heap.size ∧ (b < w0.heap.size → w.heap[b]? = w0.heap[b]?)

theorem SameAt.refl (w : World) (b : Nat) : SameAt w b w := ⟨Nat.le_refl _, fun _ => rfl⟩
theorem SameAt.below {w0 w w' : World} {b : Nat} (h : SameAt w0 b w) (hb : Below w.heap.size w w') : SameAt w0 b w' :=
  ⟨Nat.le_trans h.1 hb.size, fun hlt => (hb.block b (Nat.lt_of_lt_of_le hlt h.1)).trans (h.2 hlt)⟩

section
variable (P : Program) (ops : Array Oper) (Q : Exit → Act → World → Prop)

/-- The walk over a tree; L: the blocks that were read. -/
def W : List Nat → IT → Act → World → Prop
  | _, .nil, a, w => Q .normal a w
  | L, .fl i r, a, w => ∃ o v, ops[i]? = some o ∧ Yields P ops o v a ∧ W L r (a.put o.dst v) w
  | L, .ld i r, a, w => (∃ o v, ops[i]? = some o ∧ Yields P ops o v a ∧ W L r (a.put o.dst v) w) ∨ ∃ o v b, ops[i]? = some o ∧ YieldsIf P ops (SameAt w b) o v a ∧ W (b :: L) r (a.put o.dst v) w
  | L, .act i r, a, w => wpOp P ops Q i (fun a' w' => (isStore ops i = false → w.heap.size ≤ w'.heap.size ∧ ∀ b ∈ L, b < w.heap.size → w'.heap[b]? = w.heap[b]?) ∧ W L r a' w') a w
  | L, .alt l r, a, w => W L l a w ∧ W L r a w

/-- May the tree be walked from here? (listed: what has come; lds: loads that were taken; br: those whose block may have turned since) -/
def chk : Bool → IT → Array Bool → List Nat → List Nat → Bool
  | _, .nil, listed, _, _ => (Region.ready .any ops listed).isEmpty
  | _, .fl i r, listed, lds, br => (Region.ready .any ops listed).contains i && isPure ops i && Region.free .any ops listed i && br.all (fun b => anc ops ops.size i b) && chk true r (listed.setIfInBounds i true) lds br
  | _, .ld i r, listed, lds, br => (Region.ready .any ops listed).contains i && Region.free .any ops listed i && br.all (fun b => anc ops ops.size i b) && chk true r (listed.setIfInBounds i true) (i :: lds) br
  | top, .act i r, listed, lds, br => (!top || (Region.ready .any ops listed).all (· == i)) && (Region.ready .any ops listed).contains i && br.all (fun b => anc ops ops.size i b) &&
      (!isStore ops i || lds.all (fun l => anc ops ops.size i l)) && chk true r (listed.setIfInBounds i true) lds (if isStore ops i then lds ++ br else br)
  | top, .alt l r, listed, lds, br => (!top || (Region.ready .any ops listed).all (fun j => (l.heads ++ r.heads).contains j)) && chk false l listed lds br && chk false r listed lds br &&
      (match l with | .act .. | .alt .. => true | _ => false) && (match r with | .act .. | .alt .. => true | _ => false)

def chkTop (t : IT) : Bool := Region.noSelect ops && decide (t.depth ≤ ops.size) && chk ops true t (Array.replicate ops.size false) [] []

/-- Whatever order is picked from here on, and D is met behind each operation that turns the world. -/
def wpAnyD (D : Nat → World → Prop) : Nat → Array Bool → Act → World → Prop
  | 0, listed, a, w => Region.ready .any ops listed = [] ∧ Q .normal a w
  | f + 1, listed, a, w => (Region.ready .any ops listed = [] → Q .normal a w) ∧
    ∀ i ∈ Region.ready .any ops listed, wpOp P ops Q i (fun a' w' => (D i w' ∨ w' = w) ∧ wpAnyD D f (listed.setIfInBounds i true) a' w') a w
end

section
variable {P : Program} {ops : Array Oper} {Q : Exit → Act → World → Prop}

theorem wpAny_of_D {D : Nat → World → Prop} : ∀ (f : Nat) (listed : Array Bool) (a : Act) (w : World), wpAnyD P ops Q D f listed a w → wpAny P .any ops Q f listed a w
  | 0, _, _, _, h => h
  | f + 1, _, _, _, h => ⟨h.1, fun i hi => wpOp_mono (fun a' w' h' => wpAny_of_D f _ a' w' h'.2) (h.2 i hi)⟩

theorem wpAnyD_mono {D D' : Nat → World → Prop} (hD : ∀ j w, D j w → D' j w) : ∀ (f : Nat) (listed : Array Bool) (a : Act) (w : World), wpAnyD P ops Q D f listed a w → wpAnyD P ops Q D' f listed a w
  | 0, _, _, _, h => h
  | f + 1, _, _, _, h => ⟨h.1, fun i hi => wpOp_mono (fun a' w' h' => ⟨h'.1.imp (hD i w') id, wpAnyD_mono hD f _ a' w' h'.2⟩) (h.2 i hi)⟩

theorem wpAnyD_done {D : Nat → World → Prop} {listed : Array Bool} {a : Act} {w : World} (hr : Region.ready .any ops listed = []) (h : Q .normal a w) :
    ∀ f, wpAnyD P ops Q D f listed a w
  | 0 => ⟨hr, h⟩
  | _ + 1 => ⟨fun _ => h, by rw [hr]; simp⟩

/-- What has come is closed downwards. -/
def Closed (ops : Array Oper) (listed : Array Bool) : Prop :=
  ∀ (j : Nat) (o : Oper), ops[j]? = some o → listed.getD j false = true → ∀ e ∈ o.after, Region.binds .any e = true → listed.getD e.on false = true

theorem Closed.set {listed : Array Bool} (h : Closed ops listed) {i : Nat} (hi : i ∈ Region.ready .any ops listed) : Closed ops (listed.setIfInBounds i true) := by
  intro j o ho hl e he hb
  by_cases hij : i = j
  · subst hij
    obtain ⟨_, o', ho', hall⟩ := mem_ready.1 hi
    rw [ho] at ho'; injection ho' with ho'; subst ho'
    exact getD_set_true (hall e he hb)
  · rw [getD_set_ne false hij] at hl
    exact getD_set_true (h j o ho hl e he hb)

theorem anc_listed {listed : Array Bool} (h : Closed ops listed) : ∀ (n j i : Nat), (∀ o, ops[j]? = some o → ∀ e ∈ o.after, Region.binds .any e = true → listed.getD e.on false = true) →
    anc ops n j i = true → listed.getD i false = true
  | 0, _, _, _, ha => by simp [anc] at ha
  | n + 1, j, i, hj, ha => by
    unfold anc at ha
    cases ho : ops[j]? with
    | none => simp [ho] at ha
    | some o =>
      simp only [ho, List.any_eq_true, Bool.and_eq_true, Bool.or_eq_true, beq_iff_eq] at ha
      obtain ⟨e, he, hb, hor⟩ := ha
      have hl := hj o ho e (by simpa using he) hb
      rcases hor with rfl | hor
      · exact hl
      · exact anc_listed h n e.on i (fun o' ho' e' he' hb' => h e.on o' ho' hl e' he' hb') hor

theorem not_anc {listed : Array Bool} (h : Closed ops listed) {i j n : Nat} (hi : i ∈ Region.ready .any ops listed) (hj : j ∈ Region.ready .any ops listed) : anc ops n j i = false := by
  cases ha : anc ops n j i with
  | false => rfl
  | true =>
    obtain ⟨_, o, ho, hall⟩ := mem_ready.1 hj
    have hl := anc_listed h n j i (fun o' ho' => by rw [ho] at ho'; injection ho' with ho'; subst ho'; exact hall) ha
    have h0 := (mem_ready.1 hi).1
    rcases Nat.lt_or_ge i listed.size with h' | h'
    · simp [h'] at h0 hl; rw [h0] at hl; cases hl
    · simp [Array.getElem?_eq_none h'] at hl

theorem wpAnyD_first {D : Nat → World → Prop} {S : World → Prop} {i : Nat} {oi : Oper} {v : Value} (hi : ops[i]? = some oi) (hsel : ∀ (j : Nat) (o : Oper) cs b, ops[j]? = some o → o.op ≠ .select cs b)
    (hQ : ∀ c a w, Q (.panic c) (a.put oi.dst v) w → Q (.panic c) a w) (hD : ∀ j w, anc ops ops.size j i = false → D j w → S w) :
    ∀ (f : Nat) (listed : Array Bool) (a : Act) (w : World), Closed ops listed →
      (∀ j oj, ops[j]? = some oj → j ≠ i → listed.getD j true = false → (∀ e ∈ oj.after, Region.binds .any e = true → e.on ≠ i) → oi.apart ops oj = true) →
      i ∈ Region.ready .any ops listed → YieldsIf P ops S oi v a → S w →
      wpAnyD P ops Q D f (listed.setIfInBounds i true) (a.put oi.dst v) w → wpAnyD P ops Q D (f + 1) listed a w := by
  intro f
  induction f with
  | zero =>
    intro listed a w _ _ hr hy hS H
    refine ⟨fun h => (by rw [h] at hr; cases hr), fun j hj => ?_⟩
    by_cases hji : j = i
    · subst hji; exact hy.wpOp hi hS ⟨.inr rfl, H⟩
    · have := ready_mono hj hji
      rw [H.1] at this
      cases this
  | succ f ih =>
    intro listed a w hcl hfree hr hy hS H
    refine ⟨fun h => (by rw [h] at hr; cases hr), fun j hj => ?_⟩
    by_cases hji : j = i
    · subst hji; exact hy.wpOp hi hS ⟨.inr rfl, H⟩
    · have h1 := H.2 j (ready_mono hj hji)
      obtain ⟨hjun, oj, hoj, hall⟩ := mem_ready.1 hj
      have hnot : ∀ e ∈ oj.after, Region.binds .any e = true → e.on ≠ i := fun e he hb heq => by
        have h1 := hall e he hb
        have h0 := (mem_ready.1 hr).1
        rw [heq] at h1
        rcases Nat.lt_or_ge i listed.size with h' | h'
        · simp [h'] at h0 h1; rw [h0] at h1; cases h1
        · simp [Array.getElem?_eq_none h'] at h1
      have h2 := wpOp_putIf hoj (hfree j oj hoj hji hjun hnot) (fun cs b => hsel i oi cs b hi) (fun cs b => hsel j oj cs b hoj) hQ hy h1
      have hfree' : ∀ k ok, ops[k]? = some ok → k ≠ i → (listed.setIfInBounds j true).getD k true = false →
          (∀ e ∈ ok.after, Region.binds .any e = true → e.on ≠ i) → oi.apart ops ok = true := fun k ok hk hki hun hno => by
        refine hfree k ok hk hki ?_ hno
        by_cases hjk : j = k
        · subst hjk; exact hjun
        · rw [getD_set_ne true hjk] at hun; exact hun
      refine wpOp_mono (fun a' w' h3 => ⟨h3.2.1, ih (listed.setIfInBounds j true) a' w' (hcl.set hj) hfree' (ready_mono hr (Ne.symm hji)) h3.1 ?_ ?_⟩) h2
      · rcases h3.2.1 with hd | he
        · exact hD j w' (not_anc hcl hr hj) hd
        · rw [he]; exact hS
      · rw [Array.setIfInBounds_comm _ _ hji]
        exact h3.2.2

/-- A load that was taken: its number, the world then, its block. -/
structure Held where
  i : Nat
  w : World
  b : Nat

def DL (ops : Array Oper) (L : List Held) (j : Nat) (w : World) : Prop := ∀ h ∈ L, anc ops ops.size j h.i = false → SameAt h.w h.b w

theorem chk_head (t : IT) : ∀ (top : Bool) (listed : Array Bool) (lds br : List Nat), chk ops top t listed lds br = true → (match t with | .act .. | .alt .. => true | _ => false) = true →
    1 ≤ t.depth ∧ ∃ i, i ∈ Region.ready .any ops listed := by
  induction t with
  | nil => intro _ _ _ _ _ h; simp at h
  | fl i r _ => intro _ _ _ _ _ h; simp at h
  | ld i r _ => intro _ _ _ _ _ h; simp at h
  | act i r _ =>
    intro top listed lds br hc _
    simp only [chk, Bool.and_eq_true] at hc
    exact ⟨by simp [IT.depth], i, by simpa using hc.1.1.1.2⟩
  | alt l r ihl _ =>
    intro top listed lds br hc _
    simp only [chk, Bool.and_eq_true] at hc
    obtain ⟨h1, h2⟩ := ihl false listed lds br hc.1.1.1.2 hc.1.2
    exact ⟨by simp only [IT.depth]; omega, h2⟩

theorem chk_sound (hsel : Region.noSelect ops = true) (hQ : ∀ c a w d v, Q (.panic c) (Act.put a d v) w → Q (.panic c) a w) (t : IT) :
    ∀ (listed : Array Bool) (lds br : List Nat) (L : List Held) (Lb : List Nat) (a : Act) (w : World), Closed ops listed →
      (∀ h ∈ L, h.i ∈ lds) → (∀ h ∈ L, h.b ∈ Lb) → (∀ h ∈ L, SameAt h.w h.b w ∨ h.i ∈ br) → W P ops Q Lb t a w →
      (chk ops true t listed lds br = true → ∀ f, t.depth ≤ f → wpAnyD P ops Q (DL ops L) f listed a w) ∧
      (chk ops false t listed lds br = true → (match t with | .act .. | .alt .. => True | _ => False) → ∀ i ∈ t.heads, ∀ f, t.depth ≤ f + 1 →
        wpOp P ops Q i (fun a' w' => (DL ops L i w' ∨ w' = w) ∧ wpAnyD P ops Q (DL ops L) f (listed.setIfInBounds i true) a' w') a w) := by
  induction t with
  | nil =>
    intro listed lds br L Lb a w _ _ _ _ hW
    refine ⟨fun hc f _ => ?_, fun _ h => h.elim⟩
    simp only [chk, List.isEmpty_iff] at hc
    exact wpAnyD_done hc hW f
  | fl i r ih =>
    intro listed lds br L Lb a w hcl hl hlb hL hW
    refine ⟨fun hc f hf => ?_, fun _ h => h.elim⟩
    obtain ⟨o, v, ho, hy, hW⟩ := hW
    simp only [chk, Bool.and_eq_true] at hc
    obtain ⟨⟨⟨⟨hr, _⟩, hfr⟩, _⟩, hc⟩ := hc
    have hr' : i ∈ Region.ready .any ops listed := by simpa using hr
    obtain ⟨f, rfl⟩ : ∃ m, f = m + 1 := ⟨f - 1, by simp only [IT.depth] at hf; omega⟩
    refine wpAnyD_first (S := fun _ => True) ho (Region.noSelect_spec hsel) (fun c a w => hQ c a w _ _) (fun _ _ _ _ => trivial) f listed a w hcl (Region.free_spec ho hfr) hr' hy.yieldsIf trivial ?_
    exact (ih _ lds br L Lb _ w (hcl.set hr') hl hlb hL hW).1 hc f (by simp only [IT.depth] at hf; omega)
  | ld i r ih =>
    intro listed lds br L Lb a w hcl hl hlb hL hW
    refine ⟨fun hc f hf => ?_, fun _ h => h.elim⟩
    simp only [chk, Bool.and_eq_true] at hc
    obtain ⟨⟨⟨hr, hfr⟩, _⟩, hc⟩ := hc
    have hr' : i ∈ Region.ready .any ops listed := by simpa using hr
    obtain ⟨f, rfl⟩ : ∃ m, f = m + 1 := ⟨f - 1, by simp only [IT.depth] at hf; omega⟩
    rcases hW with ⟨o, v, ho, hy, hW⟩ | ⟨o, v, b, ho, hy, hW⟩
    · refine wpAnyD_first (S := fun _ => True) ho (Region.noSelect_spec hsel) (fun c a w => hQ c a w _ _) (fun _ _ _ _ => trivial) f listed a w hcl (Region.free_spec ho hfr) hr' hy.yieldsIf trivial ?_
      exact (ih _ (i :: lds) br L Lb _ w (hcl.set hr') (fun h hh => List.mem_cons_of_mem _ (hl h hh)) hlb hL hW).1 hc f (by simp only [IT.depth] at hf; omega)
    have h1 := (ih _ (i :: lds) br (⟨i, w, b⟩ :: L) (b :: Lb) _ w (hcl.set hr') (fun h hh => by
      rcases List.mem_cons.1 hh with rfl | hh
      · exact List.mem_cons_self
      · exact List.mem_cons_of_mem _ (hl h hh)) (fun h hh => by
      rcases List.mem_cons.1 hh with rfl | hh
      · exact List.mem_cons_self
      · exact List.mem_cons_of_mem _ (hlb h hh)) (fun h hh => by
      rcases List.mem_cons.1 hh with rfl | hh
      · exact .inl (SameAt.refl _ _)
      · exact hL h hh) hW).1 hc f (by simp only [IT.depth] at hf; omega)
    have h2 := wpAnyD_first (D := DL ops (⟨i, w, b⟩ :: L)) (S := SameAt w b) ho (Region.noSelect_spec hsel) (fun c a w => hQ c a w _ _)
      (fun j w' ha hd => hd ⟨i, w, b⟩ List.mem_cons_self ha) f listed a w hcl (Region.free_spec ho hfr) hr' hy (SameAt.refl _ _) h1
    exact wpAnyD_mono (fun j w' hd h hh => hd h (List.mem_cons_of_mem _ hh)) _ _ _ _ h2
  | act i r ih =>
    intro listed lds br L Lb a w hcl hl hlb hL hW
    have key : ∀ top, chk ops top (.act i r) listed lds br = true → ∀ f, r.depth ≤ f →
        wpOp P ops Q i (fun a' w' => (DL ops L i w' ∨ w' = w) ∧ wpAnyD P ops Q (DL ops L) f (listed.setIfInBounds i true) a' w') a w := by
      intro top hc f hf
      simp only [chk, Bool.and_eq_true] at hc
      obtain ⟨⟨⟨⟨_, hr⟩, hbr⟩, hst⟩, hc⟩ := hc
      have hr' : i ∈ Region.ready .any ops listed := by simpa using hr
      refine wpOp_mono (fun a' w' h => ?_) hW
      obtain ⟨hb, hW'⟩ := h
      cases hs : isStore ops i with
      | false =>
        obtain ⟨hsz, hbel⟩ := hb hs
        have hkeep : ∀ h ∈ L, SameAt h.w h.b w → SameAt h.w h.b w' := fun h hh hS =>
          ⟨Nat.le_trans hS.1 hsz, fun hlt => (hbel h.b (hlb h hh) (Nat.lt_of_lt_of_le hlt hS.1)).trans (hS.2 hlt)⟩
        simp only [hs, Bool.false_eq_true, if_false] at hc
        refine ⟨.inl fun h hh ha => ?_, ?_⟩
        · rcases hL h hh with hS | hbk
          · exact hkeep h hh hS
          · have := List.all_eq_true.1 hbr h.i hbk
            rw [ha] at this; cases this
        · exact (ih _ lds br L Lb a' w' (hcl.set hr') hl hlb (fun h hh => (hL h hh).imp (hkeep h hh) id) hW').1 hc f hf
      | true =>
        simp only [hs, if_true, Bool.not_true, Bool.false_or] at hc hst
        refine ⟨.inl fun h hh ha => ?_, ?_⟩
        · have := List.all_eq_true.1 hst h.i (hl h hh)
          rw [ha] at this; cases this
        · exact (ih _ lds (lds ++ br) L Lb a' w' (hcl.set hr') hl hlb (fun h hh => .inr (List.mem_append_left _ (hl h hh))) hW').1 hc f hf
    refine ⟨fun hc f hf => ?_, fun hc _ j hj f hf => ?_⟩
    · obtain ⟨f, rfl⟩ : ∃ m, f = m + 1 := ⟨f - 1, by simp only [IT.depth] at hf; omega⟩
      have hc' := hc
      simp only [chk, Bool.and_eq_true, Bool.not_true, Bool.false_or] at hc
      obtain ⟨⟨⟨⟨ht, hr⟩, _⟩, _⟩, _⟩ := hc
      have hr' : i ∈ Region.ready .any ops listed := by simpa using hr
      refine ⟨fun h => (by rw [h] at hr'; cases hr'), fun j hj => ?_⟩
      have hji : j = i := by simpa using List.all_eq_true.1 ht j hj
      subst hji
      exact key true hc' f (by simp only [IT.depth] at hf; omega)
    · simp only [IT.heads, List.mem_singleton] at hj
      subst hj
      exact key false hc f (by simp only [IT.depth] at hf; omega)
  | alt l r ihl ihr =>
    intro listed lds br L Lb a w hcl hl hlb hL hW
    have key : ∀ top, chk ops top (.alt l r) listed lds br = true → ∀ j ∈ (IT.alt l r).heads, ∀ f, (IT.alt l r).depth ≤ f + 1 →
        wpOp P ops Q j (fun a' w' => (DL ops L j w' ∨ w' = w) ∧ wpAnyD P ops Q (DL ops L) f (listed.setIfInBounds j true) a' w') a w := by
      intro top hc j hj f hf
      simp only [chk, Bool.and_eq_true] at hc
      obtain ⟨⟨⟨⟨_, hcl'⟩, hcr'⟩, hml⟩, hmr⟩ := hc
      simp only [IT.heads, List.mem_append] at hj
      rcases hj with hj | hj
      · refine (ihl listed lds br L Lb a w hcl hl hlb hL hW.1).2 hcl' ?_ j hj f (by simp only [IT.depth] at hf; omega)
        cases l <;> first | trivial | (simp at hml)
      · refine (ihr listed lds br L Lb a w hcl hl hlb hL hW.2).2 hcr' ?_ j hj f (by simp only [IT.depth] at hf; omega)
        cases r <;> first | trivial | (simp at hmr)
    refine ⟨fun hc f hf => ?_, fun hc _ j hj f hf => key false hc j hj f hf⟩
    have hc' := hc
    simp only [chk, Bool.and_eq_true, Bool.not_true, Bool.false_or] at hc
    obtain ⟨⟨⟨⟨ht, _⟩, _⟩, hml⟩, _⟩ := hc
    obtain ⟨hd, i, hi⟩ := chk_head _ _ _ _ _ hc' rfl
    obtain ⟨f, rfl⟩ : ∃ m, f = m + 1 := ⟨f - 1, by omega⟩
    refine ⟨fun h => (by rw [h] at hi; cases hi), fun j hj => ?_⟩
    exact key true hc' j (by simpa [IT.heads] using List.all_eq_true.1 ht j hj) f hf

/-- **The beginning**: a region that draws, from the world behind the draw. -/
theorem wp_tree {id : Nat} {t : IT} {a : Act} {w : World} (hm : P.follows .mixedOrders = true) (hc : chkTop ops t = true)
    (hQ : ∀ c a w d v, Q (.panic c) (Act.put a d v) w → Q (.panic c) a w) (h : W P ops Q [] t a { w with drawn := w.drawn + 1 }) : (Code.region id ops true).wp P Q a w := by
  simp only [chkTop, Bool.and_eq_true, decide_eq_true_eq] at hc
  refine wp_region_any hm (wpAny_of_D (D := DL ops []) _ _ _ _ ((chk_sound hc.1.1 hQ t _ [] [] [] [] a _ ?_ (by simp) (by simp) (by simp) h).1 hc.2 _ hc.1.2))
  intro j o _ hl e _ _
  simp [Array.getD_eq_getD_getElem?, Array.getElem?_replicate] at hl
  split at hl <;> simp at hl

end
end Go.Proofs.YtccdhgjfcgfgoaaGreat.X
set_option linter.unusedVariables false
set_option linter.unusedSimpArgs false
namespace Go.Proofs.YtccdhgjfcgfgoaaGreat.X
open Go Go.RowKit

abbrev PH := Nat → Option Obj
def PH.le (H H' : PH) : Prop := ∀ b o, H b = some o → H' b = some o
def PH.on (H : PH) (w : World) : Prop := ∀ b o, H b = some o → w.heap[b]? = some o
def PH.disj (H M : PH) : Prop := ∀ b o, H b = some o → M b = none
def PH.no : PH := fun _ => none
def PH.set (M : PH) (b : Nat) (o : Obj) : PH := fun x => if x = b then some o else M x
/-- What is left of M where the footprint F has become N. -/
def PH.re (M F N : PH) : PH := fun x => match N x with | some o => some o | none => if (F x).isSome then none else M x

/-- What was at A's block lies at g now (or somewhere that nobody reads). -/
def PH.mvd (M : PH) (A : Option Addr) (g : Nat) (o : Obj) : PH := fun x => if x = g then some o else if A = some ⟨x, 0, none⟩ then none else M x

theorem PH.le.refl (H : PH) : H.le H := fun _ _ h => h
theorem PH.le.trans {A B C : PH} (h : A.le B) (k : B.le C) : A.le C := fun b o hb => k b o (h b o hb)

inductive SV where
  | v (x : Value)
  | ptr (k off : Nat)

structure St where
  fr : List (Nat × SV)
  lh : List (Nat × List Value)
  H : PH
  M : PH

def lk {α : Type} : List (Nat × α) → Nat → Option α
  | [], _ => none
  | (i, x) :: l, j => if i = j then some x else lk l j

def upd {α : Type} : List (Nat × α) → Nat → α → List (Nat × α)
  | [], _, _ => []
  | (i, x) :: l, j, y => if i = j then (i, y) :: l else (i, x) :: upd l j y

def ev (fr : List (Nat × SV)) : Operand → Option SV
  | .tmp t => lk fr t
  | .const x => some (.v x)
  | .global g => some (.v (.pointer (some ⟨g, 0, none⟩)))
  | .func f => some (.v (.func (.func f) #[] #[]))

def St.put (s : St) (d : Nat) (x : SV) : St := ⟨(d, x) :: s.fr, s.lh, s.H, s.M⟩

def cellsL : Value → List Value
  | .agg cs => cs.toList
  | v => [v]

def takeN {α : Type} : Nat → List α → Option (List α)
  | 0, _ => some []
  | _ + 1, [] => none
  | n + 1, x :: l => match takeN n l with | some r => some (x :: r) | none => none

def ldv (agg : Bool) (n off : Nat) (cs : List Value) : Option Value :=
  match agg with
  | true => (match takeN n (cs.drop off) with | some l => some (.agg l.toArray) | none => none)
  | false => (match takeN 1 (cs.drop off) with | some [v] => some v | _ => none)

/-- cells written over from a place on -/
def stv {α : Type} : Nat → List α → List α → Option (List α)
  | 0, [], cs => some cs
  | 0, v :: vs, _ :: cs => (match stv 0 vs cs with | some r => some (v :: r) | none => none)
  | 0, _ :: _, [] => none
  | k + 1, vs, c :: cs => (match stv k vs cs with | some r => some (c :: r) | none => none)
  | _ + 1, _, [] => none

def gateOf (fr : List (Nat × SV)) : Option (Nat × Bool) → Option Bool
  | none => some true
  | some (t, want) => match lk fr t with | some (.v (.bool b)) => some (b == want) | some (.v (.tuple _)) => some false | _ => none

def selSV (b : Bool) (x y : SV) : SV := match b with | true => x | false => y

inductive BRes where
  | val (x : Value)
  | cnd (c : Prop)
  | quo (k : IntKind) (a b : Int)
  | rem (k : IntKind) (a b : Int)
  | shl (k : IntKind) (a b : Int)
  | shr (k : IntKind) (a b : Int)
  | cat (a b : ByteArray)
  | no

def bitsV (op : BinOp) (k : IntKind) (x y : Int) : Int :=
  match op with
  | .and => k.wrap (BitVec.ofInt k.bits x &&& BitVec.ofInt k.bits y).toNat
  | .or => k.wrap (BitVec.ofInt k.bits x ||| BitVec.ofInt k.bits y).toNat
  | .xor => k.wrap (BitVec.ofInt k.bits x ^^^ BitVec.ofInt k.bits y).toNat
  | _ => 0

def binI (op : BinOp) (k : IntKind) (a b : Int) : BRes :=
  match op with
  | .add => .val (.int k (k.wrap (a + b)))
  | .sub => .val (.int k (k.wrap (a - b)))
  | .mul => .val (.int k (k.wrap (a * b)))
  | .and => .val (.int k (bitsV .and k a b))
  | .or => .val (.int k (bitsV .or k a b))
  | .xor => .val (.int k (bitsV .xor k a b))
  | .eql => .cnd (a = b)
  | .neq => .cnd (a ≠ b)
  | .lss => .cnd (a < b)
  | .leq => .cnd (a ≤ b)
  | .gtr => .cnd (b < a)
  | .geq => .cnd (b ≤ a)
  | .quo => .quo k a b
  | .rem => .rem k a b
  | _ => .no

def binV (op : BinOp) (x y : Value) : BRes :=
  match x, y with
  | .int k a, .int k' b =>
    (match op with
    | .shl => .shl k a b
    | .shr => .shr k a b
    | _ => if k = k' then binI op k a b else .no)
  | .string a, .string b =>
    (match op with
    | .add => .cat a b
    | .eql => .cnd (a = b)
    | .neq => .cnd (a ≠ b)
    | _ => .no)
  | _, _ => .no

inductive PI where
  | mv (d : Nat) (x : Operand)
  | pick (d : Nat) (c a b : Operand)
  | new (d : Nat) (cs : List Value)
  | box (d : Nat) (x : Operand)
  | ld (d : Nat) (agg : Bool) (n : Nat) (x : Operand)
  | ldx (d : Nat) (agg : Bool) (n : Nat) (x : Operand)
  | st (n : Nat) (x y : Operand)
  | bin (d : Nat) (op : BinOp) (x y : Operand)
  | beq (d : Nat) (neg : Bool) (x y : Operand)
  | peq (d : Nat) (x y : Operand)
  | isnil (d : Nat) (neg : Bool) (x : Operand)
  | not (d : Nat) (x : Operand)
  | neg (d : Nat) (x : Operand)
  | cv (d : Nat) (k : IntKind) (x : Operand)
  | fa (d : Nat) (off : Nat) (x : Operand)
  | fd (d : Nat) (agg : Bool) (n off : Nat) (x : Operand)
  | ia (d : Nat) (sz : Nat) (x i : Operand)
  | iaA (d : Nat) (sz len : Nat) (x i : Operand)
  | ix (d : Nat) (x i : Operand)
  | ex (d : Nat) (i : Nat) (x : Operand)
  | len (d : Nat) (x : Operand)
  | lens (d : Nat) (x : Operand)
  | mm (d : Nat) (isMax : Bool) (x y : Operand)
  | sl (d : Nat) (sz : Nat) (x lo hi : Operand)
  | slh (d : Nat) (x hi : Operand)
  | sll (d : Nat) (sz : Nat) (x lo : Operand)
  | ss (d : Nat) (x : Operand) (lo hi : Option Operand)
  | bld (d : Nat) (cs : List Value) (parts : List (Nat × Nat × Operand))
  | mk (d : Nat) (T : TypeId) (zs : List Value) (by_ : Nat) (x : Operand)
  | bsl (d : Nat) (T : TypeId) (len : Nat) (cs : List Value) (parts : List (Nat × Nat × Operand))
  | call (d : Nat) (pure : Bool) (f : Nat) (args : List Operand)
  | calv (d : Nat) (pure : Bool) (x : Operand) (args : List Operand)
  | app (d : Nat) (T : TypeId) (sz by_ : Nat) (x y : Operand)
  | b2s (d : Nat) (x : Operand)
  | s2b (d : Nat) (T : TypeId) (x : Operand)
  | nop (d : Nat)

def PI.dst : PI → Option Nat
  | .mv d _ | .pick d .. | .new d _ | .box d _ | .ld d .. | .ldx d .. | .bin d .. | .beq d .. | .peq d .. | .isnil d .. | .not d _ | .neg d _ | .cv d .. | .fa d .. | .fd d .. | .ia d .. | .iaA d ..
  | .ix d .. | .ex d .. | .len d _ | .lens d _ | .mm d .. | .sl d .. | .slh d .. | .sll d .. | .ss d .. | .bld d .. | .mk d .. | .bsl d .. | .call d .. | .calv d .. | .app d .. | .b2s d _ | .s2b d .. | .nop d => some d
  | .st .. => none

inductive PT where
  | nil
  | op (g : Option (Nat × Bool)) (pi : PI) (rest : PT)
  | alt (l r : PT)

abbrev XT := St → (St → Prop) → Prop

def EvIf (c : Prop) (d : Nat) (X : XT) (s : St) (K : St → Prop) : Prop :=
  (c → X (s.put d (.v (.bool true))) K) ∧ (¬ c → X (s.put d (.v (.bool false))) K)
/-- two texts each, the same? -/
def EvPeq (u v : Array Value) (d : Nat) (X : XT) (s : St) (K : St → Prop) : Prop :=
  ∃ a b c e : ByteArray, u = #[.string a, .string b] ∧ v = #[.string c, .string e] ∧ (a = c ∧ b = e → X (s.put d (.v (.bool true))) K) ∧ (¬ (a = c ∧ b = e) → X (s.put d (.v (.bool false))) K)
def EvQuo (k : IntKind) (a b : Int) (d : Nat) (X : XT) (s : St) (K : St → Prop) : Prop := b ≠ 0 ∧ X (s.put d (.v (.int k (k.wrap (a.tdiv b))))) K
def EvRem (k : IntKind) (a b : Int) (d : Nat) (X : XT) (s : St) (K : St → Prop) : Prop := b ≠ 0 ∧ X (s.put d (.v (.int k (a.tmod b)))) K
def EvShl (k : IntKind) (a b : Int) (d : Nat) (X : XT) (s : St) (K : St → Prop) : Prop := 0 ≤ b ∧ b ≤ k.bits ∧ X (s.put d (.v (.int k (k.wrap (a * 2 ^ b.toNat))))) K
def EvShr (k : IntKind) (a b : Int) (d : Nat) (X : XT) (s : St) (K : St → Prop) : Prop := 0 ≤ b ∧ b ≤ k.bits ∧ X (s.put d (.v (.int k (a.fdiv (2 ^ b.toNat))))) K
def EvCat (a b : ByteArray) (d : Nat) (X : XT) (s : St) (K : St → Prop) : Prop := a.size + b.size ≤ 9223372036854775807 ∧ X (s.put d (.v (.string (a ++ b)))) K
def EvIa (sz : Nat) (A : Option Addr) (n : Nat) (j : Int) (d : Nat) (X : XT) (s : St) (K : St → Prop) : Prop :=
  0 ≤ j ∧ j < n ∧ ∃ b off, A = some ⟨b, off, none⟩ ∧ X (s.put d (.v (.pointer (some ⟨b, off + j.toNat * sz, none⟩)))) K
/-- byte i of a string -/
def bAt (t : ByteArray) (i : Nat) : Nat := (t.data.toList.getD i 0).toNat
def EvIx (t : ByteArray) (j : Int) (d : Nat) (X : XT) (s : St) (K : St → Prop) : Prop := 0 ≤ j ∧ j < t.size ∧ X (s.put d (.v (.int .u8 (bAt t j.toNat)))) K
def EvLd (agg : Bool) (n : Nat) (p : Value) (d : Nat) (X : XT) (s : St) (K : St → Prop) : Prop :=
  ∃ b off cs T fz v, p = .pointer (some ⟨b, off, none⟩) ∧ (s.H b = some (.cells cs T fz) ∨ s.M b = some (.cells cs T fz)) ∧ ldv agg n off cs.toList = some v ∧ X (s.put d (.v v)) K
/-- a load that an append may not turn -/
def EvLdx (agg : Bool) (n : Nat) (p : Value) (d : Nat) (X : XT) (s : St) (K : St → Prop) : Prop :=
  ∃ b off cs T fz v, p = .pointer (some ⟨b, off, none⟩) ∧ s.H b = some (.cells cs T fz) ∧ ldv agg n off cs.toList = some v ∧ X (s.put d (.v v)) K
def EvSt (n : Nat) (p y : Value) (X : XT) (s : St) (K : St → Prop) : Prop :=
  ∃ b off cs T fz cs', p = .pointer (some ⟨b, off, none⟩) ∧ s.M b = some (.cells cs T fz) ∧ (fz = (0, 0) ∨ cs.size ≤ fz.1) ∧ (cellsL y).length = n ∧ (∀ u ∈ cellsL y, u.oneCell' = true) ∧
    stv off (cellsL y) cs.toList = some cs' ∧ X ⟨s.fr, s.lh, s.H, s.M.set b (.cells cs'.toArray T fz)⟩ K
def EvMk (T : TypeId) (zs : List Value) (by_ : Nat) (j : Int) (d : Nat) (X : XT) (s : St) (K : St → Prop) : Prop :=
  0 ≤ j ∧ j * by_ ≤ 140737488355328 ∧ j ≤ 9223372036854775807 ∧ ∀ g, s.H g = none → s.M g = none →
    X ⟨(d, .v (.slice (some ⟨g, 0, none⟩) j.toNat j.toNat)) :: s.fr, s.lh, s.H, s.M.set g (.cells (List.replicate j.toNat zs).flatten.toArray T (0, 0))⟩ K
def EvSl (sz : Nat) (A : Option Addr) (c : Nat) (lo hi : Int) (d : Nat) (X : XT) (s : St) (K : St → Prop) : Prop :=
  0 ≤ lo ∧ lo ≤ hi ∧ hi ≤ c ∧ X (s.put d (.v (.slice (if c = lo.toNat then A else A.map (·.add (lo.toNat * sz))) (hi.toNat - lo.toNat) (c - lo.toNat)))) K
def EvSlh (A : Option Addr) (c : Nat) (hi : Int) (d : Nat) (X : XT) (s : St) (K : St → Prop) : Prop :=
  0 ≤ hi ∧ hi ≤ c ∧ X (s.put d (.v (.slice A hi.toNat c))) K
def EvSs (t : ByteArray) (lo hi : Int) (d : Nat) (X : XT) (s : St) (K : St → Prop) : Prop :=
  0 ≤ lo ∧ lo ≤ hi ∧ hi ≤ t.size ∧ X (s.put d (.v (.string (t.extract lo.toNat hi.toNat)))) K
def EvBsl (T : TypeId) (len : Nat) (cs : List Value) (d : Nat) (X : XT) (s : St) (K : St → Prop) : Prop :=
  ∀ g, s.H g = none → s.M g = none → X ⟨(d, .v (.slice (some ⟨g, 0, none⟩) len len)) :: s.fr, s.lh, s.H, s.M.set g (.cells cs.toArray T (0, 0))⟩ K

/-- what a call turns: nothing of what stood but M -/
structure Stp (w w' : World) (M : PH) : Prop where
  os : w'.os = w.os
  tape : w'.tape = w.tape
  output : w'.output = w.output
  size : w.heap.size ≤ w'.heap.size
  block : ∀ b, b < w.heap.size → M b = none → w'.heap[b]? = w.heap[b]?

/-- **A contract**: called with 'vs' where H stands (never to be turned) and M is the caller's to hand on. -/
def Fn (P : Program) (f : Nat) (vs : List Value) (H M : PH) (R : Value → PH → PH → Prop) : Prop :=
  ∀ w : World, H.on w → M.on w → PH.disj H M → Calls P f vs.toArray w fun e w' => ∃ v H' M', e = .returned v ∧ Stp w w' M ∧ H.le H' ∧ H'.on w' ∧ PH.on M' w' ∧ PH.disj H' M' ∧
    (∀ b, H' b ≠ none → H b ≠ none ∨ M b ≠ none ∨ w.heap.size ≤ b) ∧ (∀ b, M' b ≠ none → M b ≠ none ∨ w.heap.size ≤ b) ∧ R v H' M'

/-- what is new lies apart from what was kept -/
def PH.Fresh (M F M' : PH) : Prop := ∀ b, M' b ≠ none → F b ≠ none ∨ M b = none

def EvCall (P : Program) (f : Nat) (vs : List Value) (d : Nat) (X : XT) (s : St) (K : St → Prop) : Prop :=
  ∃ F R, F.le s.M ∧ Fn P f vs s.H F R ∧ ∀ v H' M', s.H.le H' → R v H' M' → PH.disj H' (s.M.re F M') → PH.Fresh s.M F M' → X ⟨(d, .v v) :: s.fr, s.lh, H', s.M.re F M'⟩ K
/-- A call in a region whose order is drawn: it turns nothing. -/
def EvCallP (P : Program) (f : Nat) (vs : List Value) (d : Nat) (X : XT) (s : St) (K : St → Prop) : Prop :=
  ∃ R, Fn P f vs s.H PH.no R ∧ ∀ v H' M', s.H.le H' → R v H' M' → PH.disj H' (s.M.re PH.no M') → PH.Fresh s.M PH.no M' → X ⟨(d, .v v) :: s.fr, s.lh, H', s.M.re PH.no M'⟩ K
/-- append: x's cells are xs (x nil or at a block of M's head), y's are ys. -/
def EvApp (T : TypeId) (sz by_ : Nat) (A : Option Addr) (n c : Nat) (B : Option Addr) (m : Nat) (d : Nat) (X : XT) (s : St) (K : St → Prop) : Prop :=
  (m = 0 ∧ n ≤ c ∧ X (s.put d (.v (.slice A n c))) K) ∨ ∃ xs ys : List Value, xs.length = n * sz ∧ ys.length = m * sz ∧ 1 ≤ m ∧ n + m ≤ 9223372036854775807 ∧ (n + m) * by_ ≤ 140737488355328 ∧ (∀ u ∈ xs, u.oneCell' = true) ∧ (∀ u ∈ ys, u.oneCell' = true) ∧
    ((A = none ∧ n = 0 ∧ c = 0) ∨ ∃ g rest, A = some ⟨g, 0, none⟩ ∧ s.M g = some (.cells (xs ++ rest).toArray T (0, 0)) ∧ (xs ++ rest).length = c * sz ∧ n ≤ c ∧ c ≤ 9223372036854775807) ∧
    (∃ b off cs U fz, B = some ⟨b, off, none⟩ ∧ (s.H b = some (.cells cs U fz) ∨ s.M b = some (.cells cs U fz)) ∧ takeN (m * sz) (cs.toList.drop off) = some ys) ∧
    ∀ g' c' rest', ((s.H g' = none ∧ s.M g' = none) ∨ A = some ⟨g', 0, none⟩) → n + m ≤ c' → c' ≤ 9223372036854775807 → (xs ++ ys ++ rest').length = c' * sz →
      X ⟨(d, .v (.slice (some ⟨g', 0, none⟩) (n + m) c')) :: s.fr, s.lh, s.H, s.M.mvd A g' (.cells (xs ++ ys ++ rest').toArray T (0, 0))⟩ K
/-- bytes as a string -/
def EvB2s (A : Option Addr) (n : Nat) (d : Nat) (X : XT) (s : St) (K : St → Prop) : Prop :=
  ∃ l : List UInt8, l.length = n ∧ (A = none ∨ ∃ b off cs U fz, A = some ⟨b, off, none⟩ ∧ (s.H b = some (.cells cs U fz) ∨ s.M b = some (.cells cs U fz)) ∧
      takeN n (cs.toList.drop off) = some (l.map fun x => .int .u8 x.toNat)) ∧ X (s.put d (.v (.string ⟨if A.isNone then #[] else l.toArray⟩))) K

/-- a string's bytes in a block of one's own: behind them so many zeros as the world draws, behind all a mark -/
def EvS2b (T : TypeId) (t : ByteArray) (d : Nat) (X : XT) (s : St) (K : St → Prop) : Prop :=
  ∀ g m c, s.H g = none → s.M g = none →
    X ⟨(d, .v (.slice (some ⟨g, 0, none⟩) t.size c)) :: s.fr, s.lh, s.H, s.M.set g (.cells ((t.data.map fun b => Value.int .u8 b.toNat) ++ Array.replicate m (.int .u8 0)) T (t.size + m, t.size + m + 1))⟩ K

def evs (fr : List (Nat × SV)) : List Operand → Option (List Value)
  | [] => some []
  | x :: l => match ev fr x, evs fr l with | some (.v v), some r => some (v :: r) | _, _ => none

/-- parts (place, size, operand) put into cells -/
def fillL (fr : List (Nat × SV)) : List (Nat × Nat × Operand) → List Value → Option (List Value)
  | [], cs => some cs
  | (off, n, x) :: l, cs => match ev fr x with
    | some (.v v) => if (cellsL v).length = n then (match stv off (cellsL v) cs with | some cs' => fillL fr l cs' | none => none) else none
    | _ => none

def oSV (fr : List (Nat × SV)) (d : Option Operand) (z : Int) : Option Int :=
  match d with
  | none => some z
  | some x => match ev fr x with | some (.v (.int _ n)) => some n | _ => none

def hasBody (P : Program) (f : Nat) : Bool :=
  match P.funcs[f]? with
  | some fn => !(fn.name == "runtime.NumGoroutine") && fn.body.isSome
  | none => false

/-- the function that a value is -/
def fnV : Value → Option Nat
  | .func (.func f) a b => if a.isEmpty && b.isEmpty then some f else none
  | _ => none
theorem fnV_func (f : Nat) : fnV (.func (.func f) #[] #[]) = some f := of_eq_true (eq_self _)
theorem fnV_some {v : Value} {f : Nat} (h : fnV v = some f) : v = .func (.func f) #[] #[] := by
  unfold fnV at h
  split at h
  · rename_i f' a b
    split at h
    · rename_i e
      simp only [Bool.and_eq_true, Array.isEmpty_iff] at e
      injection h with h
      rw [h, e.1, e.2]
    · cases h
  · cases h

def XL (P : Program) : PT → XT
  | .nil, s, K => K s
  | .alt l r, s, K => XL P l s K ∧ XL P r s K
  | .op g pi r, s, K =>
    match gateOf s.fr g with
    | none => False
    | some false => (match pi.dst with | some d => XL P r (s.put d (.v undef)) K | none => XL P r s K)
    | some true =>
      match pi with
      | .mv d x => (match ev s.fr x with | some sv => XL P r (s.put d sv) K | none => False)
      | .pick d c a b => (match ev s.fr c, ev s.fr a, ev s.fr b with | some (.v (.bool t)), some sa, some sb => XL P r (s.put d (selSV t sa sb)) K | _, _, _ => False)
      | .new d cs => (match lk s.lh d with | none => XL P r ⟨(d, .ptr d 0) :: s.fr, (d, cs) :: s.lh, s.H, s.M⟩ K | some _ => False)
      | .box d x => (match lk s.lh d, ev s.fr x with | none, some (.v v) => XL P r ⟨(d, .ptr d 0) :: s.fr, (d, cellsL v) :: s.lh, s.H, s.M⟩ K | _, _ => False)
      | .ld d agg n x => (match ev s.fr x with
        | some (.ptr k off) => (match lk s.lh k with | some cs => (match ldv agg n off cs with | some v => XL P r (s.put d (.v v)) K | none => False) | none => False)
        | some (.v p) => EvLd agg n p d (XL P r) s K
        | none => False)
      | .ldx d agg n x => (match ev s.fr x with
        | some (.ptr k off) => (match lk s.lh k with | some cs => (match ldv agg n off cs with | some v => XL P r (s.put d (.v v)) K | none => False) | none => False)
        | some (.v p) => EvLdx agg n p d (XL P r) s K
        | none => False)
      | .st n x y => (match ev s.fr x, ev s.fr y with
        | some (.ptr k off), some (.v v) => (match lk s.lh k with
          | some cs => ((cellsL v).length = n ∧ (cellsL v).all (·.oneCell') = true ∧ (match stv off (cellsL v) cs with | some cs' => XL P r ⟨s.fr, upd s.lh k cs', s.H, s.M⟩ K | none => False))
          | none => False)
        | some (.v p), some (.v v) => EvSt n p v (XL P r) s K
        | _, _ => False)
      | .bin d op x y => (match ev s.fr x, ev s.fr y with
        | some (.v a), some (.v b) => (match binV op a b with
          | .val v => XL P r (s.put d (.v v)) K
          | .cnd c => EvIf c d (XL P r) s K
          | .quo k a b => EvQuo k a b d (XL P r) s K
          | .rem k a b => EvRem k a b d (XL P r) s K
          | .shl k a b => EvShl k a b d (XL P r) s K
          | .shr k a b => EvShr k a b d (XL P r) s K
          | .cat a b => EvCat a b d (XL P r) s K
          | .no => False)
        | _, _ => False)
      | .beq d neg x y => (match ev s.fr x, ev s.fr y with
        | some (.v (.bool a)), some (.v (.bool b)) => XL P r (s.put d (.v (.bool (if neg then a != b else a == b)))) K
        | _, _ => False)
      | .peq d x y => (match ev s.fr x, ev s.fr y with
        | some (.v (.agg u)), some (.v (.agg v)) => EvPeq u v d (XL P r) s K
        | _, _ => False)
      | .isnil d neg x => (match ev s.fr x with
        | some (.v (.slice A _ _)) => XL P r (s.put d (.v (.bool (if neg then A.isSome else A.isNone)))) K
        | _ => False)
      | .not d x => (match ev s.fr x with | some (.v (.bool b)) => XL P r (s.put d (.v (.bool (!b)))) K | _ => False)
      | .neg d x => (match ev s.fr x with | some (.v (.int k n)) => XL P r (s.put d (.v (.int k (k.wrap (0 - n))))) K | _ => False)
      | .cv d k x => (match ev s.fr x with | some (.v (.int _ n)) => XL P r (s.put d (.v (.int k (k.wrap n)))) K | _ => False)
      | .fa d off x => (match ev s.fr x with
        | some (.ptr k o) => XL P r (s.put d (.ptr k (o + off))) K
        | some (.v (.pointer (some ⟨b, o, none⟩))) => XL P r (s.put d (.v (.pointer (some ⟨b, o + off, none⟩)))) K
        | _ => False)
      | .fd d agg n off x => (match ev s.fr x with
        | some (.v (.agg cs)) => (match ldv agg n off cs.toList with | some v => XL P r (s.put d (.v v)) K | none => False)
        | _ => False)
      | .ia d sz x i => (match ev s.fr x, ev s.fr i with
        | some (.v (.slice A n _)), some (.v (.int _ j)) => EvIa sz A n j d (XL P r) s K
        | _, _ => False)
      | .iaA d sz len x i => (match ev s.fr x, ev s.fr i with
        | some (.v (.pointer (some ⟨b, o, none⟩))), some (.v (.int _ j)) => EvIa sz (some ⟨b, o, none⟩) len j d (XL P r) s K
        | _, _ => False)
      | .ix d x i => (match ev s.fr x, ev s.fr i with
        | some (.v (.string t)), some (.v (.int _ j)) => EvIx t j d (XL P r) s K
        | _, _ => False)
      | .ex d i x => (match ev s.fr x with
        | some (.v (.tuple vs)) => (match vs.toList[i]? with | some v => XL P r (s.put d (.v v)) K | none => False)
        | _ => False)
      | .len d x => (match ev s.fr x with
        | some (.v (.slice _ n _)) => XL P r (s.put d (.v (.int .i64 n))) K
        | _ => False)
      | .lens d x => (match ev s.fr x with
        | some (.v (.string t)) => XL P r (s.put d (.v (.int .i64 t.size))) K
        | _ => False)
      | .mm d isMax x y => (match ev s.fr x, ev s.fr y with
        | some (.v (.int k a)), some (.v (.int _ b)) => XL P r (s.put d (.v (.int k (if isMax then (if a < b then b else a) else (if b < a then b else a))))) K
        | _, _ => False)
      | .sl d sz x lo hi => (match ev s.fr x, ev s.fr lo, ev s.fr hi with
        | some (.v (.slice A _ c)), some (.v (.int _ l)), some (.v (.int _ h)) => EvSl sz A c l h d (XL P r) s K
        | _, _, _ => False)
      | .slh d x hi => (match ev s.fr x, ev s.fr hi with
        | some (.v (.slice A _ c)), some (.v (.int _ h)) => EvSlh A c h d (XL P r) s K
        | _, _ => False)
      | .sll d sz x lo => (match ev s.fr x, ev s.fr lo with
        | some (.v (.slice A n c)), some (.v (.int _ l)) => (n ≤ c ∧ EvSl sz A c l n d (XL P r) s K)
        | _, _ => False)
      | .ss d x lo hi => (match ev s.fr x with
        | some (.v (.string t)) => (match oSV s.fr lo 0, oSV s.fr hi t.size with
          | some l, some h => EvSs t l h d (XL P r) s K
          | _, _ => False)
        | _ => False)
      | .bld d cs parts => (match fillL s.fr parts cs with | some cs' => XL P r (s.put d (.v (.agg cs'.toArray))) K | none => False)
      | .mk d T zs by_ x => (match ev s.fr x with | some (.v (.int .i64 j)) => EvMk T zs by_ j d (XL P r) s K | _ => False)
      | .bsl d T len cs parts => (match fillL s.fr parts cs with | some cs' => EvBsl T len cs' d (XL P r) s K | none => False)
      | .call d pure f args => (match evs s.fr args with
        | some vs => (match pure with | true => EvCallP P f vs d (XL P r) s K | false => EvCall P f vs d (XL P r) s K)
        | none => False)
      | .calv d pure x args => (match ev s.fr x, evs s.fr args with
        | some (.v v), some vs => (match fnV v with
          | some f => hasBody P f = true ∧ (match pure with | true => EvCallP P f vs d (XL P r) s K | false => EvCall P f vs d (XL P r) s K)
          | none => False)
        | _, _ => False)
      | .app d T sz by_ x y => (match ev s.fr x, ev s.fr y with
        | some (.v (.slice A n c)), some (.v (.slice B m _)) => EvApp T sz by_ A n c B m d (XL P r) s K
        | _, _ => False)
      | .b2s d x => (match ev s.fr x with | some (.v (.slice A n _)) => EvB2s A n d (XL P r) s K | _ => False)
      | .s2b d T x => (match ev s.fr x with | some (.v (.string t)) => EvS2b T t d (XL P r) s K | _ => False)
      | .nop _ => False

inductive PC where
  | skip
  | ret
  | exit (id : Nat)
  | reg (t : PT)
  | cut (t : PT)
  | seq (a b : PC)
  | cond (c : Operand) (t e : PC)
  | block (id : Nat) (b : PC)
  | loop (b : PC)

inductive Ex where
  | normal
  | ret
  | exit (id : Nat)

abbrev XC := St → (Ex → St → Prop) → Prop

def KSeq (X : XC) (K : Ex → St → Prop) : Ex → St → Prop
  | .normal, s => X s K
  | .ret, s => K .ret s
  | .exit i, s => K (.exit i) s
def KBlk (id : Nat) (K : Ex → St → Prop) : Ex → St → Prop
  | .normal, s => K .normal s
  | .ret, s => K .ret s
  | .exit i, s => if i = id then K .normal s else K (.exit i) s
def XB (b : Bool) (t e : XC) (s : St) (K : Ex → St → Prop) : Prop :=
  match b with
  | true => t s K
  | false => e s K

/-- s has all that s' tells -/
def SubL {α : Type} (l : List (Nat × α)) (l' : List (Nat × α)) : Prop :=
  match l with
  | [] => True
  | (i, x) :: r => lk l' i = some x ∧ SubL r l'
def wfB (fr : List (Nat × SV)) (lh : List (Nat × List Value)) : Bool :=
  match fr with
  | [] => true
  | (_, .v _) :: r => wfB r lh
  | (_, .ptr k _) :: r => (lk lh k).isSome && wfB r lh
structure Sub (s' s : St) : Prop where
  wf : wfB s'.fr s'.lh = true
  fr : SubL s'.fr s.fr
  lh : SubL s'.lh s.lh
  HM : (s'.H = s.H ∧ s'.M.le s.M) ∨ (s.H.le s'.H ∧ (∀ b o, s'.H b = some o → s.H b = some o ∨ s.M b = some o) ∧ s'.M.le s.M ∧ PH.disj s'.H s'.M)

def KLoop (J : Nat → St → Prop) (n : Nat) (K : Ex → St → Prop) : Ex → St → Prop
  | .normal, s => ∃ m s', m < n ∧ J m s' ∧ Sub s' s
  | .ret, s => K .ret s
  | .exit i, s => K (.exit i) s
/-- what is kept behind a region: J, told by less -/
def KCut (J : St → Prop) (s : St) : Prop := ∃ s', J s' ∧ Sub s' s
def EvCut (X : XT) (s : St) (K : St → Prop) : Prop := ∃ J : St → Prop, X s (KCut J) ∧ ∀ s', J s' → K s'
def EvLoop (X : XC) (s : St) (K : Ex → St → Prop) : Prop :=
  ∃ J : Nat → St → Prop, (∃ n s', J n s' ∧ Sub s' s) ∧ ∀ n s, J n s → X s (KLoop J n K)

def X (P : Program) : PC → XC
  | .skip, s, K => K .normal s
  | .ret, s, K => K .ret s
  | .exit i, s, K => K (.exit i) s
  | .reg t, s, K => XL P t s (K .normal)
  | .cut t, s, K => EvCut (XL P t) s (K .normal)
  | .seq a b, s, K => X P a s (KSeq (X P b) K)
  | .cond c t e, s, K => (match ev s.fr c with | some (.v (.bool b)) => XB b (X P t) (X P e) s K | _ => False)
  | .block id b, s, K => X P b s (KBlk id K)
  | .loop b, s, K => EvLoop (X P b) s K

inductive RV where
  | tmp (t : Nat)
  | cell (t : Nat) (agg : Bool) (n : Nat)

def resV1 (s : St) : RV → Option Value
  | .tmp t => (match lk s.fr t with | some (.v v) => some v | _ => none)
  | .cell t agg n => (match lk s.fr t with
    | some (.ptr k off) => (match lk s.lh k with | some cs => ldv agg n off cs | none => none)
    | _ => none)
def resVs (s : St) : List RV → Option (List Value)
  | [] => some []
  | r :: l => match resV1 s r, resVs s l with | some v, some vs => some (v :: vs) | _, _ => none
def resV (s : St) (l : List RV) : Option Value :=
  match resVs s l with
  | some [v] => some v
  | some vs => some (.tuple vs.toArray)
  | none => none
def KTop (rs : List RV) (R : Value → PH → PH → Prop) : Ex → St → Prop
  | .normal, s => (match resV s rs with | some v => R v s.H s.M | none => False)
  | .ret, s => (match resV s rs with | some v => R v s.H s.M | none => False)
  | .exit _, _ => False

def argFr : List Value → Nat → List (Nat × SV)
  | [], _ => []
  | v :: l, i => (i, .v v) :: argFr l (i + 1)

end Go.Proofs.YtccdhgjfcgfgoaaGreat.X
set_option linter.unusedVariables false
set_option linter.unusedSimpArgs false
namespace Go.Proofs.YtccdhgjfcgfgoaaGreat.X
open Go Go.RowKit

/-- where a struct's parts lie: (place, size) -/
def fieldPl (P : Program) (fs : Array Field) : Option (List (Nat × Nat)) := fs.toList.mapM fun f => (P.info? f.type).map fun i => (f.offset, i.size)

def partsOf (pl : Nat → Option (Nat × Nat)) : List (Nat × Operand) → Option (List (Nat × Nat × Operand))
  | [] => some []
  | (i, x) :: l => match pl i, partsOf pl l with | some (off, n), some r => some ((off, n, x) :: r) | _, _ => none

/-- a struct of two texts -/
def pairT (P : Program) (t : TypeId) (f g : Field) : Bool :=
  (f.name != "_" && g.name != "_" && f.offset == 0 && g.offset == 1 && !P.stoodInHeld t && !P.eqGuardType P.depth t) && (match P.underlying f.type, P.underlying g.type with | some .string, some .string => true | _, _ => false)

/-- One operation with a destination d. -/
def toPId (P : Program) (drawn app : Bool) (d : Nat) : Op → Option PI
  | .move x => some (.mv d x)
  | .assign x => some (.mv d x)
  | .pick c a b => some (.pick d c a b)
  | .alloc t => (match P.info? t with | some i => (match i.zero with | some z => some (.new d z.cells.toList) | none => none) | none => none)
  | .box _ x => some (.box d x)
  | .load t x => (match P.underlying t, P.info? t with
    | some u, some i => (match u with
      | .struct _ | .array _ _ => (match app with | true => some (.ldx d true i.size x) | false => some (.ld d true i.size x))
      | _ => (match app with | true => some (.ldx d false 1 x) | false => some (.ld d false 1 x)))
    | _, _ => none)
  | .binOp op t x y _ => (match P.underlying t with
    | some .bool => (match op with | .eql => some (.beq d false x y) | .neq => some (.beq d true x y) | _ => none)
    | some (.slice _) => (match y with
      | .const (.slice none 0 0) => (match op with | .eql => some (.isnil d false x) | .neq => some (.isnil d true x) | _ => none)
      | _ => none)
    | some (.struct fs) => (match op, fs.toList with
      | .eql, [f, g] => (match pairT P t f g with | true => some (.peq d x y) | false => none)
      | _, _ => none)
    | some (.int _) => some (.bin d op x y)
    | some .string => some (.bin d op x y)
    | _ => none)
  | .unOp op _ x => (match op with | .not => some (.not d x) | .neg => some (.neg d x) | _ => none)
  | .convert s t x => (match P.underlying s, P.underlying t with
    | some (.int _), some (.int k) => some (.cv d k x)
    | some (.slice e), some .string => (match P.underlying e with | some (.int .u8) => some (.b2s d x) | _ => none)
    | some .string, some (.slice e) => (match P.underlying e with | some (.int .u8) => some (.s2b d e x) | _ => none)
    | _, _ => none)
  | .fieldAddr t x f => (match P.underlying t with
    | some (.struct fs) => (match fs[f]? with
      | some fd => (match P.info? fd.type with | some i => (match i.size with | 0 => none | _ + 1 => some (.fa d fd.offset x)) | none => none)
      | none => none)
    | _ => none)
  | .field t x f => (match P.underlying t with
    | some (.struct fs) => (match fs[f]? with
      | some fd => (match P.underlying fd.type, P.info? fd.type with
        | some u, some i => (match u with | .struct _ | .array _ _ => some (.fd d true i.size fd.offset x) | _ => some (.fd d false 1 fd.offset x))
        | _, _ => none)
      | none => none)
    | _ => none)
  | .indexAddr t x i => (match P.underlying t with
    | some (.slice e) => (match P.info? e with | some j => some (.ia d j.size x i) | none => none)
    | some (.array n e) => (match P.info? e with | some j => some (.iaA d j.size n x i) | none => none)
    | _ => none)
  | .index t x i => (match P.underlying t with | some .string => some (.ix d x i) | _ => none)
  | .extract x i => some (.ex d i x)
  | .makeSlice t l c => (match l, c with
    | .tmp a, .tmp b => if a = b then (match P.underlying t with
      | some (.slice e) => (match P.info? e with | some i => (match i.zero with | some z => if z.cells.size = i.size then some (.mk d e z.cells.toList i.bytes (.tmp a)) else none | none => none) | none => none)
      | _ => none) else none
    | _, _ => none)
  | .slice t x lo hi mx => (match mx with
    | some _ => none
    | none => (match P.underlying t with
      | some .string => some (.ss d x lo hi)
      | some (.slice e) => (match P.info? e with
        | some i => (match lo, hi with
          | some l, some h => some (.sl d i.size x l h)
          | none, some h => some (.slh d x h)
          | some l, none => some (.sll d i.size x l)
          | none, none => none)
        | none => none)
      | _ => none))
  | .build t parts => (match P.info? t, P.underlying t with
    | some i, some (.struct fs) => (match i.zero, fieldPl P fs with
      | some z, some pl => (match partsOf (pl.toArray[·]?) parts.toList with | some ps => some (.bld d z.cells.toList ps) | none => none)
      | _, _ => none)
    | some i, some (.array _ e) => (match i.zero, P.info? e with
      | some z, some ie => (match partsOf (fun k => some (k * ie.size, ie.size)) parts.toList with | some ps => some (.bld d z.cells.toList ps) | none => none)
      | _, _ => none)
    | _, _ => none)
  | .buildSlice t len parts => (match P.underlying t with
    | some (.slice e) => (match P.info? e with
      | some i => (match i.zero, partsOf (fun k => some (k * i.size, i.size)) parts.toList with
        | some z, some ps => if z.cells.size = i.size ∧ len * i.size ≤ 16777216 then some (.bsl d e len (List.replicate len z.cells.toList).flatten ps) else none
        | _, _ => none)
      | none => none)
    | _ => none)
  | .call c => (match c.callee with
    | .value (.func f) => if hasBody P f then some (.call d drawn f c.args.toList) else none
    | .value (.tmp t) => some (.calv d drawn (.tmp t) c.args.toList)
    | .builtin .len => (match c.args.toList, c.argTypes.toList with
      | [x], [t] => (match P.underlying t with | some .string => some (.lens d x) | some (.slice _) => some (.len d x) | _ => none)
      | _, _ => none)
    | .builtin .max => (match c.args.toList with | [x, y] => some (.mm d true x y) | _ => none)
    | .builtin .min => (match c.args.toList with | [x, y] => some (.mm d false x y) | _ => none)
    | .builtin .append => (match c.args.toList, c.argTypes.toList with
      | [x, y], [t, t'] => (match P.underlying t, P.underlying t' with
        | some (.slice e), some (.slice _) => if t = t' then (match P.info? e with
          | some i => (match i.zero with | some z => if z.cells.size = i.size ∧ 0 < i.size then some (.app d e i.size i.bytes x y) else none | none => none)
          | none => none) else none
        | _, _ => none)
      | _, _ => none)
    | _ => none)
  | _ => none

def toPI (P : Program) (n : Nat) (drawn app : Bool) (o : Oper) : Option PI :=
  match o.dst with
  | some d => if d < n then toPId P drawn app d o.op else none
  | none => (match o.op with
    | .store t x y => (match P.info? t with | some i => some (.st i.size x y) | none => none)
    | _ => none)

def gateIn (ops : Array Oper) (o : Oper) : Option (Option (Nat × Bool)) :=
  match o.guard with
  | none => some none
  | some (j, want) => (match (ops[j]?).bind (·.dst) with | some t => some (some (t, want)) | none => none)

def one (P : Program) (n : Nat) (drawn app : Bool) (ops : Array Oper) (i : Nat) : Option (Option (Nat × Bool) × PI) :=
  match ops[i]? with
  | some o => (match gateIn ops o, toPI P n drawn app o with | some g, some pi => some (g, pi) | _, _ => none)
  | none => none

def PI.pure : PI → Bool
  | .mv .. | .pick .. | .bin .. | .beq .. | .peq .. | .isnil .. | .not .. | .neg .. | .cv .. | .fa .. | .fd .. | .ia .. | .iaA .. | .ix .. | .ex .. | .len .. | .lens .. | .mm .. | .sl .. | .slh .. | .sll .. | .ss .. | .bld .. => true
  | _ => false
def PI.isLd : PI → Bool
  | .ld .. => true
  | .ldx .. => true
  | _ => false

def isApp (o : Oper) : Bool := match o.op with | .call { callee := .builtin .append, .. } => true | _ => false
def hasApp (ops : Array Oper) : Bool := ops.toList.any isApp

def mkT (P : Program) (n : Nat) (ops : Array Oper) : IT → Option PT
  | .nil => some .nil
  | .fl i r => (match one P n true (hasApp ops) ops i, mkT P n ops r with | some (g, pi), some t => if pi.pure then some (.op g pi t) else none | _, _ => none)
  | .ld i r => (match one P n true (hasApp ops) ops i, mkT P n ops r with | some (g, pi), some t => if pi.isLd then some (.op g pi t) else none | _, _ => none)
  | .act i r => (match one P n true (hasApp ops) ops i, mkT P n ops r with | some (g, pi), some t => some (.op g pi t) | _, _ => none)
  | .alt l r => (match mkT P n ops l, mkT P n ops r with | some a, some b => some (.alt a b) | _, _ => none)

def mkL (P : Program) (n : Nat) (ops : Array Oper) : List Nat → Option PT
  | [] => some .nil
  | i :: l => (match one P n false false ops i, mkL P n ops l with | some (g, pi), some t => some (.op g pi t) | _, _ => none)

/-- a tree whose end is cut: '.alt .nil tree' -/
def cutIT : IT → Option IT
  | .alt .nil it => some it
  | _ => none

/-- The code as instructions; the plans: a tree for each region that draws. -/
def comp (P : Program) (n : Nat) : Code → List IT → Option (PC × List IT)
  | .skip, l => some (.skip, l)
  | .ret, l => some (.ret, l)
  | .exit i, l => some (.exit i, l)
  | .region _ ops false, l => (match mkL P n ops (List.range ops.size) with | some t => some (.reg t, l) | none => none)
  | .region _ ops true, it :: l => (match cutIT it with
    | some it => (match chkTop ops it, mkT P n ops it with | true, some t => some (.cut t, l) | _, _ => none)
    | none => (match chkTop ops it, mkT P n ops it with | true, some t => some (.reg t, l) | _, _ => none))
  | .seq a b, l => (match comp P n a l with
    | some (p, l) => (match comp P n b l with | some (q, l) => some (.seq p q, l) | none => none)
    | none => none)
  | .cond c a b, l => (match comp P n a l with
    | some (p, l) => (match comp P n b l with | some (q, l) => some (.cond c p q, l) | none => none)
    | none => none)
  | .block id b, l => (match comp P n b l with | some (p, l) => some (.block id p, l) | none => none)
  | .loop b, l => (match comp P n b l with | some (p, l) => some (.loop p, l) | none => none)
  | _, _ => none

def compR (P : Program) : List ResultVar → Option (List RV)
  | [] => some []
  | .tmp t :: l => (match compR P l with | some r => some (.tmp t :: r) | none => none)
  | .cell a t :: l => (match P.underlying t, P.info? t, compR P l with
    | some u, some i, some r => (match u with | .struct _ | .array _ _ => some (.cell a true i.size :: r) | _ => some (.cell a false 1 :: r))
    | _, _, _ => none)

end Go.Proofs.YtccdhgjfcgfgoaaGreat.X
set_option linter.unusedVariables false
set_option linter.unusedSimpArgs false
namespace Go.Proofs.YtccdhgjfcgfgoaaGreat.X
open Go Go.RowKit

def conc (ρ : Nat → Nat) : SV → Value
  | .v x => x
  | .ptr k off => .pointer (some ⟨ρ k, off, none⟩)

structure Rel (w0 : World) (H0 M0 : PH) (n : Nat) (ρ : Nat → Nat) (s : St) (a : Act) (w : World) : Prop where
  size : a.tmps.size = n
  defers : a.defers = []
  fr : ∀ i sv, lk s.fr i = some sv → a.tmps[i]? = some (conc ρ sv)
  lh : ∀ k cs, lk s.lh k = some cs → (∃ T, w.heap[ρ k]? = some (.cells cs.toArray T (0, 0))) ∧ s.H (ρ k) = none ∧ s.M (ρ k) = none ∧ w0.heap.size ≤ ρ k
  inj : ∀ k k' cs cs', lk s.lh k = some cs → lk s.lh k' = some cs' → ρ k = ρ k' → k = k'
  H : s.H.on w
  M : s.M.on w
  dj : PH.disj s.H s.M
  step : Stp w0 w M0
  hM : ∀ b, s.M b ≠ none → M0 b ≠ none ∨ w0.heap.size ≤ b
  hH : ∀ b, s.H b ≠ none → H0 b ≠ none ∨ M0 b ≠ none ∨ w0.heap.size ≤ b
  leH : H0.le s.H
  wf : ∀ i k off, lk s.fr i = some (.ptr k off) → ∃ cs, lk s.lh k = some cs

section
variable {P : Program} {w0 : World} {H0 M0 : PH} {n : Nat} {ρ : Nat → Nat} {s : St} {a : Act} {w : World}

theorem Rel.ev (h : Rel w0 H0 M0 n ρ s a w) {x : Operand} {sv : SV} (hx : X.ev s.fr x = some sv) : a.eval x = conc ρ sv := by
  cases x with
  | tmp t =>
    have := h.fr t sv hx
    simp [Act.eval, this]
  | const v => simp [X.ev] at hx; subst hx; rfl
  | global g => simp [X.ev] at hx; subst hx; rfl
  | func f => simp [X.ev] at hx; subst hx; rfl

theorem Rel.put (h : Rel w0 H0 M0 n ρ s a w) {d : Nat} (hd : d < n) (sv : SV) (hsv : ∀ k off, sv = .ptr k off → ∃ cs, lk s.lh k = some cs := by intro _ _ h; cases h) : Rel w0 H0 M0 n ρ (s.put d sv) (a.put (some d) (conc ρ sv)) w := by
  refine ⟨by simp [Act.put, h.size], h.defers, ?_, h.lh, h.inj, h.H, h.M, h.dj, h.step, h.hM, h.hH, h.leH, ?_⟩
  case refine_2 =>
    intro i k off hi
    have hi' : lk ((d, sv) :: s.fr) i = some (.ptr k off) := hi
    simp only [lk] at hi'
    by_cases hdi : d = i
    · rw [if_pos hdi] at hi'
      injection hi' with hi'
      exact hsv k off hi'
    · rw [if_neg hdi] at hi'
      exact h.wf i k off hi'
  intro i sv' hi
  have hi' : lk ((d, sv) :: s.fr) i = some sv' := hi
  simp only [lk] at hi'
  by_cases hdi : d = i
  · subst hdi
    rw [if_pos rfl] at hi'
    injection hi' with hi'
    subst hi'
    simp [Act.put, h.size, hd]
  · rw [if_neg hdi] at hi'
    simp only [Act.put]
    rw [Array.getElem?_setIfInBounds_ne hdi]
    exact h.fr i sv' hi'

/-- The operation yields v in whatever world. -/
def Runs (P : Program) (o : Oper) (a : Act) (v : Value) : Prop := ∀ w, (execOp a.eval o).run P w = .ok (.value v) w

/-- What a pure instruction's soundness says. -/
def Good (P : Program) (w0 : World) (H0 M0 : PH) (n : Nat) (ρ : Nat → Nat) (s : St) (a : Act) (w : World) (o : Oper) (d : Nat) (r : PT) (K : St → Prop) : Prop :=
  ∃ v sv, Runs P o a v ∧ Rel w0 H0 M0 n ρ (s.put d sv) (a.put (some d) v) w ∧ XL P r (s.put d sv) K

variable {o : Oper} {d : Nat} {r : PT} {K : St → Prop}

theorem Good.mk (hR : Rel w0 H0 M0 n ρ s a w) (hd : d < n) (sv : SV) (hr : Runs P o a (conc ρ sv)) (hX : XL P r (s.put d sv) K)
    (hsv : ∀ k off, sv = .ptr k off → ∃ cs, lk s.lh k = some cs := by intro _ _ h; cases h) : Good P w0 H0 M0 n ρ s a w o d r K :=
  ⟨_, _, hr, hR.put hd sv hsv, hX⟩

theorem Rel.ev_wf (h : Rel w0 H0 M0 n ρ s a w) {x : Operand} {k off : Nat} (hx : X.ev s.fr x = some (.ptr k off)) : ∃ cs, lk s.lh k = some cs := by
  cases x with
  | tmp t => exact h.wf t k off hx
  | const v => simp [X.ev] at hx
  | global g => simp [X.ev] at hx
  | func f => simp [X.ev] at hx

theorem good_mv {x : Operand} (hR : Rel w0 H0 M0 n ρ s a w) (hd : d < n) (ho : o.op = .move x ∨ o.op = .assign x) (hX : XL P (.op none (.mv d x) r) s K) : Good P w0 H0 M0 n ρ s a w o d r K := by
  simp only [XL, gateOf] at hX
  split at hX
  · rename_i sv hsv
    refine .mk hR hd sv (fun w => ?_) hX (fun k off e => hR.ev_wf (e ▸ hsv))
    rcases ho with ho | ho <;> simp [execOp, ho, hR.ev hsv]
  · exact hX.elim

theorem good_pick {c x y : Operand} (hR : Rel w0 H0 M0 n ρ s a w) (hd : d < n) (ho : o.op = .pick c x y) (hX : XL P (.op none (.pick d c x y) r) s K) : Good P w0 H0 M0 n ρ s a w o d r K := by
  simp only [XL, gateOf] at hX
  split at hX
  · rename_i t sx sy hc hx hy
    refine .mk hR hd _ (fun w => ?_) hX (fun k off e => by cases t <;> simp only [selSV] at e <;> subst e <;> first | exact hR.ev_wf (x := y) hy | exact hR.ev_wf (x := x) hx)
    have hc' := hR.ev hc
    have hx' := hR.ev hx
    have hy' := hR.ev hy
    cases t <;> simp [execOp, ho, hc', hx', hy', conc, asBool, selSV]
  · exact hX.elim

theorem run_eqGuard_int (op : BinOp) (t : TypeId) (x y : Operand) (k k' : IntKind) (m p : Int) (w : World) : (eqGuard op t x y (.int k m) (.int k' p)).run P w = .ok () w := by
  cases op <;> simp [eqGuard]
theorem run_eqGuard_string (op : BinOp) (t : TypeId) (x y : Operand) (m p : ByteArray) (w : World) : (eqGuard op t x y (.string m) (.string p)).run P w = .ok () w := by
  cases op <;> simp [eqGuard]

theorem good_bin {op : BinOp} {t ty : TypeId} {x y : Operand}
    (hR : Rel w0 H0 M0 n ρ s a w) (hd : d < n) (ho : o.op = .binOp op t x y ty) (hX : XL P (.op none (.bin d op x y) r) s K) : Good P w0 H0 M0 n ρ s a w o d r K := by
  simp only [XL, gateOf] at hX
  split at hX
  · rename_i u v hx hy
    have hx' := hR.ev hx
    have hy' := hR.ev hy
    simp only [conc] at hx' hy'
    have base : ∀ val, (∀ w, (do eqGuard op t x y u v; binOp op t u v : Sem Value).run P w = .ok val w) → Runs P o a val := fun val h w => by
      have := h w
      simp only [execOp, ho, hx', hy', Sem.run_bind, this, Result.andThen_ok, Sem.run_pure]
    cases u with
    | int k m =>
      cases v with
      | int k' p =>
        have hkk : op ≠ .shl → op ≠ .shr → k = k' := fun h1 h2 => by
          by_cases hk : k = k'
          · exact hk
          · cases op <;> first | (exact absurd rfl h1) | (exact absurd rfl h2) | (simp only [binV, hk, if_false] at hX)
        cases op <;> simp only [binV] at hX
        case shl =>
          obtain ⟨hp, hp2, hX⟩ := hX
          refine .mk hR hd _ (base _ fun w => ?_) hX
          have e : min p.toNat k.bits = p.toNat := by omega
          have e2 : ¬ p < 0 := by omega
          simp [run_eqGuard_int, binOp, Op.shift, e, e2, conc]
        case shr =>
          obtain ⟨hp, hp2, hX⟩ := hX
          refine .mk hR hd _ (base _ fun w => ?_) hX
          have e : min p.toNat k.bits = p.toNat := by omega
          have e2 : ¬ p < 0 := by omega
          simp [run_eqGuard_int, binOp, Op.shift, e, e2, conc]
        all_goals
          obtain rfl := hkk (by simp) (by simp)
          rw [if_pos rfl] at hX
          simp only [binI] at hX
        all_goals try (exact hX.elim)
        case add => exact .mk hR hd _ (base _ fun w => by simp [run_eqGuard_int, binOp, Op.intArith, conc]) hX
        case sub => exact .mk hR hd _ (base _ fun w => by simp [run_eqGuard_int, binOp, Op.intArith, conc]) hX
        case mul => exact .mk hR hd _ (base _ fun w => by simp [run_eqGuard_int, binOp, Op.intArith, conc]) hX
        case and => exact .mk hR hd _ (base _ fun w => by simp [run_eqGuard_int, binOp, Op.intBits, conc, bitsV]) hX
        case or => exact .mk hR hd _ (base _ fun w => by simp [run_eqGuard_int, binOp, Op.intBits, conc, bitsV]) hX
        case xor => exact .mk hR hd _ (base _ fun w => by simp [run_eqGuard_int, binOp, Op.intBits, conc, bitsV]) hX
        case quo => obtain ⟨hp, hX⟩ := hX; exact .mk hR hd _ (base _ fun w => by simp [run_eqGuard_int, binOp, Op.intDiv, hp, conc]) hX
        case rem => obtain ⟨hp, hX⟩ := hX; exact .mk hR hd _ (base _ fun w => by simp [run_eqGuard_int, binOp, Op.intDiv, hp, conc]) hX
        all_goals obtain ⟨h1, h2⟩ := hX
        case eql =>
          by_cases hc : m = p
          · exact .mk hR hd _ (base _ fun w => by simp [run_eqGuard_int, binOp, Op.intCmp, conc, hc]) (h1 hc)
          · exact .mk hR hd _ (base _ fun w => by simp [run_eqGuard_int, binOp, Op.intCmp, conc, hc]) (h2 hc)
        case neq =>
          by_cases hc : m = p
          · exact .mk hR hd _ (base _ fun w => by simp [run_eqGuard_int, binOp, Op.intCmp, conc, hc]) (h2 (by simpa using hc))
          · exact .mk hR hd _ (base _ fun w => by simp [run_eqGuard_int, binOp, Op.intCmp, conc, hc]) (h1 hc)
        case lss =>
          by_cases hc : m < p
          · exact .mk hR hd _ (base _ fun w => by simp [run_eqGuard_int, binOp, Op.intCmp, conc, hc]) (h1 hc)
          · exact .mk hR hd _ (base _ fun w => by simp [run_eqGuard_int, binOp, Op.intCmp, conc]; omega) (h2 hc)
        case leq =>
          by_cases hc : m ≤ p
          · exact .mk hR hd _ (base _ fun w => by simp [run_eqGuard_int, binOp, Op.intCmp, conc, hc]) (h1 hc)
          · exact .mk hR hd _ (base _ fun w => by simp [run_eqGuard_int, binOp, Op.intCmp, conc]; omega) (h2 hc)
        case gtr =>
          by_cases hc : p < m
          · exact .mk hR hd _ (base _ fun w => by simp [run_eqGuard_int, binOp, Op.intCmp, conc, hc]) (h1 hc)
          · exact .mk hR hd _ (base _ fun w => by simp [run_eqGuard_int, binOp, Op.intCmp, conc]; omega) (h2 hc)
        case geq =>
          by_cases hc : p ≤ m
          · exact .mk hR hd _ (base _ fun w => by simp [run_eqGuard_int, binOp, Op.intCmp, conc, hc]) (h1 hc)
          · exact .mk hR hd _ (base _ fun w => by simp [run_eqGuard_int, binOp, Op.intCmp, conc]; omega) (h2 hc)
      | _ => simp only [binV] at hX
    | string m =>
      cases v with
      | string p =>
        have hl : ∀ (x y : ByteArray), (x.toList == y.toList) = decide (x = y) := fun x y => by
          rw [ByteArray.toList_eq, ByteArray.toList_eq]
          by_cases h : x = y
          · subst h; simp
          · have : ¬ x.data.toList = y.data.toList := fun e => h (ByteArray.ext (Array.toList_inj.1 e))
            have h2 : ¬ x.data = y.data := fun e => h (ByteArray.ext e)
            simp [h, h2]
        cases op <;> simp only [binV] at hX <;> try (exact hX.elim)
        case add =>
          obtain ⟨h1, hX⟩ := hX
          refine .mk hR hd _ (base _ fun w => ?_) hX
          have e : ¬ (IntKind.i64.max < ((m.size + p.size : Nat) : Int)) := by simp only [IntKind.max, IntKind.signed, IntKind.bits]; simp; omega
          simp only [run_eqGuard_string, binOp, Op.stringOp, conc, Sem.run_bind, Result.andThen_ok, gt_iff_lt, e, if_false, Sem.run_pure]
        case eql =>
          obtain ⟨h1, h2⟩ := hX
          by_cases hc : m = p
          · exact .mk hR hd _ (base _ fun w => by simp [run_eqGuard_string, binOp, Op.stringOp, conc, hc]) (h1 hc)
          · exact .mk hR hd _ (base _ fun w => by simp [run_eqGuard_string, binOp, Op.stringOp, conc, hl, hc]) (h2 hc)
        case neq =>
          obtain ⟨h1, h2⟩ := hX
          by_cases hc : m = p
          · exact .mk hR hd _ (base _ fun w => by simp [run_eqGuard_string, binOp, Op.stringOp, conc, hc]) (h2 (by simpa using hc))
          · exact .mk hR hd _ (base _ fun w => by simp [run_eqGuard_string, binOp, Op.stringOp, conc, hl, hc]) (h1 hc)
      | _ => simp only [binV] at hX
    | _ => simp only [binV] at hX
  · exact hX.elim

theorem good_beq {neg : Bool} {t ty : TypeId} {x y : Operand} (hu : P.underlying t = some .bool) (hR : Rel w0 H0 M0 n ρ s a w) (hd : d < n)
    (ho : o.op = .binOp (if neg then .neq else .eql) t x y ty) (hX : XL P (.op none (.beq d neg x y) r) s K) : Good P w0 H0 M0 n ρ s a w o d r K := by
  simp only [XL, gateOf] at hX
  split at hX
  · rename_i p q hx hy
    refine .mk hR hd _ (fun w => ?_) hX
    have hx' := hR.ev hx
    have hy' := hR.ev hy
    have eg : ∀ op, (eqGuard op t x y (.bool p) (.bool q)).run P w = .ok () w := fun op => by cases op <;> simp [eqGuard]
    cases neg with
    | false => simp only [execOp, ho, hx', hy', conc, Bool.false_eq_true, if_false, Sem.run_bind, eg, run_eql_bool w t p q hu, Result.andThen_ok, Sem.run_pure]
    | true => simp only [execOp, ho, hx', hy', conc, if_true, Sem.run_bind, eg, run_neq_bool w t p q hu, Result.andThen_ok, Sem.run_pure, bne]
  · exact hX.elim

theorem good_peq {t ty : TypeId} {x y : Operand} {fs : Array Field} {f g : Field} (hu : P.underlying t = some (.struct fs)) (hl : fs.toList = [f, g]) (hp : pairT P t f g = true) (hR : Rel w0 H0 M0 n ρ s a w) (hd : d < n)
    (ho : o.op = .binOp .eql t x y ty) (hX : XL P (.op none (.peq d x y) r) s K) : Good P w0 H0 M0 n ρ s a w o d r K := by
  simp only [XL, gateOf] at hX
  split at hX
  · rename_i u v hx hy
    obtain ⟨p, q, p', q', rfl, rfl, h1, h2⟩ := hX
    have hx' := hR.ev hx
    have hy' := hR.ev hy
    simp only [conc] at hx' hy'
    unfold pairT at hp
    simp only [Bool.and_eq_true, Bool.not_eq_true', bne_iff_ne, ne_eq, beq_iff_eq] at hp
    obtain ⟨⟨⟨⟨⟨⟨n1, n2⟩, o1⟩, o2⟩, st⟩, eg⟩, hs⟩ := hp
    have hs2 : P.underlying f.type = some .string ∧ P.underlying g.type = some .string := by
      split at hs
      · rename_i e1 e2; exact ⟨e1, e2⟩
      · cases hs
    have hk1 : P.plainKey f.type = true := by unfold Program.plainKey; rw [hs2.1]
    have hk2 : P.plainKey g.type = true := by unfold Program.plainKey; rw [hs2.2]
    have hfo : P.fieldsOf t = fs := by unfold Program.fieldsOf; rw [hu]
    have hl2 : ∀ (x y : ByteArray), (x.toList == y.toList) = decide (x = y) := fun x y => by
      rw [ByteArray.toList_eq, ByteArray.toList_eq]
      by_cases h : x = y
      · subst h; simp
      · have : ¬ x.data.toList = y.data.toList := fun e => h (ByteArray.ext (Array.toList_inj.1 e))
        have h2 : ¬ x.data = y.data := fun e => h (ByteArray.ext e)
        simp [h, h2]
    have base : ∀ w, (do eqGuard .eql t x y (.agg #[.string p, .string q]) (.agg #[.string p', .string q']); binOp .eql t (.agg #[.string p, .string q]) (.agg #[.string p', .string q']) : Sem Value).run P w = .ok (.bool (decide (p = p' ∧ q = q'))) w := by
      intro w
      rw [Sem.run_bind, run_eqGuard_agg w .eql t x y _ _ eg, Result.andThen_ok, run_eql_struct, run_equalIn_agg w 9999 t _ _ (by rw [hfo]; exact hu) st, hfo, hl]
      simp only [Op.eqFields, Sem.run_bind, Sem.run_ite, if_pos n1, if_pos n2, ne_eq, n1, n2, not_false_eq_true, if_true, o1, o2]
      rw [run_part_plain w hk1 (v := .string p) rfl]
      simp only [Result.andThen_ok]
      rw [run_part_plain w hk1 (v := .string p') rfl]
      simp only [Result.andThen_ok]
      rw [run_equalIn_string w 9998 _ _ _ hs2.1, hl2]
      simp only [Result.andThen_ok]
      by_cases e1 : p = p'
      · rw [decide_eq_true e1]
        simp only [Bool.not_true, Bool.false_eq_true, if_false]
        rw [run_part_plain w hk2 (v := .string q) rfl]
        simp only [Result.andThen_ok]
        rw [run_part_plain w hk2 (v := .string q') rfl]
        simp only [Result.andThen_ok]
        rw [run_equalIn_string w 9998 _ _ _ hs2.2, hl2]
        simp only [Result.andThen_ok]
        by_cases e2 : q = q'
        · rw [decide_eq_true e2, decide_eq_true ⟨e1, e2⟩]
          simp
        · rw [decide_eq_false e2, decide_eq_false (fun k => e2 k.2)]
          simp
      · rw [decide_eq_false e1, decide_eq_false (fun k => e1 k.1)]
        simp
    have base2 : ∀ val, (∀ w, (do eqGuard .eql t x y (.agg #[.string p, .string q]) (.agg #[.string p', .string q']); binOp .eql t (.agg #[.string p, .string q]) (.agg #[.string p', .string q']) : Sem Value).run P w = .ok val w) → Runs P o a val := fun val h w => by
      have := h w
      simp only [execOp, ho, hx', hy', Sem.run_bind, this, Result.andThen_ok, Sem.run_pure]
    by_cases hc : p = p' ∧ q = q'
    · exact .mk hR hd _ (base2 _ fun w => by rw [base w, decide_eq_true hc]; rfl) (h1 hc)
    · exact .mk hR hd _ (base2 _ fun w => by rw [base w, decide_eq_false hc]; rfl) (h2 hc)
  · exact hX.elim

theorem good_isnil {neg : Bool} {t ty e : TypeId} {x : Operand} (hu : P.underlying t = some (.slice e)) (hR : Rel w0 H0 M0 n ρ s a w) (hd : d < n)
    (ho : o.op = .binOp (if neg then .neq else .eql) t x (.const (.slice none 0 0)) ty) (hX : XL P (.op none (.isnil d neg x) r) s K) : Good P w0 H0 M0 n ρ s a w o d r K := by
  simp only [XL, gateOf] at hX
  split at hX
  · rename_i A m c hx
    refine .mk hR hd _ (fun w => ?_) hX
    have hx' := hR.ev hx
    have eg : ∀ op, (eqGuard op t x (.const (.slice none 0 0)) (.slice A m c) (.slice none 0 0)).run P w = .ok () w := fun op => by cases op <;> simp [eqGuard]
    have hy' : a.eval (.const (.slice none 0 0)) = .slice none 0 0 := rfl
    have e1 : (binOp .eql t (.slice A m c) (.slice none 0 0)).run P w = .ok (.bool A.isNone) w := by
      simp only [binOp]
      simp [run_equal_slice_nil w t e A m c hu]
    cases neg with
    | false => simp only [execOp, ho, hx', hy', conc, Bool.false_eq_true, if_false, Sem.run_bind, eg, e1, Result.andThen_ok, Sem.run_pure]
    | true => simp only [execOp, ho, hx', hy', conc, if_true, Sem.run_bind, eg, run_neq_slice_nil w t e A m c hu, Result.andThen_ok, Sem.run_pure]; cases A <;> rfl
  · exact hX.elim

theorem good_not {t : TypeId} {x : Operand} (hR : Rel w0 H0 M0 n ρ s a w) (hd : d < n) (ho : o.op = .unOp .not t x) (hX : XL P (.op none (.not d x) r) s K) : Good P w0 H0 M0 n ρ s a w o d r K := by
  simp only [XL, gateOf] at hX
  split at hX
  · rename_i b hx
    exact .mk hR hd _ (fun w => by simp [execOp, ho, hR.ev hx, conc, Op.unary]) hX
  · exact hX.elim

theorem good_neg {t : TypeId} {x : Operand} (hR : Rel w0 H0 M0 n ρ s a w) (hd : d < n) (ho : o.op = .unOp .neg t x) (hX : XL P (.op none (.neg d x) r) s K) : Good P w0 H0 M0 n ρ s a w o d r K := by
  simp only [XL, gateOf] at hX
  split at hX
  · rename_i k m hx
    exact .mk hR hd _ (fun w => by simp [execOp, ho, hR.ev hx, conc, Op.unary, Op.intArith]) hX
  · exact hX.elim

theorem good_cv {S T : TypeId} {k k0 : IntKind} {x : Operand} (hS : P.underlying S = some (.int k0)) (hT : P.underlying T = some (.int k)) (hR : Rel w0 H0 M0 n ρ s a w) (hd : d < n) (ho : o.op = .convert S T x) (hX : XL P (.op none (.cv d k x) r) s K) : Good P w0 H0 M0 n ρ s a w o d r K := by
  simp only [XL, gateOf] at hX
  split at hX
  · rename_i k' m hx
    exact .mk hR hd _ (fun w => by simp [execOp, ho, hR.ev hx, conc, convert, run_underlying hS, run_underlying hT, Conv.intToInt]) hX
  · exact hX.elim

theorem addr_add (b off k : Nat) : (⟨b, off, none⟩ : Addr).add k = ⟨b, off + k, none⟩ := by
  unfold Addr.add; split <;> simp_all

theorem good_fa {t : TypeId} {fs : Array Field} {f : Nat} {fd : Field} {i : TypeInfo} {x : Operand} (hu : P.underlying t = some (.struct fs)) (hf : fs[f]? = some fd) (hi : P.info? fd.type = some i) (hz : i.size ≠ 0)
    (hR : Rel w0 H0 M0 n ρ s a w) (hd : d < n) (ho : o.op = .fieldAddr t x f) (hX : XL P (.op none (.fa d fd.offset x) r) s K) : Good P w0 H0 M0 n ρ s a w o d r K := by
  simp only [XL, gateOf] at hX
  split at hX
  · rename_i k off hx
    exact .mk hR hd _ (fun w => by simp [execOp, ho, hR.ev hx, conc, Instr.fieldAt, run_underlying hu, hf, Instr.sureAddr, fieldPlace, sizeOf, typeInfo, hi, hz, addr_add]) hX
      (fun k' off' e => by injection e with e1 e2; subst e1; exact hR.ev_wf hx)
  · rename_i b off hx
    exact .mk hR hd _ (fun w => by simp [execOp, ho, hR.ev hx, conc, Instr.fieldAt, run_underlying hu, hf, Instr.sureAddr, fieldPlace, sizeOf, typeInfo, hi, hz, addr_add]) hX
  · exact hX.elim

theorem takeN_spec {α : Type} : ∀ (m : Nat) (l r : List α), takeN m l = some r → r = l.take m ∧ m ≤ l.length
  | 0, l, r, h => by simp [takeN] at h; subst h; simp
  | m + 1, [], r, h => by simp [takeN] at h
  | m + 1, x :: l, r, h => by
    simp only [takeN] at h
    split at h
    · rename_i q hq
      obtain ⟨h1, h2⟩ := takeN_spec m l q hq
      injection h with h
      subst h
      simp [h1, h2]
    · simp at h

theorem takeN_of {α : Type} (m : Nat) (l : List α) (h : m ≤ l.length) : takeN m l = some (l.take m) := by
  induction m generalizing l with
  | zero => simp [takeN]
  | succ m ih =>
    cases l with
    | nil => simp at h
    | cons x l => simp only [takeN, ih l (by simpa using h), List.take_succ_cons]

theorem ldv_agg {m off : Nat} {cs : List Value} {v : Value} (h : ldv true m off cs = some v) : off + m ≤ cs.length ∨ m = 0 := by
  simp only [ldv] at h
  split at h
  · rename_i l hl
    have := (takeN_spec _ _ _ hl).2
    simp at this
    omega
  · simp at h

theorem ldv_agg_eq {m off : Nat} {cs : List Value} {v : Value} (h : ldv true m off cs = some v) : v = .agg ((cs.drop off).take m).toArray := by
  simp only [ldv] at h
  split at h
  · rename_i l hl
    rw [(takeN_spec _ _ _ hl).1] at h
    injection h with h
    exact h.symm
  · simp at h

theorem ldv_one {m off : Nat} {cs : List Value} {v : Value} (h : ldv false m off cs = some v) : cs[off]? = some v := by
  simp only [ldv] at h
  split at h
  · rename_i u hl
    obtain ⟨h1, h2⟩ := takeN_spec _ _ _ hl
    injection h with h
    subst h
    have : (cs.drop off)[0]? = some u := by
      cases hc : cs.drop off with
      | nil => rw [hc] at h2; simp at h2
      | cons x l => rw [hc] at h1; simp at h1; simp [h1]
    simpa using this
  · simp at h

def isAggD : TypeDesc → Bool
  | .struct _ => true
  | .array _ _ => true
  | _ => false

theorem isAgg_run (P : Program) (t : TypeId) (u : TypeDesc) (hu : P.underlying t = some u) (w : World) :
    (isAgg t).run P w = .ok (isAggD u) w := by
  unfold isAgg
  rw [Sem.run_bind, run_underlying hu w]
  cases u <;> simp [isAggD]

theorem run_part_agg (t : TypeId) (u : TypeDesc) (i : TypeInfo) (hu : P.underlying t = some u) (hi : P.info? t = some i) (ha : (isAggD u) = true)
    (cs : Array Value) (off : Nat) (w : World) : (part t cs off).run P w = .ok (.agg (cs.extract off (off + i.size))) w := by
  simp only [part, Sem.run_bind, isAgg_run P t u hu w, ha, Result.andThen_ok, if_true]
  simp [sizeOf, typeInfo, hi]
theorem run_part_one (t : TypeId) (u : TypeDesc) (hu : P.underlying t = some u) (ha : (isAggD u) = false)
    (cs : Array Value) (off : Nat) (v : Value) (hv : cs[off]? = some v) (w : World) : (part t cs off).run P w = .ok v w := by
  simp only [part, Sem.run_bind, isAgg_run P t u hu w, ha, Result.andThen_ok]
  simp [hv]

theorem good_fd {t : TypeId} {fs : Array Field} {f : Nat} {fd : Field} {u : TypeDesc} {i : TypeInfo} {x : Operand} {agg : Bool} {m : Nat} (hu : P.underlying t = some (.struct fs)) (hf : fs[f]? = some fd)
    (hfu : P.underlying fd.type = some u) (hi : P.info? fd.type = some i) (ha : (isAggD u) = agg) (hm : agg = true → m = i.size)
    (hR : Rel w0 H0 M0 n ρ s a w) (hd : d < n) (ho : o.op = .field t x f) (hX : XL P (.op none (.fd d agg m fd.offset x) r) s K) : Good P w0 H0 M0 n ρ s a w o d r K := by
  simp only [XL, gateOf] at hX
  split at hX
  · rename_i cs hx
    split at hX
    · rename_i v hv
      refine .mk hR hd _ (fun w => ?_) hX
      cases agg with
      | true =>
        obtain rfl := hm rfl
        have e := ldv_agg_eq hv
        have e2 : (cs.extract fd.offset (fd.offset + i.size)) = ((cs.toList.drop fd.offset).take i.size).toArray := by
          apply Array.ext'
          simp
        simp only [execOp, ho, hR.ev hx, conc, Instr.field, Sem.run_bind, run_underlying hu, Result.andThen_ok, hf, asAgg, Sem.run_pure, run_part_agg _ u i hfu hi ha, e, e2]
      | false =>
        have e := ldv_one hv
        have e3 : cs[fd.offset]? = some v := by simpa using e
        simp only [execOp, ho, hR.ev hx, conc, Instr.field, Sem.run_bind, run_underlying hu, Result.andThen_ok, hf, asAgg, Sem.run_pure, run_part_one _ u hfu ha cs fd.offset v e3]
    · exact hX.elim
  · exact hX.elim

theorem good_ia {t e : TypeId} {j : TypeInfo} {x i : Operand} (hu : P.underlying t = some (.slice e)) (hj : P.info? e = some j)
    (hR : Rel w0 H0 M0 n ρ s a w) (hd : d < n) (ho : o.op = .indexAddr t x i) (hX : XL P (.op none (.ia d j.size x i) r) s K) : Good P w0 H0 M0 n ρ s a w o d r K := by
  simp only [XL, gateOf] at hX
  split at hX
  · rename_i A m c k q hx hi
    obtain ⟨h0, h1, b, off, rfl, hX⟩ := hX
    refine .mk hR hd _ (fun w => ?_) hX
    have hx' := hR.ev hx
    have hi' := hR.ev hi
    simp [execOp, ho, hx', hi', conc, Instr.indexAt, asIntOf, run_underlying hu, h0, h1, sizeOf, typeInfo, hj, addr_add]
  · exact hX.elim

theorem good_iaA {t e : TypeId} {len : Nat} {j : TypeInfo} {x i : Operand} (hu : P.underlying t = some (.array len e)) (hj : P.info? e = some j)
    (hR : Rel w0 H0 M0 n ρ s a w) (hd : d < n) (ho : o.op = .indexAddr t x i) (hX : XL P (.op none (.iaA d j.size len x i) r) s K) : Good P w0 H0 M0 n ρ s a w o d r K := by
  simp only [XL, gateOf] at hX
  split at hX
  · rename_i b off k q hx hi
    obtain ⟨h0, h1, b', off', he, hX⟩ := hX
    injection he with he; injection he with he1 he2; subst he1; subst he2
    refine .mk hR hd _ (fun w => ?_) hX
    have hx' := hR.ev hx
    have hi' := hR.ev hi
    simp [execOp, ho, hx', hi', conc, Instr.indexAt, Instr.sureAddr, asIntOf, run_underlying hu, h0, h1, sizeOf, typeInfo, hj, addr_add]
  · exact hX.elim

theorem good_ix {t : TypeId} {x i : Operand} (hu : P.underlying t = some .string)
    (hR : Rel w0 H0 M0 n ρ s a w) (hd : d < n) (ho : o.op = .index t x i) (hX : XL P (.op none (.ix d x i) r) s K) : Good P w0 H0 M0 n ρ s a w o d r K := by
  simp only [XL, gateOf] at hX
  split at hX
  · rename_i st k q hx hi
    obtain ⟨h0, h1, hX⟩ := hX
    refine .mk hR hd _ (fun w => ?_) hX
    have hx' := hR.ev hx
    have hi' := hR.ev hi
    have hlt : q.toNat < st.size := by omega
    have e : st[q.toNat]? = some st[q.toNat] := by simp [hlt]
    have e2 : st[q.toNat].toNat = bAt st q.toNat := by
      unfold bAt
      have : st.data.toList.getD q.toNat 0 = st[q.toNat] := by
        have hl : st.data[q.toNat]? = some (st.data[q.toNat]'hlt) := Array.getElem?_eq_getElem hlt
        simp [List.getD, hl]; rfl
      rw [this]
    simp [execOp, ho, hx', hi', conc, Instr.index, asIntOf, run_underlying hu, h0, e, e2]
  · exact hX.elim

theorem good_ex {i : Nat} {x : Operand} (hR : Rel w0 H0 M0 n ρ s a w) (hd : d < n) (ho : o.op = .extract x i) (hX : XL P (.op none (.ex d i x) r) s K) : Good P w0 H0 M0 n ρ s a w o d r K := by
  simp only [XL, gateOf] at hX
  split at hX
  · rename_i vs hx
    split at hX
    · rename_i v hv
      have hv' : vs[i]? = some v := by simpa using hv
      exact .mk hR hd _ (fun w => by simp [execOp, ho, hR.ev hx, conc, Instr.extract, hv']) hX
    · exact hX.elim
  · exact hX.elim

theorem good_len {c : Call} {x : Operand} {t e : TypeId} (hc : c.callee = .builtin .len) (ha : c.args = #[x]) (ht : c.argTypes = #[t]) (hu : P.underlying t = some (.slice e))
    (hR : Rel w0 H0 M0 n ρ s a w) (hd : d < n) (ho : o.op = .call c) (hX : XL P (.op none (.len d x) r) s K) : Good P w0 H0 M0 n ρ s a w o d r K := by
  simp only [XL, gateOf] at hX
  split at hX
  · rename_i A m q hx
    exact .mk hR hd _ (fun w => by simp [execOp, ho, resolve, hc, ha, ht, hR.ev hx, conc, invoke, builtin, Builtin.len_, run_underlying hu, goInt]) hX
  · exact hX.elim

theorem good_lens {c : Call} {x : Operand} {t : TypeId} (hc : c.callee = .builtin .len) (ha : c.args = #[x]) (ht : c.argTypes = #[t]) (hu : P.underlying t = some .string)
    (hR : Rel w0 H0 M0 n ρ s a w) (hd : d < n) (ho : o.op = .call c) (hX : XL P (.op none (.lens d x) r) s K) : Good P w0 H0 M0 n ρ s a w o d r K := by
  simp only [XL, gateOf] at hX
  split at hX
  · rename_i q hx
    exact .mk hR hd _ (fun w => by simp [execOp, ho, resolve, hc, ha, ht, hR.ev hx, conc, invoke, builtin, Builtin.len_, run_underlying hu, goInt]) hX
  · exact hX.elim

theorem good_mm {c : Call} {isMax : Bool} {x y : Operand} (hc : c.callee = .builtin (if isMax then .max else .min)) (ha : c.args = #[x, y])
    (hR : Rel w0 H0 M0 n ρ s a w) (hd : d < n) (ho : o.op = .call c) (hX : XL P (.op none (.mm d isMax x y) r) s K) : Good P w0 H0 M0 n ρ s a w o d r K := by
  simp only [XL, gateOf] at hX
  split at hX
  · rename_i k p k' q hx hy
    have hx' := hR.ev hx
    have hy' := hR.ev hy
    refine .mk hR hd _ (fun w => ?_) hX
    cases isMax <;> simp [execOp, ho, resolve, hc, ha, hx', hy', conc, invoke, builtin, Builtin.max_, Builtin.min_, Builtin.max2, Builtin.min2]
  · exact hX.elim

theorem good_sl {t e : TypeId} {i : TypeInfo} {x lo hi : Operand} (hu : P.underlying t = some (.slice e)) (hi' : P.info? e = some i)
    (hR : Rel w0 H0 M0 n ρ s a w) (hd : d < n) (ho : o.op = .slice t x (some lo) (some hi) none) (hX : XL P (.op none (.sl d i.size x lo hi) r) s K) : Good P w0 H0 M0 n ρ s a w o d r K := by
  simp only [XL, gateOf] at hX
  split at hX
  · rename_i A m c k l k' h hx hl hh
    obtain ⟨h0, h1, h2, hX⟩ := hX
    refine .mk hR hd _ (fun w => ?_) hX
    have e1 : (0 : Int) ≤ l ∧ l ≤ (h.toNat : Int) := by omega
    have e2 : (0 : Int) ≤ h ∧ h ≤ (c : Int) := by omega
    simp only [execOp, ho, hR.ev hx, hR.ev hl, hR.ev hh, conc, Option.map_some, Option.map_none, Instr.sliceAt, Instr.slice, Instr.sliceBounds, Sem.run_bind, run_underlying hu, Result.andThen_ok, run_sliceBound_if, e1, e2, and_self, if_true, Sem.run_pure, sizeOf, typeInfo, run_program, hi']
  · exact hX.elim

theorem good_slh {t e : TypeId} {i : TypeInfo} {x hi : Operand} (hu : P.underlying t = some (.slice e)) (hi' : P.info? e = some i)
    (hR : Rel w0 H0 M0 n ρ s a w) (hd : d < n) (ho : o.op = .slice t x none (some hi) none) (hX : XL P (.op none (.slh d x hi) r) s K) : Good P w0 H0 M0 n ρ s a w o d r K := by
  simp only [XL, gateOf] at hX
  split at hX
  · rename_i A m c k' h hx hh
    obtain ⟨h0, h2, hX⟩ := hX
    refine .mk hR hd _ (fun w => ?_) hX
    have e2 : (0 : Int) ≤ h ∧ h ≤ (c : Int) := by omega
    have e3 : (A.map fun x => x.add (0 * i.size)) = A := by cases A <;> simp [Addr.add]
    simp only [execOp, ho, hR.ev hx, hR.ev hh, conc, Option.map_some, Option.map_none, Instr.sliceAt, Instr.slice, Instr.sliceBounds, Sem.run_bind, run_underlying hu, Result.andThen_ok, run_sliceBound_if, e2, and_self, if_true, Sem.run_pure, sizeOf, typeInfo, run_program, hi', e3, ite_self, Nat.sub_zero]
  · exact hX.elim

theorem good_sll {t e : TypeId} {i : TypeInfo} {x lo : Operand} (hu : P.underlying t = some (.slice e)) (hi' : P.info? e = some i)
    (hR : Rel w0 H0 M0 n ρ s a w) (hd : d < n) (ho : o.op = .slice t x (some lo) none none) (hX : XL P (.op none (.sll d i.size x lo) r) s K) : Good P w0 H0 M0 n ρ s a w o d r K := by
  simp only [XL, gateOf] at hX
  split at hX
  · rename_i A m c k l hx hl
    obtain ⟨hmc, h0, h1, h2, hX⟩ := hX
    refine .mk hR hd _ (fun w => ?_) hX
    have e1 : (0 : Int) ≤ l ∧ l ≤ (m : Int) := by omega
    simp only [execOp, ho, hR.ev hx, hR.ev hl, conc, Option.map_some, Option.map_none, Instr.sliceAt, Instr.slice, Instr.sliceBounds, Sem.run_bind, run_underlying hu, Result.andThen_ok, run_sliceBound_if, e1, and_self, if_true, Sem.run_pure, sizeOf, typeInfo, run_program, hi', Int.toNat_natCast]
  · exact hX.elim

theorem oSV_ev (hR : Rel w0 H0 M0 n ρ s a w) {x : Option Operand} {z l : Int} (h : oSV s.fr x z = some l) : (x = none ∧ l = z) ∨ ∃ q k, x = some q ∧ a.eval q = .int k l := by
  cases x with
  | none => simp [oSV] at h; exact .inl ⟨rfl, h.symm⟩
  | some q =>
    simp only [oSV] at h
    split at h
    · rename_i k m hq
      injection h with h
      subst h
      exact .inr ⟨q, k, rfl, hR.ev hq⟩
    · cases h

theorem good_ss {t : TypeId} {x : Operand} {lo hi : Option Operand} (hu : P.underlying t = some .string)
    (hR : Rel w0 H0 M0 n ρ s a w) (hd : d < n) (ho : o.op = .slice t x lo hi none) (hX : XL P (.op none (.ss d x lo hi) r) s K) : Good P w0 H0 M0 n ρ s a w o d r K := by
  simp only [XL, gateOf] at hX
  split at hX
  · rename_i st hx
    split at hX
    · rename_i l h hl hh
      obtain ⟨h0, h1, h2, hX⟩ := hX
      refine .mk hR hd _ (fun w => ?_) hX
      have eh : (0 : Int) ≤ h ∧ h ≤ (st.size : Int) := by omega
      have el : (0 : Int) ≤ l ∧ l ≤ (h.toNat : Int) := by omega
      have eh2 : (0 : Int) ≤ l ∧ l ≤ (st.size : Int) := by omega
      rcases oSV_ev hR hl with ⟨rfl, rfl⟩ | ⟨ql, kl, rfl, hql⟩ <;> rcases oSV_ev hR hh with ⟨rfl, rfl⟩ | ⟨qh, kh, rfl, hqh⟩
      · simp [execOp, ho, hR.ev hx, conc, Instr.sliceAt, Instr.slice, Instr.sliceBounds, run_underlying hu]
      · simp [execOp, ho, hR.ev hx, conc, Instr.sliceAt, Instr.slice, Instr.sliceBounds, run_underlying hu, hqh, run_sliceBound_if, eh]
      · simp [execOp, ho, hR.ev hx, conc, Instr.sliceAt, Instr.slice, Instr.sliceBounds, run_underlying hu, hql, run_sliceBound_if, eh2]
      · simp [execOp, ho, hR.ev hx, conc, Instr.sliceAt, Instr.slice, Instr.sliceBounds, run_underlying hu, hql, hqh, run_sliceBound_if, eh, el]
        intro hm
        exact absurd hm (by omega)
    · exact hX.elim
  · exact hX.elim

theorem cellsL_eq (v : Value) : cellsL v = v.cells.toList := by cases v <;> rfl

theorem stv_spec {α : Type} : ∀ (off : Nat) (vs cs cs' : List α), stv off vs cs = some cs' → off + vs.length ≤ cs.length ∧ cs' = cs.take off ++ vs ++ cs.drop (off + vs.length)
  | 0, [], cs, cs', h => by simp [stv] at h; subst h; simp
  | 0, v :: vs, [], cs', h => by simp [stv] at h
  | 0, v :: vs, c :: cs, cs', h => by
    simp only [stv] at h
    split at h
    · rename_i q hq
      obtain ⟨h1, h2⟩ := stv_spec 0 vs cs q hq
      injection h with h
      subst h; subst h2
      refine ⟨by simp at h1 ⊢; omega, ?_⟩
      simp [Nat.add_comm]
    · cases h
  | k + 1, vs, [], cs', h => by simp [stv] at h
  | k + 1, vs, c :: cs, cs', h => by
    simp only [stv] at h
    split at h
    · rename_i q hq
      obtain ⟨h1, h2⟩ := stv_spec k vs cs q hq
      injection h with h
      subst h; subst h2
      refine ⟨by simp at h1 ⊢; omega, ?_⟩
      rw [show k + 1 + vs.length = (k + vs.length) + 1 by omega]
      simp
    · cases h

theorem stv_of {α : Type} (off : Nat) (vs cs : List α) (h : off + vs.length ≤ cs.length) : stv off vs cs = some (cs.take off ++ vs ++ cs.drop (off + vs.length)) := by
  cases hq : stv off vs cs with
  | some q => rw [(stv_spec off vs cs q hq).2]
  | none =>
    exfalso
    induction off generalizing cs with
    | zero =>
      induction vs generalizing cs with
      | nil => simp [stv] at hq
      | cons v vs ih =>
        cases cs with
        | nil => simp at h
        | cons c cs =>
          simp only [stv] at hq
          cases hr : stv 0 vs cs with
          | none => exact ih cs (by simp at h ⊢; omega) hr
          | some r => simp [hr] at hq
    | succ k ih =>
      cases cs with
      | nil => simp at h
      | cons c cs =>
        simp only [stv] at hq
        cases hr : stv k vs cs with
        | none => exact ih cs (by simp at h ⊢; omega) hr
        | some r => simp [hr] at hq

theorem foldl_set {α : Type} (off : Nat) : ∀ (vs : List α) (k : Nat) (cs : Array α), off + k + vs.length ≤ cs.size →
    ((vs.zipIdx k).foldl (fun (cs : Array α) (p : α × Nat) => cs.setIfInBounds (off + p.2) p.1) cs).toList = cs.toList.take (off + k) ++ vs ++ cs.toList.drop (off + k + vs.length)
  | [], k, cs, h => by simp
  | v :: vs, k, cs, h => by
    simp only [List.zipIdx_cons, List.foldl_cons]
    have h' : off + (k + 1) + vs.length ≤ (cs.setIfInBounds (off + k) v).size := by simp at h ⊢; omega
    rw [foldl_set off vs (k + 1) _ h']
    have hlt : off + k < cs.toList.length := by simp at h ⊢; omega
    simp only [Array.toList_setIfInBounds, List.length_cons]
    have e1 : (cs.toList.set (off + k) v).take (off + (k + 1)) = cs.toList.take (off + k) ++ [v] := by
      rw [show off + (k + 1) = (off + k) + 1 by omega, List.take_succ_eq_append_getElem (by simpa using hlt), List.take_set_of_le (Nat.le_refl _)]
      simp
    have e2 : (cs.toList.set (off + k) v).drop (off + (k + 1) + vs.length) = cs.toList.drop (off + k + (vs.length + 1)) := by
      rw [List.drop_set_of_lt (by omega)]
      congr 1; omega
    rw [e1, e2]
    simp

theorem fill_of {fr : List (Nat × SV)} (hev : ∀ x sv, X.ev fr x = some sv → a.eval x = conc ρ sv) (pl : Nat → Option (Nat × Nat)) : ∀ (parts : List (Nat × Operand)) (ps : List (Nat × Nat × Operand)) (cs cs' : List Value),
    partsOf pl parts = some ps → fillL fr ps cs = some cs' → Instr.fill pl cs.toArray (parts.map fun p => (p.1, a.eval p.2)) = some cs'.toArray
  | [], ps, cs, cs', hp, hf => by
    simp [partsOf] at hp; subst hp
    simp [fillL] at hf; subst hf
    rfl
  | (i, x) :: l, ps, cs, cs', hp, hf => by
    simp only [partsOf] at hp
    split at hp
    · rename_i off m r hpl hr
      injection hp with hp
      subst hp
      simp only [fillL] at hf
      split at hf
      · rename_i v hv
        split at hf
        · rename_i hlen
          split at hf
          · rename_i cs1 hst
            have ih := fill_of hev pl l r cs1 cs' hr hf
            have he := hev x _ hv
            obtain ⟨h1, h2⟩ := stv_spec _ _ _ _ hst
            have hsz : v.cells.size = m := by rw [cellsL_eq] at hlen; simpa using hlen
            rw [cellsL_eq] at h1 h2
            have hle : ¬ (off + v.cells.size > cs.toArray.size) := by simp at h1 ⊢; omega
            have hc : ¬ (v.cells.size ≠ m ∨ off + v.cells.size > cs.toArray.size) := by simp [hsz] at hle ⊢; omega
            simp only [List.map_cons, Instr.fill, hpl, he, conc]
            rw [if_neg (by simpa using hc)]
            have hfold : (v.cells.zipIdx.foldl (fun (cs : Array Value) (p : Value × Nat) => cs.setIfInBounds (off + p.2) p.1) cs.toArray) = cs1.toArray := by
              apply Array.ext'
              have := foldl_set off v.cells.toList 0 cs.toArray (by simp at h1 ⊢; omega)
              rw [← Array.foldl_toList]
              simp only [Array.toList_zipIdx, Nat.add_zero] at this ⊢
              rw [this, h2]
            rw [show (fun (cs : Array Value) (x : Value × Nat) => match x with | (c, j) => cs.setIfInBounds (off + j) c) = (fun (cs : Array Value) (p : Value × Nat) => cs.setIfInBounds (off + p.2) p.1) from rfl, hfold]
            exact ih
          · cases hf
        · cases hf
      · cases hf
    · cases hp

theorem good_bld {t : TypeId} {parts : Array (Nat × Operand)} {pl : Nat → Option (Nat × Nat)} {ps : List (Nat × Nat × Operand)} {z : List Value} (hps : partsOf pl parts.toList = some ps)
    (hb : ∀ vs cells, Instr.fill pl z.toArray vs = some cells → P.built t vs = some cells)
    (hR : Rel w0 H0 M0 n ρ s a w) (hd : d < n) (ho : o.op = .build t parts) (hX : XL P (.op none (.bld d z ps) r) s K) : Good P w0 H0 M0 n ρ s a w o d r K := by
  simp only [XL, gateOf] at hX
  split at hX
  · rename_i cs' hf
    refine .mk hR hd _ (fun w => ?_) hX
    have h1 := fill_of (a := a) (ρ := ρ) (fun x sv h => hR.ev h) pl parts.toList ps z cs' hps hf
    have h2 := run_build (P := P) w t (parts.map fun (i, x) => (i, a.eval x)) cs'.toArray (hb _ _ (by simpa using h1))
    simp only [execOp, ho, Sem.run_bind, h2, Result.andThen_ok, Sem.run_pure, conc]
  · exact hX.elim

end
end Go.Proofs.YtccdhgjfcgfgoaaGreat.X
set_option linter.unusedVariables false
set_option linter.unusedSimpArgs false
namespace Go.Proofs.YtccdhgjfcgfgoaaGreat.X
open Go Go.RowKit

section
variable {P : Program} {w0 : World} {H0 M0 : PH} {n : Nat} {ρ : Nat → Nat} {s : St} {a : Act} {w : World}

theorem heap_lt {w : World} {b : Nat} {o : Obj} (h : w.heap[b]? = some o) : b < w.heap.size := (Array.getElem?_eq_some_iff.1 h).1

theorem PH.on_below {H : PH} {w w' : World} (h : H.on w) (hb : Below w.heap.size w w') : H.on w' :=
  fun b o ho => (hb.block b (heap_lt (h b o ho))).trans (h b o ho)

theorem PH.no_block {H : PH} {w : World} (h : H.on w) {b : Nat} (hb : w.heap.size ≤ b) : H b = none := by
  cases ho : H b with
  | none => rfl
  | some o => have := heap_lt (h b o ho); omega

theorem Stp.below {w0 w w' : World} {M : PH} (h : Stp w0 w M) (hb : Below w.heap.size w w') : Stp w0 w' M :=
  ⟨hb.os.trans h.os, hb.tape.trans h.tape, hb.output.trans h.output, Nat.le_trans h.size hb.size, fun b hlt hM => (hb.block b (Nat.lt_of_lt_of_le hlt h.size)).trans (h.block b hlt hM)⟩

theorem Rel.below {w' : World} (h : Rel w0 H0 M0 n ρ s a w) (hb : Below w.heap.size w w') : Rel w0 H0 M0 n ρ s a w' := by
  refine ⟨h.size, h.defers, h.fr, ?_, h.inj, PH.on_below h.H hb, PH.on_below h.M hb, h.dj, h.step.below hb, h.hM, h.hH, h.leH, h.wf⟩
  intro k cs hk
  obtain ⟨⟨T, hT⟩, h2⟩ := h.lh k cs hk
  exact ⟨⟨T, (hb.block _ (heap_lt hT)).trans hT⟩, h2⟩

/-- what is safe from an append: the locals, and H -/
def Safe (ρ : Nat → Nat) (s : St) (b : Nat) : Prop := (∃ k cs, lk s.lh k = some cs ∧ ρ k = b) ∨ s.H b ≠ none

/-- how much an operation may turn -/
def Post (lv : Nat) (ρ : Nat → Nat) (s : St) (w w' : World) : Prop :=
  match lv with
  | 0 => Below w.heap.size w w'
  | 1 => w.heap.size ≤ w'.heap.size ∧ ∀ b, Safe ρ s b → w'.heap[b]? = w.heap[b]?
  | _ => True

def Grow (ρ : Nat → Nat) (s : St) (ρ' : Nat → Nat) (s' : St) : Prop := ∀ b, Safe ρ s b → Safe ρ' s' b

theorem Grow.refl (ρ : Nat → Nat) (s : St) : Grow ρ s ρ s := fun _ h => h
theorem Grow.put (ρ : Nat → Nat) (s : St) (d : Nat) (x : SV) : Grow ρ s ρ (s.put d x) := fun _ h => h

theorem Rel.safe_lt {b : Nat} (h : Rel w0 H0 M0 n ρ s a w) (hb : Safe ρ s b) : b < w.heap.size := by
  rcases hb with ⟨k, cs, hk, rfl⟩ | hb
  · obtain ⟨⟨T, hT⟩, _⟩ := h.lh k cs hk
    exact heap_lt hT
  · cases ho : s.H b with
    | none => exact absurd ho hb
    | some o => exact heap_lt (h.H b o ho)

theorem Post.of_below {lv : Nat} {w' : World} (h : Rel w0 H0 M0 n ρ s a w) (hb : Below w.heap.size w w') : Post lv ρ s w w' := by
  match lv with
  | 0 => exact hb
  | 1 => exact ⟨hb.size, fun b hs => hb.block b (h.safe_lt hs)⟩
  | _ + 2 => trivial

/-- an acting operation -/
def Acts (P : Program) (w0 : World) (H0 M0 : PH) (n : Nat) (Q : Exit → Act → World → Prop) (a : Act) (w : World) (ρ : Nat → Nat) (s : St) (o : Oper) (lv : Nat) (r : PT) (K : St → Prop) : Prop :=
  o.wp P a w (fun a' w' => Post lv ρ s w w' ∧ ∃ ρ' s', Rel w0 H0 M0 n ρ' s' a' w' ∧ XL P r s' K ∧ Grow ρ s ρ' s') Q

variable {o : Oper} {d : Nat} {r : PT} {K : St → Prop} {Q : Exit → Act → World → Prop}

theorem Acts.value {lv : Nat} {v : Value} {w' : World} (hr : (execOp a.eval o).run P w = .ok (.value v) w') (hb : Post lv ρ s w w')
    (h : ∃ ρ' s', Rel w0 H0 M0 n ρ' s' (a.put o.dst v) w' ∧ XL P r s' K ∧ Grow ρ s ρ' s') : Acts P w0 H0 M0 n Q a w ρ s o lv r K := by
  unfold Acts Oper.wp
  rw [hr]
  exact ⟨hb, h⟩
theorem Acts.skip {lv : Nat} {w' : World} (hr : (execOp a.eval o).run P w = .ok .skip w') (hb : Post lv ρ s w w')
    (h : ∃ ρ' s', Rel w0 H0 M0 n ρ' s' (a.put o.dst undef) w' ∧ XL P r s' K ∧ Grow ρ s ρ' s') : Acts P w0 H0 M0 n Q a w ρ s o lv r K := by
  unfold Acts Oper.wp
  rw [hr]
  exact ⟨hb, h⟩

/-! ### Loads -/

theorem cell_row {w : World} {b j : Nat} {cs : Array Value} {T : TypeId} {fz : Nat × Nat} (hg : w.heap[b]? = some (.cells cs T fz)) : w.cell? ⟨b, j, none⟩ = cs[j]? := by
  simp [World.cell?, hg]

theorem run_ld {t : TypeId} {u : TypeDesc} {i : TypeInfo} {agg : Bool} {m : Nat} (hu : P.underlying t = some u) (hi : P.info? t = some i) (ha : isAggD u = agg) (hm : agg = true → m = i.size)
    {w : World} {b off : Nat} {cs : Array Value} {T : TypeId} {fz : Nat × Nat} {v : Value} (hg : w.heap[b]? = some (.cells cs T fz)) (hv : ldv agg m off cs.toList = some v) :
    (loadVar t ⟨b, off, none⟩).run P w = .ok v w := by
  simp only [loadVar, Sem.run_bind, isAgg_run P t u hu w, ha, Result.andThen_ok]
  cases agg with
  | true =>
    obtain rfl := hm rfl
    rw [ldv_agg_eq hv]
    have hl : ((cs.toList.drop off).take i.size).length = i.size := by
      rcases ldv_agg hv with h | h
      · simp at h ⊢; omega
      · simp [h]
    have := run_loadCells_list (P := P) w ⟨b, off, none⟩ ((cs.toList.drop off).take i.size) (fun j u hu => by
      rw [addr_add, cell_row hg]
      rw [List.getElem?_take] at hu
      split at hu
      · simpa using hu
      · cases hu)
    rw [hl] at this
    simp [sizeOf, typeInfo, hi, this]
  | false =>
    have := ldv_one hv
    have hc : w.cell? ⟨b, off, none⟩ = some v := by rw [cell_row hg]; simpa using this
    simp [hc]

theorem good_ld {t : TypeId} {u : TypeDesc} {i : TypeInfo} {agg : Bool} {m : Nat} {x : Operand} (hu : P.underlying t = some u) (hi : P.info? t = some i) (ha : isAggD u = agg) (hm : agg = true → m = i.size)
    (hR : Rel w0 H0 M0 n ρ s a w) (hd : d < n) (ho : o.op = .load t x) (hX : XL P (.op none (.ld d agg m x) r) s K) :
    ∃ v b s', (∀ w', SameAt w b w' → (execOp a.eval o).run P w' = .ok (.value v) w') ∧ Rel w0 H0 M0 n ρ s' (a.put (some d) v) w ∧ XL P r s' K ∧ Grow ρ s ρ s' := by
  have base : ∀ (b off : Nat) (cs : Array Value) (T : TypeId) (fz : Nat × Nat) (v : Value), a.eval x = .pointer (some ⟨b, off, none⟩) → w.heap[b]? = some (.cells cs T fz) → ldv agg m off cs.toList = some v →
      ∀ w', SameAt w b w' → (execOp a.eval o).run P w' = .ok (.value v) w' := by
    intro b off cs T fz v hx hg hv w' hs
    have hg' : w'.heap[b]? = some (.cells cs T fz) := (hs.2 (heap_lt hg)).trans hg
    simp only [execOp, ho, hx, Instr.loadAt, Instr.sureAddr, Sem.run_bind, Sem.run_pure, Result.andThen_ok, run_ld hu hi ha hm hg' hv]
  simp only [XL, gateOf] at hX
  split at hX
  · rename_i k off hx
    split at hX
    · rename_i cs hk
      split at hX
      · rename_i v hv
        obtain ⟨⟨T, hT⟩, _⟩ := hR.lh k cs hk
        exact ⟨v, ρ k, _, base (ρ k) off cs.toArray T _ v (hR.ev hx) hT (by simpa using hv), hR.put hd (.v v), hX, fun _ h => h⟩
      · exact hX.elim
    · exact hX.elim
  · rename_i p hx
    obtain ⟨b, off, cs, T, fz, v, rfl, hHM, hv, hX⟩ := hX
    have hg : w.heap[b]? = some (.cells cs T fz) := hHM.elim (hR.H b _) (hR.M b _)
    exact ⟨v, b, _, base b off cs T fz v (hR.ev hx) hg hv, hR.put hd (.v v), hX, fun _ h => h⟩
  · exact hX.elim

theorem good_ldx {t : TypeId} {u : TypeDesc} {i : TypeInfo} {agg : Bool} {m : Nat} {x : Operand} (hu : P.underlying t = some u) (hi : P.info? t = some i) (ha : isAggD u = agg) (hm : agg = true → m = i.size)
    (hR : Rel w0 H0 M0 n ρ s a w) (hd : d < n) (ho : o.op = .load t x) (hX : XL P (.op none (.ldx d agg m x) r) s K) :
    ∃ v b s', (∀ w', SameAt w b w' → (execOp a.eval o).run P w' = .ok (.value v) w') ∧ Rel w0 H0 M0 n ρ s' (a.put (some d) v) w ∧ XL P r s' K ∧ Safe ρ s b ∧ Grow ρ s ρ s' := by
  have base : ∀ (b off : Nat) (cs : Array Value) (T : TypeId) (fz : Nat × Nat) (v : Value), a.eval x = .pointer (some ⟨b, off, none⟩) → w.heap[b]? = some (.cells cs T fz) → ldv agg m off cs.toList = some v →
      ∀ w', SameAt w b w' → (execOp a.eval o).run P w' = .ok (.value v) w' := by
    intro b off cs T fz v hx hg hv w' hs
    have hg' : w'.heap[b]? = some (.cells cs T fz) := (hs.2 (heap_lt hg)).trans hg
    simp only [execOp, ho, hx, Instr.loadAt, Instr.sureAddr, Sem.run_bind, Sem.run_pure, Result.andThen_ok, run_ld hu hi ha hm hg' hv]
  simp only [XL, gateOf] at hX
  split at hX
  · rename_i k off hx
    split at hX
    · rename_i cs hk
      split at hX
      · rename_i v hv
        obtain ⟨⟨T, hT⟩, _⟩ := hR.lh k cs hk
        exact ⟨v, ρ k, _, base (ρ k) off cs.toArray T _ v (hR.ev hx) hT (by simpa using hv), hR.put hd (.v v), hX, .inl ⟨k, cs, hk, rfl⟩, fun _ h => h⟩
      · exact hX.elim
    · exact hX.elim
  · rename_i p hx
    obtain ⟨b, off, cs, T, fz, v, rfl, hH, hv, hX⟩ := hX
    exact ⟨v, b, _, base b off cs T fz v (hR.ev hx) (hR.H b _ hH) hv, hR.put hd (.v v), hX, .inr (by rw [hH]; simp), fun _ h => h⟩
  · exact hX.elim

/-! ### New blocks -/

theorem below_alloc' (w : World) (o : Obj) : Below w.heap.size w (w.alloc o) := (Below.refl _ _).alloc (Nat.le_refl _) o

theorem Rel.fresh {k : Nat} {cs : List Value} (h : Rel w0 H0 M0 n ρ s a w) (hk : lk s.lh k = some cs) : ρ k < w.heap.size := by
  obtain ⟨⟨T, hT⟩, _⟩ := h.lh k cs hk
  exact heap_lt hT

theorem Rel.newLocal (h : Rel w0 H0 M0 n ρ s a w) (hd : d < n) (cs : List Value) (T : TypeId) (hk : lk s.lh d = none) :
    Rel w0 H0 M0 n (fun k => if k = d then w.heap.size else ρ k) ⟨(d, .ptr d 0) :: s.fr, (d, cs) :: s.lh, s.H, s.M⟩ (a.put (some d) (.pointer (some ⟨w.heap.size, 0, none⟩))) (w.alloc (.cells cs.toArray T)) := by
  have hp : ∀ i k off, lk s.fr i = some (.ptr k off) → k ≠ d := fun i k off hi e => by
    obtain ⟨cs, hcs⟩ := h.wf i k off hi
    rw [e, hk] at hcs; cases hcs
  have hb := below_alloc' w (.cells cs.toArray T)
  have hR := h.below hb
  have hcon : ∀ i sv, lk s.fr i = some sv → conc (fun k => if k = d then w.heap.size else ρ k) sv = conc ρ sv := by
    intro i sv hi
    cases sv with
    | v x => rfl
    | ptr k off => simp [conc, hp i k off hi]
  refine ⟨by simp [Act.put, h.size], h.defers, ?_, ?_, ?_, hR.H, hR.M, h.dj, hR.step, h.hM, h.hH, h.leH, ?_⟩
  · intro i sv hi
    simp only [lk] at hi
    by_cases hdi : d = i
    · subst hdi
      rw [if_pos rfl] at hi
      injection hi with hi
      subst hi
      simp [Act.put, h.size, hd, conc]
    · rw [if_neg hdi] at hi
      simp only [Act.put]
      rw [Array.getElem?_setIfInBounds_ne hdi, hcon i sv hi]
      exact h.fr i sv hi
  · intro k cs' hk'
    simp only [lk] at hk'
    by_cases hdk : d = k
    · subst hdk
      rw [if_pos rfl] at hk'
      injection hk' with hk'
      subst hk'
      simp only [if_pos]
      refine ⟨⟨T, heap_alloc_new w _⟩, PH.no_block h.H (Nat.le_refl _), PH.no_block h.M (Nat.le_refl _), h.step.size⟩
    · rw [if_neg hdk] at hk'
      simp only [if_neg (Ne.symm hdk)]
      exact hR.lh k cs' hk'
  · intro k k' c c' hk1 hk2 he
    simp only [lk] at hk1 hk2
    by_cases h1 : d = k
    · by_cases h2 : d = k'
      · exact h1.symm.trans h2
      · rw [if_neg h2] at hk2
        have := h.fresh hk2
        simp only [h1.symm, if_pos, if_neg (Ne.symm h2)] at he
        omega
    · rw [if_neg h1] at hk1
      have := h.fresh hk1
      by_cases h2 : d = k'
      · simp only [h2.symm, if_pos, if_neg (Ne.symm h1)] at he
        omega
      · rw [if_neg h2] at hk2
        simp only [if_neg (Ne.symm h1), if_neg (Ne.symm h2)] at he
        exact h.inj k k' c c' hk1 hk2 he
  · intro i k off hi
    simp only [lk] at hi ⊢
    by_cases hdi : d = i
    · rw [if_pos hdi] at hi
      injection hi with hi
      injection hi with hi
      exact ⟨cs, by rw [if_pos hi]⟩
    · rw [if_neg hdi] at hi
      obtain ⟨c, hc⟩ := h.wf i k off hi
      exact ⟨c, by rw [if_neg (Ne.symm (hp i k off hi))]; exact hc⟩

theorem Grow.newLocal (hk : lk s.lh d = none) (b0 : Nat) (fr : List (Nat × SV)) (cs : List Value) : Grow ρ s (fun k => if k = d then b0 else ρ k) ⟨fr, (d, cs) :: s.lh, s.H, s.M⟩ := by
  rintro b (⟨k, c, hc, rfl⟩ | hb)
  · have hne : d ≠ k := fun e => by rw [← e, hk] at hc; cases hc
    exact .inl ⟨k, c, by simp only [lk]; rw [if_neg hne]; exact hc, by simp only [if_neg (Ne.symm hne)]⟩
  · exact .inr hb

theorem act_new {lv : Nat} {t : TypeId} {i : TypeInfo} {z : Value} (hi : P.info? t = some i) (hz : i.zero = some z) (hR : Rel w0 H0 M0 n ρ s a w) (hd : d < n) (hdst : o.dst = some d) (ho : o.op = .alloc t)
    (hX : XL P (.op none (.new d z.cells.toList) r) s K) : Acts P w0 H0 M0 n Q a w ρ s o lv r K := by
  simp only [XL, gateOf] at hX
  split at hX
  · rename_i hk
    refine .value (v := .pointer (some ⟨w.heap.size, 0, none⟩)) (w' := w.alloc (.cells z.cells t)) ?_ (.of_below hR (below_alloc' _ _)) ?_
    · simp [execOp, ho, Instr.alloc, zeroValue, typeInfo, hi, hz, newVar, newRow]
    · have := hR.newLocal hd z.cells.toList t hk
      rw [hdst]
      exact ⟨_, _, by simpa using this, hX, .newLocal hk _ _ _⟩
  · exact hX.elim

theorem act_box {lv : Nat} {t : TypeId} {x : Operand} (hR : Rel w0 H0 M0 n ρ s a w) (hd : d < n) (hdst : o.dst = some d) (ho : o.op = .box t x)
    (hX : XL P (.op none (.box d x) r) s K) : Acts P w0 H0 M0 n Q a w ρ s o lv r K := by
  simp only [XL, gateOf] at hX
  split at hX
  · rename_i v hk hx
    refine .value (v := .pointer (some ⟨w.heap.size, 0, none⟩)) (w' := w.alloc (.cells v.cells t)) ?_ (.of_below hR (below_alloc' _ _)) ?_
    · simp [execOp, ho, hR.ev hx, conc, Instr.box, newVar, newRow]
    · have := hR.newLocal hd (cellsL v) t hk
      rw [hdst]
      rw [cellsL_eq] at this hX
      exact ⟨_, _, by simpa using this, hX, .newLocal hk _ _ _⟩
  · exact hX.elim

/-- a block of the caller's own -/
theorem Rel.newM {w' : World} (h : Rel w0 H0 M0 n ρ s a w) (hb : Below w.heap.size w w') {g : Nat} {ob : Obj} (hg : w'.heap[g]? = some ob) (hn : w.heap.size ≤ g) :
    Rel w0 H0 M0 n ρ ⟨s.fr, s.lh, s.H, s.M.set g ob⟩ a w' := by
  have hR := h.below hb
  refine ⟨h.size, h.defers, h.fr, ?_, h.inj, hR.H, ?_, ?_, hR.step, ?_, h.hH, h.leH, h.wf⟩
  · intro k cs hk
    obtain ⟨h1, h2, h3, h4⟩ := hR.lh k cs hk
    have := h.fresh hk
    exact ⟨h1, h2, by simp only [PH.set]; rw [if_neg (by omega)]; exact h3, h4⟩
  · intro b ob' hb'
    simp only [PH.set] at hb'
    split at hb'
    · rename_i e; subst e; injection hb' with hb'; subst hb'; exact hg
    · exact hR.M b ob' hb'
  · intro b ob' hb'
    have hlt := heap_lt (h.H b ob' hb')
    simp only [PH.set]
    rw [if_neg (by omega)]
    exact h.dj b ob' hb'
  · intro b hb'
    simp only [PH.set] at hb'
    split at hb'
    · rename_i e; subst e; exact .inr (Nat.le_trans h.step.size hn)
    · exact h.hM b hb'

theorem madeCells_eq (zs : List Value) : ∀ (j : Nat), (List.range (j * zs.length)).map (fun i => zs.toArray[i % zs.length]!) = (List.replicate j zs).flatten
  | 0 => by simp
  | j + 1 => by
    rw [List.replicate_succ, List.flatten_cons, ← madeCells_eq zs j, Nat.add_one_mul, Nat.add_comm (j * zs.length), List.range_add, List.map_append, List.map_map]
    congr 1
    · apply List.ext_getElem
      · simp
      · intro i h1 h2
        simp at h1 h2
        simp [Nat.mod_eq_of_lt h2, h2]
    · apply List.map_congr_left
      intro i _
      simp

theorem act_mk {lv : Nat} {t e : TypeId} {i : TypeInfo} {z : Value} {x y : Operand} (hxy : x = y) (hu : P.underlying t = some (.slice e)) (hi : P.info? e = some i) (hz : i.zero = some z) (hzs : z.cells.size = i.size)
    (hR : Rel w0 H0 M0 n ρ s a w) (hd : d < n) (hdst : o.dst = some d) (ho : o.op = .makeSlice t x y)
    (hX : XL P (.op none (.mk d e z.cells.toList i.bytes x) r) s K) : Acts P w0 H0 M0 n Q a w ρ s o lv r K := by
  subst hxy
  simp only [XL, gateOf] at hX
  split at hX
  · rename_i j hx
    obtain ⟨h0, h1, h2, hX⟩ := hX
    have hrun := run_make (P := P) w t e i z hu hi hz .i64 .i64 j j h0 (Int.le_refl _) (by rw [Int.mul_comm]; omega) h2
    have hc : madeCells z.cells (j.toNat * i.size) = (List.replicate j.toNat z.cells.toList).flatten.toArray := by
      apply Array.ext'
      have := madeCells_eq z.cells.toList j.toNat
      simp only [Array.length_toList, hzs] at this
      simp only [madeCells, Array.toList_map, Array.toList_range, hzs]
      rw [← this]
    rw [hc] at hrun
    refine .value (v := .slice (some ⟨w.heap.size, 0, none⟩) j.toNat j.toNat) (w' := w.alloc (.cells (List.replicate j.toNat z.cells.toList).flatten.toArray e)) ?_ (.of_below hR (below_alloc' _ _)) ?_
    · simp only [execOp, ho, hR.ev hx, conc, Sem.run_bind, hrun, Result.andThen_ok, Sem.run_pure]
    · rw [hdst]
      have h3 := hR.newM (below_alloc' w (.cells (List.replicate j.toNat z.cells.toList).flatten.toArray e)) (heap_alloc_new w _) (Nat.le_refl _)
      exact ⟨_, _, h3.put hd (.v (.slice (some ⟨w.heap.size, 0, none⟩) j.toNat j.toNat)), hX w.heap.size (PH.no_block hR.H (Nat.le_refl _)) (PH.no_block hR.M (Nat.le_refl _)), fun _ h => h⟩
  · exact hX.elim

theorem map_range0 (f : Nat → Value) : (Array.range 0).map f = #[] := by
  apply Array.ext'
  simp

theorem act_bsl {lv : Nat} {t e : TypeId} {len : Nat} {i : TypeInfo} {z : Value} {parts : Array (Nat × Operand)} {ps : List (Nat × Nat × Operand)} (hu : P.underlying t = some (.slice e)) (hi : P.info? e = some i) (hz : i.zero = some z)
    (hzs : z.cells.size = i.size) (hmax : len * i.size ≤ 16777216) (hps : partsOf (fun k => some (k * i.size, i.size)) parts.toList = some ps)
    (hR : Rel w0 H0 M0 n ρ s a w) (hd : d < n) (hdst : o.dst = some d) (ho : o.op = .buildSlice t len parts)
    (hX : XL P (.op none (.bsl d e len (List.replicate len z.cells.toList).flatten ps) r) s K) : Acts P w0 H0 M0 n Q a w ρ s o lv r K := by
  simp only [XL, gateOf] at hX
  split at hX
  · rename_i cs' hf
    have h1 := fill_of (a := a) (ρ := ρ) (fun x sv h => hR.ev h) _ parts.toList ps _ cs' hps hf
    have hc : ((Array.range (len * i.size)).map (z.cells[· % z.cells.size]!)) = (List.replicate len z.cells.toList).flatten.toArray := by
      apply Array.ext'
      have := madeCells_eq z.cells.toList len
      simp only [Array.length_toList, hzs] at this
      simp only [Array.toList_map, Array.toList_range, hzs]
      rw [← this]
    have hm : ¬ (16777216 < len * i.size) := by omega
    refine .value (v := .slice (some ⟨w.heap.size, 0, none⟩) len len) (w' := w.alloc (.cells cs'.toArray e)) ?_ (.of_below hR (below_alloc' _ _)) ?_
    · have h1' : Instr.fill (fun k => some (k * i.size, i.size)) (List.replicate len z.cells.toList).flatten.toArray (parts.toList.map fun p => (p.1, a.eval p.2)) = some cs'.toArray := h1
      have h2 : (parts.map fun (x : Nat × Operand) => match x with | (i, x) => (i, a.eval x)).toList = parts.toList.map fun p => (p.1, a.eval p.2) := by simp
      by_cases hn : len * i.size = 0
      · have hc0 : (List.replicate len z.cells.toList).flatten.toArray = #[] := by
          rw [← hc, hn, map_range0]
        rw [hc0] at h1'
        simp only [execOp, ho, Instr.buildSlice, Sem.run_bind, run_underlying hu, Result.andThen_ok, sizeOf, typeInfo, run_program, hi, Sem.run_pure, Nat.reducePow, gt_iff_lt, hm, if_false]
        simp only [hn, if_true, Sem.run_bind, Sem.run_pure, Result.andThen_ok, map_range0]
        rw [h2, h1']
        simp [newRow]
      · simp only [execOp, ho, Instr.buildSlice, Sem.run_bind, run_underlying hu, Result.andThen_ok, sizeOf, typeInfo, run_program, hi, Sem.run_pure, Nat.reducePow, gt_iff_lt, hm, hn, if_false, zeroValue, hz, hc]
        rw [h2, h1']
        simp [newRow]
    · rw [hdst]
      have h3 := hR.newM (below_alloc' w (.cells cs'.toArray e)) (heap_alloc_new w _) (Nat.le_refl _)
      exact ⟨_, _, h3.put hd (.v (.slice (some ⟨w.heap.size, 0, none⟩) len len)), hX w.heap.size (PH.no_block hR.H (Nat.le_refl _)) (PH.no_block hR.M (Nat.le_refl _)), fun _ h => h⟩
  · exact hX.elim

/-! ### Stores -/

theorem lk_upd {α : Type} (l : List (Nat × α)) (k j : Nat) (y : α) : lk (upd l k y) j = if k = j then (match lk l j with | some _ => some y | none => none) else lk l j := by
  induction l with
  | nil => simp [upd, lk]
  | cons p l ih =>
    obtain ⟨i, x⟩ := p
    simp only [upd]
    by_cases hik : i = k
    · subst hik
      rw [if_pos rfl]
      simp only [lk]
      by_cases hij : i = j
      · simp [hij]
      · simp [hij]
    · rw [if_neg hik]
      simp only [lk]
      by_cases hij : i = j
      · subst hij
        simp [Ne.symm hik]
      · simp [hij, ih]

theorem size_setRow' (w : World) (g : Nat) (cs : Array Value) : (w.setRow g cs).heap.size = w.heap.size := by simp [World.setRow]

/-- stores below a mark that lies behind a block's cells -/
theorem run_storeCells_fz (g o : Nat) (t : TypeId) (fz : Nat × Nat) : ∀ (vs : List Value) (i : Nat) (cur : Array Value) (w : World), w.heap[g]? = some (.cells cur t fz) → (fz = (0, 0) ∨ cur.size ≤ fz.1) → o + i + vs.length ≤ cur.size → (∀ v ∈ vs, v.oneCell' = true) →
    (storeCells ⟨g, o, none⟩ vs i).run P w = .ok () (w.setRow g (cur.toList.take (o + i) ++ vs ++ cur.toList.drop (o + i + vs.length)).toArray)
  | [], i, cur, w, hg, _, _, _ => by
    simp only [storeCells, List.append_nil, List.length_nil, Nat.add_zero, List.take_append_drop, Array.toArray_toList]
    rw [setRow_self w g cur t fz hg]
    rfl
  | v :: rest, i, cur, w, hg, hz, hl, h1 => by
    have hi : o + i < cur.size := by simp at hl; omega
    have hadd : (⟨g, o, none⟩ : Addr).add i = ⟨g, o + i, none⟩ := by unfold Addr.add; split <;> simp_all
    have hcell : w.cell? ⟨g, o + i, none⟩ = some cur[o + i] := by simp [World.cell?, hg, hi]
    have hfro : w.frozen? ⟨g, o + i, none⟩ = false := by
      obtain ⟨a, b⟩ := fz
      rcases hz with hz | hz
      · injection hz with h2 h3; subst h2; subst h3; simp [World.frozen?, hg]
      · dsimp only at hz
        simp [World.frozen?, hg]
        omega
    have hst : (store ((⟨g, o, none⟩ : Addr).add i) v).run P w = .ok () (w.setRow g (cur.setIfInBounds (o + i) v)) := by
      rw [hadd, run_store P w _ v _ (h1 v (by simp)), hcell]
      simp [hfro, setCell_eq_setRow w g (o + i) cur t fz v hg]
    have ih := run_storeCells_fz g o t fz rest (i + 1) (cur.setIfInBounds (o + i) v) (w.setRow g (cur.setIfInBounds (o + i) v)) (setRow_heap w g cur _ t _ hg) (by simpa using hz) (by simp at hl ⊢; omega) (fun x hx => h1 x (by simp [hx]))
    simp only [storeCells, Sem.run_bind, hst, Result.andThen_ok, ih, setRow_setRow]
    congr 3
    have e := list_seg_step cur.toList (o + i) v rest (by simp at hl ⊢; omega)
    simpa [Array.toList_setIfInBounds, Nat.add_assoc] using e

theorem run_st {t : TypeId} {i : TypeInfo} (hi : P.info? t = some i) {w : World} {g off : Nat} {cs : Array Value} {T : TypeId} {fz : Nat × Nat} {v : Value} {cs' : List Value} (hg : w.heap[g]? = some (.cells cs T fz)) (hz : fz = (0, 0) ∨ cs.size ≤ fz.1)
    (hl : (cellsL v).length = i.size) (h1 : ∀ u ∈ cellsL v, u.oneCell' = true) (hs : stv off (cellsL v) cs.toList = some cs') :
    (storeVar t ⟨g, off, none⟩ v).run P w = .ok () (w.setRow g cs'.toArray) := by
  rw [cellsL_eq] at hl h1 hs
  obtain ⟨h2, h3⟩ := stv_spec _ _ _ _ hs
  have hsz : v.cells.size = i.size := by simpa using hl
  have := run_storeCells_fz (P := P) g off T fz v.cells.toList 0 cs w hg hz (by simpa using h2) h1
  simp only [Nat.add_zero] at this
  rw [← h3] at this
  simp [storeVar, sizeOf, typeInfo, hi, hsz, this]

theorem Rel.setLocal (h : Rel w0 H0 M0 n ρ s a w) {k : Nat} {cs cs' : List Value} (hk : lk s.lh k = some cs) :
    Rel w0 H0 M0 n ρ ⟨s.fr, upd s.lh k cs', s.H, s.M⟩ a (w.setRow (ρ k) cs'.toArray) := by
  obtain ⟨⟨T, hT⟩, hH, hM, hge⟩ := h.lh k cs hk
  have hother : ∀ b, b ≠ ρ k → (w.setRow (ρ k) cs'.toArray).heap[b]? = w.heap[b]? := fun b hb => setRow_other w _ b _ hb
  have hPH : ∀ H : PH, H (ρ k) = none → H.on w → H.on (w.setRow (ρ k) cs'.toArray) := fun H h1 h2 b ob hb => by
    have : b ≠ ρ k := fun e => by rw [e, h1] at hb; cases hb
    rw [hother b this]; exact h2 b ob hb
  refine ⟨h.size, h.defers, h.fr, ?_, ?_, hPH _ hH h.H, hPH _ hM h.M, h.dj, ⟨h.step.os, h.step.tape, h.step.output, by rw [size_setRow']; exact h.step.size, fun b hb hb0 => ?_⟩, h.hM, h.hH, h.leH, ?_⟩
  · intro j c hj
    simp only at hj
    rw [lk_upd] at hj
    by_cases hkj : k = j
    · subst hkj
      rw [if_pos rfl, hk] at hj
      injection hj with hj
      subst hj
      exact ⟨⟨T, setRow_heap w _ _ _ T _ hT⟩, hH, hM, hge⟩
    · rw [if_neg hkj] at hj
      obtain ⟨⟨T', hT'⟩, h2, h3, h4⟩ := h.lh j c hj
      exact ⟨⟨T', by rw [hother _ (fun e => hkj (h.inj k j _ _ hk hj e.symm))]; exact hT'⟩, h2, h3, h4⟩
  · intro j j' c c' hj hj' he
    simp only at hj hj'
    rw [lk_upd] at hj hj'
    have g1 : ∃ c, lk s.lh j = some c := by
      by_cases e : k = j
      · subst e; exact ⟨_, hk⟩
      · rw [if_neg e] at hj; exact ⟨_, hj⟩
    have g2 : ∃ c, lk s.lh j' = some c := by
      by_cases e : k = j'
      · subst e; exact ⟨_, hk⟩
      · rw [if_neg e] at hj'; exact ⟨_, hj'⟩
    obtain ⟨c1, g1⟩ := g1
    obtain ⟨c2, g2⟩ := g2
    exact h.inj j j' c1 c2 g1 g2 he
  · rw [hother b (by omega)]
    exact h.step.block b hb hb0
  · intro i j off hi
    obtain ⟨c, hc⟩ := h.wf i j off hi
    simp only
    rw [lk_upd]
    by_cases e : k = j
    · subst e; rw [if_pos rfl, hk]; exact ⟨_, rfl⟩
    · rw [if_neg e]; exact ⟨c, hc⟩

theorem Rel.setM (h : Rel w0 H0 M0 n ρ s a w) {g : Nat} {cs : Array Value} {T : TypeId} {fz : Nat × Nat} {cs' : List Value} (hg : s.M g = some (.cells cs T fz)) :
    Rel w0 H0 M0 n ρ ⟨s.fr, s.lh, s.H, s.M.set g (.cells cs'.toArray T fz)⟩ a (w.setRow g cs'.toArray) := by
  have hT := h.M g _ hg
  have hother : ∀ b, b ≠ g → (w.setRow g cs'.toArray).heap[b]? = w.heap[b]? := fun b hb => setRow_other w _ b _ hb
  refine ⟨h.size, h.defers, h.fr, ?_, h.inj, ?_, ?_, ?_, ⟨h.step.os, h.step.tape, h.step.output, by rw [size_setRow']; exact h.step.size, fun b hb hb0 => ?_⟩, ?_, h.hH, h.leH, h.wf⟩
  · intro k c hk
    obtain ⟨⟨T', hT'⟩, h2, h3, h4⟩ := h.lh k c hk
    have hne : ρ k ≠ g := fun e => by rw [e, hg] at h3; cases h3
    exact ⟨⟨T', by rw [hother _ hne]; exact hT'⟩, h2, by simp only [PH.set]; rw [if_neg hne]; exact h3, h4⟩
  · intro b ob hb
    have hne : b ≠ g := fun e => by have := h.dj b ob hb; rw [e, hg] at this; cases this
    rw [hother b hne]; exact h.H b ob hb
  · intro b ob hb
    simp only [PH.set] at hb
    split at hb
    · rename_i e; subst e; injection hb with hb; subst hb; exact setRow_heap w _ _ _ T _ hT
    · rename_i hne; rw [hother b hne]; exact h.M b ob hb
  · intro b ob hb
    have hne : b ≠ g := fun e => by have := h.dj b ob hb; rw [e, hg] at this; cases this
    simp only [PH.set]; rw [if_neg hne]; exact h.dj b ob hb
  · have hne : b ≠ g := fun e => by
      rcases h.hM g (by rw [hg]; simp) with h1 | h1
      · rw [← e] at h1; exact h1 hb0
      · omega
    rw [hother b hne]; exact h.step.block b hb hb0
  · intro b hb
    simp only [PH.set] at hb
    split at hb
    · rename_i e; subst e; exact h.hM b (by rw [hg]; simp)
    · exact h.hM b hb

theorem Grow.upd (k : Nat) (cs' : List Value) : Grow ρ s ρ ⟨s.fr, upd s.lh k cs', s.H, s.M⟩ := by
  rintro b (⟨j, c, hc, rfl⟩ | hb)
  · refine .inl ⟨j, if k = j then cs' else c, ?_, rfl⟩
    simp only [lk_upd]
    split
    · rename_i e; rw [hc]
    · exact hc
  · exact .inr hb

theorem act_st {t : TypeId} {i : TypeInfo} {x y : Operand} (hi : P.info? t = some i) (hR : Rel w0 H0 M0 n ρ s a w) (hdst : o.dst = none) (ho : o.op = .store t x y)
    (hX : XL P (.op none (.st i.size x y) r) s K) : Acts P w0 H0 M0 n Q a w ρ s o 2 r K := by
  simp only [XL, gateOf] at hX
  split at hX
  · rename_i k off v hx hy
    split at hX
    · rename_i cs hk
      obtain ⟨hl, h1, hX⟩ := hX
      split at hX
      · rename_i cs' hs
        obtain ⟨⟨T, hT⟩, _⟩ := hR.lh k cs hk
        have hrun := run_st (P := P) hi hT (.inl rfl) hl (fun u hu => List.all_eq_true.1 h1 u hu) (by simpa using hs)
        refine .skip (w' := w.setRow (ρ k) cs'.toArray) ?_ trivial ?_
        · simp only [execOp, ho, hR.ev hx, hR.ev hy, conc, Instr.storeAt, Instr.sureAddr, Sem.run_bind, Sem.run_pure, Result.andThen_ok, hrun]
        · rw [hdst]
          exact ⟨ρ, _, hR.setLocal hk, hX, .upd _ _⟩
      · exact hX.elim
    · exact hX.elim
  · rename_i p v hx hy
    obtain ⟨b, off, cs, T, fz, cs', rfl, hM, hz, hl, h1, hs, hX⟩ := hX
    have hrun := run_st (P := P) hi (hR.M b _ hM) hz hl h1 hs
    refine .skip (w' := w.setRow b cs'.toArray) ?_ trivial ?_
    · simp only [execOp, ho, hR.ev hx, hR.ev hy, conc, Instr.storeAt, Instr.sureAddr, Sem.run_bind, Sem.run_pure, Result.andThen_ok, hrun]
    · rw [hdst]
      exact ⟨ρ, _, hR.setM hM, hX, fun _ h => h⟩
  · exact hX.elim

/-! ### Calls -/

theorem evs_ev (hR : Rel w0 H0 M0 n ρ s a w) : ∀ (l : List Operand) (vs : List Value), evs s.fr l = some vs → l.map a.eval = vs
  | [], vs, h => by simp [evs] at h; subst h; rfl
  | x :: l, vs, h => by
    simp only [evs] at h
    split at h
    · rename_i v q hv hq
      injection h with h
      subst h
      simp only [List.map_cons, evs_ev hR l q hq, hR.ev hv, conc]
    · cases h

theorem Rel.called {F H' M' : PH} {w' : World} (h : Rel w0 H0 M0 n ρ s a w) (hF : F.le s.M) (hst : Stp w w' F) (hle : s.H.le H') (hH' : H'.on w') (hM' : M'.on w') (hdj : PH.disj H' M')
    (hfH : ∀ b, H' b ≠ none → s.H b ≠ none ∨ F b ≠ none ∨ w.heap.size ≤ b) (hfM : ∀ b, M' b ≠ none → F b ≠ none ∨ w.heap.size ≤ b) :
    Rel w0 H0 M0 n ρ ⟨s.fr, s.lh, H', s.M.re F M'⟩ a w' ∧ PH.disj H' (s.M.re F M') := by
  have hFM : ∀ b, F b ≠ none → s.M b ≠ none := fun b hb => by
    cases hf : F b with
    | none => exact absurd hf hb
    | some o => rw [hF b o hf]; simp
  have hloc : ∀ k cs, lk s.lh k = some cs → F (ρ k) = none ∧ H' (ρ k) = none ∧ M' (ρ k) = none := fun k cs hk => by
    obtain ⟨⟨T, hT⟩, h2, h3, h4⟩ := h.lh k cs hk
    have hlt := heap_lt hT
    have hFk : F (ρ k) = none := by
      cases hf : F (ρ k) with
      | none => rfl
      | some o => exact absurd (hF _ _ hf) (by rw [h3]; simp)
    refine ⟨hFk, ?_, ?_⟩
    · cases hh : H' (ρ k) with
      | none => rfl
      | some o =>
        rcases hfH (ρ k) (by rw [hh]; simp) with h5 | h5 | h5
        · exact absurd h2 h5
        · exact absurd hFk h5
        · omega
    · cases hh : M' (ρ k) with
      | none => rfl
      | some o =>
        rcases hfM (ρ k) (by rw [hh]; simp) with h5 | h5
        · exact absurd hFk h5
        · omega
  have hd : PH.disj H' (s.M.re F M') := by
    intro b ob hb
    simp only [PH.re]
    rw [hdj b ob hb]
    simp only
    split
    · rfl
    · rename_i hFn
      have hFn' : F b = none := by simpa using hFn
      rcases hfH b (by rw [hb]; simp) with h5 | h5 | h5
      · cases hh : s.H b with
        | none => exact absurd hh h5
        | some o => exact h.dj b o hh
      · exact absurd hFn' h5
      · exact PH.no_block h.M h5
  refine ⟨⟨h.size, h.defers, h.fr, ?_, h.inj, hH', ?_, hd, ?_, ?_, ?_, h.leH.trans hle, h.wf⟩, hd⟩
  · intro k cs hk
    obtain ⟨⟨T, hT⟩, h2, h3, h4⟩ := h.lh k cs hk
    obtain ⟨l1, l2, l3⟩ := hloc k cs hk
    refine ⟨⟨T, (hst.block _ (heap_lt hT) l1).trans hT⟩, l2, ?_, h4⟩
    simp only [PH.re, l3, l1]
    exact h3
  · intro b ob hb
    simp only [PH.re] at hb
    split at hb
    · rename_i o' ho'
      injection hb with hb
      subst hb
      exact hM' b _ ho'
    · split at hb
      · cases hb
      · rename_i hFn
        have hFn' : F b = none := by simpa using hFn
        have := h.M b ob hb
        exact (hst.block b (heap_lt this) hFn').trans this
  · refine ⟨hst.os.trans h.step.os, hst.tape.trans h.step.tape, hst.output.trans h.step.output, Nat.le_trans h.step.size hst.size, fun b hb hb0 => ?_⟩
    have hFn : F b = none := by
      cases hf : F b with
      | none => rfl
      | some o =>
        rcases h.hM b (by rw [hF b o hf]; simp) with h5 | h5
        · exact absurd hb0 h5
        · omega
    exact (hst.block b (Nat.lt_of_lt_of_le hb h.step.size) hFn).trans (h.step.block b hb hb0)
  · intro b hb
    simp only [PH.re] at hb
    split at hb
    · rename_i o' ho'
      rcases hfM b (by rw [ho']; simp) with h5 | h5
      · exact h.hM b (hFM b h5)
      · exact .inr (Nat.le_trans h.step.size h5)
    · split at hb
      · exact absurd rfl hb
      · exact h.hM b hb
  · intro b hb
    rcases hfH b hb with h5 | h5 | h5
    · exact h.hH b h5
    · rcases h.hM b (hFM b h5) with h6 | h6
      · exact .inr (.inl h6)
      · exact .inr (.inr h6)
    · exact .inr (.inr (Nat.le_trans h.step.size h5))

theorem run_call {c : Call} {x : Operand} {f : Nat} {vs : List Value} (hc : c.callee = .value x) (h4 : a.eval x = .func (.func f) #[] #[]) (hb : hasBody P f = true) (hvs : c.args.toList.map a.eval = vs) (ho : o.op = .call c) (w : World) :
    (execOp a.eval o).run P w = .ok (.enter f vs.toArray) w := by
  unfold hasBody at hb
  split at hb
  · rename_i fn hfn
    simp only [Bool.and_eq_true, Bool.not_eq_true', beq_eq_false_iff_ne] at hb
    have h2 : fn.body.isNone = false := by cases hq : fn.body <;> simp_all
    have hargs : c.args.map a.eval = vs.toArray := by
      apply Array.ext'; simpa using hvs
    have h3 : ¬ fn.body = none := by cases hq : fn.body <;> simp_all
    simp [execOp, ho, resolve, hc, h4, Deferred.ofValue, invoke, callFunc, hfn, hb.1, h3, hargs]
  · cases hb

theorem Grow.le {H' M' : PH} (fr : List (Nat × SV)) (h : s.H.le H') : Grow ρ s ρ ⟨fr, s.lh, H', M'⟩ := by
  rintro b (hb | hb)
  · exact .inl hb
  · refine .inr ?_
    cases ho : s.H b with
    | none => exact absurd ho hb
    | some o => simp only [h b o ho]; simp

theorem act_call_any {lv : Nat} {c : Call} {x : Operand} {f : Nat} {vs : List Value} {F : PH} {R : Value → PH → PH → Prop} (hc : c.callee = .value x) (h4 : a.eval x = .func (.func f) #[] #[]) (hb : hasBody P f = true) (hvs : evs s.fr c.args.toList = some vs)
    (hR : Rel w0 H0 M0 n ρ s a w) (hd : d < n) (hdst : o.dst = some d) (ho : o.op = .call c) (hF : F.le s.M) (hfn : Fn P f vs s.H F R) (hst : lv = 2 ∨ F = PH.no)
    (hX : ∀ v H' M', s.H.le H' → R v H' M' → PH.disj H' (s.M.re F M') → PH.Fresh s.M F M' → XL P r ⟨(d, .v v) :: s.fr, s.lh, H', s.M.re F M'⟩ K) : Acts P w0 H0 M0 n Q a w ρ s o lv r K := by
  have hrun := run_call (P := P) (o := o) hc h4 hb (evs_ev hR _ _ hvs) ho w
  unfold Acts Oper.wp
  rw [hrun]
  simp only [Oper.upon]
  have hdF : PH.disj s.H F := fun b ob hb' => by
    cases hf : F b with
    | none => rfl
    | some o' => have := hR.dj b ob hb'; rw [hF b o' hf] at this; cases this
  refine (hfn w hR.H (fun b ob hb' => hR.M b ob (hF b ob hb')) hdF).mono ?_
  rintro e w' ⟨v, H', M', rfl, h1, h2, h3, h4, h5, h6, h7, h8⟩
  obtain ⟨hR', hd'⟩ := hR.called hF h1 h2 h3 h4 h5 h6 h7
  refine ⟨?_, ρ, _, ?_, hX v H' M' h2 h8 hd' (fun b hb' => (h7 b hb').imp_right fun h9 => PH.no_block hR.M h9), .le _ h2⟩
  · rcases hst with rfl | rfl
    · trivial
    · exact .of_below hR ⟨h1.os, h1.tape, h1.output, h1.size, fun b hb' => h1.block b hb' rfl⟩
  · rw [hdst]
    exact hR'.put hd (.v v)

theorem act_call {c : Call} {f : Nat} (hc : c.callee = .value (.func f)) (hb : hasBody P f = true) (hR : Rel w0 H0 M0 n ρ s a w) (hd : d < n) (hdst : o.dst = some d) (ho : o.op = .call c)
    (hX : XL P (.op none (.call d false f c.args.toList) r) s K) : Acts P w0 H0 M0 n Q a w ρ s o 2 r K := by
  simp only [XL, gateOf] at hX
  split at hX
  · rename_i vs hvs
    obtain ⟨F, R, hF, hfn, hX⟩ := hX
    exact act_call_any hc rfl hb hvs hR hd hdst ho hF hfn (.inl rfl) hX
  · exact hX.elim

theorem act_callP {lv : Nat} {c : Call} {f : Nat} (hc : c.callee = .value (.func f)) (hb : hasBody P f = true) (hR : Rel w0 H0 M0 n ρ s a w) (hd : d < n) (hdst : o.dst = some d) (ho : o.op = .call c)
    (hX : XL P (.op none (.call d true f c.args.toList) r) s K) : Acts P w0 H0 M0 n Q a w ρ s o lv r K := by
  simp only [XL, gateOf] at hX
  split at hX
  · rename_i vs hvs
    obtain ⟨R, hfn, hX⟩ := hX
    exact act_call_any hc rfl hb hvs hR hd hdst ho (fun b ob h => by cases h) hfn (.inr rfl) hX
  · exact hX.elim

theorem act_calv {c : Call} {x : Operand} (hc : c.callee = .value x) (hR : Rel w0 H0 M0 n ρ s a w) (hd : d < n) (hdst : o.dst = some d) (ho : o.op = .call c)
    (hX : XL P (.op none (.calv d false x c.args.toList) r) s K) : Acts P w0 H0 M0 n Q a w ρ s o 2 r K := by
  simp only [XL, gateOf] at hX
  split at hX
  · rename_i v vs hv hvs
    split at hX
    · rename_i f hf
      obtain ⟨hb, F, R, hF, hfn, hX⟩ := hX
      exact act_call_any hc ((hR.ev hv).trans (fnV_some hf)) hb hvs hR hd hdst ho hF hfn (.inl rfl) hX
    · exact hX.elim
  · exact hX.elim

theorem act_calvP {lv : Nat} {c : Call} {x : Operand} (hc : c.callee = .value x) (hR : Rel w0 H0 M0 n ρ s a w) (hd : d < n) (hdst : o.dst = some d) (ho : o.op = .call c)
    (hX : XL P (.op none (.calv d true x c.args.toList) r) s K) : Acts P w0 H0 M0 n Q a w ρ s o lv r K := by
  simp only [XL, gateOf] at hX
  split at hX
  · rename_i v vs hv hvs
    split at hX
    · rename_i f hf
      obtain ⟨hb, R, hfn, hX⟩ := hX
      exact act_call_any hc ((hR.ev hv).trans (fnV_some hf)) hb hvs hR hd hdst ho (fun b ob h => by cases h) hfn (.inr rfl) hX
    · exact hX.elim
  · exact hX.elim

/-! ### append, bytes as a string -/

theorem act_app {lo : Bool} {c : Call} {t e : TypeId} {i : TypeInfo} {z : Value} {x y : Operand} (hc : c.callee = .builtin .append) (ha : c.args = #[x, y]) (hat : c.argTypes = #[t, t]) (hu : P.underlying t = some (.slice e)) (hi : P.info? e = some i)
    (hz : i.zero = some z) (hzs : z.cells.size = i.size) (hpos : 0 < i.size) (hR : Rel w0 H0 M0 n ρ s a w) (hd : d < n) (hdst : o.dst = some d) (ho : o.op = .call c)
    (hX : XL P (.op none (.app d e i.size i.bytes x y) r) s K) : Acts P w0 H0 M0 n Q a w ρ s o (if lo then 1 else 2) r K := by
  simp only [XL, gateOf] at hX
  split at hX
  · rename_i A p cap B m q hx hy
    rcases hX with ⟨rfl, hpc, hX⟩ | hX
    · have hx' := hR.ev hx
      have hy' := hR.ev hy
      simp only [conc] at hx' hy'
      refine .value (v := .slice A p cap) (w' := w) ?_ (.of_below hR (Below.refl _ _)) ⟨ρ, _, ?_, hX, fun _ h => h⟩
      · have hcap : p + 0 ≤ cap := by omega
        have hf : (Builtin.firstCells i.size 0 (.slice B 0 q)).run P w = .ok #[] w := by
          cases B <;> simp [Builtin.firstCells, loadCells, loadCellsFrom]
        have hrun : (Builtin.append_ #[t, t] o.type #[.slice A p cap, .slice B 0 q]).run P w = .ok (.slice A p cap) w := by
          simp [Builtin.append_, run_underlying hu, sizeOf, typeInfo, hi, Builtin.lenOf, hpc, hf]
          cases A <;> simp [storeCells]
        simp [execOp, ho, resolve, hc, ha, hat, hx', hy', invoke, builtin, hrun]
      · rw [hdst]
        exact hR.put hd (.v _)
    obtain ⟨xs, ys, hxl, hyl, hm, h63, hby, hx1, hy1, hxo, ⟨yb, yoff, ycs, U, fz, rfl, hyHM, hyt⟩, hX⟩ := hX
    have hx' := hR.ev hx
    have hy' := hR.ev hy
    simp only [conc] at hx' hy'
    have hown : w.ownsRow 0 e i.size (.slice A p cap) p xs := by
      refine ⟨hxl, ?_⟩
      rcases hxo with ⟨rfl, rfl, rfl⟩ | ⟨g, rest, rfl, hg, hl, h1, h2⟩
      · exact .inl ⟨rfl, rfl⟩
      · exact .inr ⟨g, cap, _, rfl, Nat.zero_le _, hR.M g _ hg, h1, by unfold maxLen; omega, by simpa using hl, by simp [hxl]⟩
    have hyc : ∀ j u, ys[j]? = some u → w.cell? ((⟨yb, yoff, none⟩ : Addr).add j) = some u := by
      intro j u hj
      have hg : w.heap[yb]? = some (.cells ycs U fz) := hyHM.elim (hR.H yb _) (hR.M yb _)
      rw [addr_add, cell_row hg]
      obtain ⟨h1, h2⟩ := takeN_spec _ _ _ hyt
      rw [h1, List.getElem?_take] at hj
      split at hj
      · simpa using hj
      · cases hj
    obtain ⟨v', w', hrun, hown', hgr, _, hblk⟩ := run_append_own_at (P := P) w 0 t o.type e i z i.size i.bytes hu hi hz rfl rfl hzs hpos (.slice A p cap) p xs hown ⟨yb, yoff, none⟩ m q ys hyl hyc hy1
      (by unfold maxLen; omega) hby (Nat.zero_le _)
    have hkA : ∀ k cs, lk s.lh k = some cs → A ≠ some ⟨ρ k, 0, none⟩ := by
      intro k cs hk he
      rcases hxo with ⟨rfl, _, _⟩ | ⟨g, rest, rfl, hg, _⟩
      · cases he
      · injection he with he; injection he with he
        have := (hR.lh k cs hk).2.2.1
        rw [← he, hg] at this; cases this
    have hHA : ∀ b ob, s.H b = some ob → A ≠ some ⟨b, 0, none⟩ := by
      intro b ob hb he
      rcases hxo with ⟨rfl, _, _⟩ | ⟨g, rest, rfl, hg, _⟩
      · cases he
      · injection he with he; injection he with he
        have := hR.dj b ob hb
        rw [← he, hg] at this; cases this
    have hold : ∀ b, b < w.heap.size → A ≠ some ⟨b, 0, none⟩ → w'.heap[b]? = w.heap[b]? := by
      intro b hb hA
      refine hgr.block b hb ?_
      rcases hxo with ⟨rfl, rfl, rfl⟩ | ⟨g, rest, rfl, hg, hl, h1, h2⟩
      · simp [Value.ownBlock]
      · simp only [Value.ownBlock]
        intro he
        injection he with he
        exact hA (by rw [he])
    refine .value (v := v') (w' := w') ?_ ?post ?_
    case post =>
      cases lo with
      | false => trivial
      | true =>
        refine ⟨hgr.size, fun b hs => hold b (hR.safe_lt hs) ?_⟩
        rcases hs with ⟨k, cs, hk, rfl⟩ | hs
        · exact hkA k cs hk
        · cases ho' : s.H b with
          | none => exact absurd ho' hs
          | some ob => exact hHA b ob ho'
    · simp [execOp, ho, resolve, hc, ha, hat, hx', hy', invoke, builtin, hrun]
    · obtain ⟨hlen, hform⟩ := hown'
      rcases hform with ⟨_, h0⟩ | ⟨g', c', cur, rfl, _, hg', hnc, hcm, hcs, hct⟩
      · omega
      · have hcur : cur = (xs ++ ys ++ cur.toList.drop ((p + m) * i.size)).toArray := by
          apply Array.ext'
          simp only
          rw [← hct, List.take_append_drop]
        rw [hdst]
        have hmx : c' ≤ 9223372036854775807 := by unfold maxLen at hcm; omega
        have hlen' : (xs ++ ys ++ cur.toList.drop ((p + m) * i.size)).length = c' * i.size := by
          have := congrArg Array.size hcur
          simp only [List.size_toArray] at this
          omega
        have hres : ((s.H g' = none ∧ s.M g' = none) ∨ A = some ⟨g', 0, none⟩) ∧ (∀ k cs, lk s.lh k = some cs → ρ k ≠ g') ∧ (s.H g' = none) ∧ (M0 g' ≠ none ∨ w0.heap.size ≤ g') ∧ (s.M g' ≠ none ∨ w.heap.size ≤ g') := by
          rcases hblk with hblk | hblk
          · rcases hxo with ⟨rfl, rfl, rfl⟩ | ⟨g, rest, rfl, hg, hl, h1, h2⟩
            · simp [Value.ownBlock] at hblk
            · simp only [Value.ownBlock] at hblk
              injection hblk with hblk
              subst hblk
              refine ⟨.inr rfl, fun k cs hk he => ?_, ?_, hR.hM g' (by rw [hg]; simp), .inl (by rw [hg]; simp)⟩
              · have := (hR.lh k cs hk).2.2.1
                rw [he, hg] at this; cases this
              · cases hh : s.H g' with
                | none => rfl
                | some o' => have := hR.dj g' o' hh; rw [hg] at this; cases this
          · simp only [Value.ownBlock] at hblk
            injection hblk with hblk
            subst hblk
            exact ⟨.inl ⟨PH.no_block hR.H (Nat.le_refl _), PH.no_block hR.M (Nat.le_refl _)⟩, fun k cs hk he => by have := hR.fresh hk; omega, PH.no_block hR.H (Nat.le_refl _), .inr hR.step.size, .inr (Nat.le_refl _)⟩
        obtain ⟨hr1, hr2, hr3, hr4, hr5⟩ := hres
        have hmv : ∀ b ob, s.M.mvd A g' (.cells (xs ++ ys ++ cur.toList.drop ((p + m) * i.size)).toArray e (0, 0)) b = some ob → b ≠ g' → s.M b = some ob ∧ A ≠ some ⟨b, 0, none⟩ := by
          intro b ob hb hne
          simp only [PH.mvd, if_neg hne] at hb
          split at hb
          · cases hb
          · rename_i hA; exact ⟨hb, hA⟩
        have hRel : Rel w0 H0 M0 n ρ ⟨s.fr, s.lh, s.H, s.M.mvd A g' (.cells (xs ++ ys ++ cur.toList.drop ((p + m) * i.size)).toArray e (0, 0))⟩ a w' := by
          refine ⟨hR.size, hR.defers, hR.fr, ?_, hR.inj, ?_, ?_, ?_, ⟨hgr.os.trans hR.step.os, hgr.tape.trans hR.step.tape, hgr.output.trans hR.step.output, Nat.le_trans hR.step.size hgr.size, ?_⟩, ?_, hR.hH, hR.leH, hR.wf⟩
          · intro k cs hk
            obtain ⟨⟨T, hT⟩, h2, h3, h4⟩ := hR.lh k cs hk
            refine ⟨⟨T, (hold _ (heap_lt hT) (hkA k cs hk)).trans hT⟩, h2, ?_, h4⟩
            simp only [PH.mvd]
            rw [if_neg (hr2 k cs hk), if_neg (hkA k cs hk)]
            exact h3
          · intro b ob hb
            have := hR.H b ob hb
            exact (hold b (heap_lt this) (hHA b ob hb)).trans this
          · intro b ob hb
            by_cases hbg : b = g'
            · subst hbg
              simp only [PH.mvd, if_pos] at hb
              injection hb with hb
              subst hb
              rw [← hcur]; exact hg'
            · obtain ⟨h1, h2⟩ := hmv b ob hb hbg
              have := hR.M b ob h1
              exact (hold b (heap_lt this) h2).trans this
          · intro b ob hb
            have hbg : b ≠ g' := fun e => by rw [e, hr3] at hb; cases hb
            simp only [PH.mvd, if_neg hbg]
            split
            · rfl
            · exact hR.dj b ob hb
          · intro b hb hb0
            refine (hold b (Nat.lt_of_lt_of_le hb hR.step.size) ?_).trans (hR.step.block b hb hb0)
            intro he
            rcases hxo with ⟨rfl, _, _⟩ | ⟨g, rest, rfl, hg, _⟩
            · cases he
            · injection he with he; injection he with he
              rcases hR.hM g (by rw [hg]; simp) with h5 | h5
              · rw [he] at h5; exact h5 hb0
              · omega
          · intro b hb
            by_cases hbg : b = g'
            · subst hbg; exact hr4
            · cases hq : s.M.mvd A g' (.cells (xs ++ ys ++ cur.toList.drop ((p + m) * i.size)).toArray e (0, 0)) b with
              | none => exact absurd hq hb
              | some ob => exact hR.hM b (by rw [(hmv b ob hq hbg).1]; simp)
        have hgrow : Grow ρ s ρ ⟨(d, .v (.slice (some ⟨g', 0, none⟩) (p + m) c')) :: s.fr, s.lh, s.H, s.M.mvd A g' (.cells (xs ++ ys ++ cur.toList.drop ((p + m) * i.size)).toArray e (0, 0))⟩ := fun _ h => h
        exact ⟨ρ, _, hRel.put hd (.v (.slice (some ⟨g', 0, none⟩) (p + m) c')), hX g' c' _ hr1 hnc hmx hlen', hgrow⟩
  · exact hX.elim

theorem act_b2s {lv : Nat} {S T e : TypeId} {x : Operand} (hS : P.underlying S = some (.slice e)) (he : P.underlying e = some (.int .u8)) (hT : P.underlying T = some .string) (hR : Rel w0 H0 M0 n ρ s a w) (hd : d < n) (hdst : o.dst = some d) (ho : o.op = .convert S T x)
    (hX : XL P (.op none (.b2s d x) r) s K) : Acts P w0 H0 M0 n Q a w ρ s o lv r K := by
  simp only [XL, gateOf] at hX
  split at hX
  · rename_i A m c hx
    obtain ⟨l, hl, hA, hX⟩ := hX
    refine .value (v := .string ⟨if A.isNone then #[] else l.toArray⟩) (w' := w) ?_ (.of_below hR (Below.refl _ _)) ?_
    · have h1 := run_convert_bytes_string (P := P) w S T e A m c hS he hT
      simp only [execOp, ho, hR.ev hx, conc, Sem.run_bind, h1]
      rcases hA with rfl | ⟨b, off, cs, U, fz, rfl, hHM, ht⟩
      · simp [Conv.bytesToString]; rfl
      · have hg : w.heap[b]? = some (.cells cs U fz) := hHM.elim (hR.H b _) (hR.M b _)
        have hload := run_loadCells_list (P := P) w ⟨b, off, none⟩ (l.map fun x => Value.int .u8 x.toNat) (fun j u hu => by
          rw [addr_add, cell_row hg]
          rw [(takeN_spec _ _ _ ht).1, List.getElem?_take] at hu
          split at hu
          · simpa using hu
          · cases hu)
        rw [List.length_map, hl] at hload
        have h2 := run_bytesToString (P := P) w ⟨b, off, none⟩ m c (l.map fun x => (x.toNat : Int)) (by rw [hload, List.map_map]; rfl)
        rw [h2]
        have h3 : ∀ (l : List UInt8) (r : ByteArray), (l.map fun x => (x.toNat : Int)).foldl (fun r n => r.push (UInt8.ofNat n.toNat)) r = ⟨r.data ++ l.toArray⟩ := by
          intro l
          induction l with
          | nil => intro r; simp
          | cons x l ih =>
            intro r
            simp only [List.map_cons, List.foldl_cons, ih]
            simp [ByteArray.push]
        rw [h3]
        simp
    · rw [hdst]
      exact ⟨ρ, _, hR.put hd (.v _), hX, fun _ h => h⟩
  · exact hX.elim

theorem act_s2b {lv : Nat} {S T e : TypeId} {x : Operand} (hS : P.underlying S = some .string) (hT : P.underlying T = some (.slice e)) (he : P.underlying e = some (.int .u8)) (hR : Rel w0 H0 M0 n ρ s a w) (hd : d < n) (hdst : o.dst = some d) (ho : o.op = .convert S T x)
    (hX : XL P (.op none (.s2b d e x) r) s K) : Acts P w0 H0 M0 n Q a w ρ s o lv r K := by
  simp only [XL, gateOf] at hX
  split at hX
  · rename_i t hx
    have hrun := Lib.run_convert_string_bytes (P := P) w S T e t hS hT he
    have hb : Below w.heap.size w (Lib.bytesWorld w e t) := by
      have h1 : Below w.heap.size w (w.drew.alloc (.cells (Lib.bytesCells w e t) e)) := ((Below.refl _ _).drew).alloc (Nat.le_refl _) _
      exact h1.trans ⟨rfl, rfl, rfl, by rw [Lib.bytesWorld_size]; exact Nat.le_of_eq (by simp), fun k hk => by
        rw [Lib.bytesWorld_at_old w e t k hk, h1.block k hk]⟩
    refine .value (v := .slice (some ⟨w.heap.size, 0, none⟩) t.size (grownCap w t.size 0 e)) (w' := Lib.bytesWorld w e t) ?_ (.of_below hR hb) ?_
    · simp only [execOp, ho, hR.ev hx, conc, Sem.run_bind, hrun, Result.andThen_ok, Sem.run_pure]
    · rw [hdst]
      have hsz : (Lib.bytesCells w e t).size = t.size + (grownCap w t.size 0 e - t.size) := by
        simp [Lib.bytesCells]
      have hnew := Lib.bytesWorld_at_new w e t
      rw [hsz] at hnew
      have h3 := hR.newM hb hnew (Nat.le_refl _)
      exact ⟨_, _, h3.put hd (.v (.slice (some ⟨w.heap.size, 0, none⟩) t.size (grownCap w t.size 0 e))), hX w.heap.size (grownCap w t.size 0 e - t.size) _ (PH.no_block hR.H (Nat.le_refl _)) (PH.no_block hR.M (Nat.le_refl _)), fun _ h => h⟩
  · exact hX.elim

end
end Go.Proofs.YtccdhgjfcgfgoaaGreat.X
set_option linter.unusedVariables false
set_option linter.unusedSimpArgs false
namespace Go.Proofs.YtccdhgjfcgfgoaaGreat.X
open Go Go.RowKit

section
variable {P : Program} {w0 : World} {H0 M0 : PH} {n : Nat} {ρ : Nat → Nat} {s : St} {a : Act} {w : World} {o : Oper} {d : Nat} {r : PT} {K : St → Prop} {Q : Exit → Act → World → Prop} {ops : Array Oper}

theorem toPId_pure {dr ap : Bool} {pi : PI} (h : toPId P dr ap d o.op = some pi) (hp : pi.pure = true) (hR : Rel w0 H0 M0 n ρ s a w) (hd : d < n) (hX : XL P (.op none pi r) s K) : Good P w0 H0 M0 n ρ s a w o d r K := by
  cases ho : o.op <;> rw [ho] at h <;> simp only [toPId] at h
  case move x => injection h with h; subst h; exact good_mv hR hd (.inl ho) hX
  case assign x => injection h with h; subst h; exact good_mv hR hd (.inr ho) hX
  case pick c x y => injection h with h; subst h; exact good_pick hR hd ho hX
  case binOp op t x y ty =>
    split at h
    · rename_i hu
      split at h
      · injection h with h; subst h; exact good_beq (neg := false) hu hR hd ho hX
      · injection h with h; subst h; exact good_beq (neg := true) hu hR hd ho hX
      · cases h
    · rename_i e hu
      split at h
      · split at h
        · injection h with h; subst h; exact good_isnil (neg := false) hu hR hd ho hX
        · injection h with h; subst h; exact good_isnil (neg := true) hu hR hd ho hX
        · cases h
      · cases h
    · rename_i fs hu
      split at h
      · rename_i f g hl
        split at h
        · rename_i hpt
          injection h with h; subst h; exact good_peq hu hl hpt hR hd ho hX
        · cases h
      · cases h
    · injection h with h; subst h; exact good_bin hR hd ho hX
    · injection h with h; subst h; exact good_bin hR hd ho hX
    · cases h
  case unOp op t x =>
    split at h
    · injection h with h; subst h; exact good_not hR hd ho hX
    · injection h with h; subst h; exact good_neg hR hd ho hX
    · cases h
  case convert S T x =>
    split at h
    · rename_i k0 k hS hT
      injection h with h; subst h; exact good_cv hS hT hR hd ho hX
    · split at h
      · injection h with h; subst h; simp [PI.pure] at hp
      · cases h
    · split at h
      · injection h with h; subst h; simp [PI.pure] at hp
      · cases h
    · cases h
  case fieldAddr t x f =>
    split at h
    · rename_i fs hu
      split at h
      · rename_i fd hf
        split at h
        · rename_i i hi
          split at h
          · cases h
          · rename_i q hq
            injection h with h; subst h; exact good_fa hu hf hi (by omega) hR hd ho hX
        · cases h
      · cases h
    · cases h
  case field t x f =>
    split at h
    · rename_i fs hu
      split at h
      · rename_i fd hf
        split at h
        · rename_i u i hfu hi
          split at h <;> (injection h with h; subst h)
          · exact good_fd hu hf hfu hi rfl (fun _ => rfl) hR hd ho hX
          · exact good_fd hu hf hfu hi rfl (fun _ => rfl) hR hd ho hX
          · rename_i h1 h2
            refine good_fd (agg := false) hu hf hfu hi ?_ (fun h => by cases h) hR hd ho hX
            cases u <;> first | rfl | (exact absurd rfl (h1 _)) | (exact absurd rfl (h2 _ _))
        · cases h
      · cases h
    · cases h
  case indexAddr t x i =>
    split at h
    · rename_i e hu
      split at h
      · rename_i j hj
        injection h with h; subst h; exact good_ia hu hj hR hd ho hX
      · cases h
    · rename_i m e hu
      split at h
      · rename_i j hj
        injection h with h; subst h; exact good_iaA hu hj hR hd ho hX
      · cases h
    · cases h
  case index t x i =>
    split at h
    · rename_i hu
      injection h with h; subst h; exact good_ix hu hR hd ho hX
    · cases h
  case extract x i => injection h with h; subst h; exact good_ex hR hd ho hX
  case slice t x lo hi mx =>
    split at h
    · cases h
    · split at h
      · rename_i hu
        injection h with h; subst h; exact good_ss hu hR hd ho hX
      · rename_i e hu
        split at h
        · rename_i i hi'
          split at h
          · injection h with h; subst h; exact good_sl hu hi' hR hd ho hX
          · injection h with h; subst h; exact good_slh hu hi' hR hd ho hX
          · injection h with h; subst h; exact good_sll hu hi' hR hd ho hX
          · cases h
        · cases h
      · cases h
  case build t parts =>
    split at h
    · rename_i i fs hi hu
      split at h
      · rename_i z pl hz hpl
        split at h
        · rename_i ps hps
          injection h with h; subst h
          refine good_bld hps (fun vs cells hf => ?_) hR hd ho hX
          have hpl' : fs.toList.mapM (fun f => (P.info? f.type).map fun i => (f.offset, i.size)) = some pl := hpl
          simp only [Program.built, hi, hu, hz, hpl']
          simpa using hf
        · cases h
      · cases h
    · rename_i i m e hi hu
      split at h
      · rename_i z ie hz hie
        split at h
        · rename_i ps hps
          injection h with h; subst h
          refine good_bld hps (fun vs cells hf => ?_) hR hd ho hX
          simp only [Program.built, hi, hu, hz, hie]
          simpa using hf
        · cases h
      · cases h
    · cases h
  case call c =>
    split at h
    · split at h
      · injection h with h; subst h; simp [PI.pure] at hp
      · cases h
    · injection h with h; subst h; simp [PI.pure] at hp
    · rename_i hc
      split at h
      · rename_i x t ha ht
        have ha' : c.args = #[x] := by apply Array.ext'; simpa using ha
        have ht' : c.argTypes = #[t] := by apply Array.ext'; simpa using ht
        split at h
        · rename_i hu
          injection h with h; subst h; exact good_lens hc ha' ht' hu hR hd ho hX
        · rename_i e hu
          injection h with h; subst h; exact good_len hc ha' ht' hu hR hd ho hX
        · cases h
      · cases h
    · rename_i hc
      split at h
      · rename_i x y ha
        have ha' : c.args = #[x, y] := by apply Array.ext'; simpa using ha
        injection h with h; subst h; exact good_mm (isMax := true) hc ha' hR hd ho hX
      · cases h
    · rename_i hc
      split at h
      · rename_i x y ha
        have ha' : c.args = #[x, y] := by apply Array.ext'; simpa using ha
        injection h with h; subst h; exact good_mm (isMax := false) hc ha' hR hd ho hX
      · cases h
    · split at h
      · split at h
        · split at h
          · split at h
            · split at h
              · split at h
                · injection h with h; subst h; simp [PI.pure] at hp
                · cases h
              · cases h
            · cases h
          · cases h
        · cases h
      · cases h
    · cases h
  case alloc t =>
    split at h
    · split at h
      · injection h with h; subst h; simp [PI.pure] at hp
      · cases h
    · cases h
  case box t x => injection h with h; subst h; simp [PI.pure] at hp
  case load t x =>
    repeat' split at h
    all_goals first | (cases h; done) | (injection h with h; subst h; simp [PI.pure] at hp)
  case makeSlice t l c =>
    repeat' split at h
    all_goals first | (cases h; done) | (injection h with h; subst h; simp [PI.pure] at hp)
  case buildSlice t len parts =>
    repeat' split at h
    all_goals first | (cases h; done) | (injection h with h; subst h; simp [PI.pure] at hp)
  all_goals (cases h; done)

theorem toPId_ld {dr ap : Bool} {pi : PI} (h : toPId P dr ap d o.op = some pi) (hp : pi.isLd = true) (hR : Rel w0 H0 M0 n ρ s a w) (hd : d < n) (hX : XL P (.op none pi r) s K) :
    ∃ v b s', (∀ w', SameAt w b w' → (execOp a.eval o).run P w' = .ok (.value v) w') ∧ Rel w0 H0 M0 n ρ s' (a.put (some d) v) w ∧ XL P r s' K ∧ (ap = true → Safe ρ s b) ∧ Grow ρ s ρ s' := by
  cases ho : o.op <;> rw [ho] at h <;> simp only [toPId] at h
  case load t x =>
    split at h
    · rename_i u i hu hi
      have fin : ∀ agg, isAggD u = agg → ∀ m, (agg = true → m = i.size) → pi = (match ap with | true => .ldx d agg m x | false => .ld d agg m x) →
          ∃ v b s', (∀ w', SameAt w b w' → (execOp a.eval o).run P w' = .ok (.value v) w') ∧ Rel w0 H0 M0 n ρ s' (a.put (some d) v) w ∧ XL P r s' K ∧ (ap = true → Safe ρ s b) ∧ Grow ρ s ρ s' := by
        intro agg ha m hm hpi
        cases ap with
        | true =>
          simp only at hpi
          subst hpi
          obtain ⟨v, b, s', h1, h2, h3, h4, h5⟩ := good_ldx hu hi ha hm hR hd ho hX
          exact ⟨v, b, s', h1, h2, h3, fun _ => h4, h5⟩
        | false =>
          simp only at hpi
          subst hpi
          obtain ⟨v, b, s', h1, h2, h3, h5⟩ := good_ld hu hi ha hm hR hd ho hX
          exact ⟨v, b, s', h1, h2, h3, (fun h => by cases h), h5⟩
      split at h
      · refine fin true rfl i.size (fun _ => rfl) ?_
        cases ap <;> (simp only at h; injection h with h; exact h.symm)
      · refine fin true rfl i.size (fun _ => rfl) ?_
        cases ap <;> (simp only at h; injection h with h; exact h.symm)
      · rename_i h1 h2
        refine fin false ?_ 1 (fun h => by cases h) ?_
        · cases u <;> first | rfl | (exact absurd rfl (h1 _)) | (exact absurd rfl (h2 _ _))
        · cases ap <;> (simp only at h; injection h with h; exact h.symm)
    · cases h
  all_goals
    exfalso
    first
    | (cases h; done)
    | (injection h with h; subst h; simp [PI.isLd] at hp; done)
    | ((repeat' split at h) <;> first | (cases h; done) | (injection h with h; subst h; simp [PI.isLd] at hp; done))

theorem Acts.of_good {lv : Nat} (hR : Rel w0 H0 M0 n ρ s a w) (hdst : o.dst = some d) (h : ∃ v sv, Runs P o a v ∧ Rel w0 H0 M0 n ρ (s.put d sv) (a.put (some d) v) w ∧ XL P r (s.put d sv) K) : Acts P w0 H0 M0 n Q a w ρ s o lv r K := by
  obtain ⟨v, sv, h1, h2, h3⟩ := h
  refine .value (h1 w) (.of_below hR (Below.refl _ _)) ⟨ρ, _, ?_, h3, fun _ h => h⟩
  rw [hdst]; exact h2

def lvO (dr : Bool) (o : Oper) : Nat := match dr with
  | false => 2
  | true => (match o.op with | .store .. => 2 | .call { callee := .builtin .append, .. } => 1 | _ => 0)

theorem toPId_act {dr ap : Bool} {pi : PI} (h : toPId P dr ap d o.op = some pi) (hdst : o.dst = some d) (hR : Rel w0 H0 M0 n ρ s a w) (hd : d < n) (hX : XL P (.op none pi r) s K) :
    Acts P w0 H0 M0 n Q a w ρ s o (lvO dr o) r K := by
  by_cases hp : pi.pure = true
  · obtain ⟨v, s', h1, h2, h3⟩ := toPId_pure h hp hR hd hX
    exact .of_good hR hdst ⟨v, s', h1, h2, h3⟩
  by_cases hl : pi.isLd = true
  · obtain ⟨v, b, s', h1, h2, h3, _, h5⟩ := toPId_ld h hl hR hd hX
    refine .value (h1 w (SameAt.refl _ _)) (.of_below hR (Below.refl _ _)) ⟨ρ, s', ?_, h3, h5⟩
    rw [hdst]; exact h2
  cases ho : o.op <;> rw [ho] at h <;> simp only [toPId] at h
  case alloc t =>
    split at h
    · rename_i i hi
      split at h
      · rename_i z hz
        injection h with h; subst h; exact act_new hi hz hR hd hdst ho hX
      · cases h
    · cases h
  case box t x => injection h with h; subst h; exact (act_box hR hd hdst ho hX)
  case makeSlice t l c =>
    split at h
    · rename_i x y
      split at h
      · rename_i hxy
        split at h
        · rename_i e hu
          split at h
          · rename_i i hi
            split at h
            · rename_i z hz
              split at h
              · rename_i hzs
                injection h with h; subst h; exact (act_mk (by rw [hxy]) hu hi hz hzs hR hd hdst ho hX)
              · cases h
            · cases h
          · cases h
        · cases h
      · cases h
    · cases h
  case buildSlice t len parts =>
    split at h
    · rename_i e hu
      split at h
      · rename_i i hi
        split at h
        · rename_i z ps hz hps
          split at h
          · rename_i hh
            injection h with h; subst h; exact act_bsl hu hi hz hh.1 hh.2 hps hR hd hdst ho hX
          · cases h
        · cases h
      · cases h
    · cases h
  case convert S T x =>
    split at h
    · injection h with h; subst h; simp [PI.pure] at hp
    · rename_i e hS hT
      split at h
      · rename_i he
        injection h with h; subst h; exact (act_b2s hS he hT hR hd hdst ho hX)
      · cases h
    · rename_i e hS hT
      split at h
      · rename_i he
        injection h with h; subst h; exact (act_s2b hS hT he hR hd hdst ho hX)
      · cases h
    · cases h
  case call c =>
    split at h
    · rename_i f hc
      split at h
      · rename_i hb
        injection h with h; subst h
        cases dr with
        | false => exact act_call hc hb hR hd hdst ho hX
        | true => exact (act_callP hc hb hR hd hdst ho hX)
      · cases h
    · rename_i t hc
      injection h with h; subst h
      cases dr with
      | false => exact act_calv hc hR hd hdst ho hX
      | true => exact (act_calvP hc hR hd hdst ho hX)
    · repeat' split at h
      all_goals first | (cases h; done) | (injection h with h; subst h; simp [PI.pure] at hp; done)
    · repeat' split at h
      all_goals first | (cases h; done) | (injection h with h; subst h; simp [PI.pure] at hp; done)
    · repeat' split at h
      all_goals first | (cases h; done) | (injection h with h; subst h; simp [PI.pure] at hp; done)
    · rename_i hc
      split at h
      · rename_i x y t t' ha ht
        have ha' : c.args = #[x, y] := by apply Array.ext'; simpa using ha
        split at h
        · rename_i e e' hu hu'
          split at h
          · rename_i htt
            have ht' : c.argTypes = #[t, t] := by apply Array.ext'; simpa [htt] using ht
            split at h
            · rename_i i hi
              split at h
              · rename_i z hz
                split at h
                · rename_i hh
                  injection h with h; subst h
                  have hs : lvO dr o = if dr then 1 else 2 := by
                    unfold lvO; rw [ho]; cases c; simp only at hc; subst hc; cases dr <;> rfl
                  rw [hs]
                  exact act_app hc ha' ht' hu hi hz hh.1 hh.2 hR hd hdst ho hX
                · cases h
              · cases h
            · cases h
          · cases h
        · cases h
      · cases h
    · cases h
  all_goals
    exfalso
    first
    | (cases h; done)
    | (injection h with h; subst h; simp [PI.pure, PI.isLd] at hp hl; done)
    | ((repeat' split at h) <;> first | (cases h; done) | (injection h with h; subst h; simp [PI.pure, PI.isLd] at hp hl; done))

theorem toPI_act {dr ap : Bool} {pi : PI} (h : toPI P n dr ap o = some pi) (hR : Rel w0 H0 M0 n ρ s a w) (hX : XL P (.op none pi r) s K) :
    Acts P w0 H0 M0 n Q a w ρ s o (lvO dr o) r K := by
  unfold toPI at h
  split at h
  · rename_i d hdst
    split at h
    · rename_i hd
      exact toPId_act h hdst hR hd hX
    · cases h
  · rename_i hdst
    split at h
    · rename_i t x y ho
      split at h
      · rename_i i hi
        injection h with h; subst h
        have hs : lvO dr o = 2 := by unfold lvO; rw [ho]; cases dr <;> rfl
        rw [hs]
        exact act_st hi hR hdst ho hX
      · cases h
    · cases h

end
end Go.Proofs.YtccdhgjfcgfgoaaGreat.X
set_option linter.unusedVariables false
set_option linter.unusedSimpArgs false
namespace Go.Proofs.YtccdhgjfcgfgoaaGreat.X
open Go Go.RowKit

section
variable {P : Program} {w0 : World} {H0 M0 : PH} {n : Nat} {ρ : Nat → Nat} {s : St} {a : Act} {w : World} {o : Oper} {d : Nat} {r : PT} {K : St → Prop} {Q : Exit → Act → World → Prop} {ops : Array Oper}

theorem gate_wanted {g : Option (Nat × Bool)} {q : Bool} (hg : gateIn ops o = some g) (hq : gateOf s.fr g = some q) (hR : Rel w0 H0 M0 n ρ s a w) : Region.wanted o (yielded ops a.tmps) = q := by
  unfold gateIn at hg
  unfold Region.wanted
  cases hgd : o.guard with
  | none =>
    simp only [hgd] at hg
    injection hg with hg
    subst hg
    simp [gateOf] at hq
    simp [hq]
  | some jw =>
    obtain ⟨j, want⟩ := jw
    simp only [hgd] at hg ⊢
    split at hg
    · rename_i t ht
      injection hg with hg
      subst hg
      simp only [gateOf] at hq
      split at hq
      · rename_i b hb
        injection hq with hq
        have := hR.fr t _ hb
        simp only [yielded, ht, Option.bind_some, this, conc]
        subst hq
        cases b <;> cases want <;> rfl
      · rename_i cs hb
        injection hq with hq
        have := hR.fr t _ hb
        simp only [yielded, ht, Option.bind_some, this, conc]
        subst hq
        cases want <;> rfl
      · cases hq
    · cases hg

theorem XL_gate {g : Option (Nat × Bool)} {pi : PI} (hq : gateOf s.fr g = some true) (hX : XL P (.op g pi r) s K) : XL P (.op none pi r) s K := by
  have hn : gateOf s.fr none = some true := rfl
  have e : XL P (.op g pi r) s K = XL P (.op none pi r) s K := by
    simp only [XL, hq, hn]
  rw [← e]; exact hX

theorem dst_of_toPI {dr ap : Bool} {pi : PI} (h : toPI P n dr ap o = some pi) : (∃ d, o.dst = some d ∧ d < n ∧ toPId P dr ap d o.op = some pi ∧ pi.dst = some d) ∨ (o.dst = none ∧ pi.dst = none ∧ pi.pure = false ∧ pi.isLd = false) := by
  unfold toPI at h
  split at h
  · rename_i d hdst
    split at h
    · rename_i hd
      refine .inl ⟨d, hdst, hd, h, ?_⟩
      cases ho : o.op <;> rw [ho] at h <;> simp only [toPId] at h
      all_goals
        first
        | (cases h; done)
        | (injection h with h; subst h; rfl)
        | ((repeat' split at h) <;> first | (cases h; done) | (injection h with h; subst h; rfl))
    · cases h
  · rename_i hdst
    split at h
    · split at h
      · injection h with h; subst h; exact .inr ⟨hdst, rfl, rfl, rfl⟩
      · cases h
    · cases h

/-- a skipped operation -/
theorem skip_sound {dr ap : Bool} {g : Option (Nat × Bool)} {pi : PI} (h : toPI P n dr ap o = some pi) (hR : Rel w0 H0 M0 n ρ s a w) (hq : gateOf s.fr g = some false) (hX : XL P (.op g pi r) s K) :
    ∃ s', Rel w0 H0 M0 n ρ s' (a.put o.dst undef) w ∧ XL P r s' K ∧ Grow ρ s ρ s' := by
  simp only [XL, hq] at hX
  rcases dst_of_toPI h with ⟨d, hdst, hd, _, hpd⟩ | ⟨hdst, hpd, _⟩
  · rw [hpd] at hX
    rw [hdst]
    exact ⟨_, hR.put hd (.v undef), hX, fun _ h => h⟩
  · rw [hpd] at hX
    rw [hdst]
    exact ⟨s, hR, hX, fun _ h => h⟩

/-- one operation, whatever comes behind -/
theorem step_act {dr ap : Bool} {i : Nat} {g : Option (Nat × Bool)} {pi : PI} (h1 : one P n dr ap ops i = some (g, pi)) (hR : Rel w0 H0 M0 n ρ s a w) (hX : XL P (.op g pi r) s K) :
    wpOp P ops Q i (fun a' w' => (∀ o, ops[i]? = some o → Post (lvO dr o) ρ s w w') ∧ ∃ ρ' s', Rel w0 H0 M0 n ρ' s' a' w' ∧ XL P r s' K ∧ Grow ρ s ρ' s') a w := by
  unfold one at h1
  split at h1
  · rename_i o ho
    split at h1
    · rename_i g' pi' hg hpi
      injection h1 with h1; injection h1 with h1 h2; subst h1; subst h2
      cases hq : gateOf s.fr g' with
      | none => simp only [XL, hq] at hX
      | some q =>
        have hw := gate_wanted hg hq hR
        unfold wpOp
        simp only [ho, hw]
        cases q with
        | true =>
          simp only [if_true]
          refine .inl (Oper.wp_mono (fun a' w' h => ⟨fun o' ho' => ?_, h.2⟩) (toPI_act (Q := Q) hpi hR (XL_gate hq hX)))
          injection ho' with ho'
          subst ho'
          exact h.1
        | false =>
          simp only [Bool.false_eq_true, if_false]
          obtain ⟨s', h3, h4, h5⟩ := skip_sound hpi hR hq hX
          exact ⟨fun _ _ => .of_below hR (Below.refl _ _), ρ, s', h3, h4, h5⟩
    · cases h1
  · cases h1

theorem step_fl {ap : Bool} {i : Nat} {g : Option (Nat × Bool)} {pi : PI} (h1 : one P n true ap ops i = some (g, pi)) (hp : pi.pure = true) (hR : Rel w0 H0 M0 n ρ s a w) (hX : XL P (.op g pi r) s K) :
    ∃ o v s', ops[i]? = some o ∧ Yields P ops o v a ∧ Rel w0 H0 M0 n ρ s' (a.put o.dst v) w ∧ XL P r s' K ∧ Grow ρ s ρ s' := by
  unfold one at h1
  split at h1
  · rename_i o ho
    split at h1
    · rename_i g' pi' hg hpi
      injection h1 with h1; injection h1 with h1 h2; subst h1; subst h2
      cases hq : gateOf s.fr g' with
      | none => simp only [XL, hq] at hX
      | some q =>
        have hw := gate_wanted hg hq hR
        cases q with
        | true =>
          rcases dst_of_toPI hpi with ⟨d, hdst, hd, hpd, _⟩ | ⟨_, _, hp', _⟩
          · obtain ⟨v, sv, h3, h4, h5⟩ := toPId_pure hpd hp hR hd (XL_gate hq hX)
            exact ⟨o, v, _, ho, .inl ⟨hw, h3⟩, by rw [hdst]; exact h4, h5, fun _ h => h⟩
          · rw [hp] at hp'; cases hp'
        | false =>
          obtain ⟨s', h3, h4, h5⟩ := skip_sound hpi hR hq hX
          exact ⟨o, undef, s', ho, .inr ⟨hw, rfl⟩, h3, h4, h5⟩
    · cases h1
  · cases h1

theorem step_ld {ap : Bool} {i : Nat} {g : Option (Nat × Bool)} {pi : PI} (h1 : one P n true ap ops i = some (g, pi)) (hp : pi.isLd = true) (hR : Rel w0 H0 M0 n ρ s a w) (hX : XL P (.op g pi r) s K) :
    ∃ o v s', ops[i]? = some o ∧ (Yields P ops o v a ∨ ∃ b, YieldsIf P ops (SameAt w b) o v a ∧ (ap = true → Safe ρ s b)) ∧ Rel w0 H0 M0 n ρ s' (a.put o.dst v) w ∧ XL P r s' K ∧ Grow ρ s ρ s' := by
  unfold one at h1
  split at h1
  · rename_i o ho
    split at h1
    · rename_i g' pi' hg hpi
      injection h1 with h1; injection h1 with h1 h2; subst h1; subst h2
      cases hq : gateOf s.fr g' with
      | none => simp only [XL, hq] at hX
      | some q =>
        have hw := gate_wanted hg hq hR
        cases q with
        | true =>
          rcases dst_of_toPI hpi with ⟨d, hdst, hd, hpd, _⟩ | ⟨_, _, _, hp'⟩
          · obtain ⟨v, b, s', h3, h4, h5, h6, h7⟩ := toPId_ld hpd hp hR hd (XL_gate hq hX)
            exact ⟨o, v, s', ho, .inr ⟨b, .inl ⟨hw, h3⟩, h6⟩, by rw [hdst]; exact h4, h5, h7⟩
          · rw [hp] at hp'; cases hp'
        | false =>
          obtain ⟨s', h3, h4, h5⟩ := skip_sound hpi hR hq hX
          exact ⟨o, undef, s', ho, .inl (.inr ⟨hw, rfl⟩), h3, h4, h5⟩
    · cases h1
  · cases h1

theorem keep_of_post {o : Oper} {w' : World} {i : Nat} (hR : Rel w0 H0 M0 n ρ s a w) {Lb : List Nat} (ho : ops[i]? = some o) (hL : hasApp ops = true → ∀ b ∈ Lb, Safe ρ s b) (hp : Post (lvO true o) ρ s w w') (hs : isStore ops i = false) :
    w.heap.size ≤ w'.heap.size ∧ ∀ b ∈ Lb, b < w.heap.size → w'.heap[b]? = w.heap[b]? := by
  have h0 : Post 0 ρ s w w' → w.heap.size ≤ w'.heap.size ∧ ∀ b ∈ Lb, b < w.heap.size → w'.heap[b]? = w.heap[b]? := fun h => ⟨h.size, fun b _ hlt => h.block b hlt⟩
  have h1 : isApp o = true → Post 1 ρ s w w' → w.heap.size ≤ w'.heap.size ∧ ∀ b ∈ Lb, b < w.heap.size → w'.heap[b]? = w.heap[b]? := fun ha h => by
    have hap : hasApp ops = true := by
      unfold hasApp
      exact List.any_eq_true.2 ⟨o, by simpa using Array.mem_of_getElem? ho, ha⟩
    refine ⟨h.1, fun b hb hlt => ?_⟩
    exact h.2 b (hL hap b hb)
  unfold isStore at hs
  rw [ho] at hs
  unfold lvO at hp
  cases hop : o.op <;> simp only [hop] at hs hp <;> first | exact h0 hp | (cases hs; done) | skip
  case call c =>
    obtain ⟨cal, args, ats⟩ := c
    cases cal <;> first | exact h0 hp | skip
    case builtin b =>
      cases b <;> first | exact h0 hp | skip
      exact h1 (by unfold isApp; rw [hop]) hp

theorem W_of_XL (hQ : ∀ ρ s a w, Rel w0 H0 M0 n ρ s a w → K s → Q .normal a w) : ∀ (it : IT) (pt : PT), mkT P n ops it = some pt → ∀ ρ s a w Lb, Rel w0 H0 M0 n ρ s a w → (hasApp ops = true → ∀ b ∈ Lb, Safe ρ s b) → XL P pt s K → W P ops Q Lb it a w
  | .nil, pt, h, ρ, s, a, w, Lb, hR, hL, hX => by
    simp only [mkT] at h
    injection h with h; subst h
    exact hQ ρ s a w hR hX
  | .fl i r, pt, h, ρ, s, a, w, Lb, hR, hL, hX => by
    simp only [mkT] at h
    split at h
    · rename_i g pi t h1 h2
      split at h
      · rename_i hp
        injection h with h; subst h
        obtain ⟨o, v, s', ho, hy, hR', hX', hg⟩ := step_fl h1 hp hR hX
        exact ⟨o, v, ho, hy, W_of_XL hQ r t h2 ρ s' _ w Lb hR' (fun ha b hb => hg b (hL ha b hb)) hX'⟩
      · cases h
    · cases h
  | .ld i r, pt, h, ρ, s, a, w, Lb, hR, hL, hX => by
    simp only [mkT] at h
    split at h
    · rename_i g pi t h1 h2
      split at h
      · rename_i hp
        injection h with h; subst h
        obtain ⟨o, v, s', ho, hy, hR', hX', hg⟩ := step_ld h1 hp hR hX
        rcases hy with hy | ⟨b, hy, hb⟩
        · exact .inl ⟨o, v, ho, hy, W_of_XL hQ r t h2 ρ s' _ w Lb hR' (fun ha b hb => hg b (hL ha b hb)) hX'⟩
        · refine .inr ⟨o, v, b, ho, hy, W_of_XL hQ r t h2 ρ s' _ w (b :: Lb) hR' (fun ha b' hb' => ?_) hX'⟩
          rcases List.mem_cons.1 hb' with rfl | hb'
          · exact hg _ (hb ha)
          · exact hg b' (hL ha b' hb')
      · cases h
    · cases h
  | .act i r, pt, h, ρ, s, a, w, Lb, hR, hL, hX => by
    simp only [mkT] at h
    split at h
    · rename_i g pi t h1 h2
      injection h with h; subst h
      refine wpOp_mono (fun a' w' h3 => ?_) (step_act (Q := Q) h1 hR hX)
      obtain ⟨h4, ρ', s', h5, h6, h7⟩ := h3
      refine ⟨fun hs => ?_, W_of_XL hQ r t h2 ρ' s' a' w' Lb h5 (fun ha b hb => h7 b (hL ha b hb)) h6⟩
      cases ho : ops[i]? with
      | none => unfold one at h1; rw [ho] at h1; cases h1
      | some o => exact keep_of_post hR ho hL (h4 o ho) hs
    · cases h
  | .alt l r, pt, h, ρ, s, a, w, Lb, hR, hL, hX => by
    simp only [mkT] at h
    split at h
    · rename_i p q h1 h2
      injection h with h; subst h
      exact ⟨W_of_XL hQ l p h1 ρ s a w Lb hR hL hX.1, W_of_XL hQ r q h2 ρ s a w Lb hR hL hX.2⟩
    · cases h

theorem wpOps_of_XL (hQ : ∀ ρ s a w, Rel w0 H0 M0 n ρ s a w → K s → Q .normal a w) : ∀ (l : List Nat) (pt : PT), mkL P n ops l = some pt → ∀ ρ s a w, Rel w0 H0 M0 n ρ s a w → XL P pt s K → wpOps P ops Q l a w
  | [], pt, h, ρ, s, a, w, hR, hX => by
    simp only [mkL] at h
    injection h with h; subst h
    exact hQ ρ s a w hR hX
  | i :: l, pt, h, ρ, s, a, w, hR, hX => by
    simp only [mkL] at h
    split at h
    · rename_i g pi t h1 h2
      injection h with h; subst h
      rw [wpOps_cons]
      refine wpOp_mono (fun a' w' h3 => ?_) (step_act (Q := Q) h1 hR hX)
      obtain ⟨_, ρ', s', h5, h6, _⟩ := h3
      exact wpOps_of_XL hQ l t h2 ρ' s' a' w' h5 h6
    · cases h

/-- what stands behind a piece of code -/
def QK (w0 : World) (H0 M0 : PH) (n : Nat) (K : Ex → St → Prop) : Exit → Act → World → Prop
  | .normal, a, w => ∃ ρ s, Rel w0 H0 M0 n ρ s a w ∧ K .normal s
  | .ret, a, w => ∃ ρ s, Rel w0 H0 M0 n ρ s a w ∧ K .ret s
  | .exit i, a, w => ∃ ρ s, Rel w0 H0 M0 n ρ s a w ∧ K (.exit i) s
  | _, _, _ => False

theorem lk_sub {α : Type} : ∀ (l l' : List (Nat × α)), SubL l l' → ∀ i x, lk l i = some x → lk l' i = some x
  | [], _, _, i, x, h => by simp [lk] at h
  | (j, y) :: l, l', hs, i, x, h => by
    simp only [SubL] at hs
    simp only [lk] at h
    split at h
    · rename_i e; subst e; injection h with h; subst h; exact hs.1
    · exact lk_sub l l' hs.2 i x h

theorem wfB_spec (lh : List (Nat × List Value)) : ∀ (fr : List (Nat × SV)), wfB fr lh = true → ∀ i k off, lk fr i = some (.ptr k off) → ∃ cs, lk lh k = some cs
  | [], _, i, k, off, h => by simp [lk] at h
  | (j, .v x) :: l, hw, i, k, off, h => by
    simp only [wfB] at hw
    simp only [lk] at h
    split at h
    · injection h with h; cases h
    · exact wfB_spec lh l hw i k off h
  | (j, .ptr k' o') :: l, hw, i, k, off, h => by
    simp only [wfB, Bool.and_eq_true] at hw
    simp only [lk] at h
    split at h
    · injection h with h; injection h with h1 h2; subst h1
      cases hq : lk lh k' with
      | none => rw [hq] at hw; simp at hw
      | some cs => exact ⟨cs, rfl⟩
    · exact wfB_spec lh l hw.2 i k off h

theorem Rel.sub {s' : St} (h : Rel w0 H0 M0 n ρ s a w) (hs : Sub s' s) : Rel w0 H0 M0 n ρ s' a w := by
  obtain ⟨hle, hb, hm, hdj⟩ : s.H.le s'.H ∧ (∀ b o, s'.H b = some o → s.H b = some o ∨ s.M b = some o) ∧ s'.M.le s.M ∧ PH.disj s'.H s'.M := by
    rcases hs.HM with ⟨h1, h2⟩ | h1
    · rw [h1]
      refine ⟨PH.le.refl _, fun b o hb => .inl hb, h2, fun b o hb => ?_⟩
      cases hm : s'.M b with
      | none => rfl
      | some o' => have := h2 b o' hm; rw [h.dj b o hb] at this; cases this
    · exact h1
  refine ⟨h.size, h.defers, fun i sv hi => h.fr i sv (lk_sub _ _ hs.fr i sv hi), fun k cs hk => ?_, fun k k' cs cs' h1 h2 => h.inj k k' cs cs' (lk_sub _ _ hs.lh _ _ h1) (lk_sub _ _ hs.lh _ _ h2), fun b o hx => (hb b o hx).elim (h.H b o) (h.M b o), fun b o hb => h.M b o (hm b o hb), hdj, h.step,
    fun b hb => ?_, fun b hx => ?_, h.leH.trans hle, wfB_spec _ _ hs.wf⟩
  · obtain ⟨h1, h2, h3, h4⟩ := h.lh k cs (lk_sub _ _ hs.lh _ _ hk)
    refine ⟨h1, ?_, ?_, h4⟩
    · cases hx : s'.H (ρ k) with
      | none => rfl
      | some o =>
        rcases hb _ o hx with hy | hy
        · rw [h2] at hy; cases hy
        · rw [h3] at hy; cases hy
    · cases hx : s'.M (ρ k) with
      | none => rfl
      | some o => have := hm _ o hx; rw [h3] at this; cases this
  · cases hx : s'.M b with
    | none => exact absurd hx hb
    | some o => exact h.hM b (by rw [hm b o hx]; simp)
  · cases hy : s'.H b with
    | none => exact absurd hy hx
    | some o =>
      rcases hb b o hy with hz | hz
      · exact h.hH b (by rw [hz]; simp)
      · exact .inr (h.hM b (by rw [hz]; simp))

theorem wp_of_X (hm : P.follows .mixedOrders = true) : ∀ (c : Code) (pls : List IT) (pc : PC) (pls' : List IT), comp P n c pls = some (pc, pls') →
    ∀ (K : Ex → St → Prop) ρ s a w, Rel w0 H0 M0 n ρ s a w → X P pc s K → c.wp P (QK w0 H0 M0 n K) a w := by
  intro c
  induction c with
  | skip =>
    intro pls pc pls' h K ρ s a w hR hX
    simp only [comp] at h; injection h with h; injection h with h h'; subst h
    exact wp_skip ⟨ρ, s, hR, hX⟩
  | ret =>
    intro pls pc pls' h K ρ s a w hR hX
    simp only [comp] at h; injection h with h; injection h with h h'; subst h
    exact wp_ret ⟨ρ, s, hR, hX⟩
  | exit i =>
    intro pls pc pls' h K ρ s a w hR hX
    simp only [comp] at h; injection h with h; injection h with h h'; subst h
    exact wp_exit ⟨ρ, s, hR, hX⟩
  | region id ops draw =>
    intro pls pc pls' h K ρ s a w hR hX
    cases draw with
    | false =>
      simp only [comp] at h
      split at h
      · rename_i t ht
        injection h with h; injection h with h h'; subst h
        exact wp_region (wpOps_of_XL (fun ρ s a w hR hK => ⟨ρ, s, hR, hK⟩) _ t ht ρ s a w hR hX)
      · cases h
    | true =>
      cases pls with
      | nil => simp [comp] at h
      | cons it pls =>
        simp only [comp] at h
        split at h
        · rename_i it' hcut
          split at h
          · rename_i t hc ht
            injection h with h; injection h with h h'; subst h
            obtain ⟨J, h1, h2⟩ := hX
            refine wp_tree hm hc (fun _ _ _ _ _ h => h) (W_of_XL (w0 := w0) (H0 := H0) (M0 := M0) (K := KCut J) (fun ρ s a w hR hK => ?_) it' t ht ρ s a _ [] ?_ (fun _ b hb => by cases hb) h1)
            · obtain ⟨s', hJ, hs⟩ := hK
              exact ⟨ρ, s', hR.sub hs, h2 s' hJ⟩
            · exact hR.below ⟨rfl, rfl, rfl, Nat.le_refl _, fun _ _ => rfl⟩
          · cases h
        · split at h
          · rename_i t hc ht
            injection h with h; injection h with h h'; subst h
            refine wp_tree hm hc (fun _ _ _ _ _ h => h) (W_of_XL (fun ρ s a w hR hK => ⟨ρ, s, hR, hK⟩) it t ht ρ s a _ [] ?_ (fun _ b hb => by cases hb) hX)
            exact hR.below ⟨rfl, rfl, rfl, Nat.le_refl _, fun _ _ => rfl⟩
          · cases h
  | seq x y ihx ihy =>
    intro pls pc pls' h K ρ s a w hR hX
    simp only [comp] at h
    split at h
    · rename_i p l1 h1
      split at h
      · rename_i q l2 h2
        injection h with h; injection h with h h'; subst h
        refine wp_seq (wp_mono (ihx pls p l1 h1 (KSeq (X P q) K) ρ s a w hR hX) ?_)
        intro e a' w' hq
        cases e with
        | normal =>
          obtain ⟨ρ', s', hR', hK'⟩ := hq
          exact ihy l1 q l2 h2 K ρ' s' a' w' hR' hK'
        | ret => exact hq
        | exit i => exact hq
        | goto l => exact hq
        | panic ch => exact hq
        | outgrown => exact hq
      · cases h
    · cases h
  | cond cnd x y ihx ihy =>
    intro pls pc pls' h K ρ s a w hR hX
    simp only [comp] at h
    split at h
    · rename_i p l1 h1
      split at h
      · rename_i q l2 h2
        injection h with h; injection h with h h'; subst h
        simp only [X.X] at hX
        split at hX
        · rename_i b hb
          refine wp_cond (t := b) (hR.ev hb) ?_
          cases b with
          | true => exact ihx pls p l1 h1 K ρ s a w hR hX
          | false => exact ihy l1 q l2 h2 K ρ s a w hR hX
        · exact hX.elim
      · cases h
    · cases h
  | block id x ih =>
    intro pls pc pls' h K ρ s a w hR hX
    simp only [comp] at h
    split at h
    · rename_i p l1 h1
      injection h with h; injection h with h h'; subst h
      refine wp_block (wp_mono (ih pls p l1 h1 (KBlk id K) ρ s a w hR hX) ?_)
      intro e a' w' hq
      cases e with
      | normal => exact hq
      | ret => exact hq
      | exit i =>
        obtain ⟨ρ', s', hR', hK'⟩ := hq
        simp only [KBlk] at hK'
        simp only [Exit.inBlock]
        split
        · rename_i e; rw [if_pos e] at hK'; exact ⟨ρ', s', hR', hK'⟩
        · rename_i e; rw [if_neg e] at hK'; exact ⟨ρ', s', hR', hK'⟩
      | goto l => exact hq
      | panic ch => exact hq
      | outgrown => exact hq
    · cases h
  | loop x ih =>
    intro pls pc pls' h K ρ s a w hR hX
    simp only [comp] at h
    split at h
    · rename_i p l1 h1
      injection h with h; injection h with h h'; subst h
      obtain ⟨J, ⟨m, s1, hJ, hsub⟩, hround⟩ := hX
      refine wp_loop_ghost (fun m a w => ∃ ρ s, J m s ∧ Rel w0 H0 M0 n ρ s a w) m ⟨ρ, s1, hJ, hR.sub hsub⟩ ?_
      rintro m a' w' ⟨ρ', s', hJ', hR'⟩
      refine wp_mono (ih pls p l1 h1 (KLoop J m K) ρ' s' a' w' hR' (hround m s' hJ')) ?_
      intro e a2 w2 hq
      cases e with
      | normal =>
        obtain ⟨ρ2, s2, hR2, m2, s3, hlt, hJ3, hs3⟩ := hq
        exact ⟨m2, hlt, ρ2, s3, hJ3, hR2.sub hs3⟩
      | ret => exact hq
      | exit i => exact hq
      | goto l => exact hq
      | panic ch => exact hq
      | outgrown => exact hq
    · cases h
  | rangeFunc f ps asg body => intro pls pc pls' h; simp [comp] at h
  | scope b => intro pls pc pls' h; simp [comp] at h
  | label l => intro pls pc pls' h; simp [comp] at h
  | goto l => intro pls pc pls' h; simp [comp] at h
  | refuse why => intro pls pc pls' h; simp [comp] at h

theorem argFr_lk : ∀ (vs : List Value) (k i : Nat) (sv : SV), lk (argFr vs k) i = some sv → ∃ v, sv = .v v ∧ k ≤ i ∧ vs[i - k]? = some v
  | [], k, i, sv, h => by simp [argFr, lk] at h
  | v :: vs, k, i, sv, h => by
    simp only [argFr, lk] at h
    split at h
    · rename_i e; subst e; injection h with h; subst h; exact ⟨v, rfl, Nat.le_refl _, by simp⟩
    · rename_i hne
      obtain ⟨u, h1, h2, h3⟩ := argFr_lk vs (k + 1) i sv h
      refine ⟨u, h1, by omega, ?_⟩
      rw [show i - k = (i - (k + 1)) + 1 by omega]
      simpa using h3

def resF (tmps : Array Value) : ResultVar → Sem Value
  | .tmp t => pure (tmps.getD t undef)
  | .cell p t => do loadVar t (← asAddr (tmps.getD p undef))

theorem results_eq (fn : Func) (tmps : Array Value) : results fn tmps = (do
    let vs ← fn.results.mapM (resF tmps)
    pure (if h : vs.size = 1 then vs[0] else .tuple vs)) := by
  unfold results
  congr 1

theorem resV1_run {rv : ResultVar} {x : RV} {v : Value} (hc : compR P [rv] = some [x]) (hv : resV1 s x = some v) (hR : Rel w0 H0 M0 n ρ s a w) :
    (resF a.tmps rv).run P w = .ok v w := by
  unfold resF
  cases rv with
  | tmp t =>
    simp only [compR] at hc
    injection hc with hc; injection hc with hc; subst hc
    simp only [resV1] at hv
    split at hv
    · rename_i u hu
      injection hv with hv; subst hv
      have := hR.fr t _ hu
      simp [this, conc]
    · cases hv
  | cell p t =>
    simp only [compR] at hc
    split at hc
    · rename_i u i r hu hi hr
      injection hr with hr; subst hr
      split at hc <;> (injection hc with hc; injection hc with hc; subst hc)
      all_goals
        simp only [resV1] at hv
        split at hv
        · rename_i k off hk
          split at hv
          · rename_i cs hcs
            have hp := hR.fr p _ hk
            obtain ⟨⟨T, hT⟩, _⟩ := hR.lh k cs hcs
            have hget : a.tmps.getD p undef = .pointer (some ⟨ρ k, off, none⟩) := by simp [hp, conc]
            simp only [hget, asAddr, Sem.run_bind, Sem.run_pure, Result.andThen_ok]
            first
            | exact run_ld (agg := true) hu hi rfl (fun _ => rfl) hT (by simpa using hv)
            | (refine run_ld (agg := false) hu hi ?_ (fun h => by cases h) hT (by simpa using hv)
               clear hi hT hcs hk hget hp hv
               cases u <;> first | rfl | (exfalso; simp_all; done))
          · cases hv
        · cases hv
    · cases hc

theorem compR_cons {rv : ResultVar} {l : List ResultVar} {rs : List RV} (h : compR P (rv :: l) = some rs) : ∃ x r, rs = x :: r ∧ compR P [rv] = some [x] ∧ compR P l = some r := by
  cases rv with
  | tmp t =>
    simp only [compR] at h
    split at h
    · rename_i r hr
      injection h with h; subst h
      exact ⟨_, r, rfl, by simp [compR], hr⟩
    · cases h
  | cell p t =>
    simp only [compR] at h
    split at h
    · rename_i u i r hu hi hr
      split at h <;> (injection h with h; subst h) <;> exact ⟨_, r, rfl, by simp [compR, hu, hi], hr⟩
    · cases h

theorem mapM_run (f : ResultVar → Sem Value) (P : Program) (w : World) : ∀ (l : List ResultVar) (vs : List Value), l.length = vs.length → (∀ (i : Nat) (rv : ResultVar) (v : Value), l[i]? = some rv → vs[i]? = some v → (f rv).run P w = .ok v w) →
    (l.mapM f).run P w = .ok vs w
  | [], [], _, _ => by simp
  | rv :: l, v :: vs, hl, h => by
    have h0 := h 0 rv v rfl rfl
    have ih := mapM_run f P w l vs (by simpa using hl) (fun i rv' v' h1 h2 => h (i + 1) rv' v' (by simpa using h1) (by simpa using h2))
    simp [List.mapM_cons, h0, ih]
  | [], _ :: _, hl, _ => by simp at hl
  | _ :: _, [], hl, _ => by simp at hl

theorem resVs_run (hR : Rel w0 H0 M0 n ρ s a w) : ∀ (l : List ResultVar) (rs : List RV) (vs : List Value), compR P l = some rs → resVs s rs = some vs →
    l.length = vs.length ∧ ∀ (i : Nat) (rv : ResultVar) (v : Value), l[i]? = some rv → vs[i]? = some v → (resF a.tmps rv).run P w = .ok v w
  | [], rs, vs, hc, hv => by
    simp [compR] at hc; subst hc
    simp [resVs] at hv; subst hv
    exact ⟨rfl, fun i rv v h => by simp at h⟩
  | rv :: l, rs, vs, hc, hv => by
    obtain ⟨x, r, rfl, h1, h2⟩ := compR_cons hc
    simp only [resVs] at hv
    split at hv
    · rename_i v q hx hq
      injection hv with hv; subst hv
      obtain ⟨h3, h4⟩ := resVs_run hR l r q h2 hq
      refine ⟨by simp [h3], fun i rv' v' h5 h6 => ?_⟩
      cases i with
      | zero =>
        simp at h5 h6; subst h5; subst h6
        exact resV1_run h1 hx hR
      | succ i => exact h4 i rv' v' (by simpa using h5) (by simpa using h6)
    · cases hv

theorem results_run {fn : Func} {rs : List RV} {v : Value} (hc : compR P fn.results.toList = some rs) (hv : resV s rs = some v) (hR : Rel w0 H0 M0 n ρ s a w) : (results fn a.tmps).run P w = .ok v w := by
  unfold resV at hv
  have key : ∀ vs, resVs s rs = some vs → (results fn a.tmps).run P w = .ok (if h : vs.toArray.size = 1 then vs.toArray[0] else .tuple vs.toArray) w := by
    intro vs hvs
    obtain ⟨h1, h2⟩ := resVs_run hR _ rs vs hc hvs
    have h3 := mapM_run _ P w fn.results.toList vs h1 h2
    rw [results_eq, Sem.run_bind, Array.mapM_eq_mapM_toList]
    simp only [Sem.run_map]
    rw [h3]
    simp
  split at hv
  · rename_i u hu
    injection hv with hv; subst hv
    rw [key _ hu]
    simp
  · rename_i vs hne hu
    injection hv with hv; subst hv
    rw [key _ hu]
    have : ¬ vs.toArray.size = 1 := by
      intro h1
      cases vs with
      | nil => simp at h1
      | cons x l =>
        cases l with
        | nil => exact hne x rfl
        | cons y l => simp at h1
    rw [dif_neg this]
  · cases hv

/-- **A contract off the code.** -/
theorem fn_of_X {f : Nat} {fn : Func} {c : Code} {pls : List IT} {pc : PC} {rs : List RV} {vs : List Value} {H M : PH} {R : Value → PH → PH → Prop} (hm : P.follows .mixedOrders = true)
    (hf : P.funcs[f]? = some fn) (hb : fn.body = some c) (hc : comp P fn.ntmps c pls = some (pc, [])) (hr : compR P fn.results.toList = some rs) (hl : vs.length ≤ fn.ntmps)
    (h : X P pc ⟨argFr vs 0, [], H, M⟩ (KTop rs R)) : Fn P f vs H M R := by
  intro w hH hM hdj
  refine calls_of_wp hf hb (wp_mono (wp_of_X (w0 := w) (H0 := H) (M0 := M) (n := fn.ntmps) hm c pls pc [] hc (KTop rs R) (fun _ => 0) _ _ w ?_ h) ?_)
  · refine ⟨by simp; omega, rfl, ?_, fun k cs hk => by simp [lk] at hk, fun k k' cs cs' hk => by simp [lk] at hk, hH, hM, hdj, ⟨rfl, rfl, rfl, Nat.le_refl _, fun _ _ _ => rfl⟩, fun b hb => .inl hb, fun b hb => .inl hb, PH.le.refl _, ?_⟩
    · intro i sv hi
      obtain ⟨v, rfl, _, hv⟩ := argFr_lk vs 0 i sv hi
      have hlt : i < vs.length := by
        have := (List.getElem?_eq_some_iff.1 hv).1; simpa using this
      simp only [conc]
      rw [Array.getElem?_append_left (by simpa using hlt)]
      simpa using hv
    · intro i k off hi
      obtain ⟨v, h1, _⟩ := argFr_lk vs 0 i _ hi
      cases h1
  · intro e a' w' hq
    have key : ∀ ρ s, Rel w H M fn.ntmps ρ s a' w' → (match resV s rs with | some v => R v s.H s.M | none => False) →
        a'.defers = [] ∧ ∃ v, (results fn a'.tmps).run P w' = .ok v w' ∧ ∃ v' H' M', Ending.returned v = .returned v' ∧ Stp w w' M ∧ H.le H' ∧ PH.on H' w' ∧ PH.on M' w' ∧ PH.disj H' M' ∧
          (∀ b, H' b ≠ none → H b ≠ none ∨ M b ≠ none ∨ w.heap.size ≤ b) ∧ (∀ b, M' b ≠ none → M b ≠ none ∨ w.heap.size ≤ b) ∧ R v' H' M' := by
      intro ρ s hR hK
      split at hK
      · rename_i v hv
        exact ⟨hR.defers, v, results_run hr hv hR, v, s.H, s.M, rfl, hR.step, hR.leH, hR.H, hR.M, hR.dj, hR.hH, hR.hM, hK⟩
      · exact hK.elim
    cases e with
    | normal => obtain ⟨ρ, s, hR, hK⟩ := hq; exact key ρ s hR hK
    | ret => obtain ⟨ρ, s, hR, hK⟩ := hq; exact key ρ s hR hK
    | exit i => obtain ⟨ρ, s, hR, hK⟩ := hq; exact hK.elim
    | goto l => exact hq.elim
    | panic ch => exact hq.elim
    | outgrown => exact hq.elim

end
end Go.Proofs.YtccdhgjfcgfgoaaGreat.X
