/- Regions whose order is drawn: one walk over a tree of operation numbers serves every order. -/
import Derived.OrdersHeld
import Derived.Below
namespace Go.Proofs.YtlhhdlhnpgiamaaDoor.X
open Go Go.RowKit

/-- A tree of operations' numbers: 'fl' a pure one, 'ld' a load, 'act' any; 'alt': either may come. -/
inductive IT where
  | nil
  | fl (i : Nat) (rest : IT)
  | ld (i : Nat) (rest : IT)
  | act (i : Nat) (rest : IT)
  | alt (l r : IT)

def IT.heads : IT → List Nat
  | .act i _ => [i]
  | .alt l r => l.heads ++ r.heads
  | _ => []

def IT.depth : IT → Nat
  | .nil => 0
  | .fl _ r | .ld _ r | .act _ r => r.depth + 1
  | .alt l r => max l.depth r.depth

def isPure (ops : Array Oper) (i : Nat) : Bool :=
  match ops[i]? with
  | some o => (match o.op with | .move _ | .assign _ | .pick .. | .binOp .. | .unOp .. | .convert .. | .fieldAddr .. | .field .. | .indexAddr .. | .index .. | .extract .. | .slice .. | .build .. | .call _ => true | _ => false)
  | none => false

/-- Operations that may turn a block that stood before. -/
def isStore (ops : Array Oper) (i : Nat) : Bool :=
  match ops[i]? with
  | some o => (match o.op with | .store .. => true | _ => false)
  | none => false

/-- Does j come behind i in every order? -/
def anc (ops : Array Oper) : Nat → Nat → Nat → Bool
  | 0, _, _ => false
  | n + 1, j, i =>
    match ops[j]? with
    | none => false
    | some o => o.after.toList.any fun e => Region.binds .any e && (e.on == i || anc ops n e.on i)

def SameAt (w0 : World) (b : Nat) (w : World) : Prop := w0.heap.size ≤ w.heap.size ∧ (b < w0.heap.size → w.heap[b]? = w0.heap[b]?)

theorem SameAt.refl (w : World) (b : Nat) : SameAt w b w := ⟨Nat.le_refl _, fun _ => rfl⟩
theorem SameAt.below {w0 w w' : World} {b : Nat} (h : SameAt w0 b w) (hb : Below w.heap.size w w') : SameAt w0 b w' :=
  ⟨Nat.le_trans h.1 hb.size, fun hlt => (hb.block b (Nat.lt_of_lt_of_le hlt h.1)).trans (h.2 hlt)⟩

section
variable (P : Program) (ops : Array Oper) (Q : Exit → Act → World → Prop)

/-- The walk over a tree; L: the blocks that were read. -/
def W : List Nat → IT → Act → World → Prop
  | _, .nil, a, w => Q .normal a w
  | L, .fl i r, a, w => ∃ o v, ops[i]? = some o ∧ Yields P ops o v a ∧ W L r (a.put o.dst v) w
  | L, .ld i r, a, w => (∃ o v, ops[i]? = some o ∧ Yields P ops o v a ∧ W L r (a.put o.dst v) w) ∨ ∃ o v b, ops[i]? = some o ∧ YieldsIf P ops (SameAt w b) o v a ∧ W (b :: L) r (a.put o.dst v) w
  | L, .act i r, a, w => wpOp P ops Q i (fun a' w' => (isStore ops i = false → w.heap.size ≤ w'.heap.size ∧ ∀ b ∈ L, b < w.heap.size → w'.heap[b]? = w.heap[b]?) ∧ W L r a' w') a w
  | L, .alt l r, a, w => W L l a w ∧ W L r a w

/-- May the tree be walked from here? (listed: what has come; lds: loads that were taken; br: those whose block may have turned since) -/
def chk : Bool → IT → Array Bool → List Nat → List Nat → Bool
  | _, .nil, listed, _, _ => (Region.ready .any ops listed).isEmpty
  | _, .fl i r, listed, lds, br => (Region.ready .any ops listed).contains i && isPure ops i && Region.free .any ops listed i && br.all (fun b => anc ops ops.size i b) && chk true r (listed.setIfInBounds i true) lds br
  | _, .ld i r, listed, lds, br => (Region.ready .any ops listed).contains i && Region.free .any ops listed i && br.all (fun b => anc ops ops.size i b) && chk true r (listed.setIfInBounds i true) (i :: lds) br
  | top, .act i r, listed, lds, br => (!top || (Region.ready .any ops listed).all (· == i)) && (Region.ready .any ops listed).contains i && br.all (fun b => anc ops ops.size i b) &&
      (!isStore ops i || lds.all (fun l => anc ops ops.size i l)) && chk true r (listed.setIfInBounds i true) lds (if isStore ops i then lds ++ br else br)
  | top, .alt l r, listed, lds, br => (!top || (Region.ready .any ops listed).all (fun j => (l.heads ++ r.heads).contains j)) && chk false l listed lds br && chk false r listed lds br &&
      (match l with | .act .. | .alt .. => true | _ => false) && (match r with | .act .. | .alt .. => true | _ => false)

def chkTop (t : IT) : Bool := Region.noSelect ops && decide (t.depth ≤ ops.size) && chk ops true t (Array.replicate ops.size false) [] []

/-- Whatever order is picked from here on, and D is met behind each operation that turns the world. -/
def wpAnyD (D : Nat → World → Prop) : Nat → Array Bool → Act → World → Prop
  | 0, listed, a, w => Region.ready .any ops listed = [] ∧ Q .normal a w
  | f + 1, listed, a, w => (Region.ready .any ops listed = [] → Q .normal a w) ∧
    ∀ i ∈ Region.ready .any ops listed, wpOp P ops Q i (fun a' w' => (D i w' ∨ w' = w) ∧ wpAnyD D f (listed.setIfInBounds i true) a' w') a w
end

section
variable {P : Program} {ops : Array Oper} {Q : Exit → Act → World → Prop}

theorem wpAny_of_D {D : Nat → World → Prop} : ∀ (f : Nat) (listed : Array Bool) (a : Act) (w : World), wpAnyD P ops Q D f listed a w → wpAny P .any ops Q f listed a w
  | 0, _, _, _, h => h
  | f + 1, _, _, _, h => ⟨h.1, fun i hi => wpOp_mono (fun a' w' h' => wpAny_of_D f _ a' w' h'.2) (h.2 i hi)⟩

theorem wpAnyD_mono {D D' : Nat → World → Prop} (hD : ∀ j w, D j w → D' j w) : ∀ (f : Nat) (listed : Array Bool) (a : Act) (w : World), wpAnyD P ops Q D f listed a w → wpAnyD P ops Q D' f listed a w
  | 0, _, _, _, h => h
  | f + 1, _, _, _, h => ⟨h.1, fun i hi => wpOp_mono (fun a' w' h' => ⟨h'.1.imp (hD i w') id, wpAnyD_mono hD f _ a' w' h'.2⟩) (h.2 i hi)⟩

theorem wpAnyD_done {D : Nat → World → Prop} {listed : Array Bool} {a : Act} {w : World} (hr : Region.ready .any ops listed = []) (h : Q .normal a w) :
    ∀ f, wpAnyD P ops Q D f listed a w
  | 0 => ⟨hr, h⟩
  | _ + 1 => ⟨fun _ => h, by rw [hr]; simp⟩

/-- What has come is closed downwards. -/
def Closed (ops : Array Oper) (listed : Array Bool) : Prop :=
  ∀ (j : Nat) (o : Oper), ops[j]? = some o → listed.getD j false = true → ∀ e ∈ o.after, Region.binds .any e = true → listed.getD e.on false = true

theorem Closed.set {listed : Array Bool} (h : Closed ops listed) {i : Nat} (hi : i ∈ Region.ready .any ops listed) : Closed ops (listed.setIfInBounds i true) := by
  intro j o ho hl e he hb
  by_cases hij : i = j
  · subst hij
    obtain ⟨_, o', ho', hall⟩ := mem_ready.1 hi
    rw [ho] at ho'; injection ho' with ho'; subst ho'
    exact getD_set_true (hall e he hb)
  · rw [getD_set_ne false hij] at hl
    exact getD_set_true (h j o ho hl e he hb)

theorem anc_listed {listed : Array Bool} (h : Closed ops listed) : ∀ (n j i : Nat), (∀ o, ops[j]? = some o → ∀ e ∈ o.after, Region.binds .any e = true → listed.getD e.on false = true) →
    anc ops n j i = true → listed.getD i false = true
  | 0, _, _, _, ha => by simp [anc] at ha
  | n + 1, j, i, hj, ha => by
    unfold anc at ha
    cases ho : ops[j]? with
    | none => simp [ho] at ha
    | some o =>
      simp only [ho, List.any_eq_true, Bool.and_eq_true, Bool.or_eq_true, beq_iff_eq] at ha
      obtain ⟨e, he, hb, hor⟩ := ha
      have hl := hj o ho e (by simpa using he) hb
      rcases hor with rfl | hor
      · exact hl
      · exact anc_listed h n e.on i (fun o' ho' e' he' hb' => h e.on o' ho' hl e' he' hb') hor

theorem not_anc {listed : Array Bool} (h : Closed ops listed) {i j n : Nat} (hi : i ∈ Region.ready .any ops listed) (hj : j ∈ Region.ready .any ops listed) : anc ops n j i = false := by
  cases ha : anc ops n j i with
  | false => rfl
  | true =>
    obtain ⟨_, o, ho, hall⟩ := mem_ready.1 hj
    have hl := anc_listed h n j i (fun o' ho' => by rw [ho] at ho'; injection ho' with ho'; subst ho'; exact hall) ha
    have h0 := (mem_ready.1 hi).1
    rcases Nat.lt_or_ge i listed.size with h' | h'
    · simp [h'] at h0 hl; rw [h0] at hl; cases hl
    · simp [Array.getElem?_eq_none h'] at hl

theorem wpAnyD_first {D : Nat → World → Prop} {S : World → Prop} {i : Nat} {oi : Oper} {v : Value} (hi : ops[i]? = some oi) (hsel : ∀ (j : Nat) (o : Oper) cs b, ops[j]? = some o → o.op ≠ .select cs b)
    (hQ : ∀ c a w, Q (.panic c) (a.put oi.dst v) w → Q (.panic c) a w) (hD : ∀ j w, anc ops ops.size j i = false → D j w → S w) :
    ∀ (f : Nat) (listed : Array Bool) (a : Act) (w : World), Closed ops listed →
      (∀ j oj, ops[j]? = some oj → j ≠ i → listed.getD j true = false → (∀ e ∈ oj.after, Region.binds .any e = true → e.on ≠ i) → oi.apart ops oj = true) →
      i ∈ Region.ready .any ops listed → YieldsIf P ops S oi v a → S w →
      wpAnyD P ops Q D f (listed.setIfInBounds i true) (a.put oi.dst v) w → wpAnyD P ops Q D (f + 1) listed a w := by
  intro f
  induction f with
  | zero =>
    intro listed a w _ _ hr hy hS H
    refine ⟨fun h => (by rw [h] at hr; cases hr), fun j hj => ?_⟩
    by_cases hji : j = i
    · subst hji; exact hy.wpOp hi hS ⟨.inr rfl, H⟩
    · have := ready_mono hj hji
      rw [H.1] at this
      cases this
  | succ f ih =>
    intro listed a w hcl hfree hr hy hS H
    refine ⟨fun h => (by rw [h] at hr; cases hr), fun j hj => ?_⟩
    by_cases hji : j = i
    · subst hji; exact hy.wpOp hi hS ⟨.inr rfl, H⟩
    · have h1 := H.2 j (ready_mono hj hji)
      obtain ⟨hjun, oj, hoj, hall⟩ := mem_ready.1 hj
      have hnot : ∀ e ∈ oj.after, Region.binds .any e = true → e.on ≠ i := fun e he hb heq => by
        have h1 := hall e he hb
        have h0 := (mem_ready.1 hr).1
        rw [heq] at h1
        rcases Nat.lt_or_ge i listed.size with h' | h'
        · simp [h'] at h0 h1; rw [h0] at h1; cases h1
        · simp [Array.getElem?_eq_none h'] at h1
      have h2 := wpOp_putIf hoj (hfree j oj hoj hji hjun hnot) (fun cs b => hsel i oi cs b hi) (fun cs b => hsel j oj cs b hoj) hQ hy h1
      have hfree' : ∀ k ok, ops[k]? = some ok → k ≠ i → (listed.setIfInBounds j true).getD k true = false →
          (∀ e ∈ ok.after, Region.binds .any e = true → e.on ≠ i) → oi.apart ops ok = true := fun k ok hk hki hun hno => by
        refine hfree k ok hk hki ?_ hno
        by_cases hjk : j = k
        · subst hjk; exact hjun
        · rw [getD_set_ne true hjk] at hun; exact hun
      refine wpOp_mono (fun a' w' h3 => ⟨h3.2.1, ih (listed.setIfInBounds j true) a' w' (hcl.set hj) hfree' (ready_mono hr (Ne.symm hji)) h3.1 ?_ ?_⟩) h2
      · rcases h3.2.1 with hd | he
        · exact hD j w' (not_anc hcl hr hj) hd
        · rw [he]; exact hS
      · rw [Array.setIfInBounds_comm _ _ hji]
        exact h3.2.2

/-- A load that was taken: its number, the world then, its block. -/
structure Held where
  i : Nat
  w : World
  b : Nat

def DL (ops : Array Oper) (L : List Held) (j : Nat) (w : World) : Prop := ∀ h ∈ L, anc ops ops.size j h.i = false → SameAt h.w h.b w

theorem chk_head (t : IT) : ∀ (top : Bool) (listed : Array Bool) (lds br : List Nat), chk ops top t listed lds br = true → (match t with | .act .. | .alt .. => true | _ => false) = true →
    1 ≤ t.depth ∧ ∃ i, i ∈ Region.ready .any ops listed := by
  induction t with
  | nil => intro _ _ _ _ _ h; simp at h
  | fl i r _ => intro _ _ _ _ _ h; simp at h
  | ld i r _ => intro _ _ _ _ _ h; simp at h
  | act i r _ =>
    intro top listed lds br hc _
    simp only [chk, Bool.and_eq_true] at hc
    exact ⟨by simp [IT.depth], i, by simpa using hc.1.1.1.2⟩
  | alt l r ihl _ =>
    intro top listed lds br hc _
    simp only [chk, Bool.and_eq_true] at hc
    obtain ⟨h1, h2⟩ := ihl false listed lds br hc.1.1.1.2 hc.1.2
    exact ⟨by simp only [IT.depth]; omega, h2⟩

theorem chk_sound (hsel : Region.noSelect ops = true) (hQ : ∀ c a w d v, Q (.panic c) (Act.put a d v) w → Q (.panic c) a w) (t : IT) :
    ∀ (listed : Array Bool) (lds br : List Nat) (L : List Held) (Lb : List Nat) (a : Act) (w : World), Closed ops listed →
      (∀ h ∈ L, h.i ∈ lds) → (∀ h ∈ L, h.b ∈ Lb) → (∀ h ∈ L, SameAt h.w h.b w ∨ h.i ∈ br) → W P ops Q Lb t a w →
      (chk ops true t listed lds br = true → ∀ f, t.depth ≤ f → wpAnyD P ops Q (DL ops L) f listed a w) ∧
      (chk ops false t listed lds br = true → (match t with | .act .. | .alt .. => True | _ => False) → ∀ i ∈ t.heads, ∀ f, t.depth ≤ f + 1 →
        wpOp P ops Q i (fun a' w' => (DL ops L i w' ∨ w' = w) ∧ wpAnyD P ops Q (DL ops L) f (listed.setIfInBounds i true) a' w') a w) := by
  induction t with
  | nil =>
    intro listed lds br L Lb a w _ _ _ _ hW
    refine ⟨fun hc f _ => ?_, fun _ h => h.elim⟩
    simp only [chk, List.isEmpty_iff] at hc
    exact wpAnyD_done hc hW f
  | fl i r ih =>
    intro listed lds br L Lb a w hcl hl hlb hL hW
    refine ⟨fun hc f hf => ?_, fun _ h => h.elim⟩
    obtain ⟨o, v, ho, hy, hW⟩ := hW
    simp only [chk, Bool.and_eq_true] at hc
    obtain ⟨⟨⟨⟨hr, _⟩, hfr⟩, _⟩, hc⟩ := hc
    have hr' : i ∈ Region.ready .any ops listed := by simpa using hr
    obtain ⟨f, rfl⟩ : ∃ m, f = m + 1 := ⟨f - 1, by simp only [IT.depth] at hf; omega⟩
    refine wpAnyD_first (S := fun _ => True) ho (Region.noSelect_spec hsel) (fun c a w => hQ c a w _ _) (fun _ _ _ _ => trivial) f listed a w hcl (Region.free_spec ho hfr) hr' hy.yieldsIf trivial ?_
    exact (ih _ lds br L Lb _ w (hcl.set hr') hl hlb hL hW).1 hc f (by simp only [IT.depth] at hf; omega)
  | ld i r ih =>
    intro listed lds br L Lb a w hcl hl hlb hL hW
    refine ⟨fun hc f hf => ?_, fun _ h => h.elim⟩
    simp only [chk, Bool.and_eq_true] at hc
    obtain ⟨⟨⟨hr, hfr⟩, _⟩, hc⟩ := hc
    have hr' : i ∈ Region.ready .any ops listed := by simpa using hr
    obtain ⟨f, rfl⟩ : ∃ m, f = m + 1 := ⟨f - 1, by simp only [IT.depth] at hf; omega⟩
    rcases hW with ⟨o, v, ho, hy, hW⟩ | ⟨o, v, b, ho, hy, hW⟩
    · refine wpAnyD_first (S := fun _ => True) ho (Region.noSelect_spec hsel) (fun c a w => hQ c a w _ _) (fun _ _ _ _ => trivial) f listed a w hcl (Region.free_spec ho hfr) hr' hy.yieldsIf trivial ?_
      exact (ih _ (i :: lds) br L Lb _ w (hcl.set hr') (fun h hh => List.mem_cons_of_mem _ (hl h hh)) hlb hL hW).1 hc f (by simp only [IT.depth] at hf; omega)
    have h1 := (ih _ (i :: lds) br (⟨i, w, b⟩ :: L) (b :: Lb) _ w (hcl.set hr') (fun h hh => by
      rcases List.mem_cons.1 hh with rfl | hh
      · exact List.mem_cons_self
      · exact List.mem_cons_of_mem _ (hl h hh)) (fun h hh => by
      rcases List.mem_cons.1 hh with rfl | hh
      · exact List.mem_cons_self
      · exact List.mem_cons_of_mem _ (hlb h hh)) (fun h hh => by
      rcases List.mem_cons.1 hh with rfl | hh
      · exact .inl (SameAt.refl _ _)
      · exact hL h hh) hW).1 hc f (by simp only [IT.depth] at hf; omega)
    have h2 := wpAnyD_first (D := DL ops (⟨i, w, b⟩ :: L)) (S := SameAt w b) ho (Region.noSelect_spec hsel) (fun c a w => hQ c a w _ _)
      (fun j w' ha hd => hd ⟨i, w, b⟩ List.mem_cons_self ha) f listed a w hcl (Region.free_spec ho hfr) hr' hy (SameAt.refl _ _) h1
    exact wpAnyD_mono (fun j w' hd h hh => hd h (List.mem_cons_of_mem _ hh)) _ _ _ _ h2
  | act i r ih =>
    intro listed lds br L Lb a w hcl hl hlb hL hW
    have key : ∀ top, chk ops top (.act i r) listed lds br = true → ∀ f, r.depth ≤ f →
        wpOp P ops Q i (fun a' w' => (DL ops L i w' ∨ w' = w) ∧ wpAnyD P ops Q (DL ops L) f (listed.setIfInBounds i true) a' w') a w := by
      intro top hc f hf
      simp only [chk, Bool.and_eq_true] at hc
      obtain ⟨⟨⟨⟨_, hr⟩, hbr⟩, hst⟩, hc⟩ := hc
      have hr' : i ∈ Region.ready .any ops listed := by simpa using hr
      refine wpOp_mono (fun a' w' h => ?_) hW
      obtain ⟨hb, hW'⟩ := h
      cases hs : isStore ops i with
      | false =>
        obtain ⟨hsz, hbel⟩ := hb hs
        have hkeep : ∀ h ∈ L, SameAt h.w h.b w → SameAt h.w h.b w' := fun h hh hS =>
          ⟨Nat.le_trans hS.1 hsz, fun hlt => (hbel h.b (hlb h hh) (Nat.lt_of_lt_of_le hlt hS.1)).trans (hS.2 hlt)⟩
        simp only [hs, Bool.false_eq_true, if_false] at hc
        refine ⟨.inl fun h hh ha => ?_, ?_⟩
        · rcases hL h hh with hS | hbk
          · exact hkeep h hh hS
          · have := List.all_eq_true.1 hbr h.i hbk
            rw [ha] at this; cases this
        · exact (ih _ lds br L Lb a' w' (hcl.set hr') hl hlb (fun h hh => (hL h hh).imp (hkeep h hh) id) hW').1 hc f hf
      | true =>
        simp only [hs, if_true, Bool.not_true, Bool.false_or] at hc hst
        refine ⟨.inl fun h hh ha => ?_, ?_⟩
        · have := List.all_eq_true.1 hst h.i (hl h hh)
          rw [ha] at this; cases this
        · exact (ih _ lds (lds ++ br) L Lb a' w' (hcl.set hr') hl hlb (fun h hh => .inr (List.mem_append_left _ (hl h hh))) hW').1 hc f hf
    refine ⟨fun hc f hf => ?_, fun hc _ j hj f hf => ?_⟩
    · obtain ⟨f, rfl⟩ : ∃ m, f = m + 1 := ⟨f - 1, by simp only [IT.depth] at hf; omega⟩
      have hc' := hc
      simp only [chk, Bool.and_eq_true, Bool.not_true, Bool.false_or] at hc
      obtain ⟨⟨⟨⟨ht, hr⟩, _⟩, _⟩, _⟩ := hc
      have hr' : i ∈ Region.ready .any ops listed := by simpa using hr
      refine ⟨fun h => (by rw [h] at hr'; cases hr'), fun j hj => ?_⟩
      have hji : j = i := by simpa using List.all_eq_true.1 ht j hj
      subst hji
      exact key true hc' f (by simp only [IT.depth] at hf; omega)
    · simp only [IT.heads, List.mem_singleton] at hj
      subst hj
      exact key false hc f (by simp only [IT.depth] at hf; omega)
  | alt l r ihl ihr =>
    intro listed lds br L Lb a w hcl hl hlb hL hW
    have key : ∀ top, chk ops top (.alt l r) listed lds br = true → ∀ j ∈ (IT.alt l r).heads, ∀ f, (IT.alt l r).depth ≤ f + 1 →
        wpOp P ops Q j (fun a' w' => (DL ops L j w' ∨ w' = w) ∧ wpAnyD P ops Q (DL ops L) f (listed.setIfInBounds j true) a' w') a w := by
      intro top hc j hj f hf
      simp only [chk, Bool.and_eq_true] at hc
      obtain ⟨⟨⟨⟨_, hcl'⟩, hcr'⟩, hml⟩, hmr⟩ := hc
      simp only [IT.heads, List.mem_append] at hj
      rcases hj with hj | hj
      · refine (ihl listed lds br L Lb a w hcl hl hlb hL hW.1).2 hcl' ?_ j hj f (by simp only [IT.depth] at hf; omega)
        cases l <;> first | trivial | (simp at hml)
      · refine (ihr listed lds br L Lb a w hcl hl hlb hL hW.2).2 hcr' ?_ j hj f (by simp only [IT.depth] at hf; omega)
        cases r <;> first | trivial | (simp at hmr)
    refine ⟨fun hc f hf => ?_, fun hc _ j hj f hf => key false hc j hj f hf⟩
    have hc' := hc
    simp only [chk, Bool.and_eq_true, Bool.not_true, Bool.false_or] at hc
    obtain ⟨⟨⟨⟨ht, _⟩, _⟩, hml⟩, _⟩ := hc
    obtain ⟨hd, i, hi⟩ := chk_head _ _ _ _ _ hc' rfl
    obtain ⟨f, rfl⟩ : ∃ m, f = m + 1 := ⟨f - 1, by omega⟩
    refine ⟨fun h => (by rw [h] at hi; cases hi), fun j hj => ?_⟩
    exact key true hc' j (by simpa [IT.heads] using List.all_eq_true.1 ht j hj) f hf

/-- **The beginning**: a region that draws, from the world behind the draw. -/
theorem wp_tree {id : Nat} {t : IT} {a : Act} {w : World} (hm : P.follows .mixedOrders = true) (hc : chkTop ops t = true)
    (hQ : ∀ c a w d v, Q (.panic c) (Act.put a d v) w → Q (.panic c) a w) (h : W P ops Q [] t a { w with drawn := w.drawn + 1 }) : (Code.region id ops true).wp P Q a w := by
  simp only [chkTop, Bool.and_eq_true, decide_eq_true_eq] at hc
  refine wp_region_any hm (wpAny_of_D (D := DL ops []) _ _ _ _ ((chk_sound hc.1.1 hQ t _ [] [] [] [] a _ ?_ (by simp) (by simp) (by simp) h).1 hc.2 _ hc.1.2))
  intro j o _ hl e _ _
  simp [Array.getD_eq_getD_getElem?, Array.getElem?_replicate] at hl
  split at hl <;> simp at hl

end
end Go.Proofs.YtlhhdlhnpgiamaaDoor.X
