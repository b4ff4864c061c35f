/- What is asked at each instruction is enough: the instructions that read, write or make memory. -/
import Derived.Test.YtlhhdlhnpgiamaaDoorXD
import Derived.Laws.CopyRow
import Derived.Maps.AppendAt
set_option linter.unusedVariables false
set_option linter.unusedSimpArgs false
namespace Go.Proofs.YtlhhdlhnpgiamaaDoor.X
open Go Go.RowKit

section
variable {P : Program} {w0 : World} {H0 M0 : PH} {n : Nat} {ρ : Nat → Nat} {s : St} {a : Act} {w : World}

theorem heap_lt {w : World} {b : Nat} {o : Obj} (h : w.heap[b]? = some o) : b < w.heap.size := (Array.getElem?_eq_some_iff.1 h).1

theorem PH.on_below {H : PH} {w w' : World} (h : H.on w) (hb : Below w.heap.size w w') : H.on w' :=
  fun b o ho => (hb.block b (heap_lt (h b o ho))).trans (h b o ho)

theorem PH.no_block {H : PH} {w : World} (h : H.on w) {b : Nat} (hb : w.heap.size ≤ b) : H b = none := by
  cases ho : H b with
  | none => rfl
  | some o => have := heap_lt (h b o ho); omega

theorem Stp.below {w0 w w' : World} {M : PH} (h : Stp w0 w M) (hb : Below w.heap.size w w') : Stp w0 w' M :=
  ⟨hb.os.trans h.os, hb.tape.trans h.tape, hb.output.trans h.output, Nat.le_trans h.size hb.size, fun b hlt hM => (hb.block b (Nat.lt_of_lt_of_le hlt h.size)).trans (h.block b hlt hM)⟩

theorem Rel.below {w' : World} (h : Rel w0 H0 M0 n ρ s a w) (hb : Below w.heap.size w w') : Rel w0 H0 M0 n ρ s a w' := by
  refine ⟨h.size, h.defers, h.fr, ?_, h.inj, PH.on_below h.H hb, PH.on_below h.M hb, h.dj, h.step.below hb, h.hM, h.hH, h.leH, h.wf⟩
  intro k cs hk
  obtain ⟨⟨T, hT⟩, h2⟩ := h.lh k cs hk
  exact ⟨⟨T, (hb.block _ (heap_lt hT)).trans hT⟩, h2⟩

/-- what is safe from an append: the locals, and H -/
def Safe (ρ : Nat → Nat) (s : St) (b : Nat) : Prop := (∃ k cs, lk s.lh k = some cs ∧ ρ k = b) ∨ s.H b ≠ none

/-- how much an operation may turn -/
def Post (lv : Nat) (ρ : Nat → Nat) (s : St) (w w' : World) : Prop :=
  match lv with
  | 0 => Below w.heap.size w w'
  | 1 => w.heap.size ≤ w'.heap.size ∧ ∀ b, Safe ρ s b → w'.heap[b]? = w.heap[b]?
  | _ => True

def Grow (ρ : Nat → Nat) (s : St) (ρ' : Nat → Nat) (s' : St) : Prop := ∀ b, Safe ρ s b → Safe ρ' s' b

theorem Grow.refl (ρ : Nat → Nat) (s : St) : Grow ρ s ρ s := fun _ h => h
theorem Grow.put (ρ : Nat → Nat) (s : St) (d : Nat) (x : SV) : Grow ρ s ρ (s.put d x) := fun _ h => h

theorem Rel.safe_lt {b : Nat} (h : Rel w0 H0 M0 n ρ s a w) (hb : Safe ρ s b) : b < w.heap.size := by
  rcases hb with ⟨k, cs, hk, rfl⟩ | hb
  · obtain ⟨⟨T, hT⟩, _⟩ := h.lh k cs hk
    exact heap_lt hT
  · cases ho : s.H b with
    | none => exact absurd ho hb
    | some o => exact heap_lt (h.H b o ho)

theorem Post.of_below {lv : Nat} {w' : World} (h : Rel w0 H0 M0 n ρ s a w) (hb : Below w.heap.size w w') : Post lv ρ s w w' := by
  match lv with
  | 0 => exact hb
  | 1 => exact ⟨hb.size, fun b hs => hb.block b (h.safe_lt hs)⟩
  | _ + 2 => trivial

/-- an acting operation -/
def Acts (P : Program) (w0 : World) (H0 M0 : PH) (n : Nat) (Q : Exit → Act → World → Prop) (a : Act) (w : World) (ρ : Nat → Nat) (s : St) (o : Oper) (lv : Nat) (r : PT) (K : St → Prop) : Prop :=
  o.wp P a w (fun a' w' => Post lv ρ s w w' ∧ ∃ ρ' s', Rel w0 H0 M0 n ρ' s' a' w' ∧ XL P r s' K ∧ Grow ρ s ρ' s') Q

variable {o : Oper} {d : Nat} {r : PT} {K : St → Prop} {Q : Exit → Act → World → Prop}

theorem Acts.value {lv : Nat} {v : Value} {w' : World} (hr : (execOp a.eval o).run P w = .ok (.value v) w') (hb : Post lv ρ s w w')
    (h : ∃ ρ' s', Rel w0 H0 M0 n ρ' s' (a.put o.dst v) w' ∧ XL P r s' K ∧ Grow ρ s ρ' s') : Acts P w0 H0 M0 n Q a w ρ s o lv r K := by
  unfold Acts Oper.wp
  rw [hr]
  exact ⟨hb, h⟩
theorem Acts.skip {lv : Nat} {w' : World} (hr : (execOp a.eval o).run P w = .ok .skip w') (hb : Post lv ρ s w w')
    (h : ∃ ρ' s', Rel w0 H0 M0 n ρ' s' (a.put o.dst undef) w' ∧ XL P r s' K ∧ Grow ρ s ρ' s') : Acts P w0 H0 M0 n Q a w ρ s o lv r K := by
  unfold Acts Oper.wp
  rw [hr]
  exact ⟨hb, h⟩

/-! ### Loads -/

theorem cell_row {w : World} {b j : Nat} {cs : Array Value} {T : TypeId} {fz : Nat × Nat} (hg : w.heap[b]? = some (.cells cs T fz)) : w.cell? ⟨b, j, none⟩ = cs[j]? := by
  simp [World.cell?, hg]

theorem run_ld {t : TypeId} {u : TypeDesc} {i : TypeInfo} {agg : Bool} {m : Nat} (hu : P.underlying t = some u) (hi : P.info? t = some i) (ha : isAggD u = agg) (hm : agg = true → m = i.size)
    {w : World} {b off : Nat} {cs : Array Value} {T : TypeId} {fz : Nat × Nat} {v : Value} (hg : w.heap[b]? = some (.cells cs T fz)) (hv : ldv agg m off cs.toList = some v) :
    (loadVar t ⟨b, off, none⟩).run P w = .ok v w := by
  simp only [loadVar, Sem.run_bind, isAgg_run P t u hu w, ha, Result.andThen_ok]
  cases agg with
  | true =>
    obtain rfl := hm rfl
    rw [ldv_agg_eq hv]
    have hl : ((cs.toList.drop off).take i.size).length = i.size := by
      rcases ldv_agg hv with h | h
      · simp at h ⊢; omega
      · simp [h]
    have := run_loadCells_list (P := P) w ⟨b, off, none⟩ ((cs.toList.drop off).take i.size) (fun j u hu => by
      rw [addr_add, cell_row hg]
      rw [List.getElem?_take] at hu
      split at hu
      · simpa using hu
      · cases hu)
    rw [hl] at this
    simp [sizeOf, typeInfo, hi, this]
  | false =>
    have := ldv_one hv
    have hc : w.cell? ⟨b, off, none⟩ = some v := by rw [cell_row hg]; simpa using this
    simp [hc]

theorem good_ld {t : TypeId} {u : TypeDesc} {i : TypeInfo} {agg : Bool} {m : Nat} {x : Operand} (hu : P.underlying t = some u) (hi : P.info? t = some i) (ha : isAggD u = agg) (hm : agg = true → m = i.size)
    (hR : Rel w0 H0 M0 n ρ s a w) (hd : d < n) (ho : o.op = .load t x) (hX : XL P (.op none (.ld d agg m x) r) s K) :
    ∃ v b s', (∀ w', SameAt w b w' → (execOp a.eval o).run P w' = .ok (.value v) w') ∧ Rel w0 H0 M0 n ρ s' (a.put (some d) v) w ∧ XL P r s' K ∧ Grow ρ s ρ s' := by
  have base : ∀ (b off : Nat) (cs : Array Value) (T : TypeId) (fz : Nat × Nat) (v : Value), a.eval x = .pointer (some ⟨b, off, none⟩) → w.heap[b]? = some (.cells cs T fz) → ldv agg m off cs.toList = some v →
      ∀ w', SameAt w b w' → (execOp a.eval o).run P w' = .ok (.value v) w' := by
    intro b off cs T fz v hx hg hv w' hs
    have hg' : w'.heap[b]? = some (.cells cs T fz) := (hs.2 (heap_lt hg)).trans hg
    simp only [execOp, ho, hx, Instr.loadAt, Instr.sureAddr, Sem.run_bind, Sem.run_pure, Result.andThen_ok, run_ld hu hi ha hm hg' hv]
  simp only [XL, gateOf] at hX
  split at hX
  · rename_i k off hx
    split at hX
    · rename_i cs hk
      split at hX
      · rename_i v hv
        obtain ⟨⟨T, hT⟩, _⟩ := hR.lh k cs hk
        exact ⟨v, ρ k, _, base (ρ k) off cs.toArray T _ v (hR.ev hx) hT (by simpa using hv), hR.put hd (.v v), hX, fun _ h => h⟩
      · exact hX.elim
    · exact hX.elim
  · rename_i p hx
    obtain ⟨b, off, cs, T, fz, v, rfl, hHM, hv, hX⟩ := hX
    have hg : w.heap[b]? = some (.cells cs T fz) := hHM.elim (hR.H b _) (hR.M b _)
    exact ⟨v, b, _, base b off cs T fz v (hR.ev hx) hg hv, hR.put hd (.v v), hX, fun _ h => h⟩
  · exact hX.elim

theorem good_ldx {t : TypeId} {u : TypeDesc} {i : TypeInfo} {agg : Bool} {m : Nat} {x : Operand} (hu : P.underlying t = some u) (hi : P.info? t = some i) (ha : isAggD u = agg) (hm : agg = true → m = i.size)
    (hR : Rel w0 H0 M0 n ρ s a w) (hd : d < n) (ho : o.op = .load t x) (hX : XL P (.op none (.ldx d agg m x) r) s K) :
    ∃ v b s', (∀ w', SameAt w b w' → (execOp a.eval o).run P w' = .ok (.value v) w') ∧ Rel w0 H0 M0 n ρ s' (a.put (some d) v) w ∧ XL P r s' K ∧ Safe ρ s b ∧ Grow ρ s ρ s' := by
  have base : ∀ (b off : Nat) (cs : Array Value) (T : TypeId) (fz : Nat × Nat) (v : Value), a.eval x = .pointer (some ⟨b, off, none⟩) → w.heap[b]? = some (.cells cs T fz) → ldv agg m off cs.toList = some v →
      ∀ w', SameAt w b w' → (execOp a.eval o).run P w' = .ok (.value v) w' := by
    intro b off cs T fz v hx hg hv w' hs
    have hg' : w'.heap[b]? = some (.cells cs T fz) := (hs.2 (heap_lt hg)).trans hg
    simp only [execOp, ho, hx, Instr.loadAt, Instr.sureAddr, Sem.run_bind, Sem.run_pure, Result.andThen_ok, run_ld hu hi ha hm hg' hv]
  simp only [XL, gateOf] at hX
  split at hX
  · rename_i k off hx
    split at hX
    · rename_i cs hk
      split at hX
      · rename_i v hv
        obtain ⟨⟨T, hT⟩, _⟩ := hR.lh k cs hk
        exact ⟨v, ρ k, _, base (ρ k) off cs.toArray T _ v (hR.ev hx) hT (by simpa using hv), hR.put hd (.v v), hX, .inl ⟨k, cs, hk, rfl⟩, fun _ h => h⟩
      · exact hX.elim
    · exact hX.elim
  · rename_i p hx
    obtain ⟨b, off, cs, T, fz, v, rfl, hH, hv, hX⟩ := hX
    exact ⟨v, b, _, base b off cs T fz v (hR.ev hx) (hR.H b _ hH) hv, hR.put hd (.v v), hX, .inr (by rw [hH]; simp), fun _ h => h⟩
  · exact hX.elim

/-! ### New blocks -/

theorem below_alloc' (w : World) (o : Obj) : Below w.heap.size w (w.alloc o) := (Below.refl _ _).alloc (Nat.le_refl _) o

theorem Rel.fresh {k : Nat} {cs : List Value} (h : Rel w0 H0 M0 n ρ s a w) (hk : lk s.lh k = some cs) : ρ k < w.heap.size := by
  obtain ⟨⟨T, hT⟩, _⟩ := h.lh k cs hk
  exact heap_lt hT

theorem Rel.newLocal (h : Rel w0 H0 M0 n ρ s a w) (hd : d < n) (cs : List Value) (T : TypeId) (hk : lk s.lh d = none) :
    Rel w0 H0 M0 n (fun k => if k = d then w.heap.size else ρ k) ⟨(d, .ptr d 0) :: s.fr, (d, cs) :: s.lh, s.H, s.M⟩ (a.put (some d) (.pointer (some ⟨w.heap.size, 0, none⟩))) (w.alloc (.cells cs.toArray T)) := by
  have hp : ∀ i k off, lk s.fr i = some (.ptr k off) → k ≠ d := fun i k off hi e => by
    obtain ⟨cs, hcs⟩ := h.wf i k off hi
    rw [e, hk] at hcs; cases hcs
  have hb := below_alloc' w (.cells cs.toArray T)
  have hR := h.below hb
  have hcon : ∀ i sv, lk s.fr i = some sv → conc (fun k => if k = d then w.heap.size else ρ k) sv = conc ρ sv := by
    intro i sv hi
    cases sv with
    | v x => rfl
    | ptr k off => simp [conc, hp i k off hi]
  refine ⟨by simp [Act.put, h.size], h.defers, ?_, ?_, ?_, hR.H, hR.M, h.dj, hR.step, h.hM, h.hH, h.leH, ?_⟩
  · intro i sv hi
    simp only [lk] at hi
    by_cases hdi : d = i
    · subst hdi
      rw [if_pos rfl] at hi
      injection hi with hi
      subst hi
      simp [Act.put, h.size, hd, conc]
    · rw [if_neg hdi] at hi
      simp only [Act.put]
      rw [Array.getElem?_setIfInBounds_ne hdi, hcon i sv hi]
      exact h.fr i sv hi
  · intro k cs' hk'
    simp only [lk] at hk'
    by_cases hdk : d = k
    · subst hdk
      rw [if_pos rfl] at hk'
      injection hk' with hk'
      subst hk'
      simp only [if_pos]
      refine ⟨⟨T, heap_alloc_new w _⟩, PH.no_block h.H (Nat.le_refl _), PH.no_block h.M (Nat.le_refl _), h.step.size⟩
    · rw [if_neg hdk] at hk'
      simp only [if_neg (Ne.symm hdk)]
      exact hR.lh k cs' hk'
  · intro k k' c c' hk1 hk2 he
    simp only [lk] at hk1 hk2
    by_cases h1 : d = k
    · by_cases h2 : d = k'
      · exact h1.symm.trans h2
      · rw [if_neg h2] at hk2
        have := h.fresh hk2
        simp only [h1.symm, if_pos, if_neg (Ne.symm h2)] at he
        omega
    · rw [if_neg h1] at hk1
      have := h.fresh hk1
      by_cases h2 : d = k'
      · simp only [h2.symm, if_pos, if_neg (Ne.symm h1)] at he
        omega
      · rw [if_neg h2] at hk2
        simp only [if_neg (Ne.symm h1), if_neg (Ne.symm h2)] at he
        exact h.inj k k' c c' hk1 hk2 he
  · intro i k off hi
    simp only [lk] at hi ⊢
    by_cases hdi : d = i
    · rw [if_pos hdi] at hi
      injection hi with hi
      injection hi with hi
      exact ⟨cs, by rw [if_pos hi]⟩
    · rw [if_neg hdi] at hi
      obtain ⟨c, hc⟩ := h.wf i k off hi
      exact ⟨c, by rw [if_neg (Ne.symm (hp i k off hi))]; exact hc⟩

theorem Grow.newLocal (hk : lk s.lh d = none) (b0 : Nat) (fr : List (Nat × SV)) (cs : List Value) : Grow ρ s (fun k => if k = d then b0 else ρ k) ⟨fr, (d, cs) :: s.lh, s.H, s.M⟩ := by
  rintro b (⟨k, c, hc, rfl⟩ | hb)
  · have hne : d ≠ k := fun e => by rw [← e, hk] at hc; cases hc
    exact .inl ⟨k, c, by simp only [lk]; rw [if_neg hne]; exact hc, by simp only [if_neg (Ne.symm hne)]⟩
  · exact .inr hb

theorem act_new {lv : Nat} {t : TypeId} {i : TypeInfo} {z : Value} (hi : P.info? t = some i) (hz : i.zero = some z) (hR : Rel w0 H0 M0 n ρ s a w) (hd : d < n) (hdst : o.dst = some d) (ho : o.op = .alloc t)
    (hX : XL P (.op none (.new d z.cells.toList) r) s K) : Acts P w0 H0 M0 n Q a w ρ s o lv r K := by
  simp only [XL, gateOf] at hX
  split at hX
  · rename_i hk
    refine .value (v := .pointer (some ⟨w.heap.size, 0, none⟩)) (w' := w.alloc (.cells z.cells t)) ?_ (.of_below hR (below_alloc' _ _)) ?_
    · simp [execOp, ho, Instr.alloc, zeroValue, typeInfo, hi, hz, newVar, newRow]
    · have := hR.newLocal hd z.cells.toList t hk
      rw [hdst]
      exact ⟨_, _, by simpa using this, hX, .newLocal hk _ _ _⟩
  · exact hX.elim

theorem act_box {lv : Nat} {t : TypeId} {x : Operand} (hR : Rel w0 H0 M0 n ρ s a w) (hd : d < n) (hdst : o.dst = some d) (ho : o.op = .box t x)
    (hX : XL P (.op none (.box d x) r) s K) : Acts P w0 H0 M0 n Q a w ρ s o lv r K := by
  simp only [XL, gateOf] at hX
  split at hX
  · rename_i v hk hx
    refine .value (v := .pointer (some ⟨w.heap.size, 0, none⟩)) (w' := w.alloc (.cells v.cells t)) ?_ (.of_below hR (below_alloc' _ _)) ?_
    · simp [execOp, ho, hR.ev hx, conc, Instr.box, newVar, newRow]
    · have := hR.newLocal hd (cellsL v) t hk
      rw [hdst]
      rw [cellsL_eq] at this hX
      exact ⟨_, _, by simpa using this, hX, .newLocal hk _ _ _⟩
  · exact hX.elim

/-- a block of the caller's own -/
theorem Rel.newM {w' : World} (h : Rel w0 H0 M0 n ρ s a w) (hb : Below w.heap.size w w') {g : Nat} {ob : Obj} (hg : w'.heap[g]? = some ob) (hn : w.heap.size ≤ g) :
    Rel w0 H0 M0 n ρ ⟨s.fr, s.lh, s.H, s.M.set g ob⟩ a w' := by
  have hR := h.below hb
  refine ⟨h.size, h.defers, h.fr, ?_, h.inj, hR.H, ?_, ?_, hR.step, ?_, h.hH, h.leH, h.wf⟩
  · intro k cs hk
    obtain ⟨h1, h2, h3, h4⟩ := hR.lh k cs hk
    have := h.fresh hk
    exact ⟨h1, h2, by simp only [PH.set]; rw [if_neg (by omega)]; exact h3, h4⟩
  · intro b ob' hb'
    simp only [PH.set] at hb'
    split at hb'
    · rename_i e; subst e; injection hb' with hb'; subst hb'; exact hg
    · exact hR.M b ob' hb'
  · intro b ob' hb'
    have hlt := heap_lt (h.H b ob' hb')
    simp only [PH.set]
    rw [if_neg (by omega)]
    exact h.dj b ob' hb'
  · intro b hb'
    simp only [PH.set] at hb'
    split at hb'
    · rename_i e; subst e; exact .inr (Nat.le_trans h.step.size hn)
    · exact h.hM b hb'

theorem madeCells_eq (zs : List Value) : ∀ (j : Nat), (List.range (j * zs.length)).map (fun i => zs.toArray[i % zs.length]!) = (List.replicate j zs).flatten
  | 0 => by simp
  | j + 1 => by
    rw [List.replicate_succ, List.flatten_cons, ← madeCells_eq zs j, Nat.add_one_mul, Nat.add_comm (j * zs.length), List.range_add, List.map_append, List.map_map]
    congr 1
    · apply List.ext_getElem
      · simp
      · intro i h1 h2
        simp at h1 h2
        simp [Nat.mod_eq_of_lt h2, h2]
    · apply List.map_congr_left
      intro i _
      simp

theorem act_mk {lv : Nat} {t e : TypeId} {i : TypeInfo} {z : Value} {x y : Operand} (hxy : x = y) (hu : P.underlying t = some (.slice e)) (hi : P.info? e = some i) (hz : i.zero = some z) (hzs : z.cells.size = i.size)
    (hR : Rel w0 H0 M0 n ρ s a w) (hd : d < n) (hdst : o.dst = some d) (ho : o.op = .makeSlice t x y)
    (hX : XL P (.op none (.mk d e z.cells.toList i.bytes x) r) s K) : Acts P w0 H0 M0 n Q a w ρ s o lv r K := by
  subst hxy
  simp only [XL, gateOf] at hX
  split at hX
  · rename_i j hx
    obtain ⟨h0, h1, h2, hX⟩ := hX
    have hrun := run_make (P := P) w t e i z hu hi hz .i64 .i64 j j h0 (Int.le_refl _) (by rw [Int.mul_comm]; omega) h2
    have hc : madeCells z.cells (j.toNat * i.size) = (List.replicate j.toNat z.cells.toList).flatten.toArray := by
      apply Array.ext'
      have := madeCells_eq z.cells.toList j.toNat
      simp only [Array.length_toList, hzs] at this
      simp only [madeCells, Array.toList_map, Array.toList_range, hzs]
      rw [← this]
    rw [hc] at hrun
    refine .value (v := .slice (some ⟨w.heap.size, 0, none⟩) j.toNat j.toNat) (w' := w.alloc (.cells (List.replicate j.toNat z.cells.toList).flatten.toArray e)) ?_ (.of_below hR (below_alloc' _ _)) ?_
    · simp only [execOp, ho, hR.ev hx, conc, Sem.run_bind, hrun, Result.andThen_ok, Sem.run_pure]
    · rw [hdst]
      have h3 := hR.newM (below_alloc' w (.cells (List.replicate j.toNat z.cells.toList).flatten.toArray e)) (heap_alloc_new w _) (Nat.le_refl _)
      exact ⟨_, _, h3.put hd (.v (.slice (some ⟨w.heap.size, 0, none⟩) j.toNat j.toNat)), hX w.heap.size (PH.no_block hR.H (Nat.le_refl _)) (PH.no_block hR.M (Nat.le_refl _)), fun _ h => h⟩
  · exact hX.elim

theorem map_range0 (f : Nat → Value) : (Array.range 0).map f = #[] := by
  apply Array.ext'
  simp

theorem act_bsl {lv : Nat} {t e : TypeId} {len : Nat} {i : TypeInfo} {z : Value} {parts : Array (Nat × Operand)} {ps : List (Nat × Nat × Operand)} (hu : P.underlying t = some (.slice e)) (hi : P.info? e = some i) (hz : i.zero = some z)
    (hzs : z.cells.size = i.size) (hmax : len * i.size ≤ 16777216) (hps : partsOf (fun k => some (k * i.size, i.size)) parts.toList = some ps)
    (hR : Rel w0 H0 M0 n ρ s a w) (hd : d < n) (hdst : o.dst = some d) (ho : o.op = .buildSlice t len parts)
    (hX : XL P (.op none (.bsl d e len (List.replicate len z.cells.toList).flatten ps) r) s K) : Acts P w0 H0 M0 n Q a w ρ s o lv r K := by
  simp only [XL, gateOf] at hX
  split at hX
  · rename_i cs' hf
    have h1 := fill_of (a := a) (ρ := ρ) (fun x sv h => hR.ev h) _ parts.toList ps _ cs' hps hf
    have hc : ((Array.range (len * i.size)).map (z.cells[· % z.cells.size]!)) = (List.replicate len z.cells.toList).flatten.toArray := by
      apply Array.ext'
      have := madeCells_eq z.cells.toList len
      simp only [Array.length_toList, hzs] at this
      simp only [Array.toList_map, Array.toList_range, hzs]
      rw [← this]
    have hm : ¬ (16777216 < len * i.size) := by omega
    refine .value (v := .slice (some ⟨w.heap.size, 0, none⟩) len len) (w' := w.alloc (.cells cs'.toArray e)) ?_ (.of_below hR (below_alloc' _ _)) ?_
    · have h1' : Instr.fill (fun k => some (k * i.size, i.size)) (List.replicate len z.cells.toList).flatten.toArray (parts.toList.map fun p => (p.1, a.eval p.2)) = some cs'.toArray := h1
      have h2 : (parts.map fun (x : Nat × Operand) => match x with | (i, x) => (i, a.eval x)).toList = parts.toList.map fun p => (p.1, a.eval p.2) := by simp
      by_cases hn : len * i.size = 0
      · have hc0 : (List.replicate len z.cells.toList).flatten.toArray = #[] := by
          rw [← hc, hn, map_range0]
        rw [hc0] at h1'
        simp only [execOp, ho, Instr.buildSlice, Sem.run_bind, run_underlying hu, Result.andThen_ok, sizeOf, typeInfo, run_program, hi, Sem.run_pure, Nat.reducePow, gt_iff_lt, hm, if_false]
        simp only [hn, if_true, Sem.run_bind, Sem.run_pure, Result.andThen_ok, map_range0]
        rw [h2, h1']
        simp [newRow]
      · simp only [execOp, ho, Instr.buildSlice, Sem.run_bind, run_underlying hu, Result.andThen_ok, sizeOf, typeInfo, run_program, hi, Sem.run_pure, Nat.reducePow, gt_iff_lt, hm, hn, if_false, zeroValue, hz, hc]
        rw [h2, h1']
        simp [newRow]
    · rw [hdst]
      have h3 := hR.newM (below_alloc' w (.cells cs'.toArray e)) (heap_alloc_new w _) (Nat.le_refl _)
      exact ⟨_, _, h3.put hd (.v (.slice (some ⟨w.heap.size, 0, none⟩) len len)), hX w.heap.size (PH.no_block hR.H (Nat.le_refl _)) (PH.no_block hR.M (Nat.le_refl _)), fun _ h => h⟩
  · exact hX.elim

/-! ### Stores -/

theorem lk_upd {α : Type} (l : List (Nat × α)) (k j : Nat) (y : α) : lk (upd l k y) j = if k = j then (match lk l j with | some _ => some y | none => none) else lk l j := by
  induction l with
  | nil => simp [upd, lk]
  | cons p l ih =>
    obtain ⟨i, x⟩ := p
    simp only [upd]
    by_cases hik : i = k
    · subst hik
      rw [if_pos rfl]
      simp only [lk]
      by_cases hij : i = j
      · simp [hij]
      · simp [hij]
    · rw [if_neg hik]
      simp only [lk]
      by_cases hij : i = j
      · subst hij
        simp [Ne.symm hik]
      · simp [hij, ih]

theorem size_setRow' (w : World) (g : Nat) (cs : Array Value) : (w.setRow g cs).heap.size = w.heap.size := by simp [World.setRow]

theorem run_st {t : TypeId} {i : TypeInfo} (hi : P.info? t = some i) {w : World} {g off : Nat} {cs : Array Value} {T : TypeId} {v : Value} {cs' : List Value} (hg : w.heap[g]? = some (.cells cs T (0, 0)))
    (hl : (cellsL v).length = i.size) (h1 : ∀ u ∈ cellsL v, u.oneCell' = true) (hs : stv off (cellsL v) cs.toList = some cs') :
    (storeVar t ⟨g, off, none⟩ v).run P w = .ok () (w.setRow g cs'.toArray) := by
  rw [cellsL_eq] at hl h1 hs
  obtain ⟨h2, h3⟩ := stv_spec _ _ _ _ hs
  have hsz : v.cells.size = i.size := by simpa using hl
  have := run_storeCells_at (P := P) g off T v.cells.toList 0 cs w hg (by simpa using h2) h1
  simp only [Nat.add_zero] at this
  rw [← h3] at this
  simp [storeVar, sizeOf, typeInfo, hi, hsz, this]

theorem Rel.setLocal (h : Rel w0 H0 M0 n ρ s a w) {k : Nat} {cs cs' : List Value} (hk : lk s.lh k = some cs) :
    Rel w0 H0 M0 n ρ ⟨s.fr, upd s.lh k cs', s.H, s.M⟩ a (w.setRow (ρ k) cs'.toArray) := by
  obtain ⟨⟨T, hT⟩, hH, hM, hge⟩ := h.lh k cs hk
  have hother : ∀ b, b ≠ ρ k → (w.setRow (ρ k) cs'.toArray).heap[b]? = w.heap[b]? := fun b hb => setRow_other w _ b _ hb
  have hPH : ∀ H : PH, H (ρ k) = none → H.on w → H.on (w.setRow (ρ k) cs'.toArray) := fun H h1 h2 b ob hb => by
    have : b ≠ ρ k := fun e => by rw [e, h1] at hb; cases hb
    rw [hother b this]; exact h2 b ob hb
  refine ⟨h.size, h.defers, h.fr, ?_, ?_, hPH _ hH h.H, hPH _ hM h.M, h.dj, ⟨h.step.os, h.step.tape, h.step.output, by rw [size_setRow']; exact h.step.size, fun b hb hb0 => ?_⟩, h.hM, h.hH, h.leH, ?_⟩
  · intro j c hj
    simp only at hj
    rw [lk_upd] at hj
    by_cases hkj : k = j
    · subst hkj
      rw [if_pos rfl, hk] at hj
      injection hj with hj
      subst hj
      exact ⟨⟨T, setRow_heap w _ _ _ T _ hT⟩, hH, hM, hge⟩
    · rw [if_neg hkj] at hj
      obtain ⟨⟨T', hT'⟩, h2, h3, h4⟩ := h.lh j c hj
      exact ⟨⟨T', by rw [hother _ (fun e => hkj (h.inj k j _ _ hk hj e.symm))]; exact hT'⟩, h2, h3, h4⟩
  · intro j j' c c' hj hj' he
    simp only at hj hj'
    rw [lk_upd] at hj hj'
    have g1 : ∃ c, lk s.lh j = some c := by
      by_cases e : k = j
      · subst e; exact ⟨_, hk⟩
      · rw [if_neg e] at hj; exact ⟨_, hj⟩
    have g2 : ∃ c, lk s.lh j' = some c := by
      by_cases e : k = j'
      · subst e; exact ⟨_, hk⟩
      · rw [if_neg e] at hj'; exact ⟨_, hj'⟩
    obtain ⟨c1, g1⟩ := g1
    obtain ⟨c2, g2⟩ := g2
    exact h.inj j j' c1 c2 g1 g2 he
  · rw [hother b (by omega)]
    exact h.step.block b hb hb0
  · intro i j off hi
    obtain ⟨c, hc⟩ := h.wf i j off hi
    simp only
    rw [lk_upd]
    by_cases e : k = j
    · subst e; rw [if_pos rfl, hk]; exact ⟨_, rfl⟩
    · rw [if_neg e]; exact ⟨c, hc⟩

theorem Rel.setM (h : Rel w0 H0 M0 n ρ s a w) {g : Nat} {cs : Array Value} {T : TypeId} {cs' : List Value} (hg : s.M g = some (.cells cs T (0, 0))) :
    Rel w0 H0 M0 n ρ ⟨s.fr, s.lh, s.H, s.M.set g (.cells cs'.toArray T (0, 0))⟩ a (w.setRow g cs'.toArray) := by
  have hT := h.M g _ hg
  have hother : ∀ b, b ≠ g → (w.setRow g cs'.toArray).heap[b]? = w.heap[b]? := fun b hb => setRow_other w _ b _ hb
  refine ⟨h.size, h.defers, h.fr, ?_, h.inj, ?_, ?_, ?_, ⟨h.step.os, h.step.tape, h.step.output, by rw [size_setRow']; exact h.step.size, fun b hb hb0 => ?_⟩, ?_, h.hH, h.leH, h.wf⟩
  · intro k c hk
    obtain ⟨⟨T', hT'⟩, h2, h3, h4⟩ := h.lh k c hk
    have hne : ρ k ≠ g := fun e => by rw [e, hg] at h3; cases h3
    exact ⟨⟨T', by rw [hother _ hne]; exact hT'⟩, h2, by simp only [PH.set]; rw [if_neg hne]; exact h3, h4⟩
  · intro b ob hb
    have hne : b ≠ g := fun e => by have := h.dj b ob hb; rw [e, hg] at this; cases this
    rw [hother b hne]; exact h.H b ob hb
  · intro b ob hb
    simp only [PH.set] at hb
    split at hb
    · rename_i e; subst e; injection hb with hb; subst hb; exact setRow_heap w _ _ _ T _ hT
    · rename_i hne; rw [hother b hne]; exact h.M b ob hb
  · intro b ob hb
    have hne : b ≠ g := fun e => by have := h.dj b ob hb; rw [e, hg] at this; cases this
    simp only [PH.set]; rw [if_neg hne]; exact h.dj b ob hb
  · have hne : b ≠ g := fun e => by
      rcases h.hM g (by rw [hg]; simp) with h1 | h1
      · rw [← e] at h1; exact h1 hb0
      · omega
    rw [hother b hne]; exact h.step.block b hb hb0
  · intro b hb
    simp only [PH.set] at hb
    split at hb
    · rename_i e; subst e; exact h.hM b (by rw [hg]; simp)
    · exact h.hM b hb

theorem Grow.upd (k : Nat) (cs' : List Value) : Grow ρ s ρ ⟨s.fr, upd s.lh k cs', s.H, s.M⟩ := by
  rintro b (⟨j, c, hc, rfl⟩ | hb)
  · refine .inl ⟨j, if k = j then cs' else c, ?_, rfl⟩
    simp only [lk_upd]
    split
    · rename_i e; rw [hc]
    · exact hc
  · exact .inr hb

theorem act_st {t : TypeId} {i : TypeInfo} {x y : Operand} (hi : P.info? t = some i) (hR : Rel w0 H0 M0 n ρ s a w) (hdst : o.dst = none) (ho : o.op = .store t x y)
    (hX : XL P (.op none (.st i.size x y) r) s K) : Acts P w0 H0 M0 n Q a w ρ s o 2 r K := by
  simp only [XL, gateOf] at hX
  split at hX
  · rename_i k off v hx hy
    split at hX
    · rename_i cs hk
      obtain ⟨hl, h1, hX⟩ := hX
      split at hX
      · rename_i cs' hs
        obtain ⟨⟨T, hT⟩, _⟩ := hR.lh k cs hk
        have hrun := run_st (P := P) hi hT hl (fun u hu => List.all_eq_true.1 h1 u hu) (by simpa using hs)
        refine .skip (w' := w.setRow (ρ k) cs'.toArray) ?_ trivial ?_
        · simp only [execOp, ho, hR.ev hx, hR.ev hy, conc, Instr.storeAt, Instr.sureAddr, Sem.run_bind, Sem.run_pure, Result.andThen_ok, hrun]
        · rw [hdst]
          exact ⟨ρ, _, hR.setLocal hk, hX, .upd _ _⟩
      · exact hX.elim
    · exact hX.elim
  · rename_i p v hx hy
    obtain ⟨b, off, cs, T, cs', rfl, hM, hl, h1, hs, hX⟩ := hX
    have hrun := run_st (P := P) hi (hR.M b _ hM) hl h1 hs
    refine .skip (w' := w.setRow b cs'.toArray) ?_ trivial ?_
    · simp only [execOp, ho, hR.ev hx, hR.ev hy, conc, Instr.storeAt, Instr.sureAddr, Sem.run_bind, Sem.run_pure, Result.andThen_ok, hrun]
    · rw [hdst]
      exact ⟨ρ, _, hR.setM hM, hX, fun _ h => h⟩
  · exact hX.elim

/-! ### Calls -/

theorem evs_ev (hR : Rel w0 H0 M0 n ρ s a w) : ∀ (l : List Operand) (vs : List Value), evs s.fr l = some vs → l.map a.eval = vs
  | [], vs, h => by simp [evs] at h; subst h; rfl
  | x :: l, vs, h => by
    simp only [evs] at h
    split at h
    · rename_i v q hv hq
      injection h with h
      subst h
      simp only [List.map_cons, evs_ev hR l q hq, hR.ev hv, conc]
    · cases h

theorem Rel.called {F H' M' : PH} {w' : World} (h : Rel w0 H0 M0 n ρ s a w) (hF : F.le s.M) (hst : Stp w w' F) (hle : s.H.le H') (hH' : H'.on w') (hM' : M'.on w') (hdj : PH.disj H' M')
    (hfH : ∀ b, H' b ≠ none → s.H b ≠ none ∨ F b ≠ none ∨ w.heap.size ≤ b) (hfM : ∀ b, M' b ≠ none → F b ≠ none ∨ w.heap.size ≤ b) :
    Rel w0 H0 M0 n ρ ⟨s.fr, s.lh, H', s.M.re F M'⟩ a w' ∧ PH.disj H' (s.M.re F M') := by
  have hFM : ∀ b, F b ≠ none → s.M b ≠ none := fun b hb => by
    cases hf : F b with
    | none => exact absurd hf hb
    | some o => rw [hF b o hf]; simp
  have hloc : ∀ k cs, lk s.lh k = some cs → F (ρ k) = none ∧ H' (ρ k) = none ∧ M' (ρ k) = none := fun k cs hk => by
    obtain ⟨⟨T, hT⟩, h2, h3, h4⟩ := h.lh k cs hk
    have hlt := heap_lt hT
    have hFk : F (ρ k) = none := by
      cases hf : F (ρ k) with
      | none => rfl
      | some o => exact absurd (hF _ _ hf) (by rw [h3]; simp)
    refine ⟨hFk, ?_, ?_⟩
    · cases hh : H' (ρ k) with
      | none => rfl
      | some o =>
        rcases hfH (ρ k) (by rw [hh]; simp) with h5 | h5 | h5
        · exact absurd h2 h5
        · exact absurd hFk h5
        · omega
    · cases hh : M' (ρ k) with
      | none => rfl
      | some o =>
        rcases hfM (ρ k) (by rw [hh]; simp) with h5 | h5
        · exact absurd hFk h5
        · omega
  have hd : PH.disj H' (s.M.re F M') := by
    intro b ob hb
    simp only [PH.re]
    rw [hdj b ob hb]
    simp only
    split
    · rfl
    · rename_i hFn
      have hFn' : F b = none := by simpa using hFn
      rcases hfH b (by rw [hb]; simp) with h5 | h5 | h5
      · cases hh : s.H b with
        | none => exact absurd hh h5
        | some o => exact h.dj b o hh
      · exact absurd hFn' h5
      · exact PH.no_block h.M h5
  refine ⟨⟨h.size, h.defers, h.fr, ?_, h.inj, hH', ?_, hd, ?_, ?_, ?_, h.leH.trans hle, h.wf⟩, hd⟩
  · intro k cs hk
    obtain ⟨⟨T, hT⟩, h2, h3, h4⟩ := h.lh k cs hk
    obtain ⟨l1, l2, l3⟩ := hloc k cs hk
    refine ⟨⟨T, (hst.block _ (heap_lt hT) l1).trans hT⟩, l2, ?_, h4⟩
    simp only [PH.re, l3, l1]
    exact h3
  · intro b ob hb
    simp only [PH.re] at hb
    split at hb
    · rename_i o' ho'
      injection hb with hb
      subst hb
      exact hM' b _ ho'
    · split at hb
      · cases hb
      · rename_i hFn
        have hFn' : F b = none := by simpa using hFn
        have := h.M b ob hb
        exact (hst.block b (heap_lt this) hFn').trans this
  · refine ⟨hst.os.trans h.step.os, hst.tape.trans h.step.tape, hst.output.trans h.step.output, Nat.le_trans h.step.size hst.size, fun b hb hb0 => ?_⟩
    have hFn : F b = none := by
      cases hf : F b with
      | none => rfl
      | some o =>
        rcases h.hM b (by rw [hF b o hf]; simp) with h5 | h5
        · exact absurd hb0 h5
        · omega
    exact (hst.block b (Nat.lt_of_lt_of_le hb h.step.size) hFn).trans (h.step.block b hb hb0)
  · intro b hb
    simp only [PH.re] at hb
    split at hb
    · rename_i o' ho'
      rcases hfM b (by rw [ho']; simp) with h5 | h5
      · exact h.hM b (hFM b h5)
      · exact .inr (Nat.le_trans h.step.size h5)
    · split at hb
      · exact absurd rfl hb
      · exact h.hM b hb
  · intro b hb
    rcases hfH b hb with h5 | h5 | h5
    · exact h.hH b h5
    · rcases h.hM b (hFM b h5) with h6 | h6
      · exact .inr (.inl h6)
      · exact .inr (.inr h6)
    · exact .inr (.inr (Nat.le_trans h.step.size h5))

theorem run_call {c : Call} {f : Nat} {vs : List Value} (hc : c.callee = .value (.func f)) (hb : hasBody P f = true) (hvs : c.args.toList.map a.eval = vs) (ho : o.op = .call c) (w : World) :
    (execOp a.eval o).run P w = .ok (.enter f vs.toArray) w := by
  unfold hasBody at hb
  split at hb
  · rename_i fn hfn
    simp only [Bool.and_eq_true, Bool.not_eq_true', beq_eq_false_iff_ne] at hb
    have h2 : fn.body.isNone = false := by cases hq : fn.body <;> simp_all
    have hargs : c.args.map a.eval = vs.toArray := by
      apply Array.ext'; simpa using hvs
    have h3 : ¬ fn.body = none := by cases hq : fn.body <;> simp_all
    have h4 : a.eval (.func f) = .func (.func f) #[] #[] := rfl
    simp [execOp, ho, resolve, hc, h4, Deferred.ofValue, invoke, callFunc, hfn, hb.1, h3, hargs]
  · cases hb

theorem Grow.le {H' M' : PH} (fr : List (Nat × SV)) (h : s.H.le H') : Grow ρ s ρ ⟨fr, s.lh, H', M'⟩ := by
  rintro b (hb | hb)
  · exact .inl hb
  · refine .inr ?_
    cases ho : s.H b with
    | none => exact absurd ho hb
    | some o => simp only [h b o ho]; simp

theorem act_call_any {lv : Nat} {c : Call} {f : Nat} {vs : List Value} {F : PH} {R : Value → PH → PH → Prop} (hc : c.callee = .value (.func f)) (hb : hasBody P f = true) (hvs : evs s.fr c.args.toList = some vs)
    (hR : Rel w0 H0 M0 n ρ s a w) (hd : d < n) (hdst : o.dst = some d) (ho : o.op = .call c) (hF : F.le s.M) (hfn : Fn P f vs s.H F R) (hst : lv = 2 ∨ F = PH.no)
    (hX : ∀ v H' M', s.H.le H' → R v H' M' → PH.disj H' (s.M.re F M') → XL P r ⟨(d, .v v) :: s.fr, s.lh, H', s.M.re F M'⟩ K) : Acts P w0 H0 M0 n Q a w ρ s o lv r K := by
  have hrun := run_call (P := P) (o := o) hc hb (evs_ev hR _ _ hvs) ho w
  unfold Acts Oper.wp
  rw [hrun]
  simp only [Oper.upon]
  have hdF : PH.disj s.H F := fun b ob hb' => by
    cases hf : F b with
    | none => rfl
    | some o' => have := hR.dj b ob hb'; rw [hF b o' hf] at this; cases this
  refine (hfn w hR.H (fun b ob hb' => hR.M b ob (hF b ob hb')) hdF).mono ?_
  rintro e w' ⟨v, H', M', rfl, h1, h2, h3, h4, h5, h6, h7, h8⟩
  obtain ⟨hR', hd'⟩ := hR.called hF h1 h2 h3 h4 h5 h6 h7
  refine ⟨?_, ρ, _, ?_, hX v H' M' h2 h8 hd', .le _ h2⟩
  · rcases hst with rfl | rfl
    · trivial
    · exact .of_below hR ⟨h1.os, h1.tape, h1.output, h1.size, fun b hb' => h1.block b hb' rfl⟩
  · rw [hdst]
    exact hR'.put hd (.v v)

theorem act_call {c : Call} {f : Nat} (hc : c.callee = .value (.func f)) (hb : hasBody P f = true) (hR : Rel w0 H0 M0 n ρ s a w) (hd : d < n) (hdst : o.dst = some d) (ho : o.op = .call c)
    (hX : XL P (.op none (.call d false f c.args.toList) r) s K) : Acts P w0 H0 M0 n Q a w ρ s o 2 r K := by
  simp only [XL, gateOf] at hX
  split at hX
  · rename_i vs hvs
    obtain ⟨F, R, hF, hfn, hX⟩ := hX
    exact act_call_any hc hb hvs hR hd hdst ho hF hfn (.inl rfl) hX
  · exact hX.elim

theorem act_callP {lv : Nat} {c : Call} {f : Nat} (hc : c.callee = .value (.func f)) (hb : hasBody P f = true) (hR : Rel w0 H0 M0 n ρ s a w) (hd : d < n) (hdst : o.dst = some d) (ho : o.op = .call c)
    (hX : XL P (.op none (.call d true f c.args.toList) r) s K) : Acts P w0 H0 M0 n Q a w ρ s o lv r K := by
  simp only [XL, gateOf] at hX
  split at hX
  · rename_i vs hvs
    obtain ⟨R, hfn, hX⟩ := hX
    exact act_call_any hc hb hvs hR hd hdst ho (fun b ob h => by cases h) hfn (.inr rfl) hX
  · exact hX.elim

/-! ### append, bytes as a string -/

theorem act_app {lo : Bool} {c : Call} {t e : TypeId} {i : TypeInfo} {z : Value} {x y : Operand} (hc : c.callee = .builtin .append) (ha : c.args = #[x, y]) (hat : c.argTypes = #[t, t]) (hu : P.underlying t = some (.slice e)) (hi : P.info? e = some i)
    (hz : i.zero = some z) (hzs : z.cells.size = i.size) (hpos : 0 < i.size) (hR : Rel w0 H0 M0 n ρ s a w) (hd : d < n) (hdst : o.dst = some d) (ho : o.op = .call c)
    (hX : XL P (.op none (.app d e i.size i.bytes x y) r) s K) : Acts P w0 H0 M0 n Q a w ρ s o (if lo then 1 else 2) r K := by
  simp only [XL, gateOf] at hX
  split at hX
  · rename_i A p cap B m q hx hy
    rcases hX with ⟨rfl, hpc, hX⟩ | hX
    · have hx' := hR.ev hx
      have hy' := hR.ev hy
      simp only [conc] at hx' hy'
      refine .value (v := .slice A p cap) (w' := w) ?_ (.of_below hR (Below.refl _ _)) ⟨ρ, _, ?_, hX, fun _ h => h⟩
      · have hcap : p + 0 ≤ cap := by omega
        have hf : (Builtin.firstCells i.size 0 (.slice B 0 q)).run P w = .ok #[] w := by
          cases B <;> simp [Builtin.firstCells, loadCells, loadCellsFrom]
        have hrun : (Builtin.append_ #[t, t] o.type #[.slice A p cap, .slice B 0 q]).run P w = .ok (.slice A p cap) w := by
          simp [Builtin.append_, run_underlying hu, sizeOf, typeInfo, hi, Builtin.lenOf, hpc, hf]
          cases A <;> simp [storeCells]
        simp [execOp, ho, resolve, hc, ha, hat, hx', hy', invoke, builtin, hrun]
      · rw [hdst]
        exact hR.put hd (.v _)
    obtain ⟨xs, ys, hxl, hyl, hm, h63, hby, hx1, hy1, hxo, ⟨yb, yoff, ycs, U, fz, rfl, hyHM, hyt⟩, hX⟩ := hX
    have hx' := hR.ev hx
    have hy' := hR.ev hy
    simp only [conc] at hx' hy'
    have hown : w.ownsRow 0 e i.size (.slice A p cap) p xs := by
      refine ⟨hxl, ?_⟩
      rcases hxo with ⟨rfl, rfl, rfl⟩ | ⟨g, rest, rfl, hg, hl, h1, h2⟩
      · exact .inl ⟨rfl, rfl⟩
      · exact .inr ⟨g, cap, _, rfl, Nat.zero_le _, hR.M g _ hg, h1, by unfold maxLen; omega, by simpa using hl, by simp [hxl]⟩
    have hyc : ∀ j u, ys[j]? = some u → w.cell? ((⟨yb, yoff, none⟩ : Addr).add j) = some u := by
      intro j u hj
      have hg : w.heap[yb]? = some (.cells ycs U fz) := hyHM.elim (hR.H yb _) (hR.M yb _)
      rw [addr_add, cell_row hg]
      obtain ⟨h1, h2⟩ := takeN_spec _ _ _ hyt
      rw [h1, List.getElem?_take] at hj
      split at hj
      · simpa using hj
      · cases hj
    obtain ⟨v', w', hrun, hown', hgr, _, hblk⟩ := run_append_own_at (P := P) w 0 t o.type e i z i.size i.bytes hu hi hz rfl rfl hzs hpos (.slice A p cap) p xs hown ⟨yb, yoff, none⟩ m q ys hyl hyc hy1
      (by unfold maxLen; omega) hby (Nat.zero_le _)
    have hkA : ∀ k cs, lk s.lh k = some cs → A ≠ some ⟨ρ k, 0, none⟩ := by
      intro k cs hk he
      rcases hxo with ⟨rfl, _, _⟩ | ⟨g, rest, rfl, hg, _⟩
      · cases he
      · injection he with he; injection he with he
        have := (hR.lh k cs hk).2.2.1
        rw [← he, hg] at this; cases this
    have hHA : ∀ b ob, s.H b = some ob → A ≠ some ⟨b, 0, none⟩ := by
      intro b ob hb he
      rcases hxo with ⟨rfl, _, _⟩ | ⟨g, rest, rfl, hg, _⟩
      · cases he
      · injection he with he; injection he with he
        have := hR.dj b ob hb
        rw [← he, hg] at this; cases this
    have hold : ∀ b, b < w.heap.size → A ≠ some ⟨b, 0, none⟩ → w'.heap[b]? = w.heap[b]? := by
      intro b hb hA
      refine hgr.block b hb ?_
      rcases hxo with ⟨rfl, rfl, rfl⟩ | ⟨g, rest, rfl, hg, hl, h1, h2⟩
      · simp [Value.ownBlock]
      · simp only [Value.ownBlock]
        intro he
        injection he with he
        exact hA (by rw [he])
    refine .value (v := v') (w' := w') ?_ ?post ?_
    case post =>
      cases lo with
      | false => trivial
      | true =>
        refine ⟨hgr.size, fun b hs => hold b (hR.safe_lt hs) ?_⟩
        rcases hs with ⟨k, cs, hk, rfl⟩ | hs
        · exact hkA k cs hk
        · cases ho' : s.H b with
          | none => exact absurd ho' hs
          | some ob => exact hHA b ob ho'
    · simp [execOp, ho, resolve, hc, ha, hat, hx', hy', invoke, builtin, hrun]
    · obtain ⟨hlen, hform⟩ := hown'
      rcases hform with ⟨_, h0⟩ | ⟨g', c', cur, rfl, _, hg', hnc, hcm, hcs, hct⟩
      · omega
      · have hcur : cur = (xs ++ ys ++ cur.toList.drop ((p + m) * i.size)).toArray := by
          apply Array.ext'
          simp only
          rw [← hct, List.take_append_drop]
        rw [hdst]
        have hmx : c' ≤ 9223372036854775807 := by unfold maxLen at hcm; omega
        have hlen' : (xs ++ ys ++ cur.toList.drop ((p + m) * i.size)).length = c' * i.size := by
          have := congrArg Array.size hcur
          simp only [List.size_toArray] at this
          omega
        have hres : ((s.H g' = none ∧ s.M g' = none) ∨ A = some ⟨g', 0, none⟩) ∧ (∀ k cs, lk s.lh k = some cs → ρ k ≠ g') ∧ (s.H g' = none) ∧ (M0 g' ≠ none ∨ w0.heap.size ≤ g') ∧ (s.M g' ≠ none ∨ w.heap.size ≤ g') := by
          rcases hblk with hblk | hblk
          · rcases hxo with ⟨rfl, rfl, rfl⟩ | ⟨g, rest, rfl, hg, hl, h1, h2⟩
            · simp [Value.ownBlock] at hblk
            · simp only [Value.ownBlock] at hblk
              injection hblk with hblk
              subst hblk
              refine ⟨.inr rfl, fun k cs hk he => ?_, ?_, hR.hM g' (by rw [hg]; simp), .inl (by rw [hg]; simp)⟩
              · have := (hR.lh k cs hk).2.2.1
                rw [he, hg] at this; cases this
              · cases hh : s.H g' with
                | none => rfl
                | some o' => have := hR.dj g' o' hh; rw [hg] at this; cases this
          · simp only [Value.ownBlock] at hblk
            injection hblk with hblk
            subst hblk
            exact ⟨.inl ⟨PH.no_block hR.H (Nat.le_refl _), PH.no_block hR.M (Nat.le_refl _)⟩, fun k cs hk he => by have := hR.fresh hk; omega, PH.no_block hR.H (Nat.le_refl _), .inr hR.step.size, .inr (Nat.le_refl _)⟩
        obtain ⟨hr1, hr2, hr3, hr4, hr5⟩ := hres
        have hmv : ∀ b ob, s.M.mvd A g' (.cells (xs ++ ys ++ cur.toList.drop ((p + m) * i.size)).toArray e (0, 0)) b = some ob → b ≠ g' → s.M b = some ob ∧ A ≠ some ⟨b, 0, none⟩ := by
          intro b ob hb hne
          simp only [PH.mvd, if_neg hne] at hb
          split at hb
          · cases hb
          · rename_i hA; exact ⟨hb, hA⟩
        have hRel : Rel w0 H0 M0 n ρ ⟨s.fr, s.lh, s.H, s.M.mvd A g' (.cells (xs ++ ys ++ cur.toList.drop ((p + m) * i.size)).toArray e (0, 0))⟩ a w' := by
          refine ⟨hR.size, hR.defers, hR.fr, ?_, hR.inj, ?_, ?_, ?_, ⟨hgr.os.trans hR.step.os, hgr.tape.trans hR.step.tape, hgr.output.trans hR.step.output, Nat.le_trans hR.step.size hgr.size, ?_⟩, ?_, hR.hH, hR.leH, hR.wf⟩
          · intro k cs hk
            obtain ⟨⟨T, hT⟩, h2, h3, h4⟩ := hR.lh k cs hk
            refine ⟨⟨T, (hold _ (heap_lt hT) (hkA k cs hk)).trans hT⟩, h2, ?_, h4⟩
            simp only [PH.mvd]
            rw [if_neg (hr2 k cs hk), if_neg (hkA k cs hk)]
            exact h3
          · intro b ob hb
            have := hR.H b ob hb
            exact (hold b (heap_lt this) (hHA b ob hb)).trans this
          · intro b ob hb
            by_cases hbg : b = g'
            · subst hbg
              simp only [PH.mvd, if_pos] at hb
              injection hb with hb
              subst hb
              rw [← hcur]; exact hg'
            · obtain ⟨h1, h2⟩ := hmv b ob hb hbg
              have := hR.M b ob h1
              exact (hold b (heap_lt this) h2).trans this
          · intro b ob hb
            have hbg : b ≠ g' := fun e => by rw [e, hr3] at hb; cases hb
            simp only [PH.mvd, if_neg hbg]
            split
            · rfl
            · exact hR.dj b ob hb
          · intro b hb hb0
            refine (hold b (Nat.lt_of_lt_of_le hb hR.step.size) ?_).trans (hR.step.block b hb hb0)
            intro he
            rcases hxo with ⟨rfl, _, _⟩ | ⟨g, rest, rfl, hg, _⟩
            · cases he
            · injection he with he; injection he with he
              rcases hR.hM g (by rw [hg]; simp) with h5 | h5
              · rw [he] at h5; exact h5 hb0
              · omega
          · intro b hb
            by_cases hbg : b = g'
            · subst hbg; exact hr4
            · cases hq : s.M.mvd A g' (.cells (xs ++ ys ++ cur.toList.drop ((p + m) * i.size)).toArray e (0, 0)) b with
              | none => exact absurd hq hb
              | some ob => exact hR.hM b (by rw [(hmv b ob hq hbg).1]; simp)
        have hgrow : Grow ρ s ρ ⟨(d, .v (.slice (some ⟨g', 0, none⟩) (p + m) c')) :: s.fr, s.lh, s.H, s.M.mvd A g' (.cells (xs ++ ys ++ cur.toList.drop ((p + m) * i.size)).toArray e (0, 0))⟩ := fun _ h => h
        exact ⟨ρ, _, hRel.put hd (.v (.slice (some ⟨g', 0, none⟩) (p + m) c')), hX g' c' _ hr1 hnc hmx hlen', hgrow⟩
  · exact hX.elim

theorem act_b2s {lv : Nat} {S T e : TypeId} {x : Operand} (hS : P.underlying S = some (.slice e)) (he : P.underlying e = some (.int .u8)) (hT : P.underlying T = some .string) (hR : Rel w0 H0 M0 n ρ s a w) (hd : d < n) (hdst : o.dst = some d) (ho : o.op = .convert S T x)
    (hX : XL P (.op none (.b2s d x) r) s K) : Acts P w0 H0 M0 n Q a w ρ s o lv r K := by
  simp only [XL, gateOf] at hX
  split at hX
  · rename_i A m c hx
    obtain ⟨l, hl, hA, hX⟩ := hX
    refine .value (v := .string ⟨if A.isNone then #[] else l.toArray⟩) (w' := w) ?_ (.of_below hR (Below.refl _ _)) ?_
    · have h1 := run_convert_bytes_string (P := P) w S T e A m c hS he hT
      simp only [execOp, ho, hR.ev hx, conc, Sem.run_bind, h1]
      rcases hA with rfl | ⟨b, off, cs, U, fz, rfl, hHM, ht⟩
      · simp [Conv.bytesToString]; rfl
      · have hg : w.heap[b]? = some (.cells cs U fz) := hHM.elim (hR.H b _) (hR.M b _)
        have hload := run_loadCells_list (P := P) w ⟨b, off, none⟩ (l.map fun x => Value.int .u8 x.toNat) (fun j u hu => by
          rw [addr_add, cell_row hg]
          rw [(takeN_spec _ _ _ ht).1, List.getElem?_take] at hu
          split at hu
          · simpa using hu
          · cases hu)
        rw [List.length_map, hl] at hload
        have h2 := run_bytesToString (P := P) w ⟨b, off, none⟩ m c (l.map fun x => (x.toNat : Int)) (by rw [hload, List.map_map]; rfl)
        rw [h2]
        have h3 : ∀ (l : List UInt8) (r : ByteArray), (l.map fun x => (x.toNat : Int)).foldl (fun r n => r.push (UInt8.ofNat n.toNat)) r = ⟨r.data ++ l.toArray⟩ := by
          intro l
          induction l with
          | nil => intro r; simp
          | cons x l ih =>
            intro r
            simp only [List.map_cons, List.foldl_cons, ih]
            simp [ByteArray.push]
        rw [h3]
        simp
    · rw [hdst]
      exact ⟨ρ, _, hR.put hd (.v _), hX, fun _ h => h⟩
  · exact hX.elim

end
end Go.Proofs.YtlhhdlhnpgiamaaDoor.X
