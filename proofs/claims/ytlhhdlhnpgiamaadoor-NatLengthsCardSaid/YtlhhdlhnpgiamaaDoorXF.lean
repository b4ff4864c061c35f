/- The machine does what is asked: from X to a contract. -/
import Derived.Test.YtlhhdlhnpgiamaaDoorXE
import Derived.Deep.LoopGhost
set_option linter.unusedVariables false
set_option linter.unusedSimpArgs false
namespace Go.Proofs.YtlhhdlhnpgiamaaDoor.X
open Go Go.RowKit

section
variable {P : Program} {w0 : World} {H0 M0 : PH} {n : Nat} {ρ : Nat → Nat} {s : St} {a : Act} {w : World} {o : Oper} {d : Nat} {r : PT} {K : St → Prop} {Q : Exit → Act → World → Prop} {ops : Array Oper}

theorem toPId_pure {dr ap : Bool} {pi : PI} (h : toPId P dr ap d o.op = some pi) (hp : pi.pure = true) (hR : Rel w0 H0 M0 n ρ s a w) (hd : d < n) (hX : XL P (.op none pi r) s K) : Good P w0 H0 M0 n ρ s a w o d r K := by
  cases ho : o.op <;> rw [ho] at h <;> simp only [toPId] at h
  case move x => injection h with h; subst h; exact good_mv hR hd (.inl ho) hX
  case assign x => injection h with h; subst h; exact good_mv hR hd (.inr ho) hX
  case pick c x y => injection h with h; subst h; exact good_pick hR hd ho hX
  case binOp op t x y ty =>
    split at h
    · rename_i hu
      split at h
      · injection h with h; subst h; exact good_beq (neg := false) hu hR hd ho hX
      · injection h with h; subst h; exact good_beq (neg := true) hu hR hd ho hX
      · cases h
    · rename_i e hu
      split at h
      · split at h
        · injection h with h; subst h; exact good_isnil (neg := false) hu hR hd ho hX
        · injection h with h; subst h; exact good_isnil (neg := true) hu hR hd ho hX
        · cases h
      · cases h
    · injection h with h; subst h; exact good_bin hR hd ho hX
    · injection h with h; subst h; exact good_bin hR hd ho hX
    · cases h
  case unOp op t x =>
    split at h
    · injection h with h; subst h; exact good_not hR hd ho hX
    · injection h with h; subst h; exact good_neg hR hd ho hX
    · cases h
  case convert S T x =>
    split at h
    · rename_i k0 k hS hT
      injection h with h; subst h; exact good_cv hS hT hR hd ho hX
    · split at h
      · injection h with h; subst h; simp [PI.pure] at hp
      · cases h
    · cases h
  case fieldAddr t x f =>
    split at h
    · rename_i fs hu
      split at h
      · rename_i fd hf
        split at h
        · rename_i i hi
          split at h
          · cases h
          · rename_i q hq
            injection h with h; subst h; exact good_fa hu hf hi (by omega) hR hd ho hX
        · cases h
      · cases h
    · cases h
  case field t x f =>
    split at h
    · rename_i fs hu
      split at h
      · rename_i fd hf
        split at h
        · rename_i u i hfu hi
          split at h <;> (injection h with h; subst h)
          · exact good_fd hu hf hfu hi rfl (fun _ => rfl) hR hd ho hX
          · exact good_fd hu hf hfu hi rfl (fun _ => rfl) hR hd ho hX
          · rename_i h1 h2
            refine good_fd (agg := false) hu hf hfu hi ?_ (fun h => by cases h) hR hd ho hX
            cases u <;> first | rfl | (exact absurd rfl (h1 _)) | (exact absurd rfl (h2 _ _))
        · cases h
      · cases h
    · cases h
  case indexAddr t x i =>
    split at h
    · rename_i e hu
      split at h
      · rename_i j hj
        injection h with h; subst h; exact good_ia hu hj hR hd ho hX
      · cases h
    · rename_i m e hu
      split at h
      · rename_i j hj
        injection h with h; subst h; exact good_iaA hu hj hR hd ho hX
      · cases h
    · cases h
  case index t x i =>
    split at h
    · rename_i hu
      injection h with h; subst h; exact good_ix hu hR hd ho hX
    · cases h
  case extract x i => injection h with h; subst h; exact good_ex hR hd ho hX
  case slice t x lo hi mx =>
    split at h
    · cases h
    · split at h
      · rename_i hu
        injection h with h; subst h; exact good_ss hu hR hd ho hX
      · rename_i e hu
        split at h
        · rename_i i hi'
          split at h
          · injection h with h; subst h; exact good_sl hu hi' hR hd ho hX
          · injection h with h; subst h; exact good_slh hu hi' hR hd ho hX
          · injection h with h; subst h; exact good_sll hu hi' hR hd ho hX
          · cases h
        · cases h
      · cases h
  case build t parts =>
    split at h
    · rename_i i fs hi hu
      split at h
      · rename_i z pl hz hpl
        split at h
        · rename_i ps hps
          injection h with h; subst h
          refine good_bld hps (fun vs cells hf => ?_) hR hd ho hX
          have hpl' : fs.toList.mapM (fun f => (P.info? f.type).map fun i => (f.offset, i.size)) = some pl := hpl
          simp only [Program.built, hi, hu, hz, hpl']
          simpa using hf
        · cases h
      · cases h
    · rename_i i m e hi hu
      split at h
      · rename_i z ie hz hie
        split at h
        · rename_i ps hps
          injection h with h; subst h
          refine good_bld hps (fun vs cells hf => ?_) hR hd ho hX
          simp only [Program.built, hi, hu, hz, hie]
          simpa using hf
        · cases h
      · cases h
    · cases h
  case call c =>
    split at h
    · split at h
      · injection h with h; subst h; simp [PI.pure] at hp
      · cases h
    · rename_i hc
      split at h
      · rename_i x t ha ht
        have ha' : c.args = #[x] := by apply Array.ext'; simpa using ha
        have ht' : c.argTypes = #[t] := by apply Array.ext'; simpa using ht
        split at h
        · rename_i hu
          injection h with h; subst h; exact good_lens hc ha' ht' hu hR hd ho hX
        · rename_i e hu
          injection h with h; subst h; exact good_len hc ha' ht' hu hR hd ho hX
        · cases h
      · cases h
    · rename_i hc
      split at h
      · rename_i x y ha
        have ha' : c.args = #[x, y] := by apply Array.ext'; simpa using ha
        injection h with h; subst h; exact good_mm (isMax := true) hc ha' hR hd ho hX
      · cases h
    · rename_i hc
      split at h
      · rename_i x y ha
        have ha' : c.args = #[x, y] := by apply Array.ext'; simpa using ha
        injection h with h; subst h; exact good_mm (isMax := false) hc ha' hR hd ho hX
      · cases h
    · split at h
      · split at h
        · split at h
          · split at h
            · split at h
              · split at h
                · injection h with h; subst h; simp [PI.pure] at hp
                · cases h
              · cases h
            · cases h
          · cases h
        · cases h
      · cases h
    · cases h
  case alloc t =>
    split at h
    · split at h
      · injection h with h; subst h; simp [PI.pure] at hp
      · cases h
    · cases h
  case box t x => injection h with h; subst h; simp [PI.pure] at hp
  case load t x =>
    repeat' split at h
    all_goals first | (cases h; done) | (injection h with h; subst h; simp [PI.pure] at hp)
  case makeSlice t l c =>
    repeat' split at h
    all_goals first | (cases h; done) | (injection h with h; subst h; simp [PI.pure] at hp)
  case buildSlice t len parts =>
    repeat' split at h
    all_goals first | (cases h; done) | (injection h with h; subst h; simp [PI.pure] at hp)
  all_goals (cases h; done)

theorem toPId_ld {dr ap : Bool} {pi : PI} (h : toPId P dr ap d o.op = some pi) (hp : pi.isLd = true) (hR : Rel w0 H0 M0 n ρ s a w) (hd : d < n) (hX : XL P (.op none pi r) s K) :
    ∃ v b s', (∀ w', SameAt w b w' → (execOp a.eval o).run P w' = .ok (.value v) w') ∧ Rel w0 H0 M0 n ρ s' (a.put (some d) v) w ∧ XL P r s' K ∧ (ap = true → Safe ρ s b) ∧ Grow ρ s ρ s' := by
  cases ho : o.op <;> rw [ho] at h <;> simp only [toPId] at h
  case load t x =>
    split at h
    · rename_i u i hu hi
      have fin : ∀ agg, isAggD u = agg → ∀ m, (agg = true → m = i.size) → pi = (match ap with | true => .ldx d agg m x | false => .ld d agg m x) →
          ∃ v b s', (∀ w', SameAt w b w' → (execOp a.eval o).run P w' = .ok (.value v) w') ∧ Rel w0 H0 M0 n ρ s' (a.put (some d) v) w ∧ XL P r s' K ∧ (ap = true → Safe ρ s b) ∧ Grow ρ s ρ s' := by
        intro agg ha m hm hpi
        cases ap with
        | true =>
          simp only at hpi
          subst hpi
          obtain ⟨v, b, s', h1, h2, h3, h4, h5⟩ := good_ldx hu hi ha hm hR hd ho hX
          exact ⟨v, b, s', h1, h2, h3, fun _ => h4, h5⟩
        | false =>
          simp only at hpi
          subst hpi
          obtain ⟨v, b, s', h1, h2, h3, h5⟩ := good_ld hu hi ha hm hR hd ho hX
          exact ⟨v, b, s', h1, h2, h3, (fun h => by cases h), h5⟩
      split at h
      · refine fin true rfl i.size (fun _ => rfl) ?_
        cases ap <;> (simp only at h; injection h with h; exact h.symm)
      · refine fin true rfl i.size (fun _ => rfl) ?_
        cases ap <;> (simp only at h; injection h with h; exact h.symm)
      · rename_i h1 h2
        refine fin false ?_ 1 (fun h => by cases h) ?_
        · cases u <;> first | rfl | (exact absurd rfl (h1 _)) | (exact absurd rfl (h2 _ _))
        · cases ap <;> (simp only at h; injection h with h; exact h.symm)
    · cases h
  all_goals
    exfalso
    first
    | (cases h; done)
    | (injection h with h; subst h; simp [PI.isLd] at hp; done)
    | ((repeat' split at h) <;> first | (cases h; done) | (injection h with h; subst h; simp [PI.isLd] at hp; done))

theorem Acts.of_good {lv : Nat} (hR : Rel w0 H0 M0 n ρ s a w) (hdst : o.dst = some d) (h : ∃ v sv, Runs P o a v ∧ Rel w0 H0 M0 n ρ (s.put d sv) (a.put (some d) v) w ∧ XL P r (s.put d sv) K) : Acts P w0 H0 M0 n Q a w ρ s o lv r K := by
  obtain ⟨v, sv, h1, h2, h3⟩ := h
  refine .value (h1 w) (.of_below hR (Below.refl _ _)) ⟨ρ, _, ?_, h3, fun _ h => h⟩
  rw [hdst]; exact h2

def lvO (dr : Bool) (o : Oper) : Nat := match dr with
  | false => 2
  | true => (match o.op with | .store .. => 2 | .call { callee := .builtin .append, .. } => 1 | _ => 0)

theorem toPId_act {dr ap : Bool} {pi : PI} (h : toPId P dr ap d o.op = some pi) (hdst : o.dst = some d) (hR : Rel w0 H0 M0 n ρ s a w) (hd : d < n) (hX : XL P (.op none pi r) s K) :
    Acts P w0 H0 M0 n Q a w ρ s o (lvO dr o) r K := by
  by_cases hp : pi.pure = true
  · obtain ⟨v, s', h1, h2, h3⟩ := toPId_pure h hp hR hd hX
    exact .of_good hR hdst ⟨v, s', h1, h2, h3⟩
  by_cases hl : pi.isLd = true
  · obtain ⟨v, b, s', h1, h2, h3, _, h5⟩ := toPId_ld h hl hR hd hX
    refine .value (h1 w (SameAt.refl _ _)) (.of_below hR (Below.refl _ _)) ⟨ρ, s', ?_, h3, h5⟩
    rw [hdst]; exact h2
  cases ho : o.op <;> rw [ho] at h <;> simp only [toPId] at h
  case alloc t =>
    split at h
    · rename_i i hi
      split at h
      · rename_i z hz
        injection h with h; subst h; exact act_new hi hz hR hd hdst ho hX
      · cases h
    · cases h
  case box t x => injection h with h; subst h; exact (act_box hR hd hdst ho hX)
  case makeSlice t l c =>
    split at h
    · rename_i x y
      split at h
      · rename_i hxy
        split at h
        · rename_i e hu
          split at h
          · rename_i i hi
            split at h
            · rename_i z hz
              split at h
              · rename_i hzs
                injection h with h; subst h; exact (act_mk (by rw [hxy]) hu hi hz hzs hR hd hdst ho hX)
              · cases h
            · cases h
          · cases h
        · cases h
      · cases h
    · cases h
  case buildSlice t len parts =>
    split at h
    · rename_i e hu
      split at h
      · rename_i i hi
        split at h
        · rename_i z ps hz hps
          split at h
          · rename_i hh
            injection h with h; subst h; exact act_bsl hu hi hz hh.1 hh.2 hps hR hd hdst ho hX
          · cases h
        · cases h
      · cases h
    · cases h
  case convert S T x =>
    split at h
    · injection h with h; subst h; simp [PI.pure] at hp
    · rename_i e hS hT
      split at h
      · rename_i he
        injection h with h; subst h; exact (act_b2s hS he hT hR hd hdst ho hX)
      · cases h
    · cases h
  case call c =>
    split at h
    · rename_i f hc
      split at h
      · rename_i hb
        injection h with h; subst h
        cases dr with
        | false => exact act_call hc hb hR hd hdst ho hX
        | true => exact (act_callP hc hb hR hd hdst ho hX)
      · cases h
    · repeat' split at h
      all_goals first | (cases h; done) | (injection h with h; subst h; simp [PI.pure] at hp; done)
    · repeat' split at h
      all_goals first | (cases h; done) | (injection h with h; subst h; simp [PI.pure] at hp; done)
    · repeat' split at h
      all_goals first | (cases h; done) | (injection h with h; subst h; simp [PI.pure] at hp; done)
    · rename_i hc
      split at h
      · rename_i x y t t' ha ht
        have ha' : c.args = #[x, y] := by apply Array.ext'; simpa using ha
        split at h
        · rename_i e e' hu hu'
          split at h
          · rename_i htt
            have ht' : c.argTypes = #[t, t] := by apply Array.ext'; simpa [htt] using ht
            split at h
            · rename_i i hi
              split at h
              · rename_i z hz
                split at h
                · rename_i hh
                  injection h with h; subst h
                  have hs : lvO dr o = if dr then 1 else 2 := by
                    unfold lvO; rw [ho]; cases c; simp only at hc; subst hc; cases dr <;> rfl
                  rw [hs]
                  exact act_app hc ha' ht' hu hi hz hh.1 hh.2 hR hd hdst ho hX
                · cases h
              · cases h
            · cases h
          · cases h
        · cases h
      · cases h
    · cases h
  all_goals
    exfalso
    first
    | (cases h; done)
    | (injection h with h; subst h; simp [PI.pure, PI.isLd] at hp hl; done)
    | ((repeat' split at h) <;> first | (cases h; done) | (injection h with h; subst h; simp [PI.pure, PI.isLd] at hp hl; done))

theorem toPI_act {dr ap : Bool} {pi : PI} (h : toPI P n dr ap o = some pi) (hR : Rel w0 H0 M0 n ρ s a w) (hX : XL P (.op none pi r) s K) :
    Acts P w0 H0 M0 n Q a w ρ s o (lvO dr o) r K := by
  unfold toPI at h
  split at h
  · rename_i d hdst
    split at h
    · rename_i hd
      exact toPId_act h hdst hR hd hX
    · cases h
  · rename_i hdst
    split at h
    · rename_i t x y ho
      split at h
      · rename_i i hi
        injection h with h; subst h
        have hs : lvO dr o = 2 := by unfold lvO; rw [ho]; cases dr <;> rfl
        rw [hs]
        exact act_st hi hR hdst ho hX
      · cases h
    · cases h

end
end Go.Proofs.YtlhhdlhnpgiamaaDoor.X
