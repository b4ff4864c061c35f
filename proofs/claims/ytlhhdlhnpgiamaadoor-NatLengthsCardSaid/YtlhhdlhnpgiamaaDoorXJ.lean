/- Lending, releasing, and rows of one's own. -/
import Derived.Test.YtlhhdlhnpgiamaaDoorXI
set_option linter.unusedVariables false
set_option linter.unusedSimpArgs false
namespace Go.Proofs.YtlhhdlhnpgiamaaDoor.X
open Go Go.RowKit

def PH.join (H M : PH) : PH := fun b => match H b with | some o => some o | none => M b
theorem PH.le_join (H M : PH) : H.le (H.join M) := fun b o h => by simp [PH.join, h]
theorem PH.le_joinR {H M : PH} (hd : PH.disj H M) : M.le (H.join M) := fun b o h => by
  simp only [PH.join]
  cases hb : H b with
  | none => exact h
  | some o' => have := hd b o' hb; rw [this] at h; cases h
theorem PH.join_no (H : PH) : H.join PH.no = H := by
  funext b; simp only [PH.join]; cases h : H b <;> rfl
theorem PH.join_some {H M : PH} {b : Nat} {o : Obj} (h : H.join M b = some o) : H b = some o ∨ (H b = none ∧ M b = some o) := by
  simp only [PH.join] at h
  cases hb : H b with
  | none => rw [hb] at h; exact .inr ⟨rfl, h⟩
  | some o' => rw [hb] at h; injection h with h; subst h; exact .inl rfl
theorem PH.disj_no (H : PH) : PH.disj H PH.no := fun _ _ _ => rfl
theorem PH.disj.le {H H' M : PH} (h : PH.disj H' M) (hl : H.le H') : PH.disj H M := fun b o hb => h b o (hl b o hb)
theorem PH.disj.set {H M : PH} (h : PH.disj H M) {g : Nat} {o : Obj} (hg : H g = none) : PH.disj H (M.set g o) := fun b o' hb => by
  simp only [PH.set]
  split
  · rename_i e; subst e; rw [hg] at hb; cases hb
  · exact h b o' hb
theorem PH.disj.at {H M : PH} (h : PH.disj H M) {g : Nat} {o : Obj} (hg : M g = some o) : H g = none := by
  cases hb : H g with
  | none => rfl
  | some o' => have := h g o' hb; rw [hg] at this; cases this

theorem Fn.weaken {P : Program} {f : Nat} {vs : List Value} {H M : PH} {R0 R : Value → PH → PH → Prop} (h : Fn P f vs H M R0)
    (hw : ∀ v H' M', H.le H' → PH.disj H' M' → R0 v H' M' → ∃ H'' M'', H'.le H'' ∧ (∀ b o, H'' b = some o → H' b = some o ∨ M' b = some o) ∧ M''.le M' ∧ PH.disj H'' M'' ∧ R v H'' M'') : Fn P f vs H M R := by
  intro w hH hM hd
  refine (h w hH hM hd).mono ?_
  rintro e w' ⟨v, H', M', he, hs, hl, hH', hM', hd', c1, c2, hR⟩
  obtain ⟨H'', M'', k1, k2, k3, k4, k5⟩ := hw v H' M' hl hd' hR
  refine ⟨v, H'', M'', he, hs, hl.trans k1, fun b o hb => ?_, fun b o hb => hM' b o (k3 b o hb), k4, fun b hb => ?_, fun b hb => ?_, k5⟩
  · rcases k2 b o hb with h | h
    · exact hH' b o h
    · exact hM' b o h
  · cases ho : H'' b with
    | none => exact absurd ho hb
    | some o =>
      rcases k2 b o ho with h | h
      · exact c1 b (by rw [h]; simp)
      · rcases c2 b (by rw [h]; simp) with h | h
        · exact .inr (.inl h)
        · exact .inr (.inr h)
  · cases ho : M'' b with
    | none => exact absurd ho hb
    | some o => exact c2 b (by rw [k3 b o ho]; simp)

theorem Fn.mono {P : Program} {f : Nat} {vs : List Value} {H M : PH} {R0 R : Value → PH → PH → Prop} (h : Fn P f vs H M R0) (hw : ∀ v H' M', H.le H' → PH.disj H' M' → R0 v H' M' → R v H' M') : Fn P f vs H M R :=
  h.weaken fun v H' M' hl hd hR => ⟨H', M', PH.le.refl _, fun b o hb => .inl hb, PH.le.refl _, hd, hw v H' M' hl hd hR⟩

theorem FnP.mono {P : Program} {f : Nat} {vs : List Value} {H : PH} {R0 R : Value → PH → Prop} (h : FnP P f vs H R0) (hw : ∀ v H', H.le H' → R0 v H' → R v H') : FnP P f vs H R :=
  Fn.mono h fun v H' M' hl _ hR => ⟨hR.1, hw v H' hl hR.2⟩

/-- all of one's own, left to stand -/
theorem Fn.release {P : Program} {f : Nat} {vs : List Value} {H M : PH} {R : Value → PH → Prop} (h : Fn P f vs H M fun v H' M' => PH.disj H' M' → R v (H'.join M')) : Fn P f vs H M fun v H' M' => M' = PH.no ∧ R v H' :=
  h.weaken fun v H' M' hl hd hR => ⟨H'.join M', PH.no, PH.le_join _ _, fun b o hb => (PH.join_some hb).imp_right (·.2), fun b o hb => (by cases hb), PH.disj_no _, rfl, hR hd⟩

/-- a reader may read what is one's own -/
theorem FnP.borrow {P : Program} {f : Nat} {vs : List Value} {H F : PH} {R : Value → PH → Prop} (h : FnP P f vs (H.join F) R) : Fn P f vs H F fun v H' M' => M' = F ∧ R v (H'.join F) := by
  intro w hH hF hd
  have hon : (H.join F).on w := fun b o hb => by
    rcases PH.join_some hb with h | h
    · exact hH b o h
    · exact hF b o h.2
  refine (h w hon (fun b o hb => by cases hb) (PH.disj_no _)).mono ?_
  rintro e w' ⟨v, H', M', he, hs, hl, hH', hM', hd', c1, c2, rfl, hR⟩
  have hFH : ∀ b o, F b = some o → H' b = some o := fun b o hb => hl b o (PH.le_joinR hd b o hb)
  refine ⟨v, fun b => if (F b).isSome then none else H' b, F, he, ⟨hs.os, hs.tape, hs.output, hs.size, fun b hb _ => hs.block b hb rfl⟩, fun b o hb => ?_, fun b o hb => ?_, fun b o hb => hH' b o (hFH b o hb), fun b o hb => ?_, fun b hb => ?_, fun b hb => .inl hb, rfl, ?_⟩
  · have := hd b o hb
    simp only [this]
    exact hl b o (PH.le_join _ _ b o hb)
  · simp only at hb
    split at hb
    · cases hb
    · exact hH' b o hb
  · simp only at hb
    split at hb
    · cases hb
    · rename_i hn
      cases hq : F b with
      | none => rfl
      | some o' => rw [hq] at hn; simp at hn
  · simp only at hb
    split at hb
    · exact absurd rfl hb
    · rename_i hn
      have hq : F b = none := by
        cases hq : F b with
        | none => rfl
        | some o' => rw [hq] at hn; simp at hn
      rcases c1 b hb with h | h | h
      · left
        intro h0
        apply h
        simp only [PH.join, h0, hq]
      · exact absurd rfl h
      · exact .inr (.inr h)
  · have : (PH.join (fun b => if (F b).isSome then none else H' b) F) = H' := by
      funext b
      simp only [PH.join]
      cases hq : F b with
      | none => simp; cases H' b <;> rfl
      | some o => simp; exact (hFH b o hq).symm
    rw [this]
    exact hR

/-- a reader may take what is one's own for good -/
theorem FnP.absorb {P : Program} {f : Nat} {vs : List Value} {H F : PH} {R : Value → PH → Prop} (h : FnP P f vs (H.join F) R) : Fn P f vs H F fun v H' M' => M' = PH.no ∧ R v H' :=
  Fn.release (h.borrow.mono fun v H' M' hl hd hR _ => by rw [hR.1]; exact hR.2)

theorem re_self (M : PH) : M.re M M = M := by
  funext x
  simp only [PH.re]
  cases M x <;> rfl
theorem re_all (M : PH) : M.re M PH.no = PH.no := by
  funext x
  simp only [PH.re, PH.no]
  cases h : M x <;> simp

section
variable {P : Program} {X : XT} {s : St} {K : St → Prop} {d : Nat}

/-- a call that reads what is one's own too -/
theorem ev_callB {fr : List (Nat × SV)} {lh : List (Nat × List Value)} {H M : PH} {f : Nat} {vs : List Value} {R : Value → PH → Prop} (h : FnP P f vs (H.join M) R) (k1 : ∀ v H', H.le H' → R v (H'.join M) → PH.disj H' M → X ⟨(d, .v v) :: fr, lh, H', M⟩ K) : EvCall P f vs d X ⟨fr, lh, H, M⟩ K := by
  refine ⟨M, _, PH.le.refl _, h.borrow, ?_⟩
  rintro v H' M' hle ⟨rfl, hR⟩ hd
  rw [re_self] at hd ⊢
  exact k1 v H' hle hR hd

/-- a call that takes all of one's own for good -/
theorem ev_callA {fr : List (Nat × SV)} {lh : List (Nat × List Value)} {H M : PH} {f : Nat} {vs : List Value} {R : Value → PH → Prop} (h : FnP P f vs (H.join M) R) (k1 : ∀ v H', (H.join M).le H' → R v H' → X ⟨(d, .v v) :: fr, lh, H', PH.no⟩ K) : EvCall P f vs d X ⟨fr, lh, H, M⟩ K := by
  refine ⟨M, _, PH.le.refl _, (h.mono (R := fun v H' => (H.join M).le H' ∧ R v H') fun v H' hl hR => ⟨hl, hR⟩).absorb, ?_⟩
  rintro v H' M' hle ⟨rfl, hl, hR⟩ hd
  rw [re_all] at hd ⊢
  exact k1 v H' hl hR

/-- a call that is handed all of one's own -/
theorem ev_callM {fr : List (Nat × SV)} {lh : List (Nat × List Value)} {H M : PH} {f : Nat} {vs : List Value} {R : Value → PH → PH → Prop} (h : Fn P f vs H M R) (k1 : ∀ v H' M', H.le H' → R v H' M' → PH.disj H' M' → X ⟨(d, .v v) :: fr, lh, H', M'⟩ K) : EvCall P f vs d X ⟨fr, lh, H, M⟩ K := by
  refine ⟨M, _, PH.le.refl _, h, ?_⟩
  intro v H' M' hle hR hd
  have : M.re M M' = M' := by
    funext x
    simp only [PH.re]
    cases h1 : M' x with
    | some o => rfl
    | none => cases h2 : M x <;> simp
  rw [this] at hd ⊢
  exact k1 v H' M' hle hR hd

/-! ### rows of one's own -/

/-- A slice of one's own: nil, or at the head of a block of M, its numbers first. -/
def Own (k : IntKind) (T : TypeId) (M : PH) (A : Option Addr) (l : List Nat) (c : Nat) : Prop :=
  (A = none ∧ l = [] ∧ c = 0) ∨ ∃ g rest, A = some ⟨g, 0, none⟩ ∧ M g = some (.cells (nums k l ++ rest).toArray T (0, 0)) ∧ l.length + rest.length = c ∧ c ≤ 9223372036854775807

/-- M' has all of M but what lies at A -/
def But (M M' : PH) (A : Option Addr) : Prop := ∀ b o, M b = some o → A ≠ some ⟨b, 0, none⟩ → M' b = some o

theorem Own.le_cap {k : IntKind} {T : TypeId} {M : PH} {A : Option Addr} {l : List Nat} {c : Nat} (h : Own k T M A l c) : l.length ≤ c := by
  rcases h with ⟨_, rfl, rfl⟩ | ⟨g, rest, _, _, h, _⟩
  · exact Nat.le_refl _
  · omega
theorem Own.le {k : IntKind} {T : TypeId} {M M' : PH} {A : Option Addr} {l : List Nat} {c : Nat} (h : Own k T M A l c) (hl : M.le M') : Own k T M' A l c := by
  rcases h with h | ⟨g, rest, h1, h2, h3⟩
  · exact .inl h
  · exact .inr ⟨g, rest, h1, hl g _ h2, h3⟩
theorem Own.but {k : IntKind} {T : TypeId} {M M' : PH} {A B : Option Addr} {l : List Nat} {c : Nat} (h : Own k T M B l c) (hb : But M M' A) (hne : B = none ∨ B ≠ A) : Own k T M' B l c := by
  rcases h with h | ⟨g, rest, h1, h2, h3⟩
  · exact .inl h
  · refine .inr ⟨g, rest, h1, hb g _ h2 ?_, h3⟩
    rcases hne with h | h
    · rw [h] at h1; cases h1
    · rw [← h1]; exact fun e => h e.symm
theorem Own.sl {k : IntKind} {T : TypeId} {M H : PH} {A : Option Addr} {l : List Nat} {c : Nat} (h : Own k T M A l c) (hd : PH.disj H M) : Sl k (H.join M) A l := by
  rcases h with ⟨_, rfl, _⟩ | ⟨g, rest, h1, h2, h3, _⟩
  · exact .inl rfl
  · refine .inr ⟨g, 0, _, T, _, h1, PH.le_joinR hd g _ h2, ?_, ?_⟩
    · simp [nums]
    · simp [nums]
theorem Own.take {k : IntKind} {T : TypeId} {M : PH} {A : Option Addr} {l : List Nat} {c : Nat} (h : Own k T M A l c) (n : Nat) : Own k T M A (l.take n) c := by
  rcases h with ⟨h1, rfl, h3⟩ | ⟨g, rest, h1, h2, h3, h4⟩
  · exact .inl ⟨h1, by simp, h3⟩
  · refine .inr ⟨g, nums k (l.drop n) ++ rest, h1, ?_, ?_, h4⟩
    · rw [← List.append_assoc, show nums k (l.take n) ++ nums k (l.drop n) = nums k l by simp [nums, ← List.map_append]]
      exact h2
    · simp [nums]; omega
theorem Own.base {k : IntKind} {T : TypeId} {M : PH} {A : Option Addr} {l : List Nat} {c : Nat} (h : Own k T M A l c) (hl : 0 < c) : ∃ g, A = some ⟨g, 0, none⟩ := by
  rcases h with ⟨_, _, rfl⟩ | ⟨g, rest, h1, _⟩
  · cases hl
  · exact ⟨g, h1⟩
theorem Own.nil (k : IntKind) (T : TypeId) (M : PH) : Own k T M none [] 0 := .inl ⟨rfl, rfl, rfl⟩

theorem ldv_app {k : IntKind} {l : List Nat} {rest : List Value} {i : Nat} (h : i < l.length) : ldv false 1 i (nums k l ++ rest) = some (.int k (l.getD i 0 : Nat)) := by
  have hl : i < (nums k l).length := by simpa [nums] using h
  simp only [ldv]
  rw [takeN_of 1 _ (by simp [nums]; omega)]
  have : (List.drop i (nums k l ++ rest)).take 1 = [.int k (l.getD i 0 : Nat)] := by
    rw [List.take_one]
    have : (List.drop i (nums k l ++ rest)).head? = some (.int k (l.getD i 0 : Nat)) := by
      rw [List.head?_drop, List.getElem?_append_left hl]; exact nums_get h
    rw [this]; rfl
  rw [this]

theorem stv_app {k : IntKind} {l : List Nat} {rest : List Value} {i x : Nat} (h : i < l.length) : stv i [Value.int k (x : Int)] (nums k l ++ rest) = some (nums k (l.set i x) ++ rest) := by
  have hl : i < (nums k l).length := by simpa [nums] using h
  have e := stv_nums (k := k) (x := x) h
  rw [stv_of _ _ _ (by simp; omega)] at e
  rw [stv_of _ _ _ (by simp; omega)]
  injection e with e
  rw [← e]
  congr 1
  simp only [List.length_singleton]
  rw [List.take_append_of_le_length (by omega), List.drop_append_of_le_length (by omega)]
  simp

/-- an element of a slice of one's own -/
theorem ev_ldO {fr : List (Nat × SV)} {lh : List (Nat × List Value)} {H M : PH} {k : IntKind} {T : TypeId} {l : List Nat} {c b i : Nat} (hO : Own k T M (some ⟨b, 0, none⟩) l c) (hi : i < l.length) (k1 : X ⟨(d, .v (.int k (l.getD i 0 : Nat))) :: fr, lh, H, M⟩ K) :
    EvLd false 1 (.pointer (some ⟨b, i * 1, none⟩)) d X ⟨fr, lh, H, M⟩ K := by
  rcases hO with ⟨h, _⟩ | ⟨g, rest, h1, h2, h3, h4⟩
  · cases h
  · injection h1 with h1; injection h1 with e1 e2; subst e1
    exact ⟨b, i * 1, _, T, (0, 0), _, rfl, .inr h2, by rw [Nat.mul_one]; exact ldv_app hi, k1⟩

/-- an element of a slice in H at the head of its block -/
theorem ev_ldS0 {fr : List (Nat × SV)} {lh : List (Nat × List Value)} {H M : PH} {k : IntKind} {l : List Nat} {b i : Nat} (hS : Sl k H (some ⟨b, 0, none⟩) l) (hi : i < l.length) (k1 : X ⟨(d, .v (.int k (l.getD i 0 : Nat))) :: fr, lh, H, M⟩ K) :
    EvLd false 1 (.pointer (some ⟨b, i * 1, none⟩)) d X ⟨fr, lh, H, M⟩ K := by
  have := ev_ldS (s := ⟨fr, lh, H, M⟩) (X := X) (K := K) (d := d) hS rfl hi k1
  rwa [Nat.zero_add] at this

theorem ev_stO {fr : List (Nat × SV)} {lh : List (Nat × List Value)} {H M : PH} {k : IntKind} {T : TypeId} {l : List Nat} {c b i x : Nat} (hO : Own k T M (some ⟨b, 0, none⟩) l c) (hi : i < l.length)
    (k1 : ∀ M', Own k T M' (some ⟨b, 0, none⟩) (l.set i x) c → But M M' (some ⟨b, 0, none⟩) → (∀ H : PH, PH.disj H M → PH.disj H M') → X ⟨fr, lh, H, M'⟩ K) :
    EvSt 1 (.pointer (some ⟨b, i * 1, none⟩)) (.int k (x : Int)) X ⟨fr, lh, H, M⟩ K := by
  rcases hO with ⟨h, _⟩ | ⟨g, rest, h1, h2, h3, h4⟩
  · cases h
  · injection h1 with h1; injection h1 with e1 e2; subst e1
    refine ⟨b, i * 1, _, T, _, rfl, h2, rfl, by simp [cellsL, Value.oneCell'], by rw [Nat.mul_one]; exact stv_app hi, ?_⟩
    refine k1 _ (.inr ⟨b, rest, rfl, PH.set_self _ _ _, by simpa using h3, h4⟩) ?_ ?_
    · intro b' o hb hne
      show PH.set M b _ b' = some o
      rw [PH.set_ne _ _ (fun e => hne (by rw [e]))]
      exact hb
    · intro H hd
      exact hd.set (hd.at h2)

theorem ev_mkO {fr : List (Nat × SV)} {lh : List (Nat × List Value)} {H M : PH} {k : IntKind} {T : TypeId} {by_ : Nat} {j : Int} (h0 : 0 ≤ j) (h1 : j * by_ ≤ 140737488355328) (h2 : j ≤ 9223372036854775807) (hd : PH.disj H M)
    (k1 : ∀ g M', Own k T M' (some ⟨g, 0, none⟩) (List.replicate j.toNat 0) j.toNat → M.le M' → M g = none → PH.disj H M' → X ⟨(d, .v (.slice (some ⟨g, 0, none⟩) j.toNat j.toNat)) :: fr, lh, H, M'⟩ K) :
    EvMk T [.int k 0] by_ j d X ⟨fr, lh, H, M⟩ K := by
  refine ev_mkN h0 h1 h2 fun g hH hM => k1 g _ (.inr ⟨g, [], rfl, ?_, by simp, by omega⟩) ?_ hM (hd.set hH)
  · rw [PH.set_self]; simp [rowN]
  · intro b o hb
    rw [PH.set_ne _ _ (fun e => by rw [e, show M g = none from hM] at hb; cases hb)]
    exact hb

/-- []T{x, ..} -/
theorem ev_bslO {fr : List (Nat × SV)} {lh : List (Nat × List Value)} {H M : PH} {k : IntKind} {T : TypeId} {l : List Nat} {cs : List Value} {n : Nat} (hcs : cs = nums k l) (hn : n = l.length) (hb : l.length ≤ 9223372036854775807) (hd : PH.disj H M)
    (k1 : ∀ g M', Own k T M' (some ⟨g, 0, none⟩) l l.length → M.le M' → M g = none → PH.disj H M' → X ⟨(d, .v (.slice (some ⟨g, 0, none⟩) l.length l.length)) :: fr, lh, H, M'⟩ K) :
    EvBsl T n cs d X ⟨fr, lh, H, M⟩ K := by
  subst hcs; subst hn
  intro g hH hM
  refine k1 g _ (.inr ⟨g, [], rfl, ?_, by simp, hb⟩) ?_ hM (hd.set hH)
  · rw [PH.set_self]; simp
  · intro b o hb
    rw [PH.set_ne _ _ (fun e => by rw [e, show M g = none from hM] at hb; cases hb)]
    exact hb

theorem nums_ok {k : IntKind} {l : List Nat} : ∀ u ∈ nums k l, u.oneCell' = true := by
  intro u hu
  simp only [nums, List.mem_map] at hu
  obtain ⟨x, _, rfl⟩ := hu
  rfl

/-- append to a slice of one's own -/
theorem ev_appO {fr : List (Nat × SV)} {lh : List (Nat × List Value)} {H M : PH} {k : IntKind} {T : TypeId} {by_ : Nat} {A B : Option Addr} {l m : List Nat} {n c q : Nat} (hO : Own k T M A l c) (hB : Sl k (H.join M) B m) (hn : n = l.length) (hq : q = m.length) (hm : m ≠ [])
    (h1 : l.length + m.length ≤ 9223372036854775807) (h2 : (l.length + m.length) * by_ ≤ 140737488355328) (hd : PH.disj H M)
    (k1 : ∀ A' c' M', Own k T M' A' (l ++ m) c' → But M M' A → (A' = A ∨ ∀ b o, M b = some o → A' ≠ some ⟨b, 0, none⟩) → PH.disj H M' → X ⟨(d, .v (.slice A' (l.length + m.length) c')) :: fr, lh, H, M'⟩ K) :
    EvApp T 1 by_ A n c B q d X ⟨fr, lh, H, M⟩ K := by
  subst hn; subst hq
  have hml : 1 ≤ m.length := List.length_pos_iff.2 hm
  refine .inr ⟨nums k l, nums k m, by simp [nums], by simp [nums], hml, h1, h2, nums_ok, nums_ok, ?_, ?_, ?_⟩
  · rcases hO with ⟨h, h', h''⟩ | ⟨g, rest, e1, e2, e3, e4⟩
    · exact .inl ⟨h, by rw [h']; rfl, h''⟩
    · exact .inr ⟨g, rest, e1, e2, by simp [nums]; omega, by omega, e4⟩
  · rcases hB with h | ⟨b, off, cs, U, fz, e1, e2, e3, e4⟩
    · exact absurd h hm
    · refine ⟨b, off, cs, U, fz, e1, (PH.join_some e2).imp_right (·.2), ?_⟩
      rw [takeN_of _ _ (by simp; omega), Nat.mul_one, e4]
  · intro g' c' rest' hg hc1 hc2 hlen
    replace hg : (H g' = none ∧ M g' = none) ∨ A = some ⟨g', 0, none⟩ := hg
    have hkey : nums k l ++ nums k m ++ rest' = nums k (l ++ m) ++ rest' := by simp [nums]
    refine k1 _ c' _ (.inr ⟨g', rest', rfl, ?_, ?_, hc2⟩) ?_ ?_ ?_
    · simp only [PH.mvd, if_true]; rw [hkey]
    · simp only [List.length_append, nums, List.length_map] at hlen ⊢; omega
    · intro b o hb hne
      simp only [PH.mvd]
      split
      · rename_i e
        subst e
        rcases hg with ⟨_, h⟩ | h
        · rw [h] at hb; cases hb
        · exact absurd h hne
      · first | (rw [if_neg hne]; exact hb) | exact hb
    · rcases hg with ⟨_, h⟩ | h
      · right
        intro b o hb e
        injection e with e; injection e with e _; subst e
        rw [h] at hb; cases hb
      · left; exact h.symm
    · intro b o hb
      simp only [PH.mvd]
      split
      · rename_i e
        subst e
        rcases hg with ⟨h, _⟩ | h
        · rw [h] at hb; cases hb
        · rcases hO with ⟨h', _⟩ | ⟨g, rest, e1, e2, _⟩
          · rw [h'] at h; cases h
          · rw [h] at e1; injection e1 with e1; injection e1 with e1 _; subst e1
            rw [hd _ _ hb] at e2; cases e2
      · split
        · rfl
        · exact hd b o hb
end

end Go.Proofs.YtlhhdlhnpgiamaaDoor.X
