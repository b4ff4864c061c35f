/- Rows of values of several cells: those that stand, and those of one's own. -/
import Derived.Test.YtccdhgjfcgfgoaaGreatZY
import Derived.Test.YtccdhgjfcgfgoaaGreatZK
import Derived.Test.YtccdhgjfcgfgoaaGreatZD
set_option linter.unusedVariables false
set_option linter.unusedSimpArgs false
namespace Go.Proofs.YtccdhgjfcgfgoaaGreat.X
open Go Go.RowKit

/-- what cells say of a value may only grow -/
def Grows {α : Type} (P : PH → List Value → α → Prop) : Prop := ∀ (H H' : PH) (us : List Value) (x : α), P H us x → H.le H' → P H' us x

/-- n values of w cells stand at a slice's place -/
def ArrF {α : Type} (w : Nat) (P : PH → List Value → α → Prop) (H : PH) (A : Option Addr) (n : Nat) (f : Nat → α) : Prop :=
  n = 0 ∨ ∃ b off cs T fz, A = some ⟨b, off, none⟩ ∧ H b = some (.cells cs T fz) ∧ ∀ i, i < n → ∃ us, takeN w (cs.toList.drop (off + i * w)) = some us ∧ (∀ u ∈ us, u.oneCell' = true) ∧ P H us (f i)
/-- n values of w cells, and room for c, at the head of a block of one's own -/
def OwnF {α : Type} (w : Nat) (P : PH → List Value → α → Prop) (T : TypeId) (H M : PH) (A : Option Addr) (n : Nat) (f : Nat → α) (c : Nat) : Prop :=
  (A = none ∧ n = 0 ∧ c = 0) ∨ ∃ g cs, A = some ⟨g, 0, none⟩ ∧ M g = some (.cells cs T (0, 0)) ∧ cs.size = c * w ∧ n ≤ c ∧ c ≤ 9223372036854775807 ∧
    ∀ i, i < n → ∃ us, takeN w (cs.toList.drop (i * w)) = some us ∧ (∀ u ∈ us, u.oneCell' = true) ∧ P H us (f i)

section
variable {α : Type} {w : Nat} {P : PH → List Value → α → Prop} {T : TypeId} {H H' M M' : PH} {A B : Option Addr} {n c : Nat} {f : Nat → α}

theorem ArrF.le (hP : Grows P) (h : ArrF w P H A n f) (hl : H.le H') : ArrF w P H' A n f := by
  rcases h with h | ⟨b, off, cs, T, fz, h1, h2, h3⟩
  · exact .inl h
  · refine .inr ⟨b, off, cs, T, fz, h1, hl _ _ h2, fun i hi => ?_⟩
    obtain ⟨us, k1, k2, k3⟩ := h3 i hi
    exact ⟨us, k1, k2, hP _ _ _ _ k3 hl⟩
theorem ArrF.nil : ArrF w P H A 0 f := .inl rfl
theorem ArrF.congr {g : Nat → α} (h : ArrF w P H A n f) (e : ∀ i, i < n → f i = g i) : ArrF w P H A n g := by
  rcases h with h | ⟨b, off, cs, T, fz, h1, h2, h3⟩
  · exact .inl h
  · refine .inr ⟨b, off, cs, T, fz, h1, h2, fun i hi => ?_⟩
    obtain ⟨us, k1, k2, k3⟩ := h3 i hi
    exact ⟨us, k1, k2, e i hi ▸ k3⟩
theorem ArrF.base (h : ArrF w P H A n f) (h0 : 0 < n) : ∃ b off, A = some ⟨b, off, none⟩ := by
  rcases h with h | ⟨b, off, cs, T, fz, h1, _⟩
  · omega
  · exact ⟨b, off, h1⟩

theorem OwnF.nil : OwnF w P T H M none 0 f 0 := .inl ⟨rfl, rfl, rfl⟩
theorem OwnF.cap (h : OwnF w P T H M A n f c) : n ≤ c := by
  rcases h with ⟨_, h1, h2⟩ | ⟨g, cs, h1, h2, h3, h4, _⟩ <;> omega
theorem OwnF.leH (hP : Grows P) (h : OwnF w P T H M A n f c) (hl : H.le H') : OwnF w P T H' M A n f c := by
  rcases h with h | ⟨g, cs, h1, h2, h3, h4, h5, h6⟩
  · exact .inl h
  · refine .inr ⟨g, cs, h1, h2, h3, h4, h5, fun i hi => ?_⟩
    obtain ⟨us, k1, k2, k3⟩ := h6 i hi
    exact ⟨us, k1, k2, hP _ _ _ _ k3 hl⟩
theorem OwnF.leM (h : OwnF w P T H M A n f c) (hl : M.le M') : OwnF w P T H M' A n f c := by
  rcases h with h | ⟨g, cs, h1, h2, h3⟩
  · exact .inl h
  · exact .inr ⟨g, cs, h1, hl _ _ h2, h3⟩
theorem OwnF.but (h : OwnF w P T H M B n f c) (hb : But M M' A) (hne : B = none ∨ B ≠ A) : OwnF w P T H M' B n f c := by
  rcases h with h | ⟨g, cs, h1, h2, h3⟩
  · exact .inl h
  · refine .inr ⟨g, cs, h1, hb g _ h2 ?_, h3⟩
    rcases hne with h | h
    · rw [h] at h1; cases h1
    · rw [← h1]; exact fun e => h e.symm
theorem OwnF.congr {g : Nat → α} (h : OwnF w P T H M A n f c) (e : ∀ i, i < n → f i = g i) : OwnF w P T H M A n g c := by
  rcases h with h | ⟨b, cs, h1, h2, h3, h4, h5, h6⟩
  · exact .inl h
  · refine .inr ⟨b, cs, h1, h2, h3, h4, h5, fun i hi => ?_⟩
    obtain ⟨us, k1, k2, k3⟩ := h6 i hi
    exact ⟨us, k1, k2, e i hi ▸ k3⟩
theorem OwnF.base (h : OwnF w P T H M A n f c) (h0 : 0 < c) : ∃ g, A = some ⟨g, 0, none⟩ := by
  rcases h with ⟨_, _, h⟩ | ⟨g, cs, h1, _⟩
  · omega
  · exact ⟨g, h1⟩
/-- what is one's own may stand -/
theorem OwnF.arr (hP : Grows P) (h : OwnF w P T H M A n f c) (hd : PH.disj H M) : ArrF w P (H.join M) A n f := by
  rcases h with ⟨_, h, _⟩ | ⟨g, cs, h1, h2, h3, h4, h5, h6⟩
  · exact .inl h
  · refine .inr ⟨g, 0, cs, T, _, h1, PH.le_joinR hd g _ h2, fun i hi => ?_⟩
    obtain ⟨us, k1, k2, k3⟩ := h6 i hi
    exact ⟨us, by rw [Nat.zero_add]; exact k1, k2, hP _ _ _ _ k3 (PH.le_join _ _)⟩

/-- cells as a value -/
theorem ldv_take {cs : List Value} {off : Nat} {us : List Value} (h : takeN w (cs.drop off) = some us) : ldv true w off cs = some (.agg us.toArray) := by
  unfold ldv
  rw [h]
theorem ldv_take1 {cs : List Value} {off : Nat} {u : Value} (h : takeN 1 (cs.drop off) = some [u]) : ldv false 1 off cs = some u := by
  unfold ldv
  rw [h]

theorem takeN_len {β : Type} {m : Nat} {l r : List β} (h : takeN m l = some r) : r.length = m := by
  obtain ⟨h1, h2⟩ := takeN_spec m l r h
  rw [h1, List.length_take]; omega
theorem takeN_stv_same {cs cs' us : List Value} {i : Nat} (h : stv (i * w) us cs = some cs') (hu : us.length = w) : takeN w (cs'.drop (i * w)) = some us := by
  obtain ⟨h1, h2⟩ := stv_spec _ _ _ _ h
  rw [h2, List.append_assoc, List.drop_append, List.length_take, List.drop_eq_nil_of_le (by rw [List.length_take]; omega), List.nil_append, Nat.min_eq_left (by omega), Nat.sub_self, List.drop_zero]
  rw [takeN_of _ _ (by rw [List.length_append]; omega), List.take_append_of_le_length (by omega), List.take_of_length_le (by omega)]
theorem takeN_stv_other {cs cs' us vs : List Value} {i j : Nat} (h : stv (i * w) us cs = some cs') (hu : us.length = w) (hij : j ≠ i) (k : takeN w (cs.drop (j * w)) = some vs) : takeN w (cs'.drop (j * w)) = some vs := by
  obtain ⟨h1, h2⟩ := stv_spec _ _ _ _ h
  obtain ⟨k1, k2⟩ := takeN_spec _ _ _ k
  rw [List.length_drop] at k2
  have hlen : cs'.length = cs.length := by rw [h2]; simp; omega
  rw [takeN_of _ _ (by rw [List.length_drop, hlen]; exact k2), k1]
  congr 1
  by_cases hw : w = 0
  · rw [hw]; rfl
  apply List.ext_getElem?
  intro t
  by_cases ht : t < w
  · rw [List.getElem?_take_of_lt ht, List.getElem?_take_of_lt ht, List.getElem?_drop, List.getElem?_drop, h2]
    rcases Nat.lt_or_ge j i with hji | hji
    · have hb : (j + 1) * w ≤ i * w := Nat.mul_le_mul_right _ hji
      rw [Nat.add_mul] at hb
      rw [List.append_assoc, List.getElem?_append_left (by rw [List.length_take]; omega), List.getElem?_take_of_lt (by omega)]
    · have hb : (i + 1) * w ≤ j * w := Nat.mul_le_mul_right _ (by omega)
      rw [Nat.add_mul] at hb
      rw [List.getElem?_append_right (by rw [List.length_append, List.length_take]; omega), List.getElem?_drop, List.length_append, List.length_take]
      congr 1
      omega
  · rw [List.getElem?_eq_none (by rw [List.length_take]; omega), List.getElem?_eq_none (by rw [List.length_take]; omega)]
end

section
variable {α : Type} {X : XT} {K : St → Prop} {d w : Nat} {P : PH → List Value → α → Prop} {T : TypeId} {fr : List (Nat × SV)} {lh : List (Nat × List Value)} {H M : PH} {A B : Option Addr} {b off n c i : Nat} {f : Nat → α}

/-- a value of several cells that stands -/
theorem ev_ldF (h : ArrF w P H (some ⟨b, off, none⟩) n f) (hi : i < n) (k1 : ∀ us, P H us (f i) → us.length = w → X ⟨(d, .v (.agg us.toArray)) :: fr, lh, H, M⟩ K) :
    EvLd true w (.pointer (some ⟨b, off + i * w, none⟩)) d X ⟨fr, lh, H, M⟩ K := by
  rcases h with h | ⟨b', off', cs, T, fz, h1, h2, h3⟩
  · omega
  · injection h1 with h1; injection h1 with e1 e2; subst e1; subst e2
    obtain ⟨us, g1, _, g3⟩ := h3 i hi
    exact ⟨b, off + i * w, cs, T, fz, _, rfl, .inl h2, ldv_take g1, k1 us g3 (takeN_len g1)⟩
/-- a value of one cell that stands -/
theorem ev_ldF1 (h : ArrF 1 P H (some ⟨b, off, none⟩) n f) (hi : i < n) (k1 : ∀ u, P H [u] (f i) → X ⟨(d, .v u) :: fr, lh, H, M⟩ K) :
    EvLd false 1 (.pointer (some ⟨b, off + i * 1, none⟩)) d X ⟨fr, lh, H, M⟩ K := by
  rcases h with h | ⟨b', off', cs, T, fz, h1, h2, h3⟩
  · omega
  · injection h1 with h1; injection h1 with e1 e2; subst e1; subst e2
    obtain ⟨us, g1, _, g3⟩ := h3 i hi
    have hl := takeN_len g1
    obtain ⟨u, rfl⟩ : ∃ u, us = [u] := by
      match us, hl with
      | [u], _ => exact ⟨u, rfl⟩
    exact ⟨b, off + i * 1, cs, T, fz, _, rfl, .inl h2, ldv_take1 g1, k1 u g3⟩
/-- one of one's own -/
theorem ev_ldOF (h : OwnF w P T H M (some ⟨b, 0, none⟩) n f c) (hi : i < n) (k1 : ∀ us, P H us (f i) → us.length = w → X ⟨(d, .v (.agg us.toArray)) :: fr, lh, H, M⟩ K) :
    EvLd true w (.pointer (some ⟨b, i * w, none⟩)) d X ⟨fr, lh, H, M⟩ K := by
  rcases h with ⟨h, _⟩ | ⟨g, cs, h1, h2, h3, h4, h5, h6⟩
  · cases h
  · injection h1 with h1; injection h1 with e1 e2; subst e1
    obtain ⟨us, g1, _, g3⟩ := h6 i hi
    exact ⟨b, i * w, cs, T, _, _, rfl, .inr h2, ldv_take g1, k1 us g3 (takeN_len g1)⟩
theorem ev_ldOF1 (h : OwnF 1 P T H M (some ⟨b, 0, none⟩) n f c) (hi : i < n) (k1 : ∀ u, P H [u] (f i) → X ⟨(d, .v u) :: fr, lh, H, M⟩ K) :
    EvLd false 1 (.pointer (some ⟨b, i * 1, none⟩)) d X ⟨fr, lh, H, M⟩ K := by
  rcases h with ⟨h, _⟩ | ⟨g, cs, h1, h2, h3, h4, h5, h6⟩
  · cases h
  · injection h1 with h1; injection h1 with e1 e2; subst e1
    obtain ⟨us, g1, _, g3⟩ := h6 i hi
    have hl := takeN_len g1
    obtain ⟨u, rfl⟩ : ∃ u, us = [u] := by
      match us, hl with
      | [u], _ => exact ⟨u, rfl⟩
    exact ⟨b, i * 1, cs, T, _, _, rfl, .inr h2, ldv_take1 g1, k1 u g3⟩

/-- a function turned at one place -/
def upF (f : Nat → α) (i : Nat) (x : α) : Nat → α := fun j => if j = i then x else f j
theorem OwnF.put {cs' us : List Value} {cs : Array Value} {x : α} (h : OwnF w P T H M (some ⟨b, 0, none⟩) n f c) (hi : i < n) (hM : M b = some (.cells cs T (0, 0))) (hs : stv (i * w) us cs.toList = some cs') (hu : us.length = w) (h1 : ∀ u ∈ us, u.oneCell' = true) (hx : P H us x) :
    OwnF w P T H (M.set b (.cells cs'.toArray T (0, 0))) (some ⟨b, 0, none⟩) n (upF f i x) c := by
  rcases h with ⟨h, _⟩ | ⟨g, cs0, e1, h2, h3, h4, h5, h6⟩
  · cases h
  · injection e1 with e1; injection e1 with e1 _; subst e1
    rw [hM] at h2; injection h2 with h2; injection h2 with h2 _ _; subst h2
    have hsp := stv_spec _ _ _ _ hs
    have hlen : cs'.length = cs.size := by rw [hsp.2]; have := hsp.1; simp at this ⊢; omega
    refine .inr ⟨b, cs'.toArray, rfl, PH.set_self _ _ _, by rw [← h3]; simpa using hlen, h4, h5, fun j hj => ?_⟩
    unfold upF
    by_cases e : j = i
    · subst e
      rw [if_pos rfl]
      exact ⟨us, takeN_stv_same hs hu, h1, hx⟩
    · rw [if_neg e]
      obtain ⟨vs, g1, g2, g3⟩ := h6 j hj
      exact ⟨vs, takeN_stv_other hs hu e g1, g2, g3⟩
theorem ev_stOF {y : Value} {x : α} (h : OwnF w P T H M (some ⟨b, 0, none⟩) n f c) (hi : i < n) (hd : PH.disj H M) (hu : (cellsL y).length = w) (h1 : ∀ u ∈ cellsL y, u.oneCell' = true) (hx : P H (cellsL y) x)
    (k1 : ∀ M', OwnF w P T H M' (some ⟨b, 0, none⟩) n (upF f i x) c → But M M' (some ⟨b, 0, none⟩) → (∀ H : PH, PH.disj H M → PH.disj H M') → X ⟨fr, lh, H, M'⟩ K) :
    EvSt w (.pointer (some ⟨b, i * w, none⟩)) y X ⟨fr, lh, H, M⟩ K := by
  have h' := h
  rcases h' with ⟨h', _⟩ | ⟨g, cs, e1, h2, h3, h4, h5, h6⟩
  · cases h'
  · injection e1 with e1; injection e1 with e1 _; subst e1
    have hfit : i * w + (cellsL y).length ≤ cs.toList.length := by
      have : (i + 1) * w ≤ c * w := Nat.mul_le_mul_right _ (by omega)
      rw [Nat.add_mul] at this
      simp only [Array.length_toList]; omega
    have hs := stv_of (i * w) (cellsL y) cs.toList hfit
    refine ⟨b, i * w, cs, T, (0, 0), _, rfl, h2, .inl rfl, hu, h1, hs, ?_⟩
    refine k1 _ (h.put hi h2 hs hu h1 hx) ?_ ?_
    · intro b' o hb hne
      rw [PH.set_ne _ _ (fun e => hne (by rw [e]))]
      exact hb
    · intro H hd
      exact hd.set (hd.at h2)
end

end Go.Proofs.YtccdhgjfcgfgoaaGreat.X
set_option linter.unusedVariables false
set_option linter.unusedSimpArgs false
namespace Go.Proofs.YtccdhgjfcgfgoaaGreat.X
open Go Go.RowKit

theorem takeN_drop {l us : List Value} {w k : Nat} (h : takeN w (l.drop k) = some us) : us = (l.drop k).take w ∧ w ≤ l.length - k := by
  have := takeN_spec _ _ _ h
  rwa [List.length_drop] at this
theorem takeN_mk {l : List Value} {w k : Nat} (h : w ≤ l.length - k) : takeN w (l.drop k) = some ((l.drop k).take w) := takeN_of _ _ (by rw [List.length_drop]; exact h)
/-- what stands ahead stays as it was -/
theorem takeN_ahead {l m us : List Value} {w k n : Nat} (h : takeN w (l.drop k) = some us) (hk : k + w ≤ n) (hn : n ≤ l.length) : takeN w ((l.take n ++ m).drop k) = some us := by
  obtain ⟨rfl, _⟩ := takeN_drop h
  rw [takeN_mk (by simp; omega)]
  congr 1
  rw [List.drop_append_of_le_length (by rw [List.length_take]; omega), List.take_append_of_le_length (by rw [List.length_drop, List.length_take]; omega), List.drop_take, List.take_take]
  congr 1
  omega
theorem takeN_behind {l ys m us : List Value} {w k n : Nat} (h : takeN w (ys.drop k) = some us) (hl : l.length = n) : takeN w ((l ++ ys ++ m).drop (n + k)) = some us := by
  obtain ⟨rfl, hw⟩ := takeN_drop h
  by_cases h0 : w = 0
  · subst h0; simp [takeN]
  rw [List.append_assoc, show n + k = l.length + k by omega, ← List.drop_drop, List.drop_left, takeN_mk (by simp; omega)]
  congr 1
  rw [List.drop_append_of_le_length (by omega), List.take_append_of_le_length (by rw [List.length_drop]; omega)]
theorem takeN_sub {l ys us : List Value} {w k off m : Nat} (hy : takeN m (l.drop off) = some ys) (h : takeN w (l.drop (off + k)) = some us) (hk : k + w ≤ m) : takeN w (ys.drop k) = some us := by
  obtain ⟨rfl, hm⟩ := takeN_drop hy
  obtain ⟨rfl, hw⟩ := takeN_drop h
  rw [takeN_mk (by rw [List.length_take, List.length_drop]; omega)]
  congr 1
  rw [List.drop_take, List.take_take, List.drop_drop]
  congr 1
  omega
/-- cells of rows are cells each -/
theorem one_rows {l : List Value} {w off : Nat} : ∀ n, (∀ i, i < n → ∃ us, takeN w (l.drop (off + i * w)) = some us ∧ ∀ u ∈ us, u.oneCell' = true) → ∀ u ∈ (l.drop off).take (n * w), u.oneCell' = true
  | 0, _, u, hu => by simp at hu
  | n + 1, h, u, hu => by
    rw [Nat.add_mul, Nat.one_mul, List.take_add] at hu
    rcases List.mem_append.1 hu with hu | hu
    · exact one_rows n (fun i hi => h i (by omega)) u hu
    · obtain ⟨us, h1, h2⟩ := h n (by omega)
      obtain ⟨rfl, _⟩ := takeN_drop h1
      rw [List.drop_drop] at hu
      exact h2 u hu
theorem len_rows {l : List Value} {w off : Nat} (n : Nat) (hn : 0 < n) (h : ∀ i, i < n → ∃ us, takeN w (l.drop (off + i * w)) = some us ∧ ∀ u ∈ us, u.oneCell' = true) (hw : 0 < w) : off + n * w ≤ l.length := by
  obtain ⟨us, h1, _⟩ := h (n - 1) (by omega)
  have := (takeN_drop h1).2
  have e : (n - 1) * w + w = n * w := by rw [← Nat.add_one_mul]; congr 1; omega
  omega
theorem takeN_rep {zs : List Value} {w : Nat} (hz : zs.length = w) : ∀ (n i : Nat), i < n → takeN w ((List.replicate n zs).flatten.drop (i * w)) = some zs
  | 0, i, h => by omega
  | n + 1, 0, h => by
    rw [Nat.zero_mul, List.drop_zero, List.replicate_succ, List.flatten_cons, takeN_of _ _ (by simp; omega), List.take_append_of_le_length (by omega), List.take_of_length_le (by omega)]
  | n + 1, i + 1, h => by
    rw [List.replicate_succ, List.flatten_cons, Nat.add_mul, Nat.one_mul, Nat.add_comm (i * w), ← List.drop_drop, ← hz, List.drop_left, hz]
    exact takeN_rep hz n i (by omega)

section
variable {α : Type} {X : XT} {K : St → Prop} {d w : Nat} {P : PH → List Value → α → Prop} {T : TypeId} {fr : List (Nat × SV)} {lh : List (Nat × List Value)} {H M : PH} {A B : Option Addr} {b off n c i m : Nat} {f h : Nat → α}

/-- what may be appended: m values, that stand or are one's own -/
def SrcF (w : Nat) (P : PH → List Value → α → Prop) (H M : PH) (B : Option Addr) (m : Nat) (h : Nat → α) : Prop :=
  ∃ b off cs U fz, B = some ⟨b, off, none⟩ ∧ (H b = some (.cells cs U fz) ∨ M b = some (.cells cs U fz)) ∧ ∀ i, i < m → ∃ us, takeN w (cs.toList.drop (off + i * w)) = some us ∧ (∀ u ∈ us, u.oneCell' = true) ∧ P H us (h i)
theorem ArrF.src (hA : ArrF w P H B m h) (h0 : 0 < m) : SrcF w P H M B m h := by
  rcases hA with e | ⟨b, off, cs, U, fz, h1, h2, h3⟩
  · omega
  · exact ⟨b, off, cs, U, fz, h1, .inl h2, h3⟩
theorem OwnF.src (hO : OwnF w P T H M B m h c) (h0 : 0 < m) : SrcF w P H M B m h := by
  rcases hO with ⟨_, e, _⟩ | ⟨g, cs, h1, h2, h3, h4, h5, h6⟩
  · omega
  · exact ⟨g, 0, cs, T, _, h1, .inr h2, fun i hi => by rw [Nat.zero_add]; exact h6 i hi⟩

/-- one behind the other -/
def thenF (n : Nat) (f h : Nat → α) : Nat → α := fun i => if i < n then f i else h (i - n)

theorem ev_mkF {zs : List Value} {by_ : Nat} {j : Int} {x0 : α} (hz : zs.length = w) (h1' : ∀ u ∈ zs, u.oneCell' = true) (hx : P H zs x0) (h0 : 0 ≤ j) (h1 : j * by_ ≤ 140737488355328) (h2 : j ≤ 9223372036854775807) (hd : PH.disj H M)
    (k1 : ∀ g M', OwnF w P T H M' (some ⟨g, 0, none⟩) j.toNat (fun _ => x0) j.toNat → M.le M' → M g = none → PH.disj H M' → X ⟨(d, .v (.slice (some ⟨g, 0, none⟩) j.toNat j.toNat)) :: fr, lh, H, M'⟩ K) :
    EvMk T zs by_ j d X ⟨fr, lh, H, M⟩ K := by
  refine ⟨h0, h1, h2, fun g hH hM => k1 g _ (.inr ⟨g, _, rfl, PH.set_self _ _ _, ?_, Nat.le_refl _, by omega, fun i hi => ⟨zs, takeN_rep hz _ _ hi, h1', hx⟩⟩) ?_ hM (hd.set hH)⟩
  · rw [List.size_toArray, List.length_flatten, List.map_replicate, List.sum_replicate_nat, hz]
  · intro b o hb
    rw [PH.set_ne _ _ (fun e => by rw [e, show M g = none from hM] at hb; cases hb)]
    exact hb

theorem ev_bslF {cs : List Value} {n : Nat} (hl : cs.length = n * w) (hn : n ≤ 9223372036854775807) (hc : ∀ i, i < n → ∃ us, takeN w (cs.drop (i * w)) = some us ∧ (∀ u ∈ us, u.oneCell' = true) ∧ P H us (f i)) (hd : PH.disj H M)
    (k1 : ∀ g M', OwnF w P T H M' (some ⟨g, 0, none⟩) n f n → M.le M' → M g = none → PH.disj H M' → X ⟨(d, .v (.slice (some ⟨g, 0, none⟩) n n)) :: fr, lh, H, M'⟩ K) :
    EvBsl T n cs d X ⟨fr, lh, H, M⟩ K := by
  intro g hH hM
  refine k1 g _ (.inr ⟨g, _, rfl, PH.set_self _ _ _, by simpa using hl, Nat.le_refl _, hn, hc⟩) ?_ hM (hd.set hH)
  intro b o hb
  rw [PH.set_ne _ _ (fun e => by rw [e, show M g = none from hM] at hb; cases hb)]
  exact hb

theorem ev_appF {by_ q : Nat} (hw : 0 < w) (hO : OwnF w P T H M A n f c) (hB : SrcF w P H M B m h) (hq : q = m) (hm : 0 < m) (h1 : n + m ≤ 9223372036854775807) (h2 : (n + m) * by_ ≤ 140737488355328) (hd : PH.disj H M)
    (k1 : ∀ A' c' M', OwnF w P T H M' A' (n + m) (thenF n f h) c' → But M M' A → (A' = A ∨ ∀ b o, M b = some o → A' ≠ some ⟨b, 0, none⟩) → PH.disj H M' → X ⟨(d, .v (.slice A' (n + m) c')) :: fr, lh, H, M'⟩ K) :
    EvApp T w by_ A n c B q d X ⟨fr, lh, H, M⟩ K := by
  subst hq
  obtain ⟨b2, off2, cs2, U, fz, hB1, hB2, hB3⟩ := hB
  have hlen2 := len_rows q hm (fun i hi => (hB3 i hi).imp fun us h => ⟨h.1, h.2.1⟩) hw
  have hys : takeN (q * w) (cs2.toList.drop off2) = some ((cs2.toList.drop off2).take (q * w)) := takeN_mk (by omega)
  have hone2 := one_rows q (fun i hi => (hB3 i hi).imp fun us h => ⟨h.1, h.2.1⟩)
  have hyl : ((cs2.toList.drop off2).take (q * w)).length = q * w := by rw [List.length_take, List.length_drop]; omega
  have hrow2 : ∀ i, i < q → ∃ us, takeN w (((cs2.toList.drop off2).take (q * w)).drop (i * w)) = some us ∧ (∀ u ∈ us, u.oneCell' = true) ∧ P H us (h i) := fun i hi => by
    obtain ⟨us, g1, g2, g3⟩ := hB3 i hi
    have : (i + 1) * w ≤ q * w := Nat.mul_le_mul_right _ (by omega)
    rw [Nat.add_mul] at this
    exact ⟨us, takeN_sub hys g1 (by omega), g2, g3⟩
  generalize (cs2.toList.drop off2).take (q * w) = ys at *
  obtain ⟨xs, rest, hxl, hx1, hrow, hA⟩ : ∃ xs rest : List Value, xs.length = n * w ∧ (∀ u ∈ xs, u.oneCell' = true) ∧ (∀ i, i < n → ∀ m, ∃ us, takeN w ((xs ++ m).drop (i * w)) = some us ∧ (∀ u ∈ us, u.oneCell' = true) ∧ P H us (f i)) ∧
      ((A = none ∧ n = 0 ∧ c = 0) ∨ ∃ g, A = some ⟨g, 0, none⟩ ∧ M g = some (.cells (xs ++ rest).toArray T (0, 0)) ∧ (xs ++ rest).length = c * w ∧ n ≤ c ∧ c ≤ 9223372036854775807) := by
    rcases hO with ⟨e1, e2, e3⟩ | ⟨g, cs, e1, e2, e3, e4, e5, e6⟩
    · exact ⟨[], [], (by rw [e2, Nat.zero_mul]; rfl), (fun u hu => (by cases hu)), (fun i hi => (by omega)), .inl ⟨e1, e2, e3⟩⟩
    · have hnc : n * w ≤ c * w := Nat.mul_le_mul_right _ e4
      have hcl : cs.toList.length = c * w := by rw [Array.length_toList]; exact e3
      refine ⟨cs.toList.take (n * w), cs.toList.drop (n * w), by rw [List.length_take]; omega, ?_, fun i hi m => ?_, .inr ⟨g, e1, ?_, ?_, e4, e5⟩⟩
      · have := one_rows (l := cs.toList) (w := w) (off := 0) n (fun i hi => (e6 i hi).imp fun us h => ⟨by rw [Nat.zero_add]; exact h.1, h.2.1⟩)
        rwa [List.drop_zero] at this
      · obtain ⟨us, g1, g2, g3⟩ := e6 i hi
        have : (i + 1) * w ≤ n * w := Nat.mul_le_mul_right _ (by omega)
        rw [Nat.add_mul] at this
        exact ⟨us, takeN_ahead g1 (by omega) (by omega), g2, g3⟩
      · rw [List.take_append_drop, Array.toArray_toList]; exact e2
      · rw [List.take_append_drop]; exact hcl
  refine .inr ⟨xs, ys, hxl, hyl, hm, h1, h2, hx1, hone2, ?_, ⟨b2, off2, cs2, U, fz, hB1, hB2, hys⟩, ?_⟩
  · rcases hA with e | ⟨g, e1, e2, e3, e4, e5⟩
    · exact .inl e
    · exact .inr ⟨g, rest, e1, e2, e3, e4, e5⟩
  · intro g' c' rest' hg hc1 hc2 hlen
    replace hg : (H g' = none ∧ M g' = none) ∨ A = some ⟨g', 0, none⟩ := hg
    refine k1 _ c' _ (.inr ⟨g', _, rfl, ?_, by rw [List.size_toArray]; exact hlen, hc1, hc2, fun i hi => ?_⟩) ?_ ?_ ?_
    · simp only [PH.mvd, if_true]
    · unfold thenF
      by_cases hin : i < n
      · rw [if_pos hin]
        show ∃ us, takeN w ((xs ++ ys ++ rest').drop (i * w)) = some us ∧ _
        rw [List.append_assoc]
        exact hrow i hin _
      · rw [if_neg hin]
        obtain ⟨us, g1, g2, g3⟩ := hrow2 (i - n) (by omega)
        refine ⟨us, ?_, g2, g3⟩
        show takeN w ((xs ++ ys ++ rest').drop (i * w)) = some us
        have e : i * w = n * w + (i - n) * w := by rw [← Nat.add_mul]; congr 1; omega
        rw [e]
        exact takeN_behind g1 hxl
    · intro b o hb hne
      simp only [PH.mvd]
      split
      · rename_i e
        subst e
        rcases hg with ⟨_, h⟩ | h
        · rw [h] at hb; cases hb
        · exact absurd h hne
      · first | (rw [if_neg hne]; exact hb) | exact hb
    · rcases hg with ⟨_, h⟩ | h
      · right
        intro b o hb e
        injection e with e; injection e with e _; subst e
        rw [h] at hb; cases hb
      · left; exact h.symm
    · intro b o hb
      simp only [PH.mvd]
      split
      · rename_i e
        subst e
        rcases hg with ⟨h, _⟩ | h
        · rw [h] at hb; cases hb
        · rcases hA with ⟨h', _⟩ | ⟨g, e1, e2, _⟩
          · rw [h'] at h; cases h
          · rw [h] at e1; injection e1 with e1; injection e1 with e1 _; subst e1
            rw [hd _ _ hb] at e2; cases e2
      · split
        · rfl
        · exact hd b o hb
end

end Go.Proofs.YtccdhgjfcgfgoaaGreat.X
set_option linter.unusedVariables false
set_option linter.unusedSimpArgs false
namespace Go.Proofs.YtccdhgjfcgfgoaaGreat.X
open Go Go.RowKit Go.Proofs

/-- what a value's cells say -/
def RatC : PH → List Value → Rat → Prop := fun H us q => RatV H (.agg us.toArray) q
def RRatC : PH → List Value → Rat → Prop := fun H us q => RRat H (.agg us.toArray) q
def StrC : PH → List Value → ByteArray → Prop := fun _ us s => us = [.string s] ∧ s.size ≤ 9223372036854775807
theorem RatC.grows : Grows RatC := fun _ _ _ _ h hl => RatV.le h hl
theorem RRatC.grows : Grows RRatC := fun _ _ _ _ h hl => RRat.le h hl
theorem StrC.grows : Grows StrC := fun _ _ _ _ h _ => h
/-- a row: how many, and which -/
abbrev Rw (α : Type) := Nat × (Nat → α)
def RowC {α : Type} (w : Nat) (P : PH → List Value → α → Prop) : PH → List Value → Rw α → Prop := fun H us r => ∃ A c, us = [.slice A r.1 c] ∧ ArrF w P H A r.1 r.2
theorem RowC.grows {α : Type} {w : Nat} {P : PH → List Value → α → Prop} (hP : Grows P) : Grows (RowC w P) := fun _ _ _ _ ⟨A, c, h1, h2⟩ hl => ⟨A, c, h1, h2.le hP hl⟩
/-- rows of rows that stand -/
def MatH {α : Type} (w : Nat) (P : PH → List Value → α → Prop) (H : PH) (A : Option Addr) (n : Nat) (R : Nat → Rw α) : Prop := ArrF 1 (RowC w P) H A n R
theorem MatH.le {α : Type} {w : Nat} {P : PH → List Value → α → Prop} {H H' : PH} {A : Option Addr} {n : Nat} {R : Nat → Rw α} (hP : Grows P) (h : MatH w P H A n R) (hl : H.le H') : MatH w P H' A n R := ArrF.le (RowC.grows hP) h hl

/-- a slice as it stands in a row: place, length, room -/
def SlC : PH → List Value → Option Addr × Nat × Nat → Prop := fun _ us x => us = [.slice x.1 x.2.1 x.2.2]
theorem SlC.grows : Grows SlC := fun _ _ _ _ h _ => h

/-- Rows of rows of one's own: row i at ra i, with room rc i. -/
structure MatO {α : Type} (w : Nat) (P : PH → List Value → α → Prop) (Tr Tm : TypeId) (H M : PH) (A : Option Addr) (n c : Nat) (ra : Nat → Option Addr) (rc : Nat → Nat) (R : Nat → Rw α) : Prop where
  top : OwnF 1 SlC Tm H M A n (fun i => (ra i, (R i).1, rc i)) c
  row : ∀ i, i < n → OwnF w P Tr H M (ra i) (R i).1 (R i).2 (rc i)
  ne : ∀ i, i < n → ra i = none ∨ ra i ≠ A
  inj : ∀ i j, i < n → j < n → i ≠ j → ra i = none ∨ ra i ≠ ra j

section
variable {α : Type} {w : Nat} {P : PH → List Value → α → Prop} {Tr Tm : TypeId} {H H' M M' : PH} {A : Option Addr} {n c : Nat} {ra : Nat → Option Addr} {rc : Nat → Nat} {R R' : Nat → Rw α}

theorem MatO.nil : MatO w P Tr Tm H M none 0 0 ra rc R := ⟨OwnF.nil, fun i hi => (by omega), fun i hi => (by omega), fun i j hi => (by omega)⟩
theorem MatO.leH (hP : Grows P) (h : MatO w P Tr Tm H M A n c ra rc R) (hl : H.le H') : MatO w P Tr Tm H' M A n c ra rc R :=
  ⟨h.top.leH SlC.grows hl, fun i hi => (h.row i hi).leH hP hl, h.ne, h.inj⟩
theorem MatO.leM (h : MatO w P Tr Tm H M A n c ra rc R) (hl : M.le M') : MatO w P Tr Tm H M' A n c ra rc R :=
  ⟨h.top.leM hl, fun i hi => (h.row i hi).leM hl, h.ne, h.inj⟩
theorem MatO.congr (h : MatO w P Tr Tm H M A n c ra rc R) (e : ∀ i, i < n → (R i).1 = (R' i).1 ∧ ∀ k, k < (R i).1 → (R i).2 k = (R' i).2 k) : MatO w P Tr Tm H M A n c ra rc R' :=
  ⟨h.top.congr fun i hi => by rw [(e i hi).1], fun i hi => by
    have := (h.row i hi).congr (e i hi).2
    rwa [(e i hi).1] at this, h.ne, h.inj⟩
theorem MatH.congr (h : MatH w P H A n R) (e : ∀ i, i < n → (R i).1 = (R' i).1 ∧ ∀ k, k < (R i).1 → (R i).2 k = (R' i).2 k) : MatH w P H A n R' := by
  rcases h with h | ⟨b, off, cs, T, fz, h1, h2, h3⟩
  · exact .inl h
  · refine .inr ⟨b, off, cs, T, fz, h1, h2, fun i hi => ?_⟩
    obtain ⟨us, k1, k2, A', c', k3, k4⟩ := h3 i hi
    have k5 := k4.congr (e i hi).2
    rw [(e i hi).1] at k3 k5
    exact ⟨us, k1, k2, A', c', k3, k5⟩
/-- left to stand -/
theorem MatO.mat (hP : Grows P) (h : MatO w P Tr Tm H M A n c ra rc R) (hd : PH.disj H M) : MatH w P (H.join M) A n R := by
  rcases h.top.arr SlC.grows hd with e | ⟨b, off, cs, T, fz, h1, h2, h3⟩
  · exact .inl e
  · refine .inr ⟨b, off, cs, T, fz, h1, h2, fun i hi => ?_⟩
    obtain ⟨us, k1, k2, k3⟩ := h3 i hi
    exact ⟨us, k1, k2, _, _, k3, (h.row i hi).arr hP hd⟩
/-- one value turned -/
def upM (R : Nat → Rw α) (i k : Nat) (x : α) : Nat → Rw α := fun j => if j = i then ((R j).1, upF (R j).2 k x) else R j
theorem MatO.set {i k : Nat} {x : α} (h : MatO w P Tr Tm H M A n c ra rc R) (hi : i < n) (hs : ra i ≠ none) (h1 : OwnF w P Tr H M' (ra i) (R i).1 (upF (R i).2 k x) (rc i)) (hb : But M M' (ra i)) :
    MatO w P Tr Tm H M' A n c ra rc (upM R i k x) := by
  have hlen : ∀ j, (upM R i k x j).1 = (R j).1 := fun j => by unfold upM; split <;> rfl
  refine ⟨?_, fun j hj => ?_, h.ne, h.inj⟩
  · refine (h.top.but hb (.inr fun e => ?_)).congr fun j _ => by rw [hlen]
    rcases h.ne i hi with k | k
    · exact hs k
    · exact k e.symm
  · by_cases e : j = i
    · subst e
      unfold upM
      rw [if_pos rfl]
      exact h1
    · have hne : ra j = none ∨ ra j ≠ ra i := h.inj j i hj hi e
      have := (h.row j hj).but hb hne
      unfold upM
      rw [if_neg e]
      exact this
end

theorem OwnF.fresh {α : Type} {w : Nat} {P : PH → List Value → α → Prop} {T : TypeId} {H M : PH} {A : Option Addr} {n c : Nat} {f : Nat → α} (h : OwnF w P T H M A n f c) {g : Nat} (hg : M g = none) : A ≠ some ⟨g, 0, none⟩ := by
  intro e
  rcases h with ⟨h, _⟩ | ⟨g', cs, e1, e2, _⟩
  · rw [h] at e; cases e
  · rw [e] at e1; injection e1 with e1; injection e1 with e1 _; subst e1; rw [hg] at e2; cases e2

theorem none_ok (H : PH) (n m : Nat) (hn : n ≤ 1000) (hm : m ≤ 1000) : Fn Tryz.prog 38 [.int .i64 (n : Int), .int .i64 (m : Int)] H PH.no fun v H' M' => ∃ g ra, v = .slice (some ⟨g, 0, none⟩) n n ∧ MatO 3 RatC 36 64 H' M' (some ⟨g, 0, none⟩) n n ra (fun _ => m) (fun _ => (m, fun _ => 0)) := by
  refine of_mat_none (by simp) ?_
  try simp only [go_sem, Nat.reduceEqDiff, Nat.reduceAdd, Nat.reduceBEq, ↓reduceIte, p_mat_none]
  refine ev_mkF (w := 1) (P := SlC) (x0 := (none, 0, 0)) rfl (by simp [Value.oneCell']) rfl (by omega) (by omega) (by omega) (PH.disj_no _) ?_
  intro g M1 hO hle hg hd
  rw [Int.toNat_natCast] at hO ⊢
  try simp only [go_sem, Nat.reduceEqDiff, Nat.reduceAdd, Nat.reduceBEq, ↓reduceIte]
  refine ev_loop (fun k s => ∃ (i : Nat) (M2 : PH) (ra : Nat → Option Addr), k = n - i ∧ i ≤ n ∧ PH.disj H M2 ∧ OwnF 1 SlC 64 H M2 (some ⟨g, 0, none⟩) n (fun j => if j < i then (ra j, m, m) else (none, 0, 0)) n ∧
    (∀ j, j < i → OwnF 3 RatC 36 H M2 (ra j) m (fun _ => 0) m ∧ ra j ≠ some ⟨g, 0, none⟩) ∧ (∀ j k, j < i → k < i → j ≠ k → ra j ≠ ra k) ∧
    s = ⟨[(11, .v (.int .i64 (i : Int))), (10, .v (.int .i64 (n : Int))), (5, .v (.slice (some ⟨g, 0, none⟩) n n)), (1, .v (.int .i64 (m : Int)))], [], H, M2⟩) n _ ⟨0, M1, fun _ => none, rfl, by omega, hd, hO.congr (fun j _ => by rw [if_neg (by omega)]), fun j hj => by omega, fun j k hj => by omega, rfl⟩ sub_of ?_
  rintro k s ⟨i, M2, ra, rfl, hi, hd2, hO2, hrow, hinj, rfl⟩
  try simp only [go_sem, Nat.reduceEqDiff, Nat.reduceAdd, Nat.reduceBEq, ↓reduceIte]
  refine ev_if (fun c1 => ?_) (fun c1 => ?_)
  · try simp only [go_sem, Nat.reduceEqDiff, Nat.reduceAdd, Nat.reduceBEq, ↓reduceIte]
    refine ev_mkF (w := 3) (P := RatC) (x0 := 0) rfl (by simp [Value.oneCell']) (RatV.zero H) (by omega) (by omega) (by omega) hd2 ?_
    intro g3 M3 hO3 hle3 hg3 hd3
    rw [Int.toNat_natCast] at hO3 ⊢
    try simp only [go_sem, Nat.reduceEqDiff, Nat.reduceAdd, Nat.reduceBEq, ↓reduceIte]
    refine ev_ia rfl (by omega) (by omega) ?_
    rw [Int.toNat_natCast]
    try simp only [go_sem, Nat.reduceEqDiff, Nat.reduceAdd, Nat.reduceBEq, ↓reduceIte]
    refine ev_stOF (x := ((some ⟨g3, 0, none⟩ : Option Addr), m, m)) (hO2.leM hle3) (by omega) hd3 rfl (by simp [cellsL, Value.oneCell']) rfl ?_
    intro M4 hO4 hb4 hd4
    have hne : (some ⟨g3, 0, none⟩ : Option Addr) ≠ some ⟨g, 0, none⟩ := fun e => hO2.fresh hg3 e.symm
    have hne2 : ∀ j, j < i → ra j ≠ some ⟨g3, 0, none⟩ := fun j hj => (hrow j hj).1.fresh hg3
    try simp only [go_sem, Nat.reduceEqDiff, Nat.reduceAdd, Nat.reduceBEq, ↓reduceIte]
    rw [w64 ((i : Int) + 1) (by omega) (by omega), show (i : Int) + 1 = ((i + 1 : Nat) : Int) by omega]
    refine k_next (n - (i + 1)) _ (by omega) ⟨i + 1, M4, fun j => if j = i then some ⟨g3, 0, none⟩ else ra j, rfl, by omega, hd4 _ hd3, hO4.congr (fun j _ => ?_), fun j hj => ?_, fun j k hj hk hjk => ?_, rfl⟩ sub_of
    · dsimp only [upF]
      by_cases e : j = i
      · subst e
        rw [if_pos rfl, if_pos (by omega), if_pos rfl]
      · rw [if_neg e, if_neg e]
        by_cases e2 : j < i
        · rw [if_pos e2, if_pos (by omega)]
        · rw [if_neg e2, if_neg (by omega)]
    · dsimp only
      by_cases e : j = i
      · subst e
        rw [if_pos rfl]
        exact ⟨hO3.but hb4 (.inr hne), hne⟩
      · rw [if_neg e]
        obtain ⟨g1, g2⟩ := hrow j (by omega)
        exact ⟨(g1.leM hle3).but hb4 (.inr g2), g2⟩
    · dsimp only
      by_cases e : j = i
      · rw [if_pos e, if_neg (by omega)]
        exact fun h => hne2 k (by omega) h.symm
      · rw [if_neg e]
        by_cases e2 : k = i
        · rw [if_pos e2]; exact hne2 j (by omega)
        · rw [if_neg e2]; exact hinj j k (by omega) (by omega) hjk
  · have hin : i = n := by omega
    subst hin
    try simp only [go_sem, Nat.reduceEqDiff, Nat.reduceAdd, Nat.reduceBEq, ↓reduceIte]
    refine ⟨g, ra, rfl, ⟨hO2.congr fun j hj => by rw [if_pos hj], fun j hj => (hrow j hj).1, fun j hj => .inr (hrow j hj).2, fun j k h1 h2 h3 => .inr (hinj j k h1 h2 h3)⟩⟩

end Go.Proofs.YtccdhgjfcgfgoaaGreat.X
set_option linter.unusedVariables false
set_option linter.unusedSimpArgs false
namespace Go.Proofs.YtccdhgjfcgfgoaaGreat.X
open Go Go.RowKit Go.Proofs

section
variable {α : Type} {X : XT} {K : St → Prop} {d w : Nat} {P : PH → List Value → α → Prop} {fr : List (Nat × SV)} {lh : List (Nat × List Value)} {H M : PH} {A : Option Addr} {b off n i : Nat} {R : Nat → Rw α}
theorem ev_ldRow (h : MatH w P H (some ⟨b, off, none⟩) n R) (hi : i < n) (k1 : ∀ A' c', ArrF w P H A' (R i).1 (R i).2 → X ⟨(d, .v (.slice A' (R i).1 c')) :: fr, lh, H, M⟩ K) :
    EvLd false 1 (.pointer (some ⟨b, off + i * 1, none⟩)) d X ⟨fr, lh, H, M⟩ K := by
  refine ev_ldF1 h hi ?_
  rintro u ⟨A', c', hu, ha⟩
  injection hu with hu _
  subst hu
  exact k1 A' c' ha
theorem ev_ldRow0 (h : MatH w P H (some ⟨b, off, none⟩) n R) (hi : 0 < n) (k1 : ∀ A' c', ArrF w P H A' (R 0).1 (R 0).2 → X ⟨(d, .v (.slice A' (R 0).1 c')) :: fr, lh, H, M⟩ K) :
    EvLd false 1 (.pointer (some ⟨b, off, none⟩)) d X ⟨fr, lh, H, M⟩ K := by
  have := ev_ldRow (fr := fr) (lh := lh) (M := M) (X := X) (K := K) (d := d) h hi k1
  rwa [Nat.zero_mul, Nat.add_zero] at this
end

/-- as many rows, and all of as many, as there may be -/
def evB {α : Type} (n : Nat) (R : Nat → Rw α) : Bool := decide (1 ≤ n ∧ n ≤ 12 ∧ 1 ≤ (R 0).1 ∧ (R 0).1 ≤ 12 ∧ ∀ i, i < n → (R i).1 = (R 0).1)

section
variable {α : Type} {X : XT} {K : St → Prop} {d w : Nat} {P : PH → List Value → α → Prop} {Tr Tm : TypeId} {fr : List (Nat × SV)} {lh : List (Nat × List Value)} {H M : PH} {g b n c i k : Nat} {ra : Nat → Option Addr} {rc : Nat → Nat} {R R' : Nat → Rw α} {A : Option Addr}
theorem ev_ldTop (h : MatO w P Tr Tm H M (some ⟨g, 0, none⟩) n c ra rc R) (hi : i < n) (k1 : X ⟨(d, .v (.slice (ra i) (R i).1 (rc i))) :: fr, lh, H, M⟩ K) :
    EvLd false 1 (.pointer (some ⟨g, i * 1, none⟩)) d X ⟨fr, lh, H, M⟩ K := by
  refine ev_ldOF1 h.top hi ?_
  intro u hu
  have e : u = .slice (ra i) (R i).1 (rc i) := by
    have hu' : [u] = [Value.slice (ra i) (R i).1 (rc i)] := hu
    injection hu'
  rw [e]
  exact k1
theorem MatO.base (h : MatO w P Tr Tm H M A n c ra rc R) (hi : i < n) (hk : 0 < (R i).1) : ∃ b, ra i = some ⟨b, 0, none⟩ := (h.row i hi).base (Nat.lt_of_lt_of_le hk (h.row i hi).cap)
theorem ev_ldEl (h : MatO w P Tr Tm H M A n c ra rc R) (hi : i < n) (hb : ra i = some ⟨b, 0, none⟩) (hk : k < (R i).1) (k1 : ∀ us, P H us ((R i).2 k) → us.length = w → X ⟨(d, .v (.agg us.toArray)) :: fr, lh, H, M⟩ K) :
    EvLd true w (.pointer (some ⟨b, k * w, none⟩)) d X ⟨fr, lh, H, M⟩ K := ev_ldOF (hb ▸ h.row i hi) hk k1
theorem ev_stEl {y : Value} {x : α} (h : MatO w P Tr Tm H M A n c ra rc R) (hi : i < n) (hb : ra i = some ⟨b, 0, none⟩) (hk : k < (R i).1) (hd : PH.disj H M) (hu : (cellsL y).length = w) (h1 : ∀ u ∈ cellsL y, u.oneCell' = true) (hx : P H (cellsL y) x)
    (k1 : ∀ M', MatO w P Tr Tm H M' A n c ra rc (upM R i k x) → (∀ H : PH, PH.disj H M → PH.disj H M') → X ⟨fr, lh, H, M'⟩ K) :
    EvSt w (.pointer (some ⟨b, k * w, none⟩)) y X ⟨fr, lh, H, M⟩ K :=
  ev_stOF (hb ▸ h.row i hi) hk hd hu h1 hx fun M' hO hbt hd' => k1 M' (h.set hi (by rw [hb]; simp) (by rw [hb]; exact hO) (by rw [hb]; exact hbt)) hd'
end

theorem evenS_ok (H : PH) (A : Option Addr) (n c : Nat) (R : Nat → Rw ByteArray) (hM : MatH 1 StrC H A n R) (hn : n ≤ 9223372036854775807) : FnP Tryz.prog 65 [.slice A n c] H fun v _ => v = .bool (evB n R) := by
  refine of_mat_even_string (by simp) ?_
  try simp only [go_sem, Nat.reduceEqDiff, Nat.reduceAdd, Nat.reduceBEq, ↓reduceIte, p_mat_even_string]
  refine ev_loop (fun k s => ∃ i : Nat, k = n - i ∧ i ≤ n ∧ (∀ j, j < i → (R j).1 = (R 0).1) ∧
    s = ⟨[(7, .v (.int .i64 (i : Int))), (6, .v (.int .i64 (n : Int))), (5, .v (.slice A n c)), (0, .v (.slice A n c))], [], H, PH.no⟩) n _ ⟨0, rfl, by omega, fun j hj => by omega, rfl⟩ sub_of ?_
  rintro k s ⟨i, rfl, hi, he, rfl⟩
  try simp only [go_sem, Nat.reduceEqDiff, Nat.reduceAdd, Nat.reduceBEq, ↓reduceIte]
  refine ev_if (fun c1 => ?_) (fun c1 => ?_)
  · obtain ⟨b, off, rfl⟩ := hM.base (by omega)
    try simp only [go_sem, Nat.reduceEqDiff, Nat.reduceAdd, Nat.reduceBEq, ↓reduceIte]
    refine ev_ia rfl (by omega) (by omega) ?_
    rw [Int.toNat_natCast]
    try simp only [go_sem, Nat.reduceEqDiff, Nat.reduceAdd, Nat.reduceBEq, ↓reduceIte]
    refine ev_ldRow hM (by omega) ?_
    intro A1 q1 ha1
    try simp only [go_sem, Nat.reduceEqDiff, Nat.reduceAdd, Nat.reduceBEq, ↓reduceIte]
    refine ev_ia rfl (by omega) (by omega) ?_
    try simp only [go_sem, Nat.reduceEqDiff, Nat.reduceAdd, Nat.reduceBEq, ↓reduceIte]
    refine ev_ldRow0 hM (by omega) ?_
    intro A2 q2 ha2
    try simp only [go_sem, Nat.reduceEqDiff, Nat.reduceAdd, Nat.reduceBEq, ↓reduceIte]
    refine ev_if (fun c2 => ?_) (fun c2 => ?_)
    · try simp only [go_sem, Nat.reduceEqDiff, Nat.reduceAdd, Nat.reduceBEq, ↓reduceIte]
      refine ⟨by trivial, ?_⟩
      unfold evB
      rw [decide_eq_false (fun h => c2 (by rw [h.2.2.2.2 i (by omega)]))]
    · try simp only [go_sem, Nat.reduceEqDiff, Nat.reduceAdd, Nat.reduceBEq, ↓reduceIte]
      rw [w64 ((i : Int) + 1) (by omega) (by omega), show (i : Int) + 1 = ((i + 1 : Nat) : Int) by omega]
      refine k_next (n - (i + 1)) _ (by omega) ⟨i + 1, rfl, by omega, fun j hj => ?_, rfl⟩ sub_of
      by_cases e : j = i
      · subst e
        have := Classical.not_not.1 c2
        omega
      · exact he j (by omega)
  · have hin : i = n := by omega
    subst hin
    try simp only [go_sem, Nat.reduceEqDiff, Nat.reduceAdd, Nat.reduceBEq, ↓reduceIte]
    refine ev_if (fun c2 => ?_) (fun c2 => ?_)
    · obtain ⟨b, off, rfl⟩ := hM.base (by omega)
      try simp only [go_sem, Nat.reduceEqDiff, Nat.reduceAdd, Nat.reduceBEq, ↓reduceIte]
      refine ev_if (fun c3 => ?_) (fun c3 => ?_)
      · try simp only [go_sem, Nat.reduceEqDiff, Nat.reduceAdd, Nat.reduceBEq, ↓reduceIte]
        refine ev_ia rfl (by omega) (by omega) ?_
        try simp only [go_sem, Nat.reduceEqDiff, Nat.reduceAdd, Nat.reduceBEq, ↓reduceIte]
        refine ev_ldRow0 hM (by omega) ?_
        intro A1 q1 ha1
        try simp only [go_sem, Nat.reduceEqDiff, Nat.reduceAdd, Nat.reduceBEq, ↓reduceIte]
        refine ev_if (fun c4 => ?_) (fun c4 => ?_)
        · try simp only [go_sem, Nat.reduceEqDiff, Nat.reduceAdd, Nat.reduceBEq, ↓reduceIte]
          refine ev_ia rfl (by omega) (by omega) ?_
          try simp only [go_sem, Nat.reduceEqDiff, Nat.reduceAdd, Nat.reduceBEq, ↓reduceIte]
          refine ev_ldRow0 hM (by omega) ?_
          intro A2 q2 ha2
          try simp only [go_sem, Nat.reduceEqDiff, Nat.reduceAdd, Nat.reduceBEq, ↓reduceIte]
          refine ev_if (fun c5 => ?_) (fun c5 => ?_)
          · try simp only [go_sem, Nat.reduceEqDiff, Nat.reduceAdd, Nat.reduceBEq, ↓reduceIte]
            refine ⟨by trivial, ?_⟩
            unfold evB
            rw [decide_eq_true ⟨by omega, by omega, by omega, by omega, he⟩]
          · try simp only [go_sem, Nat.reduceEqDiff, Nat.reduceAdd, Nat.reduceBEq, ↓reduceIte]
            refine ⟨by trivial, ?_⟩
            unfold evB
            rw [decide_eq_false (fun h => c5 (by omega))]
        · try simp only [go_sem, Nat.reduceEqDiff, Nat.reduceAdd, Nat.reduceBEq, ↓reduceIte]
          refine ⟨by trivial, ?_⟩
          unfold evB
          rw [decide_eq_false (fun h => c4 (by omega))]
      · try simp only [go_sem, Nat.reduceEqDiff, Nat.reduceAdd, Nat.reduceBEq, ↓reduceIte]
        refine ⟨by trivial, ?_⟩
        unfold evB
        rw [decide_eq_false (fun h => c3 (by omega))]
    · try simp only [go_sem, Nat.reduceEqDiff, Nat.reduceAdd, Nat.reduceBEq, ↓reduceIte]
      refine ⟨by trivial, ?_⟩
      unfold evB
      rw [decide_eq_false (fun h => c2 (by omega))]

theorem evenR_ok (H : PH) (A : Option Addr) (n c : Nat) (R : Nat → Rw Rat) (hM : MatH 3 RatC H A n R) (hn : n ≤ 9223372036854775807) : FnP Tryz.prog 57 [.slice A n c] H fun v _ => v = .bool (evB n R) := by
  refine of_mat_even_rat_Rat (by simp) ?_
  try simp only [go_sem, Nat.reduceEqDiff, Nat.reduceAdd, Nat.reduceBEq, ↓reduceIte, p_mat_even_rat_Rat]
  refine ev_loop (fun k s => ∃ i : Nat, k = n - i ∧ i ≤ n ∧ (∀ j, j < i → (R j).1 = (R 0).1) ∧
    s = ⟨[(7, .v (.int .i64 (i : Int))), (6, .v (.int .i64 (n : Int))), (5, .v (.slice A n c)), (0, .v (.slice A n c))], [], H, PH.no⟩) n _ ⟨0, rfl, by omega, fun j hj => by omega, rfl⟩ sub_of ?_
  rintro k s ⟨i, rfl, hi, he, rfl⟩
  try simp only [go_sem, Nat.reduceEqDiff, Nat.reduceAdd, Nat.reduceBEq, ↓reduceIte]
  refine ev_if (fun c1 => ?_) (fun c1 => ?_)
  · obtain ⟨b, off, rfl⟩ := hM.base (by omega)
    try simp only [go_sem, Nat.reduceEqDiff, Nat.reduceAdd, Nat.reduceBEq, ↓reduceIte]
    refine ev_ia rfl (by omega) (by omega) ?_
    rw [Int.toNat_natCast]
    try simp only [go_sem, Nat.reduceEqDiff, Nat.reduceAdd, Nat.reduceBEq, ↓reduceIte]
    refine ev_ldRow hM (by omega) ?_
    intro A1 q1 ha1
    try simp only [go_sem, Nat.reduceEqDiff, Nat.reduceAdd, Nat.reduceBEq, ↓reduceIte]
    refine ev_ia rfl (by omega) (by omega) ?_
    try simp only [go_sem, Nat.reduceEqDiff, Nat.reduceAdd, Nat.reduceBEq, ↓reduceIte]
    refine ev_ldRow0 hM (by omega) ?_
    intro A2 q2 ha2
    try simp only [go_sem, Nat.reduceEqDiff, Nat.reduceAdd, Nat.reduceBEq, ↓reduceIte]
    refine ev_if (fun c2 => ?_) (fun c2 => ?_)
    · try simp only [go_sem, Nat.reduceEqDiff, Nat.reduceAdd, Nat.reduceBEq, ↓reduceIte]
      refine ⟨by trivial, ?_⟩
      unfold evB
      rw [decide_eq_false (fun h => c2 (by rw [h.2.2.2.2 i (by omega)]))]
    · try simp only [go_sem, Nat.reduceEqDiff, Nat.reduceAdd, Nat.reduceBEq, ↓reduceIte]
      rw [w64 ((i : Int) + 1) (by omega) (by omega), show (i : Int) + 1 = ((i + 1 : Nat) : Int) by omega]
      refine k_next (n - (i + 1)) _ (by omega) ⟨i + 1, rfl, by omega, fun j hj => ?_, rfl⟩ sub_of
      by_cases e : j = i
      · subst e
        have := Classical.not_not.1 c2
        omega
      · exact he j (by omega)
  · have hin : i = n := by omega
    subst hin
    try simp only [go_sem, Nat.reduceEqDiff, Nat.reduceAdd, Nat.reduceBEq, ↓reduceIte]
    refine ev_if (fun c2 => ?_) (fun c2 => ?_)
    · obtain ⟨b, off, rfl⟩ := hM.base (by omega)
      try simp only [go_sem, Nat.reduceEqDiff, Nat.reduceAdd, Nat.reduceBEq, ↓reduceIte]
      refine ev_if (fun c3 => ?_) (fun c3 => ?_)
      · try simp only [go_sem, Nat.reduceEqDiff, Nat.reduceAdd, Nat.reduceBEq, ↓reduceIte]
        refine ev_ia rfl (by omega) (by omega) ?_
        try simp only [go_sem, Nat.reduceEqDiff, Nat.reduceAdd, Nat.reduceBEq, ↓reduceIte]
        refine ev_ldRow0 hM (by omega) ?_
        intro A1 q1 ha1
        try simp only [go_sem, Nat.reduceEqDiff, Nat.reduceAdd, Nat.reduceBEq, ↓reduceIte]
        refine ev_if (fun c4 => ?_) (fun c4 => ?_)
        · try simp only [go_sem, Nat.reduceEqDiff, Nat.reduceAdd, Nat.reduceBEq, ↓reduceIte]
          refine ev_ia rfl (by omega) (by omega) ?_
          try simp only [go_sem, Nat.reduceEqDiff, Nat.reduceAdd, Nat.reduceBEq, ↓reduceIte]
          refine ev_ldRow0 hM (by omega) ?_
          intro A2 q2 ha2
          try simp only [go_sem, Nat.reduceEqDiff, Nat.reduceAdd, Nat.reduceBEq, ↓reduceIte]
          refine ev_if (fun c5 => ?_) (fun c5 => ?_)
          · try simp only [go_sem, Nat.reduceEqDiff, Nat.reduceAdd, Nat.reduceBEq, ↓reduceIte]
            refine ⟨by trivial, ?_⟩
            unfold evB
            rw [decide_eq_true ⟨by omega, by omega, by omega, by omega, he⟩]
          · try simp only [go_sem, Nat.reduceEqDiff, Nat.reduceAdd, Nat.reduceBEq, ↓reduceIte]
            refine ⟨by trivial, ?_⟩
            unfold evB
            rw [decide_eq_false (fun h => c5 (by omega))]
        · try simp only [go_sem, Nat.reduceEqDiff, Nat.reduceAdd, Nat.reduceBEq, ↓reduceIte]
          refine ⟨by trivial, ?_⟩
          unfold evB
          rw [decide_eq_false (fun h => c4 (by omega))]
      · try simp only [go_sem, Nat.reduceEqDiff, Nat.reduceAdd, Nat.reduceBEq, ↓reduceIte]
        refine ⟨by trivial, ?_⟩
        unfold evB
        rw [decide_eq_false (fun h => c3 (by omega))]
    · try simp only [go_sem, Nat.reduceEqDiff, Nat.reduceAdd, Nat.reduceBEq, ↓reduceIte]
      refine ⟨by trivial, ?_⟩
      unfold evB
      rw [decide_eq_false (fun h => c2 (by omega))]


/-- all texts are numbers -/
def pOk (n : Nat) (R : Nat → Rw ByteArray) : Prop := ∀ i, i < n → ∀ k, k < (R i).1 → ratOk (bs ((R i).2 k)) = true
/-- a matrix with so many columns, by places -/
abbrev rect {α : Type} (m : Nat) (f : Nat → Nat → α) : Nat → Rw α := fun i => (m, f i)
def prs (R : Nat → Rw ByteArray) : Nat → Nat → Rat := fun i k => rv (bs ((R i).2 k))
/-- what is read so far -/
def prs1 (R : Nat → Rw ByteArray) (i k : Nat) : Nat → Nat → Rat := fun a b => if a < i ∨ (a = i ∧ b < k) then prs R a b else 0
/-- what reading says -/
def ParsedM (H : PH) (v : Value) (n : Nat) (R : Nat → Rw ByteArray) : Prop :=
  (evB n R = false ∧ v = .tuple #[.slice none 0 0, .int .i64 1]) ∨ (evB n R = true ∧ ¬ pOk n R ∧ v = .tuple #[.slice none 0 0, .int .i64 2]) ∨
  (evB n R = true ∧ pOk n R ∧ ∃ A c, v = .tuple #[.slice A n c, .int .i64 0] ∧ MatH 3 RatC H A n (rect (R 0).1 (prs R)))
theorem evB_of {α : Type} {n : Nat} {R : Nat → Rw α} (h : evB n R = true) : 1 ≤ n ∧ n ≤ 12 ∧ 1 ≤ (R 0).1 ∧ (R 0).1 ≤ 12 ∧ ∀ i, i < n → (R i).1 = (R 0).1 := of_decide_eq_true h

set_option maxHeartbeats 1000000 in
theorem parseM_ok (H : PH) (A : Option Addr) (n c : Nat) (R : Nat → Rw ByteArray) (hM : MatH 1 StrC H A n R) (hn : n ≤ 9223372036854775807) : FnP Tryz.prog 26 [.slice A n c] H fun v H' => ParsedM H' v n R := by
  refine Fn.release (of_mat_Parse (by simp) ?_)
  try simp only [go_sem, Nat.reduceEqDiff, Nat.reduceAdd, Nat.reduceBEq, ↓reduceIte, p_mat_Parse]
  first | refine ev_call (evenS_ok _ A n c R hM hn) ?_ | refine ev_callP (evenS_ok _ A n c R hM hn) ?_
  rintro v_1 H_1 le_1 rfl _
  try simp only [go_sem, Nat.reduceEqDiff, Nat.reduceAdd, Nat.reduceBEq, ↓reduceIte]
  have hM := hM.le StrC.grows (by assumption)
  cases he : evB n R with
  | false =>
    try simp only [go_sem, Nat.reduceEqDiff, Nat.reduceAdd, Nat.reduceBEq, ↓reduceIte, he]
    exact fun _ => .inl ⟨he, rfl⟩
  | true =>
    obtain ⟨n1, n2, m1, m2, hr⟩ := evB_of he
    obtain ⟨b, off, rfl⟩ := hM.base (by omega)
    try simp only [go_sem, Nat.reduceEqDiff, Nat.reduceAdd, Nat.reduceBEq, ↓reduceIte, he]
    refine ev_ia rfl (by omega) (by omega) ?_
    try simp only [go_sem, Nat.reduceEqDiff, Nat.reduceAdd, Nat.reduceBEq, ↓reduceIte]
    refine ev_ldRow0 hM (by omega) ?_
    intro A1 q1 ha1
    try simp only [go_sem, Nat.reduceEqDiff, Nat.reduceAdd, Nat.reduceBEq, ↓reduceIte]
    refine ev_callM (none_ok _ n (R 0).1 (by omega) (by omega)) ?_
    rintro v H2 M2 hle2 ⟨g, ra, rfl, hO⟩ hd
    have hM := hM.le StrC.grows hle2
    clear ha1
    try simp only [go_sem, Nat.reduceEqDiff, Nat.reduceAdd, Nat.reduceBEq, ↓reduceIte]
    refine ev_loop (fun k s => ∃ (i : Nat) (H3 M3 : PH), k = n - i ∧ i ≤ n ∧ MatH 1 StrC H3 (some ⟨b, off, none⟩) n R ∧ PH.disj H3 M3 ∧ (∀ a, a < i → ∀ b, b < (R 0).1 → ratOk (bs ((R a).2 b)) = true) ∧
      MatO 3 RatC 36 64 H3 M3 (some ⟨g, 0, none⟩) n n ra (fun _ => (R 0).1) (rect (R 0).1 (prs1 R i 0)) ∧
      s = ⟨[(23, .v (.int .i64 (i : Int))), (22, .v (.int .i64 (n : Int))), (21, .v (.slice (some ⟨b, off, none⟩) n c)), (4, .v (.slice (some ⟨g, 0, none⟩) n n))], [], H3, M3⟩) n _ ⟨0, H2, M2, rfl, by omega, hM, hd, fun a ha => by omega, hO.congr (fun a ha => ⟨rfl, fun b hb => by show 0 = prs1 R 0 0 a b; unfold prs1; rw [if_neg (by omega)]⟩), rfl⟩ sub_of ?_
    rintro k s ⟨i, H3, M3, rfl, hi, hM3, hd3, hok, hO3, rfl⟩
    try simp only [go_sem, Nat.reduceEqDiff, Nat.reduceAdd, Nat.reduceBEq, ↓reduceIte]
    refine ev_if (fun c1 => ?_) (fun c1 => ?_)
    · try simp only [go_sem, Nat.reduceEqDiff, Nat.reduceAdd, Nat.reduceBEq, ↓reduceIte]
      refine ev_ia rfl (by omega) (by omega) ?_
      rw [Int.toNat_natCast]
      try simp only [go_sem, Nat.reduceEqDiff, Nat.reduceAdd, Nat.reduceBEq, ↓reduceIte]
      refine ev_ldRow hM3 (by omega) ?_
      intro A2 q2 ha2
      have hri := hr i (by omega)
      obtain ⟨b2, off2, rfl⟩ := ha2.base (by omega)
      try simp only [go_sem, Nat.reduceEqDiff, Nat.reduceAdd, Nat.reduceBEq, ↓reduceIte]
      refine ev_loop (fun k s => ∃ (j : Nat) (H4 M4 : PH), k = (R 0).1 - j ∧ j ≤ (R 0).1 ∧ MatH 1 StrC H4 (some ⟨b, off, none⟩) n R ∧ ArrF 1 StrC H4 (some ⟨b2, off2, none⟩) (R i).1 (R i).2 ∧ PH.disj H4 M4 ∧ (∀ b, b < j → ratOk (bs ((R i).2 b)) = true) ∧
        MatO 3 RatC 36 64 H4 M4 (some ⟨g, 0, none⟩) n n ra (fun _ => (R 0).1) (rect (R 0).1 (prs1 R i j)) ∧
        s = ⟨[(30, .v (.int .i64 (j : Int))), (29, .v (.int .i64 ((R i).1 : Int))), (28, .v (.slice (some ⟨b2, off2, none⟩) (R i).1 q2)), (23, .v (.int .i64 (i : Int))), (22, .v (.int .i64 (n : Int))), (21, .v (.slice (some ⟨b, off, none⟩) n c)), (5, .v (.int .i64 (i : Int))), (4, .v (.slice (some ⟨g, 0, none⟩) n n))], [], H4, M4⟩) (R 0).1 _ ⟨0, H3, M3, rfl, by omega, hM3, ha2, hd3, fun b hb => by omega, hO3, rfl⟩ sub_of ?_
      rintro k s ⟨j, H4, M4, rfl, hj, hM4, ha4, hd4, hok4, hO4, rfl⟩
      try simp only [go_sem, Nat.reduceEqDiff, Nat.reduceAdd, Nat.reduceBEq, ↓reduceIte]
      refine ev_if (fun c2 => ?_) (fun c2 => ?_)
      · try simp only [go_sem, Nat.reduceEqDiff, Nat.reduceAdd, Nat.reduceBEq, ↓reduceIte]
        refine ev_ia rfl (by omega) (by omega) ?_
        rw [Int.toNat_natCast]
        try simp only [go_sem, Nat.reduceEqDiff, Nat.reduceAdd, Nat.reduceBEq, ↓reduceIte]
        refine ev_ldF1 ha4 (by omega) ?_
        rintro u ⟨hu, hsz⟩
        injection hu with hu _
        subst hu
        try simp only [go_sem, Nat.reduceEqDiff, Nat.reduceAdd, Nat.reduceBEq, ↓reduceIte]
        first | refine ev_call (rparse'_ok _ _ hsz) ?_ | refine ev_callP (rparse'_ok _ _ hsz) ?_
        rintro v_2 H_2 le_2 ⟨w, rfl, h5⟩ _
        try simp only [go_sem, Nat.reduceEqDiff, Nat.reduceAdd, Nat.reduceBEq, ↓reduceIte]
        have hM4 := hM4.le StrC.grows (by assumption)
        have ha4 := ha4.le StrC.grows (by assumption)
        have hO4 := hO4.leH RatC.grows (by assumption)
        obtain ⟨A5, l5, c5, b5, B5, m5, e5, rfl⟩ := h5.form
        cases hk : ratOk (bs ((R i).2 j)) with
        | false =>
          try simp only [go_sem, Nat.reduceEqDiff, Nat.reduceAdd, Nat.reduceBEq, ↓reduceIte, hk]
          refine ev_pos (by decide) ?_
          try simp only [go_sem, Nat.reduceEqDiff, Nat.reduceAdd, Nat.reduceBEq, ↓reduceIte]
          refine fun _ => .inr (.inl ⟨he, fun h => ?_, rfl⟩)
          rw [h i (by omega) j (by omega)] at hk
          cases hk
        | true =>
          rw [hk, if_pos rfl] at h5
          try simp only [go_sem, Nat.reduceEqDiff, Nat.reduceAdd, Nat.reduceBEq, ↓reduceIte, hk]
          refine ev_neg (by decide) ?_
          try simp only [go_sem, Nat.reduceEqDiff, Nat.reduceAdd, Nat.reduceBEq, ↓reduceIte]
          refine ev_ia rfl (by omega) (by omega) ?_
          rw [Int.toNat_natCast]
          try simp only [go_sem, Nat.reduceEqDiff, Nat.reduceAdd, Nat.reduceBEq, ↓reduceIte]
          obtain ⟨b6, hb6⟩ := hO4.base (show i < n by omega) (show 0 < (R 0).1 by omega)
          refine ev_ldTop hO4 (by omega) ?_
          rw [hb6]
          try simp only [go_sem, Nat.reduceEqDiff, Nat.reduceAdd, Nat.reduceBEq, ↓reduceIte]
          refine ev_ia rfl (by omega) (by show (j : Int) < ((R 0).1 : Int); omega) ?_
          rw [Int.toNat_natCast]
          try simp only [go_sem, Nat.reduceEqDiff, Nat.reduceAdd, Nat.reduceBEq, ↓reduceIte]
          refine ev_stEl (x := rv (bs ((R i).2 j))) hO4 (by omega) hb6 (by show j < (R 0).1; omega) (by assumption) rfl (by simp [cellsL, Value.oneCell']) h5 ?_
          intro M6 hO6 hd6
          try simp only [go_sem, Nat.reduceEqDiff, Nat.reduceAdd, Nat.reduceBEq, ↓reduceIte]
          rw [w64 ((j : Int) + 1) (by omega) (by omega), show (j : Int) + 1 = ((j + 1 : Nat) : Int) by omega]
          refine k_next ((R 0).1 - (j + 1)) _ (by omega) ⟨j + 1, _, M6, rfl, by omega, hM4, ha4, hd6 _ (by assumption), fun b hb => ?_, hO6.congr (fun a ha => ?_), rfl⟩ sub_of
          · by_cases e : b = j
            · subst e; exact hk
            · exact hok4 b (by omega)
          · unfold upM
            by_cases e : a = i
            · subst e
              rw [if_pos rfl]
              refine ⟨rfl, fun b hb => ?_⟩
              show upF (fun b => prs1 R a j a b) j (rv (bs ((R a).2 j))) b = prs1 R a (j + 1) a b
              unfold upF prs1
              by_cases e2 : b = j
              · subst e2
                rw [if_pos rfl, if_pos (by omega)]
                rfl
              · rw [if_neg e2]
                dsimp only
                by_cases e3 : b < j
                · rw [if_pos (by omega), if_pos (by omega)]
                · rw [if_neg (by omega), if_neg (by omega)]
            · rw [if_neg e]
              refine ⟨rfl, fun b hb => ?_⟩
              show prs1 R i j a b = prs1 R i (j + 1) a b
              unfold prs1
              by_cases e3 : a < i
              · rw [if_pos (by omega), if_pos (by omega)]
              · rw [if_neg (by omega), if_neg (by omega)]
      · have hj' : j = (R 0).1 := by omega
        try simp only [go_sem, Nat.reduceEqDiff, Nat.reduceAdd, Nat.reduceBEq, ↓reduceIte]
        rw [w64 ((i : Int) + 1) (by omega) (by omega), show (i : Int) + 1 = ((i + 1 : Nat) : Int) by omega]
        refine k_next (n - (i + 1)) _ (by omega) ⟨i + 1, H4, M4, rfl, by omega, hM4, hd4, fun a ha b hb => ?_, hO4.congr (fun a ha => ⟨rfl, fun b hb => ?_⟩), rfl⟩ sub_of
        · by_cases e : a = i
          · subst e; exact hok4 b (by omega)
          · exact hok a (by omega) b hb
        · show prs1 R i j a b = prs1 R (i + 1) 0 a b
          have hb' : b < (R 0).1 := hb
          unfold prs1
          by_cases e3 : a ≤ i
          · rw [if_pos (by omega), if_pos (by omega)]
          · rw [if_neg (by omega), if_neg (by omega)]
    · have hin : i = n := by omega
      try simp only [go_sem, Nat.reduceEqDiff, Nat.reduceAdd, Nat.reduceBEq, ↓reduceIte]
      refine fun hd => .inr (.inr ⟨he, fun a ha b hb => hok a (by omega) b (by rw [← hr a ha]; exact hb), _, _, rfl, (hO3.mat RatC.grows hd).congr fun a ha => ⟨rfl, fun b hb => ?_⟩⟩)
      show prs1 R i 0 a b = prs R a b
      unfold prs1
      rw [if_pos (by omega)]

end Go.Proofs.YtccdhgjfcgfgoaaGreat.X
set_option linter.unusedVariables false
set_option linter.unusedSimpArgs false
namespace Go.Proofs.YtccdhgjfcgfgoaaGreat.X
open Go Go.RowKit Go.Proofs

section
variable {α : Type} {w : Nat} {P : PH → List Value → α → Prop} {T Tr Tm : TypeId} {H H' M M' M2 M3 : PH} {A A' B B' : Option Addr} {n c c' m cB : Nat} {ra : Nat → Option Addr} {rc : Nat → Nat} {R R' : Nat → Rw α} {f : Nat → α}

theorem OwnF.live (h : OwnF w P T H M A n f c) : A = none ∨ ∃ b o, A = some ⟨b, 0, none⟩ ∧ M b = some o := by
  rcases h with ⟨h, _⟩ | ⟨g, cs, h1, h2, _⟩
  · exact .inl h
  · exact .inr ⟨g, _, h1, h2⟩
/-- a row apart from rows of rows -/
def Apart (B A : Option Addr) (n : Nat) (ra : Nat → Option Addr) : Prop := (B = none ∨ B ≠ A) ∧ ∀ i, i < n → B = none ∨ B ≠ ra i
theorem Apart.none {A : Option Addr} {n : Nat} {ra : Nat → Option Addr} : Apart none A n ra := ⟨.inl rfl, fun _ _ => .inl rfl⟩
/-- in no block so far -/
def New (M : PH) (B : Option Addr) : Prop := ∀ b o, M b = some o → B ≠ some ⟨b, 0, .none⟩
theorem New.ne (h : New M B) (k : A = .none ∨ ∃ b o, A = some ⟨b, 0, .none⟩ ∧ M b = some o) : A = .none ∨ B ≠ A := by
  rcases k with k | ⟨b, o, h1, h2⟩
  · exact .inl k
  · exact .inr fun e => h b o h2 (e.trans h1)
theorem MatO.apart (h : MatO w P Tr Tm H M A n c ra rc R) (hB : New M B) : Apart B A n ra := by
  have key : ∀ A : Option Addr, (A = .none ∨ ∃ b o, A = some ⟨b, 0, .none⟩ ∧ M b = some o) → B = .none ∨ B ≠ A := fun A k => by
    rcases k with k | ⟨b, o, h1, h2⟩
    · cases B with
      | none => exact .inl rfl
      | some x => exact .inr (by rw [k]; simp)
    · exact .inr fun e => hB b o h2 (e.trans h1)
  exact ⟨key A h.top.live, fun i hi => key _ (h.row i hi).live⟩
theorem MatO.but (h : MatO w P Tr Tm H M A n c ra rc R) (hb : But M M' B) (hB : Apart B A n ra) : MatO w P Tr Tm H M' A n c ra rc R := by
  have key : ∀ A : Option Addr, (B = .none ∨ B ≠ A) → A = .none ∨ A ≠ B := fun A k => by
    rcases k with k | k
    · cases A with
      | none => exact .inl rfl
      | some x => exact .inr (by rw [k]; simp)
    · exact .inr fun e => k e.symm
  exact ⟨h.top.but hb (key _ hB.1), fun i hi => (h.row i hi).but hb (key _ (hB.2 i hi)), h.ne, h.inj⟩
/-- a row more -/
theorem MatO.push (h : MatO w P Tr Tm H M A n c ra rc R) (hr : OwnF w P Tr H M B m f cB) (hB : Apart B A n ra) (hle : M.le M2)
    (hO : OwnF 1 SlC Tm H M3 A' (n + 1) (thenF n (fun i => (ra i, (R i).1, rc i)) (fun _ => (B, m, cB))) c') (hb : But M2 M3 A) (hA : A' = A ∨ New M2 A') :
    MatO w P Tr Tm H M3 A' (n + 1) c' (fun i => if i = n then B else ra i) (fun i => if i = n then cB else rc i) (fun i => if i = n then (m, f) else R i) := by
  refine ⟨hO.congr fun i hi => ?_, fun i hi => ?_, fun i hi => ?_, fun i j hi hj hij => ?_⟩
  · try dsimp only [thenF]
    by_cases e : i = n
    · subst e
      rw [if_neg (by omega), if_pos rfl, if_pos rfl, if_pos rfl]
    · rw [if_pos (by omega), if_neg e, if_neg e, if_neg e]
  · try dsimp only
    by_cases e : i = n
    · subst e
      rw [if_pos rfl, if_pos rfl, if_pos rfl]
      exact (hr.leM hle).but hb hB.1
    · rw [if_neg e, if_neg e, if_neg e]
      exact ((h.row i (by omega)).leM hle).but hb (h.ne i (by omega))
  · try dsimp only
    by_cases e : i = n
    · rw [if_pos e]
      rcases hA with rfl | hA
      · exact hB.1
      · rcases (hr.leM hle).live with k | ⟨b, o, h1, h2⟩
        · exact .inl k
        · exact .inr fun e => hA b o h2 (e ▸ h1)
    · rw [if_neg e]
      rcases hA with rfl | hA
      · exact h.ne i (by omega)
      · rcases ((h.row i (by omega)).leM hle).live with k | ⟨b, o, h1, h2⟩
        · exact .inl k
        · exact .inr fun e => hA b o h2 (e ▸ h1)
  · try dsimp only
    by_cases e : i = n
    · rw [if_pos e, if_neg (by omega)]
      exact hB.2 j (by omega)
    · rw [if_neg e]
      by_cases e2 : j = n
      · rw [if_pos e2]
        rcases hB.2 i (by omega) with k | k
        · cases hq : ra i with
          | none => exact .inl rfl
          | some x => exact .inr (by rw [k]; simp)
        · exact .inr fun e => k e.symm
      · rw [if_neg e2]
        exact h.inj i j (by omega) (by omega) hij
end

theorem sameTexts_ok (H : PH) (A B : Option Addr) (n m c e : Nat) (f h : Nat → ByteArray) (hA : ArrF 1 StrC H A n f) (hB : ArrF 1 StrC H B m h) (hn : n ≤ 9223372036854775807) : FnP Tryz.prog 89 [.slice A n c, .slice B m e] H fun v _ => v = .bool (decide (n = m ∧ ∀ i, i < n → f i = h i)) := by
  refine of_cincturebook_SameTexts (by simp) ?_
  try simp only [go_sem, Nat.reduceEqDiff, Nat.reduceAdd, Nat.reduceBEq, ↓reduceIte, p_cincturebook_SameTexts]
  refine ev_if (fun c1 => ?_) (fun c1 => ?_)
  · try simp only [go_sem, Nat.reduceEqDiff, Nat.reduceAdd, Nat.reduceBEq, ↓reduceIte]
    refine ⟨by trivial, ?_⟩
    rw [decide_eq_false (fun h => c1 (by rw [h.1]))]
  · have hnm : n = m := by have := Classical.not_not.1 c1; omega
    subst hnm
    try simp only [go_sem, Nat.reduceEqDiff, Nat.reduceAdd, Nat.reduceBEq, ↓reduceIte]
    refine ev_loop (fun k s => ∃ i : Nat, k = n - i ∧ i ≤ n ∧ (∀ j, j < i → f j = h j) ∧
      s = ⟨[(5, .v (.int .i64 (i : Int))), (1, .v (.slice B n e)), (0, .v (.slice A n c))], [], H, PH.no⟩) n _ ⟨0, rfl, by omega, fun j hj => by omega, rfl⟩ sub_of ?_
    rintro k s ⟨i, rfl, hi, he, rfl⟩
    try simp only [go_sem, Nat.reduceEqDiff, Nat.reduceAdd, Nat.reduceBEq, ↓reduceIte]
    refine ev_if (fun c2 => ?_) (fun c2 => ?_)
    · obtain ⟨b, off, rfl⟩ := hA.base (by omega)
      obtain ⟨b2, off2, rfl⟩ := hB.base (by omega)
      try simp only [go_sem, Nat.reduceEqDiff, Nat.reduceAdd, Nat.reduceBEq, ↓reduceIte]
      refine ev_ia rfl (by omega) (by omega) ?_
      rw [Int.toNat_natCast]
      try simp only [go_sem, Nat.reduceEqDiff, Nat.reduceAdd, Nat.reduceBEq, ↓reduceIte]
      refine ev_ldF1 hA (by omega) ?_
      rintro u ⟨hu, _⟩
      injection hu with hu _
      subst hu
      try simp only [go_sem, Nat.reduceEqDiff, Nat.reduceAdd, Nat.reduceBEq, ↓reduceIte]
      refine ev_ia rfl (by omega) (by omega) ?_
      rw [Int.toNat_natCast]
      try simp only [go_sem, Nat.reduceEqDiff, Nat.reduceAdd, Nat.reduceBEq, ↓reduceIte]
      refine ev_ldF1 hB (by omega) ?_
      rintro u ⟨hu, _⟩
      injection hu with hu _
      subst hu
      try simp only [go_sem, Nat.reduceEqDiff, Nat.reduceAdd, Nat.reduceBEq, ↓reduceIte]
      refine ev_if (fun c3 => ?_) (fun c3 => ?_)
      · try simp only [go_sem, Nat.reduceEqDiff, Nat.reduceAdd, Nat.reduceBEq, ↓reduceIte]
        refine ⟨by trivial, ?_⟩
        rw [decide_eq_false (fun h => c3 (h.2 i (by omega)))]
      · try simp only [go_sem, Nat.reduceEqDiff, Nat.reduceAdd, Nat.reduceBEq, ↓reduceIte]
        rw [w64 ((i : Int) + 1) (by omega) (by omega), show (i : Int) + 1 = ((i + 1 : Nat) : Int) by omega]
        refine k_next (n - (i + 1)) _ (by omega) ⟨i + 1, rfl, by omega, fun j hj => ?_, rfl⟩ sub_of
        by_cases e : j = i
        · subst e
          exact Classical.not_not.1 c3
        · exact he j (by omega)
    · have hin : i = n := by omega
      subst hin
      try simp only [go_sem, Nat.reduceEqDiff, Nat.reduceAdd, Nat.reduceBEq, ↓reduceIte]
      refine ⟨by trivial, ?_⟩
      rw [decide_eq_true (by exact ⟨by trivial, he⟩)]

/-- the same rows -/
def SameR (n m : Nat) (R S : Nat → Rw ByteArray) : Prop := n = m ∧ ∀ i, i < n → (R i).1 = (S i).1 ∧ ∀ k, k < (R i).1 → (R i).2 k = (S i).2 k

theorem sameRows_ok (H : PH) (A B : Option Addr) (n m c e : Nat) (R S : Nat → Rw ByteArray) (hA : MatH 1 StrC H A n R) (hB : MatH 1 StrC H B m S) (hn : n ≤ 9223372036854775807) (hr : ∀ i, i < n → (R i).1 ≤ 9223372036854775807) (hs : SameR n m R S) : FnP Tryz.prog 48 [.slice A n c, .slice B m e] H fun v _ => v = .bool true := by
  obtain ⟨rfl, hs⟩ := hs
  refine of_cincturebook_SameRows (by simp) ?_
  try simp only [go_sem, Nat.reduceEqDiff, Nat.reduceAdd, Nat.reduceBEq, ↓reduceIte, p_cincturebook_SameRows]
  refine ev_neg (by simp) ?_
  try simp only [go_sem, Nat.reduceEqDiff, Nat.reduceAdd, Nat.reduceBEq, ↓reduceIte]
  refine ev_loop (fun k s => ∃ (i : Nat) (H2 : PH), k = n - i ∧ i ≤ n ∧ MatH 1 StrC H2 A n R ∧ MatH 1 StrC H2 B n S ∧
    s = ⟨[(5, .v (.int .i64 (i : Int))), (1, .v (.slice B n e)), (0, .v (.slice A n c))], [], H2, PH.no⟩) n _ ⟨0, H, rfl, by omega, hA, hB, rfl⟩ sub_of ?_
  rintro k s ⟨i, H2, rfl, hi, hA, hB, rfl⟩
  try simp only [go_sem, Nat.reduceEqDiff, Nat.reduceAdd, Nat.reduceBEq, ↓reduceIte]
  refine ev_if (fun c2 => ?_) (fun c2 => ?_)
  · obtain ⟨b, off, rfl⟩ := hA.base (by omega)
    obtain ⟨b2, off2, rfl⟩ := hB.base (by omega)
    try simp only [go_sem, Nat.reduceEqDiff, Nat.reduceAdd, Nat.reduceBEq, ↓reduceIte]
    refine ev_ia rfl (by omega) (by omega) ?_
    rw [Int.toNat_natCast]
    try simp only [go_sem, Nat.reduceEqDiff, Nat.reduceAdd, Nat.reduceBEq, ↓reduceIte]
    refine ev_ldRow hA (by omega) ?_
    intro A3 q3 ha3
    try simp only [go_sem, Nat.reduceEqDiff, Nat.reduceAdd, Nat.reduceBEq, ↓reduceIte]
    refine ev_ia rfl (by omega) (by omega) ?_
    rw [Int.toNat_natCast]
    try simp only [go_sem, Nat.reduceEqDiff, Nat.reduceAdd, Nat.reduceBEq, ↓reduceIte]
    refine ev_ldRow hB (by omega) ?_
    intro A4 q4 ha4
    first | refine ev_call (sameTexts_ok _ _ _ _ _ _ _ _ _ ha3 ha4 (hr i (by omega))) ?_ | refine ev_callP (sameTexts_ok _ _ _ _ _ _ _ _ _ ha3 ha4 (hr i (by omega))) ?_
    rintro v_1 H_1 le_1 rfl _
    try simp only [go_sem, Nat.reduceEqDiff, Nat.reduceAdd, Nat.reduceBEq, ↓reduceIte]
    have hA := MatH.le StrC.grows hA (by assumption)
    have hB := MatH.le StrC.grows hB (by assumption)
    rw [decide_eq_true (hs i (by omega))]
    try simp only [go_sem, Nat.reduceEqDiff, Nat.reduceAdd, Nat.reduceBEq, ↓reduceIte]
    rw [w64 ((i : Int) + 1) (by omega) (by omega), show (i : Int) + 1 = ((i + 1 : Nat) : Int) by omega]
    exact k_next (n - (i + 1)) _ (by omega) ⟨i + 1, _, rfl, by omega, hA, hB, rfl⟩ sub_of
  · have hin : i = n := by omega
    subst hin
    try simp only [go_sem, Nat.reduceEqDiff, Nat.reduceAdd, Nat.reduceBEq, ↓reduceIte]
    exact ⟨by trivial, by trivial⟩

end Go.Proofs.YtccdhgjfcgfgoaaGreat.X
set_option linter.unusedVariables false
set_option linter.unusedSimpArgs false
namespace Go.Proofs.YtccdhgjfcgfgoaaGreat.X
open Go Go.RowKit Go.Proofs

def tx (q : Rat) : ByteArray := ofB (rtx q)
theorem tx_size (q : Rat) (hb : br q ≤ 4294967000) : (tx q).size ≤ 9223372036854775807 := by
  unfold tx
  rw [ofB_size]
  have h1 := itxt_size q.num (by have := bi_br q; omega)
  have h2 := txt_size q.den (by have := q.den_pos; omega) (by have := bl_br q; omega)
  unfold rtx
  split
  · omega
  · rw [List.length_append, List.length_cons]; omega
def txR (R : Nat → Rw Rat) : Nat → Rw ByteArray := fun i => ((R i).1, fun k => tx ((R i).2 k))

theorem one_cell {α : Type} {P : PH → List Value → α → Prop} {H : PH} {u : Value} {x : α} {n : Nat} (hn : n = 1) (h1 : u.oneCell' = true) (hx : P H [u] x) : ∀ i, i < n → ∃ us, takeN 1 ([u].drop (i * 1)) = some us ∧ (∀ u ∈ us, u.oneCell' = true) ∧ P H us x := by
  intro i hi
  have : i = 0 := by omega
  subst this
  exact ⟨[u], rfl, fun v hv => by rw [List.mem_singleton.1 hv]; exact h1, hx⟩

set_option maxHeartbeats 1000000 in
theorem plainM_ok (H : PH) (A0 : Option Addr) (n c0 : Nat) (R : Nat → Rw Rat) (hM : MatH 3 RatC H A0 n R) (hn : n ≤ 1000) (hr : ∀ i, i < n → (R i).1 ≤ 1000) (hb : ∀ i, i < n → ∀ k, k < (R i).1 → br ((R i).2 k) ≤ 4294967000) :
    FnP Tryz.prog 49 [.slice A0 n c0] H fun v H' => ∃ A c, v = .slice A n c ∧ MatH 1 StrC H' A n (txR R) := by
  refine Fn.release (of_mat_Plain (by simp) ?_)
  try simp only [go_sem, Nat.reduceEqDiff, Nat.reduceAdd, Nat.reduceBEq, ↓reduceIte, p_mat_Plain]
  refine ev_loop (fun k s => ∃ (i : Nat) (H2 M2 : PH) (A : Option Addr) (c : Nat) (ra : Nat → Option Addr) (rc : Nat → Nat), k = n - i ∧ i ≤ n ∧ MatH 3 RatC H2 A0 n R ∧ PH.disj H2 M2 ∧
    MatO 1 StrC 9 70 H2 M2 A i c ra rc (txR R) ∧
    s = ⟨[(11, .v (.int .i64 (i : Int))), (10, .v (.int .i64 (n : Int))), (9, .v (.slice A0 n c0)), (3, .v (.slice A i c))], [], H2, M2⟩) n _ ⟨0, H, PH.no, none, 0, fun _ => none, fun _ => 0, rfl, by omega, hM, PH.disj_no _, MatO.nil, rfl⟩ sub_of ?_
  rintro k s ⟨i, H2, M2, A, c, ra, rc, rfl, hi, hM2, hd2, hO2, rfl⟩
  try simp only [go_sem, Nat.reduceEqDiff, Nat.reduceAdd, Nat.reduceBEq, ↓reduceIte]
  refine ev_if (fun c1 => ?_) (fun c1 => ?_)
  · obtain ⟨b, off, rfl⟩ := hM2.base (by omega)
    have hri := hr i (by omega)
    try simp only [go_sem, Nat.reduceEqDiff, Nat.reduceAdd, Nat.reduceBEq, ↓reduceIte]
    refine ev_ia rfl (by omega) (by omega) ?_
    rw [Int.toNat_natCast]
    try simp only [go_sem, Nat.reduceEqDiff, Nat.reduceAdd, Nat.reduceBEq, ↓reduceIte]
    refine ev_ldRow hM2 (by omega) ?_
    intro A3 q3 ha3
    try simp only [go_sem, Nat.reduceEqDiff, Nat.reduceAdd, Nat.reduceBEq, ↓reduceIte]
    refine ev_loop (fun k s => ∃ (j : Nat) (H4 M4 : PH) (B : Option Addr) (cB : Nat), k = (R i).1 - j ∧ j ≤ (R i).1 ∧ MatH 3 RatC H4 (some ⟨b, off, none⟩) n R ∧ ArrF 3 RatC H4 A3 (R i).1 (R i).2 ∧ PH.disj H4 M4 ∧
      MatO 1 StrC 9 70 H4 M4 A i c ra rc (txR R) ∧ OwnF 1 StrC 9 H4 M4 B j (fun k => tx ((R i).2 k)) cB ∧ Apart B A i ra ∧
      s = ⟨[(17, .v (.int .i64 (j : Int))), (16, .v (.int .i64 ((R i).1 : Int))), (15, .v (.slice A3 (R i).1 q3)), (11, .v (.int .i64 (i : Int))), (10, .v (.int .i64 (n : Int))), (9, .v (.slice (some ⟨b, off, none⟩) n c0)), (6, .v (.slice B j cB)), (3, .v (.slice A i c))], [], H4, M4⟩) (R i).1 _ ⟨0, H2, M2, none, 0, rfl, by omega, hM2, ha3, hd2, hO2, OwnF.nil, Apart.none, rfl⟩ sub_of ?_
    rintro k s ⟨j, H4, M4, B, cB, rfl, hj, hM4, ha4, hd4, hO4, hB4, hap, rfl⟩
    try simp only [go_sem, Nat.reduceEqDiff, Nat.reduceAdd, Nat.reduceBEq, ↓reduceIte]
    refine ev_if (fun c2 => ?_) (fun c2 => ?_)
    · obtain ⟨b3, off3, rfl⟩ := ha4.base (by omega)
      try simp only [go_sem, Nat.reduceEqDiff, Nat.reduceAdd, Nat.reduceBEq, ↓reduceIte]
      refine ev_ia rfl (by omega) (by omega) ?_
      rw [Int.toNat_natCast]
      try simp only [go_sem, Nat.reduceEqDiff, Nat.reduceAdd, Nat.reduceBEq, ↓reduceIte]
      refine ev_ldF ha4 (by omega) ?_
      intro us hq _
      obtain ⟨A5, l5, c5, b5, B5, m5, e5, hf⟩ := RatV.form hq
      have hq : RatV H4 (.agg us.toArray) ((R i).2 j) := hq
      rw [hf] at hq ⊢
      try simp only [go_sem, Nat.reduceEqDiff, Nat.reduceAdd, Nat.reduceBEq, ↓reduceIte]
      have hbq := hb i (by omega) j (by omega)
      first | refine ev_call (rtext_ok' _ _ _ hq hbq) ?_ | refine ev_callP (rtext_ok' _ _ _ hq hbq) ?_
      rintro v_1 H_1 le_1 rfl _
      try simp only [go_sem, Nat.reduceEqDiff, Nat.reduceAdd, Nat.reduceBEq, ↓reduceIte]
      have hM4 := MatH.le RatC.grows hM4 (by assumption)
      have ha4 := ha4.le RatC.grows (by assumption)
      have hO4 := hO4.leH StrC.grows (by assumption)
      have hB4 := hB4.leH StrC.grows (by assumption)
      refine ev_bslF (w := 1) (P := StrC) (f := fun _ => tx ((R i).2 j)) rfl (by omega) (one_cell rfl rfl ⟨rfl, tx_size _ hbq⟩) (by assumption) ?_
      intro g5 M5 hO5 hle5 hg5 hd5
      try simp only [go_sem, Nat.reduceEqDiff, Nat.reduceAdd, Nat.reduceBEq, ↓reduceIte]
      refine ev_appF (by decide) (hB4.leM hle5) (hO5.src (by decide)) rfl (by decide) (by omega) (by omega) hd5 ?_
      intro B' cB' M6 hO6 hb6 hA6 hd6
      try simp only [go_sem, Nat.reduceEqDiff, Nat.reduceAdd, Nat.reduceBEq, ↓reduceIte]
      rw [w64 ((j : Int) + 1) (by omega) (by omega), show (j : Int) + 1 = ((j + 1 : Nat) : Int) by omega]
      have hap' : Apart B' A i ra := by
        rcases hA6 with rfl | h
        · exact hap
        · exact (hO4.leM hle5).apart h
      refine k_next ((R i).1 - (j + 1)) _ (by omega) ⟨j + 1, _, M6, B', cB', rfl, by omega, hM4, ha4, hd6, (hO4.leM hle5).but hb6 hap, hO6.congr (fun k hk => ?_), hap', rfl⟩ sub_of
      unfold thenF
      by_cases e : k < j
      · rw [if_pos e]
      · rw [if_neg e]
        have : k = j := by omega
        subst this
        rfl
    · have hj' : j = (R i).1 := by omega
      subst hj'
      try simp only [go_sem, Nat.reduceEqDiff, Nat.reduceAdd, Nat.reduceBEq, ↓reduceIte]
      refine ev_bslF (w := 1) (P := SlC) (f := fun _ => (B, (R i).1, cB)) rfl (by omega) (one_cell rfl rfl rfl) hd4 ?_
      intro g5 M5 hO5 hle5 hg5 hd5
      try simp only [go_sem, Nat.reduceEqDiff, Nat.reduceAdd, Nat.reduceBEq, ↓reduceIte]
      refine ev_appF (by decide) (hO4.top.leM hle5) (hO5.src (by decide)) rfl (by decide) (by omega) (by omega) hd5 ?_
      intro A' c' M6 hO6 hb6 hA6 hd6
      try simp only [go_sem, Nat.reduceEqDiff, Nat.reduceAdd, Nat.reduceBEq, ↓reduceIte]
      rw [w64 ((i : Int) + 1) (by omega) (by omega), show (i : Int) + 1 = ((i + 1 : Nat) : Int) by omega]
      have hO7 := hO4.push hB4 hap hle5 hO6 hb6 hA6
      refine k_next (n - (i + 1)) _ (by omega) ⟨i + 1, H4, M6, A', c', _, _, rfl, by omega, hM4, hd6, hO7.congr (fun a ha => ?_), rfl⟩ sub_of
      try dsimp only
      by_cases e : a = i
      · subst e
        rw [if_pos rfl]
        exact ⟨rfl, fun _ _ => rfl⟩
      · rw [if_neg e]
        exact ⟨rfl, fun _ _ => rfl⟩
  · have hin : i = n := by omega
    subst hin
    try simp only [go_sem, Nat.reduceEqDiff, Nat.reduceAdd, Nat.reduceBEq, ↓reduceIte]
    exact fun hd => ⟨_, _, rfl, hO2.mat StrC.grows hd⟩

set_option maxHeartbeats 1000000 in
theorem plainMR_ok (H : PH) (A0 : Option Addr) (n c0 : Nat) (R : Nat → Rw Rat) (hM : MatH 3 RRatC H A0 n R) (hn : n ≤ 1000) (hr : ∀ i, i < n → (R i).1 ≤ 1000) (hb : ∀ i, i < n → ∀ k, k < (R i).1 → br ((R i).2 k) ≤ 4294967000) :
    FnP Tryz.prog 50 [.slice A0 n c0] H fun v H' => ∃ A c, v = .slice A n c ∧ MatH 1 StrC H' A n (txR R) := by
  refine Fn.release (of_cinctureref1_MatPlain (by simp) ?_)
  try simp only [go_sem, Nat.reduceEqDiff, Nat.reduceAdd, Nat.reduceBEq, ↓reduceIte, p_cinctureref1_MatPlain]
  refine ev_loop (fun k s => ∃ (i : Nat) (H2 M2 : PH) (A : Option Addr) (c : Nat) (ra : Nat → Option Addr) (rc : Nat → Nat), k = n - i ∧ i ≤ n ∧ MatH 3 RRatC H2 A0 n R ∧ PH.disj H2 M2 ∧
    MatO 1 StrC 9 70 H2 M2 A i c ra rc (txR R) ∧
    s = ⟨[(4, .v (.int .i64 (i : Int))), (3, .v (.slice A i c)), (0, .v (.slice A0 n c0))], [], H2, M2⟩) n _ ⟨0, H, PH.no, none, 0, fun _ => none, fun _ => 0, rfl, by omega, hM, PH.disj_no _, MatO.nil, rfl⟩ sub_of ?_
  rintro k s ⟨i, H2, M2, A, c, ra, rc, rfl, hi, hM2, hd2, hO2, rfl⟩
  try simp only [go_sem, Nat.reduceEqDiff, Nat.reduceAdd, Nat.reduceBEq, ↓reduceIte]
  refine ev_if (fun c1 => ?_) (fun c1 => ?_)
  · obtain ⟨b, off, rfl⟩ := hM2.base (by omega)
    have hri := hr i (by omega)
    try simp only [go_sem, Nat.reduceEqDiff, Nat.reduceAdd, Nat.reduceBEq, ↓reduceIte]
    refine ev_loop (fun k s => ∃ (j : Nat) (H4 M4 : PH) (B : Option Addr) (cB : Nat), k = (R i).1 - j ∧ j ≤ (R i).1 ∧ MatH 3 RRatC H4 (some ⟨b, off, none⟩) n R ∧ PH.disj H4 M4 ∧
      MatO 1 StrC 9 70 H4 M4 A i c ra rc (txR R) ∧ OwnF 1 StrC 9 H4 M4 B j (fun k => tx ((R i).2 k)) cB ∧ Apart B A i ra ∧
      s = ⟨[(6, .v (.int .i64 (j : Int))), (5, .v (.slice B j cB)), (4, .v (.int .i64 (i : Int))), (3, .v (.slice A i c)), (0, .v (.slice (some ⟨b, off, none⟩) n c0))], [], H4, M4⟩) (R i).1 _ ⟨0, H2, M2, none, 0, rfl, by omega, hM2, hd2, hO2, OwnF.nil, Apart.none, rfl⟩ sub_of ?_
    rintro k s ⟨j, H4, M4, B, cB, rfl, hj, hM4, hd4, hO4, hB4, hap, rfl⟩
    try simp only [go_sem, Nat.reduceEqDiff, Nat.reduceAdd, Nat.reduceBEq, ↓reduceIte]
    refine ev_ia rfl (by omega) (by omega) ?_
    rw [Int.toNat_natCast]
    try simp only [go_sem, Nat.reduceEqDiff, Nat.reduceAdd, Nat.reduceBEq, ↓reduceIte]
    refine ev_ldRow hM4 (by omega) ?_
    intro A3 q3 ha4
    try simp only [go_sem, Nat.reduceEqDiff, Nat.reduceAdd, Nat.reduceBEq, ↓reduceIte]
    refine ev_if (fun c2 => ?_) (fun c2 => ?_)
    · clear ha4
      try simp only [go_sem, Nat.reduceEqDiff, Nat.reduceAdd, Nat.reduceBEq, ↓reduceIte]
      refine ev_ia rfl (by omega) (by omega) ?_
      rw [Int.toNat_natCast]
      try simp only [go_sem, Nat.reduceEqDiff, Nat.reduceAdd, Nat.reduceBEq, ↓reduceIte]
      refine ev_ldRow hM4 (by omega) ?_
      intro A3 q3 ha4
      obtain ⟨b3, off3, rfl⟩ := ha4.base (by omega)
      try simp only [go_sem, Nat.reduceEqDiff, Nat.reduceAdd, Nat.reduceBEq, ↓reduceIte]
      refine ev_ia rfl (by omega) (by omega) ?_
      rw [Int.toNat_natCast]
      try simp only [go_sem, Nat.reduceEqDiff, Nat.reduceAdd, Nat.reduceBEq, ↓reduceIte]
      refine ev_ldF ha4 (by omega) ?_
      intro us hq _
      obtain ⟨b5, A5, l5, c5, B5, m5, e5, hf⟩ := RRat.form hq
      have hq : RRat H4 (.agg us.toArray) ((R i).2 j) := hq
      rw [hf] at hq ⊢
      try simp only [go_sem, Nat.reduceEqDiff, Nat.reduceAdd, Nat.reduceBEq, ↓reduceIte]
      have hbq := hb i (by omega) j (by omega)
      first | refine ev_call (rtextR_ok _ _ _ hq hbq) ?_ | refine ev_callP (rtextR_ok _ _ _ hq hbq) ?_
      rintro v_2 H_2 le_2 rfl _
      try simp only [go_sem, Nat.reduceEqDiff, Nat.reduceAdd, Nat.reduceBEq, ↓reduceIte]
      have hM4 := MatH.le RRatC.grows hM4 (by assumption)
      have hO4 := hO4.leH StrC.grows (by assumption)
      have hB4 := hB4.leH StrC.grows (by assumption)
      refine ev_bslF (w := 1) (P := StrC) (f := fun _ => tx ((R i).2 j)) rfl (by omega) (one_cell rfl rfl ⟨rfl, tx_size _ hbq⟩) (by assumption) ?_
      intro g5 M5 hO5 hle5 hg5 hd5
      try simp only [go_sem, Nat.reduceEqDiff, Nat.reduceAdd, Nat.reduceBEq, ↓reduceIte]
      refine ev_appF (by decide) (hB4.leM hle5) (hO5.src (by decide)) rfl (by decide) (by omega) (by omega) hd5 ?_
      intro B' cB' M6 hO6 hb6 hA6 hd6
      try simp only [go_sem, Nat.reduceEqDiff, Nat.reduceAdd, Nat.reduceBEq, ↓reduceIte]
      rw [w64 ((j : Int) + 1) (by omega) (by omega), show (j : Int) + 1 = ((j + 1 : Nat) : Int) by omega]
      have hap' : Apart B' A i ra := by
        rcases hA6 with rfl | h
        · exact hap
        · exact (hO4.leM hle5).apart h
      refine k_next ((R i).1 - (j + 1)) _ (by omega) ⟨j + 1, _, M6, B', cB', rfl, by omega, hM4, hd6, (hO4.leM hle5).but hb6 hap, hO6.congr (fun k hk => ?_), hap', rfl⟩ sub_of
      unfold thenF
      by_cases e : k < j
      · rw [if_pos e]
      · rw [if_neg e]
        have : k = j := by omega
        subst this
        rfl
    · have hj' : j = (R i).1 := by omega
      subst hj'
      try simp only [go_sem, Nat.reduceEqDiff, Nat.reduceAdd, Nat.reduceBEq, ↓reduceIte]
      refine ev_bslF (w := 1) (P := SlC) (f := fun _ => (B, (R i).1, cB)) rfl (by omega) (one_cell rfl rfl rfl) hd4 ?_
      intro g5 M5 hO5 hle5 hg5 hd5
      try simp only [go_sem, Nat.reduceEqDiff, Nat.reduceAdd, Nat.reduceBEq, ↓reduceIte]
      refine ev_appF (by decide) (hO4.top.leM hle5) (hO5.src (by decide)) rfl (by decide) (by omega) (by omega) hd5 ?_
      intro A' c' M6 hO6 hb6 hA6 hd6
      try simp only [go_sem, Nat.reduceEqDiff, Nat.reduceAdd, Nat.reduceBEq, ↓reduceIte]
      rw [w64 ((i : Int) + 1) (by omega) (by omega), show (i : Int) + 1 = ((i + 1 : Nat) : Int) by omega]
      have hO7 := hO4.push hB4 hap hle5 hO6 hb6 hA6
      refine k_next (n - (i + 1)) _ (by omega) ⟨i + 1, H4, M6, A', c', _, _, rfl, by omega, hM4, hd6, hO7.congr (fun a ha => ?_), rfl⟩ sub_of
      try dsimp only
      by_cases e : a = i
      · subst e
        rw [if_pos rfl]
        exact ⟨rfl, fun _ _ => rfl⟩
      · rw [if_neg e]
        exact ⟨rfl, fun _ _ => rfl⟩
  · have hin : i = n := by omega
    subst hin
    try simp only [go_sem, Nat.reduceEqDiff, Nat.reduceAdd, Nat.reduceBEq, ↓reduceIte]
    exact fun hd => ⟨_, _, rfl, hO2.mat StrC.grows hd⟩


end Go.Proofs.YtccdhgjfcgfgoaaGreat.X
set_option linter.unusedVariables false
set_option linter.unusedSimpArgs false
namespace Go.Proofs.YtccdhgjfcgfgoaaGreat.X
open Go Go.RowKit Go.Proofs

theorem one_cells {α : Type} {w : Nat} {P : PH → List Value → α → Prop} {H : PH} {us : List Value} {x : α} {n : Nat} (hn : n = 1) (hl : us.length = w) (h1 : ∀ u ∈ us, u.oneCell' = true) (hx : P H us x) : ∀ i, i < n → ∃ vs, takeN w (us.drop (i * w)) = some vs ∧ (∀ u ∈ vs, u.oneCell' = true) ∧ P H vs x := by
  intro i hi
  have : i = 0 := by omega
  subst this
  rw [Nat.zero_mul, List.drop_zero, takeN_of _ _ (by omega), List.take_of_length_le (by omega)]
  exact ⟨us, rfl, h1, hx⟩

theorem rightR_ok (H : PH) (A : Option Addr) (n c : Nat) (R : Nat → Rw Rat) (hM : MatH 3 RRatC H A n R) (hn : n ≤ 9223372036854775807) : FnP Tryz.prog 17 [.slice A n c] H fun v _ => v = .bool (evB n R) := by
  refine of_cinctureref1_MatRight (by simp) ?_
  try simp only [go_sem, Nat.reduceEqDiff, Nat.reduceAdd, Nat.reduceBEq, ↓reduceIte, p_cinctureref1_MatRight]
  refine ev_if (fun c1 => ?_) (fun c1 => ?_)
  · try simp only [go_sem, Nat.reduceEqDiff, Nat.reduceAdd, Nat.reduceBEq, ↓reduceIte]
    refine ⟨by trivial, ?_⟩
    unfold evB
    rw [decide_eq_false (fun h => by omega)]
  · try simp only [go_sem, Nat.reduceEqDiff, Nat.reduceAdd, Nat.reduceBEq, ↓reduceIte]
    refine ev_if (fun c2 => ?_) (fun c2 => ?_)
    · try simp only [go_sem, Nat.reduceEqDiff, Nat.reduceAdd, Nat.reduceBEq, ↓reduceIte]
      refine ⟨by trivial, ?_⟩
      unfold evB
      rw [decide_eq_false (fun h => by omega)]
    · obtain ⟨b, off, rfl⟩ := hM.base (by omega)
      try simp only [go_sem, Nat.reduceEqDiff, Nat.reduceAdd, Nat.reduceBEq, ↓reduceIte]
      refine ev_ia rfl (by omega) (by omega) ?_
      try simp only [go_sem, Nat.reduceEqDiff, Nat.reduceAdd, Nat.reduceBEq, ↓reduceIte]
      refine ev_ldRow0 hM (by omega) ?_
      intro A1 q1 ha1
      try simp only [go_sem, Nat.reduceEqDiff, Nat.reduceAdd, Nat.reduceBEq, ↓reduceIte]
      refine ev_if (fun c3 => ?_) (fun c3 => ?_)
      · try simp only [go_sem, Nat.reduceEqDiff, Nat.reduceAdd, Nat.reduceBEq, ↓reduceIte]
        refine ⟨by trivial, ?_⟩
        unfold evB
        rw [decide_eq_false (fun h => by omega)]
      · try simp only [go_sem, Nat.reduceEqDiff, Nat.reduceAdd, Nat.reduceBEq, ↓reduceIte]
        refine ev_ia rfl (by omega) (by omega) ?_
        try simp only [go_sem, Nat.reduceEqDiff, Nat.reduceAdd, Nat.reduceBEq, ↓reduceIte]
        refine ev_ldRow0 hM (by omega) ?_
        intro A2 q2 ha2
        try simp only [go_sem, Nat.reduceEqDiff, Nat.reduceAdd, Nat.reduceBEq, ↓reduceIte]
        refine ev_if (fun c4 => ?_) (fun c4 => ?_)
        · try simp only [go_sem, Nat.reduceEqDiff, Nat.reduceAdd, Nat.reduceBEq, ↓reduceIte]
          refine ⟨by trivial, ?_⟩
          unfold evB
          rw [decide_eq_false (fun h => by omega)]
        · try simp only [go_sem, Nat.reduceEqDiff, Nat.reduceAdd, Nat.reduceBEq, ↓reduceIte]
          refine ev_loop (fun k s => ∃ i : Nat, k = n - i ∧ i ≤ n ∧ (∀ j, j < i → (R j).1 = (R 0).1) ∧
            s = ⟨[(3, .v (.int .i64 (i : Int))), (0, .v (.slice (some ⟨b, off, none⟩) n c))], [], H, PH.no⟩) n _ ⟨0, rfl, by omega, fun j hj => by omega, rfl⟩ sub_of ?_
          rintro k s ⟨i, rfl, hi, he, rfl⟩
          try simp only [go_sem, Nat.reduceEqDiff, Nat.reduceAdd, Nat.reduceBEq, ↓reduceIte]
          refine ev_if (fun c5 => ?_) (fun c5 => ?_)
          · try simp only [go_sem, Nat.reduceEqDiff, Nat.reduceAdd, Nat.reduceBEq, ↓reduceIte]
            refine ev_ia rfl (by omega) (by omega) ?_
            rw [Int.toNat_natCast]
            try simp only [go_sem, Nat.reduceEqDiff, Nat.reduceAdd, Nat.reduceBEq, ↓reduceIte]
            refine ev_ldRow hM (by omega) ?_
            intro A3 q3 ha3
            try simp only [go_sem, Nat.reduceEqDiff, Nat.reduceAdd, Nat.reduceBEq, ↓reduceIte]
            refine ev_ia rfl (by omega) (by omega) ?_
            try simp only [go_sem, Nat.reduceEqDiff, Nat.reduceAdd, Nat.reduceBEq, ↓reduceIte]
            refine ev_ldRow0 hM (by omega) ?_
            intro A4 q4 ha4
            try simp only [go_sem, Nat.reduceEqDiff, Nat.reduceAdd, Nat.reduceBEq, ↓reduceIte]
            refine ev_if (fun c6 => ?_) (fun c6 => ?_)
            · try simp only [go_sem, Nat.reduceEqDiff, Nat.reduceAdd, Nat.reduceBEq, ↓reduceIte]
              refine ⟨by trivial, ?_⟩
              unfold evB
              rw [decide_eq_false (fun h => c6 (by rw [h.2.2.2.2 i (by omega)]))]
            · try simp only [go_sem, Nat.reduceEqDiff, Nat.reduceAdd, Nat.reduceBEq, ↓reduceIte]
              rw [w64 ((i : Int) + 1) (by omega) (by omega), show (i : Int) + 1 = ((i + 1 : Nat) : Int) by omega]
              refine k_next (n - (i + 1)) _ (by omega) ⟨i + 1, rfl, by omega, fun j hj => ?_, rfl⟩ sub_of
              by_cases e : j = i
              · subst e
                have := Classical.not_not.1 c6
                omega
              · exact he j (by omega)
          · have hin : i = n := by omega
            subst hin
            try simp only [go_sem, Nat.reduceEqDiff, Nat.reduceAdd, Nat.reduceBEq, ↓reduceIte]
            refine ⟨by trivial, ?_⟩
            unfold evB
            rw [decide_eq_true ⟨by omega, by omega, by omega, by omega, he⟩]

end Go.Proofs.YtccdhgjfcgfgoaaGreat.X
