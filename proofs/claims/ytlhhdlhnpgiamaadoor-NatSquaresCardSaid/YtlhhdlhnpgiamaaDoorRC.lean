/- nat.Cmp, walked. -/
import Derived.Test.YtlhhdlhnpgiamaaDoorRB
set_option linter.unusedVariables false
namespace Go.Proofs.YtlhhdlhnpgiamaaDoor.X
open Go Go.RowKit Go.Shelf Go.Proofs

attribute [local go_sem] Oper.semAt_some

/-- the numbers of a slice, cell by cell, below the heap's size -/
def Cells (w : World) (A : Option Addr) (l : List Nat) : Prop := l = [] ∨ ∃ b off, A = some ⟨b, off, none⟩ ∧ b < w.heap.size ∧ ∀ j, j < l.length → w.cell? ⟨b, off + j, none⟩ = some (.int .u32 (l.getD j 0 : Nat))

def cmpN (a b : Nat) : Int := if a < b then -1 else if b < a then 1 else 0

theorem newc (W : World) (v : Value) (t : TypeId) : (W.alloc (.cells #[v] t)).cell? ⟨W.heap.size, 0, none⟩ = some v ∧ (W.alloc (.cells #[v] t)).frozen? ⟨W.heap.size, 0, none⟩ = false := by
  have h := World.alloc_heap_new W (.cells #[v] t)
  generalize W.alloc (.cells #[v] t) = W' at h
  generalize W.heap.size = B at h
  constructor <;> simp [World.cell?, World.frozen?, h]

theorem below_alloc (W : World) (o : Obj) : Below W.heap.size W (W.alloc o) := (Below.refl _ W).alloc (Nat.le_refl _) o
theorem below_put {n0 : Nat} (W : World) (r : Nat) (o' : Obj) (h : n0 ≤ r) : Below n0 W (W.putObj r o') :=
  ⟨rfl, rfl, rfl, by simp, fun k hk => World.putObj_heap_other (by omega)⟩

theorem val_lt_top {l m : List Nat} (hl : Lim l) (hm : Lim m) (hlen : l.length = m.length) {i : Nat} (hi : i < l.length) (he : ∀ j, i < j → j < l.length → l.getD j 0 = m.getD j 0) (h : l.getD i 0 < m.getD i 0) : val l < val m := by
  have e1 := val_take_drop l (i + 1) (by omega)
  have e2 := val_take_drop m (i + 1) (by omega)
  have e3 := val_take_succ l i hi
  have e4 := val_take_succ m i (by omega)
  have h1 := val_lt (hl.take i)
  rw [List.length_take, Nat.min_eq_left (by omega)] at h1
  have e5 : l.drop (i + 1) = m.drop (i + 1) := by
    apply List.ext_getElem
    · simp [hlen]
    · intro j h1 h2
      simp only [List.length_drop] at h1
      have := he (i + 1 + j) (by omega) (by omega)
      simp only [List.getElem_drop]
      rw [List.getD, List.getD, List.getElem?_eq_getElem (by omega), List.getElem?_eq_getElem (by omega)] at this
      exact this
  rw [e5] at e1
  have h2 := Nat.mul_le_mul_left (4294967296 ^ i) (Nat.succ_le_of_lt h)
  rw [Nat.mul_succ] at h2
  omega

set_option maxRecDepth 100000 in
set_option maxHeartbeats 4000000 in
theorem cmp_in (A B : Option Addr) (l m : List Nat) (ca cb : Nat) (hl : l.length ≤ 1000000000) (hm : m.length ≤ 1000000000) (w : World) (hA : Cells w A l) (hB : Cells w B m) (hln : Norm l) (hmn : Norm m) :
    CallsIn Fence.wide 3 Tryd.prog 31 #[.agg #[.slice A l.length ca], .agg #[.slice B m.length cb]] w fun e w' => e = .returned (.int .i64 (cmpN (val l) (val m))) ∧ Below w.heap.size w w' := by
  refine callsIn_of_wp_marks Tryd.func31 rfl trivial ?_ rfl
  simp only [Tryd.ntmps31, List.size_toArray, List.length_cons, List.length_nil, Nat.reduceAdd, Nat.reduceSub, Array.replicate_succ, Array.replicate_zero, List.push_toArray, List.append_toArray, List.nil_append, List.cons_append]
  by_cases h1 : l.length = m.length
  · gi_wp2_with (refine ⟨trivial, ?_⟩; gi_at_call 55; refine (back_in Fence.wide 2 trivial rfl _ _ _ _).mono ?_; rintro e w' ⟨rfl, rfl⟩)
    obtain ⟨N, hN⟩ : ∃ N, m.length = N := ⟨_, rfl⟩
    rw [hN] at h1
    simp only [hN]
    have c2 := newc (w.alloc (.cells #[.slice A N ca] 25)) (.slice B N cb) 25
    obtain ⟨W2, hW2⟩ : ∃ W2, (w.alloc (.cells #[.slice A N ca] 25)).alloc (.cells #[.slice B N cb] 25) = W2 := ⟨_, rfl⟩
    rw [hW2] at c2 ⊢
    have c3 := newc W2 (.int .i64 0) 3
    obtain ⟨W3, hW3⟩ : ∃ W3, W2.alloc (.cells #[.int .i64 0] 3) = W3 := ⟨_, rfl⟩
    rw [hW3] at c3 ⊢
    have c4 := newc W3 (.slice A N ca) 23
    obtain ⟨W4, hW4⟩ : ∃ W4, W3.alloc (.cells #[.slice A N ca] 23) = W4 := ⟨_, rfl⟩
    rw [hW4] at c4 ⊢
    have s2 : W2.heap.size = w.heap.size + 2 := by rw [← hW2]; simp
    have s3 : W3.heap.size = w.heap.size + 3 := by rw [← hW3]; simp [s2]
    have s4 : W4.heap.size = w.heap.size + 4 := by rw [← hW4]; simp [s3]
    have b2 : Below w.heap.size w W2 := by rw [← hW2]; exact ((Below.refl _ w).alloc (Nat.le_refl _) _).alloc (by simp) _
    have b3 : Below (w.heap.size + 2) W2 W3 := by rw [← hW3, ← s2]; exact below_alloc _ _
    have b4 : Below (w.heap.size + 3) W3 W4 := by rw [← hW4, ← s3]; exact below_alloc _ _
    have d2 : W4.cell? ⟨w.heap.size + 1, 0, none⟩ = some (.slice B N cb) := by
      rw [World.size_alloc] at c2
      exact (b4.cell (p := ⟨w.heap.size + 1, 0, none⟩) (by simp)).trans ((b3.cell (p := ⟨w.heap.size + 1, 0, none⟩) (by simp)).trans c2.1)
    rw [s2] at c3
    rw [s3] at c4
    have d3 : W4.cell? ⟨w.heap.size + 2, 0, none⟩ = some (.int .i64 0) := (b4.cell (p := ⟨w.heap.size + 2, 0, none⟩) (by simp)).trans c3.1
    have d3f : W4.frozen? ⟨w.heap.size + 2, 0, none⟩ = false := (b4.frozen (p := ⟨w.heap.size + 2, 0, none⟩) (by simp)).trans c3.2
    have d4 := c4.1
    have bW : Below w.heap.size w W4 := b2.trans ((b3.mono (by omega)).trans (b4.mono (by omega)))
    clear c2 c3 c4 b2 b3 b4 hW2 hW3 hW4 s2 s3
    -- between two rounds; behind a return
    let I : Nat → World → Prop := fun k W => k ≤ N ∧ Below w.heap.size w W ∧ W.cell? ⟨w.heap.size + 1, 0, none⟩ = some (.slice B N cb) ∧ W.cell? ⟨w.heap.size + 2, 0, none⟩ = some (.int .i64 0) ∧
      W.frozen? ⟨w.heap.size + 2, 0, none⟩ = false ∧ W.cell? ⟨w.heap.size + 3, 0, none⟩ = some (.slice A N ca) ∧ w.heap.size + 4 ≤ W.heap.size ∧ ∀ j, N - k ≤ j → j < N → l.getD j 0 = m.getD j 0
    let Ix : Nat → World → Prop := fun k W => Below w.heap.size w W ∧ W.cell? ⟨w.heap.size + 2, 0, none⟩ = some (.int .i64 (cmpN (val l) (val m)))
    have stab : ∀ k W W', Below (w.heap.size + 4) W W' → I k W → I k W' := by
      rintro k W W' h ⟨i1, i2, i3, i4, i5, i6, i7, i8⟩
      exact ⟨i1, i2.trans (h.mono (by omega)), (h.cell (p := ⟨w.heap.size + 1, 0, none⟩) (by simp)).trans i3, (h.cell (p := ⟨w.heap.size + 2, 0, none⟩) (by simp)).trans i4, (h.frozen (p := ⟨w.heap.size + 2, 0, none⟩) (by simp)).trans i5, (h.cell (p := ⟨w.heap.size + 3, 0, none⟩) (by simp)).trans i6, Nat.le_trans i7 h.size, i8⟩
    have stabx : ∀ k W W', Below (w.heap.size + 4) W W' → Ix k W → Ix k W' := by
      rintro k W W' h ⟨i2, i4⟩
      exact ⟨i2.trans (h.mono (by omega)), (h.cell (p := ⟨w.heap.size + 2, 0, none⟩) (by simp)).trans i4⟩
    refine wpIn_back rfl (by decide) (gf := 59) (lb := #[.pointer (some ⟨w.heap.size + 3, 0, none⟩)]) rfl trivial (enters_of Tryd.func59 (by kernel_rfl) rfl)
      (N := N) (encs := fun k => #[.int .i64 (N - 1 - k : Nat), .int .u32 (l.getD (N - 1 - k) 0 : Nat)]) (fun k => rfl) I Ix
      (fun k W r o o' hr _ _ h => stab k W _ (below_put W r o' (by omega)) h) (fun k W r o o' hr _ _ h => stabx k W _ (below_put W r o' (by omega)) h) ?start
      (back_iter Fence.wide 2 trivial rfl (by decide) (w.heap.size + 3) A N ca (by omega) (fun k => l.getD (N - 1 - k) 0) I ?reads)
      (fun k => { tmps := #[.agg #[.slice A N ca], .agg #[.slice B N cb], .pointer (some ⟨w.heap.size, 0, none⟩), .pointer (some ⟨w.heap.size + 1, 0, none⟩), .pointer (some ⟨w.heap.size + 2, 0, none⟩), .int .i64 (N - 1 - k : Nat), .int .u32 (l.getD (N - 1 - k) 0 : Nat),
          .pointer (some ⟨w.heap.size, 0, none⟩), .slice A N ca, .int .i64 (N : Nat), .pointer (some ⟨w.heap.size + 1, 0, none⟩), .slice B N cb, .int .i64 (N : Nat), .bool false, undef, undef, undef, undef, undef, undef, undef, .pointer (some ⟨w.heap.size, 0, none⟩), .slice A N ca,
          .func (.func 59) #[] #[.pointer (some ⟨w.heap.size + 3, 0, none⟩)], .int .i64 (N - 1 - k : Nat), .int .u32 (l.getD (N - 1 - k) 0 : Nat), undef, undef, undef, undef, undef, undef, undef, undef, undef, undef, undef, undef, undef, undef, undef, undef], defers := [] })
      ?assign ?body ?done ?stop
    case start =>
      intro r
      refine stab 0 W4 _ ?_ ⟨Nat.zero_le _, bW, d2, d3, d3f, d4, by omega, fun j h1 h2 => by omega⟩
      rw [← s4]
      exact ((Below.refl _ W4).alloc (Nat.le_refl _) _).alloc (by simp) _
    case reads =>
      rintro k W ⟨i1, i2, i3, i4, i5, i6, i7, i8⟩
      refine ⟨i6, fun hk => ?_⟩
      rcases hA with h | ⟨b, off, hA1, hA2, hA3⟩
      · rw [h] at h1; simp at h1; omega
      · exact ⟨b, off, hA1, (i2.cell (p := ⟨b, off + (N - 1 - k), none⟩) hA2).trans (hA3 _ (by omega))⟩
    case assign =>
      intro l' k W K hK
      gi_wp2
      exact hK
    case body =>
      rintro l' k W ⟨i1, i2, i3, i4, i5, i6, i7, i8⟩ hk
      have hB' : ∃ b off, B = some ⟨b, off, none⟩ ∧ W.cell? ⟨b, off + (N - 1 - k), none⟩ = some (.int .u32 (m.getD (N - 1 - k) 0 : Nat)) := by
        rcases hB with h | ⟨b, off, hB1, hB2, hB3⟩
        · rw [h] at hN; simp at hN; omega
        · exact ⟨b, off, hB1, (i2.cell (p := ⟨b, off + (N - 1 - k), none⟩) hB2).trans (hB3 _ (by omega))⟩
      obtain ⟨b, off, rfl, hc⟩ := hB'
      have top : ∀ j, N - 1 - k < j → j < N → l.getD j 0 = m.getD j 0 := fun j h2 h3 => i8 j (by omega) h3
      generalize hi : N - 1 - k = i at *
      have hiN : i < N := by omega
      by_cases g1 : l.getD i 0 < m.getD i 0
      · have res : cmpN (val l) (val m) = -1 := by
          have := val_lt_top hln.1 hmn.1 (by omega) (i := i) (by omega) (fun j h2 h3 => top j h2 (by omega)) g1
          unfold cmpN; rw [if_pos this]
        generalize l.getD i 0 = x at *
        generalize m.getD i 0 = y at *
        gi_wp2
        refine ⟨KeepsOthers.setCell _ _ _, i2.setCell (p := ⟨w.heap.size + 2, 0, none⟩) (by simp) _, ?_⟩
        rw [res]
        exact World.cell?_setCell_same' _ _ _ (by rw [i4]; rfl)
      · by_cases g2 : m.getD i 0 < l.getD i 0
        · have res : cmpN (val l) (val m) = 1 := by
            have := val_lt_top hmn.1 hln.1 (by omega) (i := i) (by omega) (fun j h2 h3 => (top j h2 (by omega)).symm) g2
            unfold cmpN; rw [if_neg (by omega), if_pos this]
          generalize l.getD i 0 = x at *
          generalize m.getD i 0 = y at *
          gi_wp2
          refine ⟨KeepsOthers.setCell _ _ _, i2.setCell (p := ⟨w.heap.size + 2, 0, none⟩) (by simp) _, ?_⟩
          rw [res]
          exact World.cell?_setCell_same' _ _ _ (by rw [i4]; rfl)
        · have e : l.getD i 0 = m.getD i 0 := by omega
          have fin : I (k + 1) W := ⟨hk, i2, i3, i4, i5, i6, i7, fun j h2 h3 => by
            by_cases hj : j = i
            · rw [hj]; exact e
            · exact top j (by omega) h3⟩
          generalize l.getD i 0 = x at *
          generalize m.getD i 0 = y at *
          gi_wp2
          exact ⟨KeepsOthers.refl _, fin⟩
    case done =>
      rintro W ⟨i1, i2, i3, i4, i5, i6, i7, i8⟩ hD
      have e : l = m := by
        apply List.ext_getElem
        · omega
        · intro j h2 h3
          have := i8 j (by omega) (by omega)
          rw [List.getD, List.getD, List.getElem?_eq_getElem h2, List.getElem?_eq_getElem h3] at this
          exact this
      have res : cmpN (val l) (val m) = 0 := by
        rw [e]; unfold cmpN; simp
      have hb : Below (w.heap.size + 4) W (W.putObj W4.heap.size (.deferred none)) := below_put _ _ _ (by omega)
      have e4 : (W.putObj W4.heap.size (.deferred none)).cell? ⟨w.heap.size + 2, 0, none⟩ = some (.int .i64 0) := (hb.cell (p := ⟨w.heap.size + 2, 0, none⟩) (by simp)).trans i4
      have k1 := KeepsOthers.setCell W ⟨w.heap.size + 2, 0, none⟩ (.int .i64 0)
      have k2 := Below.setCell (p := ⟨w.heap.size + 2, 0, none⟩) (Below.refl w.heap.size W) (Nat.le_add_right _ _) (.int .i64 0)
      have k3 : (W.setCell ⟨w.heap.size + 2, 0, none⟩ (.int .i64 0)).cell? ⟨w.heap.size + 2, 0, none⟩ = some (.int .i64 0) := World.cell?_setCell_same' _ _ _ (by rw [i4]; rfl)
      have hb2 : Below (w.heap.size + 4) (W.setCell ⟨w.heap.size + 2, 0, none⟩ (.int .i64 0)) ((W.setCell ⟨w.heap.size + 2, 0, none⟩ (.int .i64 0)).putObj W4.heap.size (.deferred none)) := below_put _ _ _ (by omega)
      have e5 := (hb2.cell (p := ⟨w.heap.size + 2, 0, none⟩) (by simp)).trans k3
      gi_wp2
      refine ⟨by simp, .inl ⟨_, _, rfl, run_takeDeferred (k1.same _ _ hD rfl), ?_⟩⟩
      refine ⟨.int .i64 0, ?_, by first | rw [res] | rfl, i2.trans (k2.trans (hb2.mono (by omega)))⟩
      simp [results, Tryd.f31, go_sem, e5]
    case stop =>
      rintro k W ⟨i2, i4⟩ hD
      have hb : Below (w.heap.size + 4) W (W.putObj W4.heap.size (.deferred none)) := below_put _ _ _ (by omega)
      have e4 : (W.putObj W4.heap.size (.deferred none)).cell? ⟨w.heap.size + 2, 0, none⟩ = some (.int .i64 (cmpN (val l) (val m))) := (hb.cell (p := ⟨w.heap.size + 2, 0, none⟩) (by simp)).trans i4
      gi_wp2
      refine ⟨by simp, .inl ⟨_, _, rfl, run_takeDeferred hD, ?_⟩⟩
      refine ⟨.int .i64 (cmpN (val l) (val m)), ?_, rfl, i2.trans (hb.mono (by omega))⟩
      simp [results, Tryd.f31, go_sem, e4]
  · have hne : val l ≠ val m := fun e => h1 (by rw [Norm.uniq hln hmn e])
    have ret : ∀ (v : Int) (W : World), W.heap.size = w.heap.size + 2 → Below w.heap.size w W → (W.alloc (.cells #[.int .i64 v] 3)).cell? ⟨w.heap.size + 2, 0, none⟩ = some (.int .i64 v) ∧ Below w.heap.size w (W.alloc (.cells #[.int .i64 v] 3)) := by
      intro v W h3 h4
      have := (newc W (.int .i64 v) 3).1
      rw [h3] at this
      exact ⟨this, h4.alloc (by omega) _⟩
    have hb := ((Below.refl _ w).alloc (Nat.le_refl _) (.cells #[.slice A l.length ca] 25)).alloc (by simp) (.cells #[.slice B m.length cb] 25)
    by_cases h2 : l.length < m.length
    · have res : cmpN (val l) (val m) = -1 := by
        have h3 := val_lt hln.1
        have h4 := val_pos hmn (fun e => by rw [e] at h2; simp at h2)
        have h5 := Nat.pow_le_pow_right (n := 4294967296) (by decide) (show l.length ≤ m.length - 1 by omega)
        unfold cmpN; rw [if_pos (by omega)]
      obtain ⟨r1, r2⟩ := ret (-1) _ (by simp) hb
      gi_wp2
      refine ⟨.int .i64 (-1), ?_, by first | rw [res] | rfl, r2⟩
      simp [results, Tryd.f31, go_sem, r1]
    · have h3 : ¬ ((l.length : Int) < m.length) := by omega
      have res : cmpN (val l) (val m) = 1 := by
        have h3 := val_lt hmn.1
        have h4 := val_pos hln (fun e => by rw [e] at h2 h1; simp only [List.length_nil] at h2 h1; omega)
        have h5 := Nat.pow_le_pow_right (n := 4294967296) (by decide) (show m.length ≤ l.length - 1 by omega)
        unfold cmpN; rw [if_neg (by omega), if_pos (by omega)]
      obtain ⟨r1, r2⟩ := ret 1 _ (by simp) hb
      gi_wp2
      refine ⟨.int .i64 1, ?_, by first | rw [res] | rfl, r2⟩
      simp [results, Tryd.f31, go_sem, r1]

theorem sl_cells {H : PH} {w : World} {A : Option Addr} {l : List Nat} (h : Sl .u32 H A l) (hH : H.on w) : Cells w A l := by
  rcases h with h | ⟨b, off, cs, T, fz, h1, h2, h3, h4⟩
  · exact .inl h
  · have hb := hH b _ h2
    refine .inr ⟨b, off, h1, (Array.getElem?_eq_some_iff.1 hb).1, fun j hj => ?_⟩
    simp only [World.cell?, hb]
    have e := nums_get (k := .u32) hj
    rw [← h4, List.getElem?_take, if_pos hj, List.getElem?_drop] at e
    simpa using e

theorem below_fn {P : Program} {f : Nat} {vs : List Value} {H : PH} {R : Value → Prop} (h : ∀ w, H.on w → Calls P f vs.toArray w fun e w' => ∃ v, e = .returned v ∧ R v ∧ Below w.heap.size w w') : FnP P f vs H fun v _ => R v := by
  intro w hH hM hd
  refine (h w hH).mono ?_
  rintro e w' ⟨v, rfl, hR, hb⟩
  refine ⟨v, H, PH.no, rfl, ⟨hb.os, hb.tape, hb.output, hb.size, fun b hb' _ => hb.block b hb'⟩, PH.le.refl _, fun b o ho => ?_, fun b o ho => (by cases ho), PH.disj_no _, fun b hb' => .inl hb', fun b hb' => absurd rfl hb', rfl, hR⟩
  have := hH b o ho
  rw [hb.block b (Array.getElem?_eq_some_iff.1 this).1]
  exact this

theorem cmp_ok (H : PH) (va vb : Value) (x y : Nat) (ha : NatV H va x) (hb : NatV H vb y) (hbx : bl x ≤ 4294967296) (hby : bl y ≤ 4294967296) : FnP Tryd.prog 31 [va, vb] H fun v _ => v = .int .i64 (cmpN x y) := by
  obtain ⟨A, l, c, rfl, hc, hS, hn, rfl⟩ := ha
  obtain ⟨B, m, e, rfl, he, hT, hm, rfl⟩ := hb
  have hlen : l.length ≤ 200000000 := by have := len_le_bl hn; omega
  have hlen2 : m.length ≤ 200000000 := by have := len_le_bl hm; omega
  refine below_fn fun w hH => ((callsIn_wide (n := 3)).1 (cmp_in A B l m c e (by omega) (by omega) w (sl_cells hS hH) (sl_cells hT hH) hn hm)).mono ?_
  rintro e' w' ⟨rfl, h⟩
  exact ⟨_, rfl, rfl, h⟩

end Go.Proofs.YtlhhdlhnpgiamaaDoor.X
