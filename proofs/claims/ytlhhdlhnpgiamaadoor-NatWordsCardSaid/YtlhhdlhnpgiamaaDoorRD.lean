/- nat.short, walked. -/
import Derived.Test.YtlhhdlhnpgiamaaDoorRC
import Derived.Test.YtlhhdlhnpgiamaaDoorXK
import Derived.Laws.Bits64b
set_option linter.unusedVariables false
namespace Go.Proofs.YtlhhdlhnpgiamaaDoor.X
open Go Go.RowKit Go.Shelf Go.Proofs

attribute [local go_sem] Oper.semAt_some

/-- whatever lay below n0 lies as it lay, but for block b -/
structure ButB (n0 b : Nat) (w W : World) : Prop where
  os : W.os = w.os
  tape : W.tape = w.tape
  output : W.output = w.output
  size : w.heap.size ≤ W.heap.size
  block : ∀ k, k < n0 → k ≠ b → W.heap[k]? = w.heap[k]?

theorem ButB.below {n0 n1 b : Nat} {w W W' : World} (h : ButB n0 b w W) (hb : Below n1 W W') (hn : n0 ≤ n1) : ButB n0 b w W' :=
  ⟨hb.os.trans h.os, hb.tape.trans h.tape, hb.output.trans h.output, Nat.le_trans h.size hb.size, fun k hk hne => (hb.block k (Nat.lt_of_lt_of_le hk hn)).trans (h.block k hk hne)⟩
theorem ButB.setB {n0 b : Nat} {w W : World} (h : ButB n0 b w W) (off : Nat) (v : Value) : ButB n0 b w (W.setCell ⟨b, off, none⟩ v) := by
  have hk := Below.heap_setCell W ⟨b, off, none⟩ v
  exact ⟨h.os, h.tape, h.output, by simpa using h.size, fun k hk' hne => (hk k hne).trans (h.block k hk' hne)⟩

theorem short_step (N i by_ r : Nat) (l o : List Nat) (hl : Lim l) (ho : Lim o) (hN : l.length = N) (hoN : o.length = N) (hi : i < N) (hb : 0 < by_) (hb2 : by_ < 4294967296) (hr : r < by_) (hv : val (l.drop (i + 1)) = val (o.drop (i + 1)) * by_ + r) (he : ∀ j, j < i + 1 → o.getD j 0 = l.getD j 0) :
    let t := r * 4294967296 + l.getD i 0
    t < 18446744073709551616 ∧ t / by_ < 4294967296 ∧ t % by_ < by_ ∧ val (l.drop i) = val ((o.set i (t / by_)).drop i) * by_ + t % by_ := by
  intro t
  have hx := hl.getD i
  have h1 : t / by_ < 4294967296 := by
    rw [Nat.div_lt_iff_lt_mul hb]
    have := Nat.mul_le_mul_right 4294967296 (Nat.succ_le_of_lt hr)
    rw [Nat.succ_mul, Nat.mul_comm by_] at this
    show r * 4294967296 + l.getD i 0 < _
    omega
  refine ⟨by show r * 4294967296 + l.getD i 0 < _; omega, h1, Nat.mod_lt _ hb, ?_⟩
  have e1 := drop_eq l i (by omega)
  have e2 : (o.set i (t / by_)).drop i = t / by_ :: o.drop (i + 1) := by
    rw [drop_eq _ i (by simp; omega)]
    congr 1
    · simp [List.getD, show i < o.length by omega]
    · rw [List.drop_set_of_lt (by omega)]
  rw [e1, e2]
  simp only [val]
  rw [hv, Nat.add_mul]
  have e3 : t = by_ * (t / by_) + t % by_ := (Nat.div_add_mod t by_).symm
  have e4 : 4294967296 * (val (o.drop (i + 1)) * by_ + r) + l.getD i 0 = 4294967296 * val (o.drop (i + 1)) * by_ + t := by
    show _ = _ + (r * 4294967296 + l.getD i 0)
    rw [Nat.mul_add, Nat.mul_assoc]; omega
  rw [Nat.mul_comm (t / by_)]
  omega

theorem or_step (r x : Nat) (hr : r < 4294967296) (hx : x < 4294967296) : Go.bits .or .u64 ((r : Int) * 4294967296) (x : Int) = ((r * 4294967296 + x : Nat) : Int) := by
  have h1 := bits_or_u64_nat (r * 4294967296) x (by omega) (by omega)
  have h2 := or_add 32 x r hx
  have h3 : r * 4294967296 ||| x = r * 4294967296 + x := by
    rw [Nat.or_comm]
    have : x ||| r * 4294967296 = x + r * 4294967296 := h2
    omega
  rw [h3] at h1
  rw [← h1, Int.natCast_mul]
  rfl

set_option maxRecDepth 100000 in
set_option maxHeartbeats 4000000 in
theorem short_in (b by_ : Nat) (l : List Nat) (rest : List Value) (c : Nat) (T : TypeId) (hl : l.length ≤ 1000000000) (hlim : Lim l) (h0 : 0 < l.length) (hc : l.length ≤ c) (hby : 0 < by_) (hby2 : by_ < 4294967296) (w : World) (hA : w.heap[b]? = some (.cells (nums .u32 l ++ rest).toArray T (0, 0))) :
    CallsIn Fence.wide 3 Tryd.prog 49 #[.slice (some ⟨b, 0, none⟩) l.length c, .int .u32 (by_ : Nat)] w fun e w' => ∃ o : List Nat, e = .returned (.int .u32 (val l % by_ : Nat)) ∧ o.length = l.length ∧ Lim o ∧ val o = val l / by_ ∧
      w'.heap[b]? = some (.cells (nums .u32 o ++ rest).toArray T (0, 0)) ∧ ButB w.heap.size b w w' := by
  refine callsIn_of_wp_marks Tryd.func49 rfl trivial ?_ rfl
  simp only [Tryd.ntmps49, List.size_toArray, List.length_cons, List.length_nil, Nat.reduceAdd, Nat.reduceSub, Array.replicate_succ, Array.replicate_zero, List.push_toArray, List.append_toArray, List.nil_append, List.cons_append]
  have hblt : b < w.heap.size := (Array.getElem?_eq_some_iff.1 hA).1
  obtain ⟨N, hN⟩ : ∃ N, l.length = N := ⟨_, rfl⟩
  simp only [hN]
  gi_wp2_with (refine ⟨trivial, ?_⟩; gi_at_call 55; refine (back_in Fence.wide 2 trivial rfl _ _ _ _).mono ?_; rintro e w' ⟨rfl, rfl⟩)
  have c1 := newc w (.slice (some ⟨b, 0, none⟩) N c) 23
  obtain ⟨W1, hW1⟩ : ∃ W1, w.alloc (.cells #[.slice (some ⟨b, 0, none⟩) N c] 23) = W1 := ⟨_, rfl⟩
  rw [hW1] at c1 ⊢
  have s1 : W1.heap.size = w.heap.size + 1 := by rw [← hW1]; simp
  have b1 : Below w.heap.size w W1 := by rw [← hW1]; exact below_alloc _ _
  have c2 := newc W1 (.int .u32 (by_ : Nat)) 60
  obtain ⟨W2, hW2⟩ : ∃ W2, W1.alloc (.cells #[.int .u32 (by_ : Nat)] 60) = W2 := ⟨_, rfl⟩
  rw [hW2] at c2 ⊢
  have s2 : W2.heap.size = w.heap.size + 2 := by rw [← hW2]; simp [s1]
  have b2 : Below (w.heap.size + 1) W1 W2 := by rw [← hW2, ← s1]; exact below_alloc _ _
  have c3 := newc W2 (.int .u64 0) 37
  obtain ⟨W3, hW3⟩ : ∃ W3, W2.alloc (.cells #[.int .u64 0] 37) = W3 := ⟨_, rfl⟩
  rw [hW3] at c3 ⊢
  have s3 : W3.heap.size = w.heap.size + 3 := by rw [← hW3]; simp [s2]
  have b3 : Below (w.heap.size + 2) W2 W3 := by rw [← hW3, ← s2]; exact below_alloc _ _
  have c4 := newc W3 (.slice (some ⟨b, 0, none⟩) N c) 23
  obtain ⟨W4, hW4⟩ : ∃ W4, W3.alloc (.cells #[.slice (some ⟨b, 0, none⟩) N c] 23) = W4 := ⟨_, rfl⟩
  rw [hW4] at c4 ⊢
  have s4 : W4.heap.size = w.heap.size + 4 := by rw [← hW4]; simp [s3]
  have b4 : Below (w.heap.size + 3) W3 W4 := by rw [← hW4, ← s3]; exact below_alloc _ _
  rw [s1] at c2
  rw [s2] at c3
  rw [s3] at c4
  have d1 : W4.cell? ⟨w.heap.size, 0, none⟩ = some (.slice (some ⟨b, 0, none⟩) N c) := (b4.cell (p := ⟨w.heap.size, 0, none⟩) (by simp)).trans ((b3.cell (p := ⟨w.heap.size, 0, none⟩) (by simp)).trans ((b2.cell (p := ⟨w.heap.size, 0, none⟩) (by simp)).trans c1.1))
  have d2 : W4.cell? ⟨w.heap.size + 1, 0, none⟩ = some (.int .u32 (by_ : Nat)) := (b4.cell (p := ⟨w.heap.size + 1, 0, none⟩) (by simp)).trans ((b3.cell (p := ⟨w.heap.size + 1, 0, none⟩) (by simp)).trans c2.1)
  have d3 : W4.cell? ⟨w.heap.size + 2, 0, none⟩ = some (.int .u64 0) := (b4.cell (p := ⟨w.heap.size + 2, 0, none⟩) (by simp)).trans c3.1
  have d3f : W4.frozen? ⟨w.heap.size + 2, 0, none⟩ = false := (b4.frozen (p := ⟨w.heap.size + 2, 0, none⟩) (by simp)).trans c3.2
  have d4 := c4.1
  have bW : Below w.heap.size w W4 := b1.trans ((b2.mono (by omega)).trans ((b3.mono (by omega)).trans (b4.mono (by omega))))
  clear c1 c2 c3 c4 b1 b2 b3 b4 hW1 hW2 hW3 hW4 s1 s2 s3
  let I : Nat → World → Prop := fun k W => ∃ (o : List Nat) (r : Nat), k ≤ N ∧ ButB w.heap.size b w W ∧ W.cell? ⟨w.heap.size, 0, none⟩ = some (.slice (some ⟨b, 0, none⟩) N c) ∧ W.cell? ⟨w.heap.size + 1, 0, none⟩ = some (.int .u32 (by_ : Nat)) ∧
    W.cell? ⟨w.heap.size + 2, 0, none⟩ = some (.int .u64 (r : Nat)) ∧ W.frozen? ⟨w.heap.size + 2, 0, none⟩ = false ∧ W.cell? ⟨w.heap.size + 3, 0, none⟩ = some (.slice (some ⟨b, 0, none⟩) N c) ∧ w.heap.size + 4 ≤ W.heap.size ∧
    W.heap[b]? = some (.cells (nums .u32 o ++ rest).toArray T (0, 0)) ∧ o.length = N ∧ Lim o ∧ r < by_ ∧ (∀ j, j < N - k → o.getD j 0 = l.getD j 0) ∧ val (l.drop (N - k)) = val (o.drop (N - k)) * by_ + r
  have stab : ∀ k W W', Below (w.heap.size + 4) W W' → I k W → I k W' := by
    rintro k W W' h ⟨o, r, i1, i2, i3, i4, i5, i6, i7, i8, i9, i10⟩
    exact ⟨o, r, i1, i2.below h (by omega), (h.cell (p := ⟨w.heap.size, 0, none⟩) (by simp)).trans i3, (h.cell (p := ⟨w.heap.size + 1, 0, none⟩) (by simp)).trans i4, (h.cell (p := ⟨w.heap.size + 2, 0, none⟩) (by simp)).trans i5,
      (h.frozen (p := ⟨w.heap.size + 2, 0, none⟩) (by simp)).trans i6, (h.cell (p := ⟨w.heap.size + 3, 0, none⟩) (by simp)).trans i7, Nat.le_trans i8 h.size, (h.block b (by omega)).trans i9, i10⟩
  refine wpIn_back rfl (by decide) (gf := 59) (lb := #[.pointer (some ⟨w.heap.size + 3, 0, none⟩)]) rfl trivial (enters_of Tryd.func59 (by kernel_rfl) rfl)
    (N := N) (encs := fun k => #[.int .i64 (N - 1 - k : Nat), .int .u32 (l.getD (N - 1 - k) 0 : Nat)]) (fun k => rfl) I (fun _ _ => False)
    (fun k W r o o' hr _ _ h => stab k W _ (below_put W r o' (by omega)) h) (fun k W r o o' hr _ _ h => h) ?start
    (back_iter Fence.wide 2 trivial rfl (by decide) (w.heap.size + 3) (some ⟨b, 0, none⟩) N c (by omega) (fun k => l.getD (N - 1 - k) 0) I ?reads)
    (fun k => { tmps := #[.slice (some ⟨b, 0, none⟩) N c, .int .u32 (by_ : Nat), .pointer (some ⟨w.heap.size, 0, none⟩), .pointer (some ⟨w.heap.size + 1, 0, none⟩), .int .u32 0, .pointer (some ⟨w.heap.size + 2, 0, none⟩), .int .i64 (N - 1 - k : Nat), .int .u32 (l.getD (N - 1 - k) 0 : Nat),
        .slice (some ⟨b, 0, none⟩) N c, .func (.func 59) #[] #[.pointer (some ⟨w.heap.size + 3, 0, none⟩)], .int .i64 (N - 1 - k : Nat), .int .u32 (l.getD (N - 1 - k) 0 : Nat), undef, undef, undef, undef, undef, undef, undef, undef, undef, undef, undef, undef, undef, undef, undef, undef, undef, undef, undef], defers := [] })
    ?assign ?body ?done ?stop
  case start =>
    intro r
    refine stab 0 W4 _ ?_ ⟨l, 0, Nat.zero_le _, ⟨bW.os, bW.tape, bW.output, bW.size, fun k hk _ => bW.block k hk⟩, d1, d2, d3, d3f, d4, by omega, (bW.block b hblt).trans hA, hN, hlim, hby, fun j _ => rfl, by simp [← hN, val]⟩
    rw [← s4]
    exact ((Below.refl _ W4).alloc (Nat.le_refl _) _).alloc (by simp) _
  case reads =>
    rintro k W ⟨o, r, i1, i2, i3, i4, i5, i6, i7, i8, i9, i10, i11, i12, i13, i14⟩
    refine ⟨i7, fun hk => ⟨b, 0, rfl, ?_⟩⟩
    rw [Nat.zero_add, ← i13 (N - 1 - k) (by omega)]
    simp only [World.cell?, i9]
    have := nums_get (k := .u32) (l := o) (i := N - 1 - k) (by omega)
    have h2 : N - 1 - k < (nums .u32 o).length := by simp [nums]; omega
    simpa [List.getElem?_append_left h2] using this
  case assign =>
    intro l' k W K hK
    gi_wp2
    exact hK
  case body =>
    rintro l' k W ⟨o, r, i1, i2, i3, i4, i5, i6, i7, i8, i9, i10, i11, i12, i13, i14⟩ hk
    obtain ⟨z1, z2, z3, z4⟩ := short_step N (N - 1 - k) by_ r l o hlim i11 hN i10 (by omega) hby hby2 i12 (by rw [show N - 1 - k + 1 = N - k by omega]; exact i14) (fun j hj => i13 j (by omega))
    have hx := hlim.getD (N - 1 - k)
    have ek : N - (k + 1) = N - 1 - k := by omega
    generalize hi : N - 1 - k = i at *
    generalize hxx : l.getD i 0 = x at *
    have hmix : Tryd.prog.follows .mixedOrders = true := mixed
    gi_wp2
    have hor := or_step r x (Nat.lt_trans i12 hby2) hx
    rw [hor]
    generalize ht : r * 4294967296 + x = t at *
    have k1 := KeepsOthers.setCell W ⟨w.heap.size + 2, 0, none⟩ (.int .u64 (t : Nat))
    have b1 : Below (w.heap.size + 2) W (W.setCell ⟨w.heap.size + 2, 0, none⟩ (.int .u64 (t : Nat))) := (Below.refl _ W).setCell (p := ⟨w.heap.size + 2, 0, none⟩) (Nat.le_refl _) _
    have e1 := (b1.cell (p := ⟨w.heap.size, 0, none⟩) (by simp)).trans i3
    have e2 := (b1.cell (p := ⟨w.heap.size + 1, 0, none⟩) (by simp)).trans i4
    have e3 : (W.setCell ⟨w.heap.size + 2, 0, none⟩ (.int .u64 (t : Nat))).cell? ⟨w.heap.size + 2, 0, none⟩ = some (.int .u64 (t : Nat)) := World.cell?_setCell_same' _ _ _ (by rw [i5]; rfl)
    have e3f : (W.setCell ⟨w.heap.size + 2, 0, none⟩ (.int .u64 (t : Nat))).frozen? ⟨w.heap.size + 2, 0, none⟩ = false := by rw [World.frozen?_setCell]; exact i6
    have e4 := (b1.block b (by omega)).trans i9
    have e5 : (W.setCell ⟨w.heap.size + 2, 0, none⟩ (.int .u64 (t : Nat))).cell? ⟨w.heap.size + 3, 0, none⟩ = some (.slice (some ⟨b, 0, none⟩) N c) := by
      rw [World.cell?_setCell_other _ _ _ _ (by simp)]; exact i7
    have e6 : ButB w.heap.size b w (W.setCell ⟨w.heap.size + 2, 0, none⟩ (.int .u64 (t : Nat))) := i2.below (b1.mono (by omega)) (Nat.le_refl _)
    have e7 : w.heap.size + 4 ≤ (W.setCell ⟨w.heap.size + 2, 0, none⟩ (.int .u64 (t : Nat))).heap.size := by simpa using i8
    generalize W.setCell ⟨w.heap.size + 2, 0, none⟩ (.int .u64 (t : Nat)) = V at *
    have f1 : V.cell? ⟨b, i, none⟩ = some (.int .u32 (o.getD i 0 : Nat)) := by
      simp only [World.cell?, e4]
      have := nums_get (k := .u32) (l := o) (i := i) (by omega)
      have h2 : i < (nums .u32 o).length := by simp [nums]; omega
      simpa [List.getElem?_append_left h2] using this
    have f2 : V.frozen? ⟨b, i, none⟩ = false := by simp [World.frozen?, e4]
    have hby0 : (by_ : Int) ≠ 0 := by omega
    have hiN : (i : Int) < (N : Int) := by omega
    have hbyN : ¬ by_ = 0 := by omega
    have f3 : ∀ V' : World, SameAt V w.heap.size V' → V'.cell? ⟨w.heap.size, 0, none⟩ = some (.slice (some ⟨b, 0, none⟩) N c) := fun V' h => (World.cell?_of_block (a := ⟨w.heap.size, 0, none⟩) (h.2 (by omega))).trans e1
    have f4 : ∀ V' : World, SameAt V (w.heap.size + 1) V' → V'.cell? ⟨w.heap.size + 1, 0, none⟩ = some (.int .u32 (by_ : Nat)) := fun V' h => (World.cell?_of_block (a := ⟨w.heap.size + 1, 0, none⟩) (h.2 (by omega))).trans e2
    have f5 : ∀ V' : World, SameAt V (w.heap.size + 2) V' → V'.cell? ⟨w.heap.size + 2, 0, none⟩ = some (.int .u64 (t : Nat)) := fun V' h => (World.cell?_of_block (a := ⟨w.heap.size + 2, 0, none⟩) (h.2 (by omega))).trans e3
    refine wpIn_tree hmix (t := .ld 0 (.fl 1 (.ld 2 (.ld 3 (.fl 4 (.fl 5 (.fl 6 (.fl 7 (.act 8 .nil))))))))) (by kernel_rfl) (by rintro ⟨_, _, h⟩; exact h) (by kernel_rfl) (fun _ _ _ _ _ h => h) ?_
    have hby1 : IntKind.u64.wrap (by_ : Int) = (by_ : Int) := nCu64 (by clear z2 z3 z4; omega)
    have hq : IntKind.u64.wrap ((t : Int) / (by_ : Int)) = ((t / by_ : Nat) : Int) := by
      rw [← Int.natCast_ediv]; exact nCu64 (Nat.le_of_lt (Nat.lt_trans z2 (by decide)))
    have hq2 : IntKind.u32.wrap ((t / by_ : Nat) : Int) = ((t / by_ : Nat) : Int) := nCu32 (Nat.le_of_lt_succ z2)
    generalize hu : t / by_ = u at *
    refine W_ld (.slice (some ⟨b, 0, none⟩) N c) w.heap.size rfl rfl (fun V' h => ?_) ?_
    · have := f3 V' h
      simp [go_sem, this]
    refine W_fl (.int .i64 (i : Nat)) rfl rfl (fun V' => ?_) ?_
    · simp [go_sem]
    refine W_ld (.int .u64 (t : Nat)) (w.heap.size + 2) rfl rfl (fun V' h => ?_) ?_
    · have := f5 V' h
      simp [go_sem, this]
    refine W_ld (.int .u32 (by_ : Nat)) (w.heap.size + 1) rfl rfl (fun V' h => ?_) ?_
    · have := f4 V' h
      simp [go_sem, this]
    refine W_fl (.int .u64 (by_ : Nat)) rfl rfl (fun V' => ?_) ?_
    · simp [go_sem, hby1]
    refine W_fl (.int .u64 (u : Nat)) rfl rfl (fun V' => ?_) ?_
    · simp [go_sem, hbyN, hq]
    refine W_fl (.int .u32 (u : Nat)) rfl rfl (fun V' => ?_) ?_
    · simp [go_sem, hq2]
    refine W_fl (.pointer (some ⟨b, i, none⟩)) rfl rfl (fun V' => ?_) ?_
    · simp [go_sem, hiN]
    refine W_st (w' := (V.setCell ⟨b, i, none⟩ (.int .u32 (u : Nat))).drew) rfl rfl rfl ?_ ?_
    · simp [go_sem, f1, f2]
    rename_i hK
    have g0 := KeepsOthers.setCell V ⟨b, i, none⟩ (.int .u32 (u : Nat))
    have g1 : ∀ x, x ≠ b → (V.setCell ⟨b, i, none⟩ (.int .u32 (u : Nat))).drew.heap[x]? = V.heap[x]? := fun x hx => Below.heap_setCell V ⟨b, i, none⟩ _ x hx
    have g2 : (V.setCell ⟨b, i, none⟩ (.int .u32 (u : Nat))).drew.heap[b]? = some (.cells (nums .u32 (o.set i u) ++ rest).toArray T (0, 0)) := by
      show (V.heap.modify b _)[b]? = _
      rw [Array.getElem?_modify]
      simp only [if_true, e4, Option.map_some]
      have := stv_app (k := .u32) (l := o) (rest := rest) (i := i) (x := u) (by omega)
      rw [stv_of _ _ _ (by simp [nums]; omega)] at this
      injection this with this
      rw [← this]
      simp [List.set_eq_take_append_cons_drop, nums]
      intro h
      omega
    have g3 := (KeepsOthers.trans g0 (KeepsOthers.drew _))
    have g4 : ButB w.heap.size b w (V.setCell ⟨b, i, none⟩ (.int .u32 (u : Nat))).drew := by
      have h := e6.setB i (.int .u32 (u : Nat))
      exact ⟨h.os, h.tape, h.output, h.size, h.block⟩
    have g5 : w.heap.size + 4 ≤ (V.setCell ⟨b, i, none⟩ (.int .u32 (u : Nat))).drew.heap.size := by simpa using e7
    have g6 : ∀ x, b ≠ x → (V.setCell ⟨b, i, none⟩ (.int .u32 (u : Nat))).drew.cell? ⟨x, 0, none⟩ = V.cell? ⟨x, 0, none⟩ := fun x hx => World.cell?_of_block (a := ⟨x, 0, none⟩) (g1 x (Ne.symm hx))
    have g7 : ∀ x, b ≠ x → (V.setCell ⟨b, i, none⟩ (.int .u32 (u : Nat))).drew.frozen? ⟨x, 0, none⟩ = V.frozen? ⟨x, 0, none⟩ := fun x hx => World.frozen?_of_block (a := ⟨x, 0, none⟩) (g1 x (Ne.symm hx))
    have k2 : KeepsOthers W (V.setCell ⟨b, i, none⟩ (.int .u32 (u : Nat))).drew := k1.trans g3
    have h1 := (g6 _ (by omega)).trans e1
    have h2 := (g6 _ (by omega)).trans e2
    have h3 := (g6 _ (by omega)).trans e3
    have h3f := (g7 _ (by omega)).trans e3f
    have h5 := (g6 _ (by omega)).trans e5
    refine hK _ _ ?_
    generalize (V.setCell ⟨b, i, none⟩ (.int .u32 (u : Nat))).drew = V2 at *
    have hmod : (t : Int).tmod (by_ : Int) = ((t % by_ : Nat) : Int) := by rw [Int.natCast_emod, Int.tmod_eq_emod_of_nonneg (Int.natCast_nonneg _)]
    gi_wp2
    have b2 : Below (w.heap.size + 2) V2 (V2.setCell ⟨w.heap.size + 2, 0, none⟩ (.int .u64 (t % by_ : Nat))) := (Below.refl _ V2).setCell (p := ⟨w.heap.size + 2, 0, none⟩) (Nat.le_refl _) _
    rw [show ((t : Int) % (by_ : Int)) = ((t % by_ : Nat) : Int) from (Int.natCast_emod t by_).symm]
    refine ⟨k2.trans (KeepsOthers.setCell _ _ _), o.set i u, t % by_, by omega, g4.below (b2.mono (by omega)) (Nat.le_refl _), (b2.cell (p := ⟨w.heap.size, 0, none⟩) (by simp)).trans h1, (b2.cell (p := ⟨w.heap.size + 1, 0, none⟩) (by simp)).trans h2,
      World.cell?_setCell_same' _ _ _ (by rw [h3]; rfl), by rw [World.frozen?_setCell]; exact h3f, by rw [World.cell?_setCell_other _ _ _ _ (by simp)]; exact h5, by simpa using g5, (b2.block b (by omega)).trans g2, by simpa using i10, i11.set z2, z3, fun j hj => ?_, by rw [ek]; exact z4⟩
    rw [← i13 j (by omega)]
    simp only [List.getD]
    rw [List.getElem?_set_ne (by omega)]
  case done =>
    rintro W ⟨o, r, i1, i2, i3, i4, i5, i6, i7, i8, i9, i10, i11, i12, i13, i14⟩ hD
    have hb : Below (w.heap.size + 4) W (W.putObj W4.heap.size (.deferred none)) := below_put _ _ _ (by omega)
    have hr32 : IntKind.u32.wrap (r : Int) = (r : Int) := nCu32 (Nat.le_of_lt_succ (Nat.lt_trans i12 hby2))
    rw [Nat.sub_self, List.drop_zero, List.drop_zero] at i14
    have e1 : val l % by_ = r := by rw [i14, Nat.add_comm, Nat.add_mul_mod_self_right, Nat.mod_eq_of_lt i12]
    have e2 : val l / by_ = val o := by rw [i14, Nat.add_comm, Nat.add_mul_div_right _ _ hby, Nat.div_eq_of_lt i12, Nat.zero_add]
    gi_wp2
    refine ⟨by simp, .inl ⟨_, _, rfl, run_takeDeferred hD, ?_⟩⟩
    refine ⟨_, results_tmp rfl _ _ _, o, ?_, by rw [i10], i11, e2.symm, (hb.block b (by omega)).trans i9, i2.below (hb.mono (by omega)) (Nat.le_refl _)⟩
    rw [e1]
    simp
  case stop =>
    intro k W h
    exact h.elim

theorem short_ok (H : PH) (T : TypeId) (M : PH) (A : Option Addr) (l : List Nat) (c by_ : Nat) (hO : Own .u32 T M A l c) (hlim : Lim l) (h0 : l ≠ []) (hl : l.length ≤ 1000000000) (hby : 0 < by_) (hby2 : by_ < 4294967296) :
    Fn Tryd.prog 49 [.slice A l.length c, .int .u32 (by_ : Nat)] H M fun v H' M' => ∃ o : List Nat, v = .int .u32 (val l % by_ : Nat) ∧ H' = H ∧ o.length = l.length ∧ Lim o ∧ val o = val l / by_ ∧ Own .u32 T M' A o c ∧ But M M' A := by
  rcases hO with ⟨_, h, _⟩ | ⟨b, rest, rfl, hM, hc, hcm⟩
  · exact absurd h h0
  intro w hH hMw hd
  have hw := hMw b _ hM
  refine ((callsIn_wide (n := 3)).1 (short_in b by_ l rest c T hl hlim (List.length_pos_iff.2 h0) (by omega) hby hby2 w hw)).mono ?_
  rintro e w' ⟨o, rfl, ho, hlo, hv, hw', hB⟩
  refine ⟨_, H, M.set b (.cells (nums .u32 o ++ rest).toArray T (0, 0)), rfl, ⟨hB.os, hB.tape, hB.output, hB.size, fun k hk hn => hB.block k hk (fun e => by rw [e, hM] at hn; cases hn)⟩, PH.le.refl _, fun k ob hk => ?_, fun k ob hk => ?_, hd.set (hd.at hM), fun k hk => .inl hk, fun k hk => ?_,
    o, rfl, rfl, ho, hlo, hv, .inr ⟨b, rest, rfl, PH.set_self _ _ _, by omega, hcm⟩, fun k ob hk hne => ?_⟩
  · have h := hH k ob hk
    rw [hB.block k (Array.getElem?_eq_some_iff.1 h).1 (fun e => by rw [e] at hk; rw [hd.at hM] at hk; cases hk)]
    exact h
  · by_cases hkb : k = b
    · subst hkb
      rw [PH.set_self] at hk
      injection hk with hk
      rw [← hk]; exact hw'
    · rw [PH.set_ne _ _ hkb] at hk
      have h := hMw k ob hk
      rw [hB.block k (Array.getElem?_eq_some_iff.1 h).1 hkb]
      exact h
  · by_cases hkb : k = b
    · left; rw [hkb, hM]; simp
    · rw [PH.set_ne _ _ hkb] at hk; exact .inl hk
  · rw [PH.set_ne _ _ (fun e => hne (by rw [e]))]
    exact hk

end Go.Proofs.YtlhhdlhnpgiamaaDoor.X
