/- Package nat: Read, Bytes. -/
import Derived.Test.YtlhhdlhnpgiamaaDoorNI
import Derived.Test.YtlhhdlhnpgiamaaDoorME
set_option linter.unusedVariables false
set_option linter.unusedSimpArgs false
namespace Go.Proofs.YtlhhdlhnpgiamaaDoor.X
open Go Go.RowKit Go.Proofs

def rdOk (l : List Nat) : Bool := l.isEmpty || l.getD 0 0 != 0

theorem read_ok (H : PH) (t : ByteArray) (ht : t.size ≤ 1000000000) : FnP Tryd.prog 14 [.string t] H fun v H' => ∃ v', v = .tuple #[v', .int .i64 (if rdOk (bs t) then 0 else 2)] ∧ NatV H' v' (if rdOk (bs t) then bv (bs t) else 0) := by
  have hsz := bs_length t
  refine of_nat_Read (by simp) ?_
  simp only [go_sem, Nat.reduceEqDiff, Bool.false_eq_true, Nat.reduceBEq, ↓reduceIte, p_nat_Read]
  refine ev_if (fun h => ?_) (fun h => ?_)
  · simp only [go_sem, Nat.reduceEqDiff, Bool.false_eq_true, Nat.reduceBEq, ↓reduceIte]
    have hne : t.size ≠ 0 := fun h0 => h (by apply bs_inj; rw [List.eq_nil_of_length_eq_zero (by omega : (bs t).length = 0)]; rfl)
    have hb0 := bs_getD t 0
    have he : (bs t).isEmpty = false := by
      cases hq : bs t with
      | nil => rw [hq] at hsz; simp only [List.length_nil] at hsz; omega
      | cons _ _ => rfl
    refine ev_ix (by omega) (by omega) ?_
    simp only [go_sem, Nat.reduceEqDiff, Bool.false_eq_true, Nat.reduceBEq, ↓reduceIte]
    rw [show (0 : Int).toNat = 0 from rfl]
    refine ev_if (fun h3 => ?_) (fun h3 => ?_)
    · simp only [go_sem, Nat.reduceEqDiff, Bool.false_eq_true, Nat.reduceBEq, ↓reduceIte]
      have hk : rdOk (bs t) = false := by unfold rdOk; rw [he, ← hb0, show bAt t 0 = 0 by omega]; rfl
      rw [hk]
      exact ⟨by trivial, _, rfl, NatV.zero _ _⟩
    · have hk : rdOk (bs t) = true := by unfold rdOk; rw [he, ← hb0, Bool.false_or, bne_iff_ne]; omega
      simp only [go_sem, Nat.reduceEqDiff, Bool.false_eq_true, Nat.reduceBEq, ↓reduceIte]
      simp (disch := omega) only [nA64, nS64, nM64, nC64, nA64l, nS64l, nM64l, nM64r, nR64l, nL64l, nAu64, nMu64, nMu64r, nSu64, nAu64l, nLu64l, nCu64, nCu32, nCu8, nAu32, nLu32l, nSu8l, toNat_cast]
      refine quo_nat (a := t.size + 3) (m := 4) rfl (by decide) (by simp (disch := omega) only [w64, wu64, wu32, wu8]) ?_
      simp only [go_sem, Nat.reduceEqDiff, Bool.false_eq_true, Nat.reduceBEq, ↓reduceIte]
      refine ev_mkO (by omega) (by omega) (by omega) (PH.disj_no _) ?_
      intro g M hO _ _ hd
      simp only [go_sem, Nat.reduceEqDiff, Bool.false_eq_true, Nat.reduceBEq, ↓reduceIte]
      rw [toNat_cast] at hO ⊢
      obtain ⟨N, hN⟩ : ∃ N, (t.size + 3) / 4 = N := ⟨_, rfl⟩
      rw [hN] at hO ⊢
      refine ev_loop (fun n s => ∃ i o M, i ≤ t.size ∧ n = t.size - i ∧ o.length = N ∧ Lim o ∧ val o = bv ((bs t).drop (t.size - i)) ∧ Own .u32 60 M (some ⟨g, 0, none⟩) o N ∧ PH.disj H M ∧
        s = ⟨[(21, .v (.int .i64 (i : Nat))), (20, .v (.int .i64 (t.size : Nat))), (4, .v (.slice (some ⟨g, 0, none⟩) N N)), (2, .ptr 2 0), (0, .v (.string t))], [(2, [.slice none 0 0])], H, M⟩)
        t.size _ ⟨0, _, M, by omega, by omega, by simp, Lim.replicate _, by rw [val_replicate, Nat.sub_zero, List.drop_of_length_le (by omega)]; rfl, hO, hd, rfl⟩ ⟨rfl, by simp only [go_sem, Nat.reduceEqDiff, Bool.false_eq_true, Nat.reduceBEq, ↓reduceIte, and_self, Option.some.injEq, SV.v.injEq, SV.ptr.injEq, Value.int.injEq, Value.bool.injEq, Value.slice.injEq, true_and, and_true] <;> (repeat' apply And.intro) <;> first | rfl | omega | (simp (disch := omega) only [w64, wu64, wu32, wu8] <;> omega), by simp only [go_sem, Nat.reduceEqDiff, Bool.false_eq_true, Nat.reduceBEq, ↓reduceIte, and_self, Option.some.injEq, SV.v.injEq, SV.ptr.injEq, Value.int.injEq, Value.bool.injEq, Value.slice.injEq, true_and, and_true] <;> (repeat' apply And.intro) <;> rfl, rfl, PH.le.refl _⟩ ?_
      clear hO hd
      rintro n s ⟨i, o, M, hi, rfl, ho, hlo, hv, hO, hd, rfl⟩
      simp only [go_sem, Nat.reduceEqDiff, Bool.false_eq_true, Nat.reduceBEq, ↓reduceIte]
      refine ev_if (fun h2 => ?_) (fun h2 => ?_)
      · have hlt : t.size - 1 - i < (bs t).length := by omega
        have hb := bs_getD t (t.size - 1 - i)
        have hmem : (bs t).getD (t.size - 1 - i) 0 ∈ bs t := by rw [List.getD, List.getElem?_eq_getElem hlt]; exact List.getElem_mem hlt
        have hblt : bAt t (t.size - 1 - i) < 256 := by rw [hb]; exact bs_lt t _ hmem
        have hdr := drop_eq (bs t) (t.size - 1 - i) hlt
        rw [← hb, show t.size - 1 - i + 1 = t.size - i by omega] at hdr
        have hV := bv_lt (l := (bs t).drop (t.size - i)) fun d hd => bs_lt t d (List.mem_of_mem_drop hd)
        rw [List.length_drop, show (bs t).length - (t.size - i) = i by omega] at hV
        have hlen4 : i / 4 < o.length := by omega
        obtain ⟨z1, z2, z3, z4⟩ := read_step _ i (bAt t (t.size - 1 - i)) o hblt hV hv hlo hlen4
        generalize hbb : bAt t (t.size - 1 - i) = b at *
        simp only [go_sem, Nat.reduceEqDiff, Bool.false_eq_true, Nat.reduceBEq, ↓reduceIte]
        refine quo_nat (a := i) (m := 4) rfl (by decide) (by simp (disch := omega) only [w64, wu64, wu32, wu8]) ?_
        simp only [go_sem, Nat.reduceEqDiff, Bool.false_eq_true, Nat.reduceBEq, ↓reduceIte]
        refine ev_iaN (i / 4) rfl (by omega) rfl ?_
        simp only [go_sem, Nat.reduceEqDiff, Bool.false_eq_true, Nat.reduceBEq, ↓reduceIte]
        refine ev_ldO hO hlen4 ?_
        simp only [go_sem, Nat.reduceEqDiff, Bool.false_eq_true, Nat.reduceBEq, ↓reduceIte]
        simp (disch := omega) only [nA64, nS64, nM64, nC64, nA64l, nS64l, nM64l, nM64r, nR64l, nL64l, nAu64, nMu64, nMu64r, nSu64, nAu64l, nLu64l, nCu64, nCu32, nCu8, nAu32, nLu32l, nSu8l, toNat_cast]
        refine ev_ix (by omega) (by omega) ?_
        rw [toNat_cast, hbb]
        simp only [go_sem, Nat.reduceEqDiff, Bool.false_eq_true, Nat.reduceBEq, ↓reduceIte]
        simp (disch := omega) only [nA64, nS64, nM64, nC64, nA64l, nS64l, nM64l, nM64r, nR64l, nL64l, nAu64, nMu64, nMu64r, nSu64, nAu64l, nLu64l, nCu64, nCu32, nCu8, nAu32, nLu32l, nSu8l, toNat_cast]
        refine rem_nat (a := i) (m := 4) rfl (by decide) ?_
        simp only [go_sem, Nat.reduceEqDiff, Bool.false_eq_true, Nat.reduceBEq, ↓reduceIte]
        simp (disch := omega) only [nA64, nS64, nM64, nC64, nA64l, nS64l, nM64l, nM64r, nR64l, nL64l, nAu64, nMu64, nMu64r, nSu64, nAu64l, nLu64l, nCu64, nCu32, nCu8, nAu32, nLu32l, nSu8l, toNat_cast]
        refine shl_nat (n := 8 * (i % 4)) (y := b * 2 ^ (8 * (i % 4))) rfl (by show 8 * (i % 4) ≤ 32; omega) (wu32n _ rfl (by omega)) ?_
        simp only [go_sem, Nat.reduceEqDiff, Bool.false_eq_true, Nat.reduceBEq, ↓reduceIte]
        rw [or32 (hlo.getD _) z3, z1]
        refine ev_iaN (i / 4) rfl (by omega) rfl ?_
        simp only [go_sem, Nat.reduceEqDiff, Bool.false_eq_true, Nat.reduceBEq, ↓reduceIte]
        refine ev_stO hO hlen4 ?_
        intro M' hO' _ hd'
        simp only [go_sem, Nat.reduceEqDiff, Bool.false_eq_true, Nat.reduceBEq, ↓reduceIte]
        simp (disch := omega) only [nA64, nS64, nM64, nC64, nA64l, nS64l, nM64l, nM64r, nR64l, nL64l, nAu64, nMu64, nMu64r, nSu64, nAu64l, nLu64l, nCu64, nCu32, nCu8, nAu32, nLu32l, nSu8l, toNat_cast]
        refine k_next (t.size - (i + 1)) _ (by omega) ⟨i + 1, _, M', by omega, rfl, by simp; omega, hlo.set z2, ?_, hO', hd' _ hd, rfl⟩ ⟨rfl, by simp only [go_sem, Nat.reduceEqDiff, Bool.false_eq_true, Nat.reduceBEq, ↓reduceIte, and_self, Option.some.injEq, SV.v.injEq, SV.ptr.injEq, Value.int.injEq, Value.bool.injEq, Value.slice.injEq, true_and, and_true] <;> (repeat' apply And.intro) <;> first | rfl | omega | (simp (disch := omega) only [w64, wu64, wu32, wu8] <;> omega), by simp only [go_sem, Nat.reduceEqDiff, Bool.false_eq_true, Nat.reduceBEq, ↓reduceIte, and_self, Option.some.injEq, SV.v.injEq, SV.ptr.injEq, Value.int.injEq, Value.bool.injEq, Value.slice.injEq, true_and, and_true] <;> (repeat' apply And.intro) <;> rfl, rfl, PH.le.refl _⟩
        rw [z4, show t.size - (i + 1) = t.size - 1 - i by omega, hdr, bv_cons, List.length_drop, show (bs t).length - (t.size - i) = i by omega]
      · have hil : i = t.size := by omega
        subst hil
        rw [Nat.sub_self, List.drop_zero] at hv
        simp only [go_sem, Nat.reduceEqDiff, Bool.false_eq_true, Nat.reduceBEq, ↓reduceIte]
        refine ev_cutA hO (by omega) hlo (by omega) hd ?_
        intro v H' hl hN
        have hN2 := hN
        obtain ⟨A', l', c', rfl, _⟩ := hN2
        simp only [go_sem, Nat.reduceEqDiff, Bool.false_eq_true, Nat.reduceBEq, ↓reduceIte]
        rw [hk]
        refine ⟨by trivial, _, rfl, ?_⟩
        rw [if_pos rfl, ← hv]; exact hN
  · have hk : rdOk (bs t) = true := by
      have : t = ⟨#[]⟩ := by simpa using h
      rw [this]; rfl
    simp only [go_sem, Nat.reduceEqDiff, Bool.false_eq_true, Nat.reduceBEq, ↓reduceIte]
    simp (disch := omega) only [nA64, nS64, nM64, nC64, nA64l, nS64l, nM64l, nM64r, nR64l, nL64l, nAu64, nMu64, nMu64r, nSu64, nAu64l, nLu64l, nCu64, nCu32, nCu8, nAu32, nLu32l, nSu8l, toNat_cast]
    refine quo_nat (a := t.size + 3) (m := 4) rfl (by decide) (by simp (disch := omega) only [w64, wu64, wu32, wu8]) ?_
    simp only [go_sem, Nat.reduceEqDiff, Bool.false_eq_true, Nat.reduceBEq, ↓reduceIte]
    refine ev_mkO (by omega) (by omega) (by omega) (PH.disj_no _) ?_
    intro g M hO _ _ hd
    simp only [go_sem, Nat.reduceEqDiff, Bool.false_eq_true, Nat.reduceBEq, ↓reduceIte]
    rw [toNat_cast] at hO ⊢
    obtain ⟨N, hN⟩ : ∃ N, (t.size + 3) / 4 = N := ⟨_, rfl⟩
    rw [hN] at hO ⊢
    refine ev_loop (fun n s => ∃ i o M, i ≤ t.size ∧ n = t.size - i ∧ o.length = N ∧ Lim o ∧ val o = bv ((bs t).drop (t.size - i)) ∧ Own .u32 60 M (some ⟨g, 0, none⟩) o N ∧ PH.disj H M ∧
      s = ⟨[(21, .v (.int .i64 (i : Nat))), (20, .v (.int .i64 (t.size : Nat))), (4, .v (.slice (some ⟨g, 0, none⟩) N N)), (2, .ptr 2 0), (0, .v (.string t))], [(2, [.slice none 0 0])], H, M⟩)
      t.size _ ⟨0, _, M, by omega, by omega, by simp, Lim.replicate _, by rw [val_replicate, Nat.sub_zero, List.drop_of_length_le (by omega)]; rfl, hO, hd, rfl⟩ ⟨rfl, by simp only [go_sem, Nat.reduceEqDiff, Bool.false_eq_true, Nat.reduceBEq, ↓reduceIte, and_self, Option.some.injEq, SV.v.injEq, SV.ptr.injEq, Value.int.injEq, Value.bool.injEq, Value.slice.injEq, true_and, and_true] <;> (repeat' apply And.intro) <;> first | rfl | omega | (simp (disch := omega) only [w64, wu64, wu32, wu8] <;> omega), by simp only [go_sem, Nat.reduceEqDiff, Bool.false_eq_true, Nat.reduceBEq, ↓reduceIte, and_self, Option.some.injEq, SV.v.injEq, SV.ptr.injEq, Value.int.injEq, Value.bool.injEq, Value.slice.injEq, true_and, and_true] <;> (repeat' apply And.intro) <;> rfl, rfl, PH.le.refl _⟩ ?_
    clear hO hd
    rintro n s ⟨i, o, M, hi, rfl, ho, hlo, hv, hO, hd, rfl⟩
    simp only [go_sem, Nat.reduceEqDiff, Bool.false_eq_true, Nat.reduceBEq, ↓reduceIte]
    refine ev_if (fun h2 => ?_) (fun h2 => ?_)
    · have hlt : t.size - 1 - i < (bs t).length := by omega
      have hb := bs_getD t (t.size - 1 - i)
      have hmem : (bs t).getD (t.size - 1 - i) 0 ∈ bs t := by rw [List.getD, List.getElem?_eq_getElem hlt]; exact List.getElem_mem hlt
      have hblt : bAt t (t.size - 1 - i) < 256 := by rw [hb]; exact bs_lt t _ hmem
      have hdr := drop_eq (bs t) (t.size - 1 - i) hlt
      rw [← hb, show t.size - 1 - i + 1 = t.size - i by omega] at hdr
      have hV := bv_lt (l := (bs t).drop (t.size - i)) fun d hd => bs_lt t d (List.mem_of_mem_drop hd)
      rw [List.length_drop, show (bs t).length - (t.size - i) = i by omega] at hV
      have hlen4 : i / 4 < o.length := by omega
      obtain ⟨z1, z2, z3, z4⟩ := read_step _ i (bAt t (t.size - 1 - i)) o hblt hV hv hlo hlen4
      generalize hbb : bAt t (t.size - 1 - i) = b at *
      simp only [go_sem, Nat.reduceEqDiff, Bool.false_eq_true, Nat.reduceBEq, ↓reduceIte]
      refine quo_nat (a := i) (m := 4) rfl (by decide) (by simp (disch := omega) only [w64, wu64, wu32, wu8]) ?_
      simp only [go_sem, Nat.reduceEqDiff, Bool.false_eq_true, Nat.reduceBEq, ↓reduceIte]
      refine ev_iaN (i / 4) rfl (by omega) rfl ?_
      simp only [go_sem, Nat.reduceEqDiff, Bool.false_eq_true, Nat.reduceBEq, ↓reduceIte]
      refine ev_ldO hO hlen4 ?_
      simp only [go_sem, Nat.reduceEqDiff, Bool.false_eq_true, Nat.reduceBEq, ↓reduceIte]
      simp (disch := omega) only [nA64, nS64, nM64, nC64, nA64l, nS64l, nM64l, nM64r, nR64l, nL64l, nAu64, nMu64, nMu64r, nSu64, nAu64l, nLu64l, nCu64, nCu32, nCu8, nAu32, nLu32l, nSu8l, toNat_cast]
      refine ev_ix (by omega) (by omega) ?_
      rw [toNat_cast, hbb]
      simp only [go_sem, Nat.reduceEqDiff, Bool.false_eq_true, Nat.reduceBEq, ↓reduceIte]
      simp (disch := omega) only [nA64, nS64, nM64, nC64, nA64l, nS64l, nM64l, nM64r, nR64l, nL64l, nAu64, nMu64, nMu64r, nSu64, nAu64l, nLu64l, nCu64, nCu32, nCu8, nAu32, nLu32l, nSu8l, toNat_cast]
      refine rem_nat (a := i) (m := 4) rfl (by decide) ?_
      simp only [go_sem, Nat.reduceEqDiff, Bool.false_eq_true, Nat.reduceBEq, ↓reduceIte]
      simp (disch := omega) only [nA64, nS64, nM64, nC64, nA64l, nS64l, nM64l, nM64r, nR64l, nL64l, nAu64, nMu64, nMu64r, nSu64, nAu64l, nLu64l, nCu64, nCu32, nCu8, nAu32, nLu32l, nSu8l, toNat_cast]
      refine shl_nat (n := 8 * (i % 4)) (y := b * 2 ^ (8 * (i % 4))) rfl (by show 8 * (i % 4) ≤ 32; omega) (wu32n _ rfl (by omega)) ?_
      simp only [go_sem, Nat.reduceEqDiff, Bool.false_eq_true, Nat.reduceBEq, ↓reduceIte]
      rw [or32 (hlo.getD _) z3, z1]
      refine ev_iaN (i / 4) rfl (by omega) rfl ?_
      simp only [go_sem, Nat.reduceEqDiff, Bool.false_eq_true, Nat.reduceBEq, ↓reduceIte]
      refine ev_stO hO hlen4 ?_
      intro M' hO' _ hd'
      simp only [go_sem, Nat.reduceEqDiff, Bool.false_eq_true, Nat.reduceBEq, ↓reduceIte]
      simp (disch := omega) only [nA64, nS64, nM64, nC64, nA64l, nS64l, nM64l, nM64r, nR64l, nL64l, nAu64, nMu64, nMu64r, nSu64, nAu64l, nLu64l, nCu64, nCu32, nCu8, nAu32, nLu32l, nSu8l, toNat_cast]
      refine k_next (t.size - (i + 1)) _ (by omega) ⟨i + 1, _, M', by omega, rfl, by simp; omega, hlo.set z2, ?_, hO', hd' _ hd, rfl⟩ ⟨rfl, by simp only [go_sem, Nat.reduceEqDiff, Bool.false_eq_true, Nat.reduceBEq, ↓reduceIte, and_self, Option.some.injEq, SV.v.injEq, SV.ptr.injEq, Value.int.injEq, Value.bool.injEq, Value.slice.injEq, true_and, and_true] <;> (repeat' apply And.intro) <;> first | rfl | omega | (simp (disch := omega) only [w64, wu64, wu32, wu8] <;> omega), by simp only [go_sem, Nat.reduceEqDiff, Bool.false_eq_true, Nat.reduceBEq, ↓reduceIte, and_self, Option.some.injEq, SV.v.injEq, SV.ptr.injEq, Value.int.injEq, Value.bool.injEq, Value.slice.injEq, true_and, and_true] <;> (repeat' apply And.intro) <;> rfl, rfl, PH.le.refl _⟩
      rw [z4, show t.size - (i + 1) = t.size - 1 - i by omega, hdr, bv_cons, List.length_drop, show (bs t).length - (t.size - i) = i by omega]
    · have hil : i = t.size := by omega
      subst hil
      rw [Nat.sub_self, List.drop_zero] at hv
      simp only [go_sem, Nat.reduceEqDiff, Bool.false_eq_true, Nat.reduceBEq, ↓reduceIte]
      refine ev_cutA hO (by omega) hlo (by omega) hd ?_
      intro v H' hl hN
      have hN2 := hN
      obtain ⟨A', l', c', rfl, _⟩ := hN2
      simp only [go_sem, Nat.reduceEqDiff, Bool.false_eq_true, Nat.reduceBEq, ↓reduceIte]
      rw [hk]
      refine ⟨by trivial, _, rfl, ?_⟩
      rw [if_pos rfl, ← hv]; exact hN

theorem ev_b2sO {d : Nat} {X : XT} {fr : List (Nat × SV)} {lh : List (Nat × List Value)} {H M : PH} {K : St → Prop} {T : TypeId} {A : Option Addr} {l : List Nat} {n c : Nat} (hO : Own .u8 T M A l c) (hn : n = l.length) (hl : ∀ d ∈ l, d < 256)
    (k1 : X ⟨(d, .v (.string (ofB l))) :: fr, lh, H, M⟩ K) : EvB2s A n d X ⟨fr, lh, H, M⟩ K := by
  subst hn
  refine ⟨l.map UInt8.ofNat, by simp, ?_, ?_⟩
  · rcases hO with ⟨h, _⟩ | ⟨g, rest, h1, h2, h3, _⟩
    · exact .inl h
    · refine .inr ⟨g, 0, _, T, (0, 0), h1, .inr h2, ?_⟩
      rw [List.drop_zero, takeN_of _ _ (by simp [nums])]
      simp only [List.map_map]
      rw [List.take_append_of_le_length (by simp [nums]), List.take_of_length_le (by simp [nums])]
      congr 1
      apply List.map_congr_left
      intro d hd
      simp [Nat.mod_eq_of_lt (hl d hd)]
  · have : (if A.isNone = true then #[] else (l.map UInt8.ofNat).toArray) = (l.map UInt8.ofNat).toArray := by
      rcases hO with ⟨h, h2, _⟩ | ⟨g, rest, h1, _⟩
      · rw [h, h2]; rfl
      · rw [h1]; rfl
    rw [this]
    exact k1

theorem val_digit : ∀ (l : List Nat) (j : Nat), Lim l → val l / 4294967296 ^ j % 4294967296 = l.getD j 0
  | [], j, _ => by simp [val]
  | x :: l, 0, h => by
    have := h.head
    simp only [val, List.getD_cons_zero]; omega
  | x :: l, j + 1, h => by
    have := h.head
    have ih := val_digit l j h.tail
    simp only [val, List.getD_cons_succ]
    rw [Nat.pow_succ, Nat.mul_comm (4294967296 ^ j), ← Nat.div_div_eq_div_mul, show (x + 4294967296 * val l) / 4294967296 = val l by omega]
    exact ih
theorem val_byte (l : List Nat) (i : Nat) (h : Lim l) : l.getD (i / 4) 0 / 2 ^ (8 * (i % 4)) % 256 = val l / 256 ^ i % 256 := by
  rw [← val_digit l (i / 4) h]
  have h256 : (256 : Nat) ^ i = 4294967296 ^ (i / 4) * 2 ^ (8 * (i % 4)) := by
    rw [pow32, ← Nat.pow_add, show (256 : Nat) = 2 ^ 8 from rfl, ← Nat.pow_mul]
    congr 1; omega
  rw [h256, ← Nat.div_div_eq_div_mul]
  generalize val l / 4294967296 ^ (i / 4) = y
  have h4 : i % 4 < 4 := Nat.mod_lt _ (by decide)
  generalize i % 4 = k at *
  rcases k with _ | _ | _ | _ | k
  · simp only [Nat.mul_zero, Nat.pow_zero]; omega
  · simp only [Nat.reduceMul, Nat.reducePow, Nat.reduceAdd]; omega
  · simp only [Nat.reduceMul, Nat.reducePow, Nat.reduceAdd]; omega
  · simp only [Nat.reduceMul, Nat.reducePow, Nat.reduceAdd]; omega
  · omega

/-- the bytes of a number, the greatest first -/
def btx (x : Nat) : List Nat := (dg 256 ((bl x + 7) / 8) x).reverse
theorem btx_lt (x : Nat) : ∀ d ∈ btx x, d < 256 := fun d hd => dg_lt 256 (by decide) _ x d (by simpa [btx] using hd)

theorem bytes_ok (H : PH) (v : Value) (x : Nat) (hN : NatV H v x) (hb : bl x ≤ 4294967296) : FnP Tryd.prog 17 [v] H fun v _ => v = .string (ofB (btx x)) := by
  obtain ⟨A, l, c, rfl, hc, hS, hn, rfl⟩ := hN
  have hlen := len_le_bl hn
  have hbl := bl_le_len hn.1
  have bits := bits_ok H A l c hS hn (by omega)
  refine Fn.release (of_nat_Nat_Bytes (by simp) ?_)
  simp only [go_sem, Nat.reduceEqDiff, Bool.false_eq_true, Nat.reduceBEq, ↓reduceIte, p_nat_Nat_Bytes]
  refine ev_call bits ?_
  rintro v H' hle rfl hd
  replace hS := hS.le hle
  clear bits hle hd
  have hbx : btx (val l) = (dg 256 ((bl (val l) + 7) / 8) (val l)).reverse := rfl
  generalize hB : bl (val l) = b at *
  simp only [go_sem, Nat.reduceEqDiff, Bool.false_eq_true, Nat.reduceBEq, ↓reduceIte]
  simp (disch := omega) only [nA64, nS64, nM64, nC64, nA64l, nS64l, nM64l, nM64r, nR64l, nL64l, nAu64, nMu64, nMu64r, nSu64, nAu64l, nLu64l, nCu64, nCu32, nCu8, nAu32, nLu32l, nSu8l, toNat_cast]
  refine quo_nat (a := b + 7) (m := 8) rfl (by decide) (by simp (disch := omega) only [w64, wu64, wu32, wu8]) ?_
  simp only [go_sem, Nat.reduceEqDiff, Bool.false_eq_true, Nat.reduceBEq, ↓reduceIte]
  refine ev_mkO (by omega) (by omega) (by omega) (PH.disj_no _) ?_
  intro g M hO _ _ hd
  simp only [go_sem, Nat.reduceEqDiff, Bool.false_eq_true, Nat.reduceBEq, ↓reduceIte]
  rw [toNat_cast] at hO ⊢
  obtain ⟨N, hN⟩ : ∃ N, (b + 7) / 8 = N := ⟨_, rfl⟩
  rw [hN] at hO hbx ⊢
  refine ev_loop (fun n s => ∃ i o M, i ≤ N ∧ n = N - i ∧ o.length = N ∧ o.drop (N - i) = (dg 256 i (val l)).reverse ∧ Own .u8 5 M (some ⟨g, 0, none⟩) o N ∧ PH.disj H' M ∧
    s = ⟨[(12, .v (.int .i64 (i : Nat))), (11, .v (.int .i64 (N : Nat))), (3, .v (.slice (some ⟨g, 0, none⟩) N N)), (1, .ptr 1 0)], [(1, [.slice A l.length c])], H', M⟩)
    N _ ⟨0, _, M, by omega, by omega, by simp, by simp [dg], hO, hd, rfl⟩ ⟨rfl, by simp only [go_sem, Nat.reduceEqDiff, Bool.false_eq_true, Nat.reduceBEq, ↓reduceIte, and_self, Option.some.injEq, SV.v.injEq, SV.ptr.injEq, Value.int.injEq, Value.bool.injEq, Value.slice.injEq, true_and, and_true] <;> (repeat' apply And.intro) <;> first | rfl | omega | (simp (disch := omega) only [w64, wu64, wu32, wu8] <;> omega), by simp only [go_sem, Nat.reduceEqDiff, Bool.false_eq_true, Nat.reduceBEq, ↓reduceIte, and_self, Option.some.injEq, SV.v.injEq, SV.ptr.injEq, Value.int.injEq, Value.bool.injEq, Value.slice.injEq, true_and, and_true] <;> (repeat' apply And.intro) <;> rfl, rfl, PH.le.refl _⟩ ?_
  clear hO hd
  rintro n s ⟨i, o, M, hi, rfl, ho, hv, hO, hd, rfl⟩
  simp only [go_sem, Nat.reduceEqDiff, Bool.false_eq_true, Nat.reduceBEq, ↓reduceIte]
  refine ev_if (fun h2 => ?_) (fun h2 => ?_)
  · obtain ⟨b0, off, rfl⟩ := hS.base (by omega)
    simp only [go_sem, Nat.reduceEqDiff, Bool.false_eq_true, Nat.reduceBEq, ↓reduceIte]
    simp (disch := omega) only [nA64, nS64, nM64, nC64, nA64l, nS64l, nM64l, nM64r, nR64l, nL64l, nAu64, nMu64, nMu64r, nSu64, nAu64l, nLu64l, nCu64, nCu32, nCu8, nAu32, nLu32l, nSu8l, toNat_cast]
    refine quo_nat (a := i) (m := 4) rfl (by decide) (by simp (disch := omega) only [w64, wu64, wu32, wu8]) ?_
    simp only [go_sem, Nat.reduceEqDiff, Bool.false_eq_true, Nat.reduceBEq, ↓reduceIte]
    refine ev_iaN (i / 4) rfl (by omega) rfl ?_
    simp only [go_sem, Nat.reduceEqDiff, Bool.false_eq_true, Nat.reduceBEq, ↓reduceIte]
    refine ev_ldS hS rfl (by omega) ?_
    simp only [go_sem, Nat.reduceEqDiff, Bool.false_eq_true, Nat.reduceBEq, ↓reduceIte]
    refine rem_nat (a := i) (m := 4) rfl (by decide) ?_
    simp only [go_sem, Nat.reduceEqDiff, Bool.false_eq_true, Nat.reduceBEq, ↓reduceIte]
    simp (disch := omega) only [nA64, nS64, nM64, nC64, nA64l, nS64l, nM64l, nM64r, nR64l, nL64l, nAu64, nMu64, nMu64r, nSu64, nAu64l, nLu64l, nCu64, nCu32, nCu8, nAu32, nLu32l, nSu8l, toNat_cast]
    refine shr_nat (n := 8 * (i % 4)) rfl (by show 8 * (i % 4) ≤ 32; omega) ?_
    simp only [go_sem, Nat.reduceEqDiff, Bool.false_eq_true, Nat.reduceBEq, ↓reduceIte]
    rw [u8mod, val_byte l i hn.1]
    refine ev_iaN (N - 1 - i) rfl (by omega) rfl ?_
    simp only [go_sem, Nat.reduceEqDiff, Bool.false_eq_true, Nat.reduceBEq, ↓reduceIte]
    refine ev_stO hO (by omega) ?_
    intro M' hO' _ hd'
    simp only [go_sem, Nat.reduceEqDiff, Bool.false_eq_true, Nat.reduceBEq, ↓reduceIte]
    simp (disch := omega) only [nA64, nS64, nM64, nC64, nA64l, nS64l, nM64l, nM64r, nR64l, nL64l, nAu64, nMu64, nMu64r, nSu64, nAu64l, nLu64l, nCu64, nCu32, nCu8, nAu32, nLu32l, nSu8l, toNat_cast]
    refine k_next (N - (i + 1)) _ (by omega) ⟨i + 1, _, M', by omega, rfl, by simp; omega, ?_, hO', hd' _ hd, rfl⟩ ⟨rfl, by simp only [go_sem, Nat.reduceEqDiff, Bool.false_eq_true, Nat.reduceBEq, ↓reduceIte, and_self, Option.some.injEq, SV.v.injEq, SV.ptr.injEq, Value.int.injEq, Value.bool.injEq, Value.slice.injEq, true_and, and_true] <;> (repeat' apply And.intro) <;> first | rfl | omega | (simp (disch := omega) only [w64, wu64, wu32, wu8] <;> omega), by simp only [go_sem, Nat.reduceEqDiff, Bool.false_eq_true, Nat.reduceBEq, ↓reduceIte, and_self, Option.some.injEq, SV.v.injEq, SV.ptr.injEq, Value.int.injEq, Value.bool.injEq, Value.slice.injEq, true_and, and_true] <;> (repeat' apply And.intro) <;> rfl, rfl, PH.le.refl _⟩
    rw [dg_snoc, List.reverse_append, ← hv, show N - (i + 1) = N - 1 - i by omega, drop_eq _ (N - 1 - i) (by simp; omega), show N - 1 - i + 1 = N - i by omega, List.drop_set_of_lt (by omega)]
    simp only [List.reverse_singleton, List.singleton_append]
    congr 1
    simp [List.getD, show N - 1 - i < o.length by omega]
  · have hil : i = N := by omega
    subst hil
    rw [Nat.sub_self, List.drop_zero, ← hbx] at hv
    simp only [go_sem, Nat.reduceEqDiff, Bool.false_eq_true, Nat.reduceBEq, ↓reduceIte]
    refine ev_b2sO hO (by omega) (by rw [hv]; exact btx_lt _) ?_
    simp only [go_sem, Nat.reduceEqDiff, Bool.false_eq_true, Nat.reduceBEq, ↓reduceIte]
    intro _
    rw [hv]

end Go.Proofs.YtlhhdlhnpgiamaaDoor.X
