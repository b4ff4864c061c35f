/- The two readers and the two writers of short numbers agree: the plain law behind VintTells. -/
import Derived.Test.YtlhhdlhnpgiamaaPVintTellsx2
import Derived.Laws.Bits64b
import Derived.Laws.BitsLemmas
namespace Go.Proofs.Ytlhhdlhnpgiamaa.VT
open Go Go.RowKit Go.Proofs.Ytlhhdlhnpgiamaa.PVintTells Go.Proofs.YtlhhdlhnpgiamaaW.PrintWords Go.Proofs.YtlhhdlhnpgiamaaW.PrintLast Go.Proofs.YtlhhdlhnpgiamaaW.PrintMore

theorem w64 (n : Int) (h0 : -9223372036854775808 ≤ n) (h1 : n < 9223372036854775808) : wrap64 n = n := by unfold wrap64; omega
theorem u64w (n : Int) (h0 : 0 ≤ n) (h1 : n < 18446744073709551616) : IntKind.u64.wrap n = n := by rw [IntKind.wrap_u64]; omega
theorem and127 (b : Int) (h0 : 0 ≤ b) (h1 : b < 256) : Go.bits .and .u8 b 127 = b % 128 := bits_mask .u8 8 (by decide) wraps_u8 7 (by decide) b h0 h1
theorem wraps_u64 (n : Int) (h0 : 0 ≤ n) (h1 : n < 2 ^ 64) : IntKind.u64.wrap n = n := u64w n h0 h1
theorem and127' (b : Int) (h0 : 0 ≤ b) (h1 : b < 2 ^ 64) : Go.bits .and .u64 b 127 = b % 128 := bits_mask .u64 64 (by decide) wraps_u64 7 (by decide) b h0 h1
theorem or_comm8 (a b : Int) : Go.bits .or .u8 a b = Go.bits .or .u8 b a := by simp only [Go.bits]; rw [BitVec.or_comm]
theorem or_comm64 (a b : Int) : Go.bits .or .u64 a b = Go.bits .or .u64 b a := by simp only [Go.bits]; rw [BitVec.or_comm]
theorem or8lt (y : Int) (h0 : 0 ≤ y) (h1 : y < 128) : Go.bits .or .u8 y 128 = y + 128 := by
  rw [or_comm8, bits_join .u8 8 (by decide) wraps_u8 7 128 y (by decide) (by decide) (by decide) h0 h1 (by omega)]; omega
theorem or8 (y : Int) (h0 : 0 ≤ y) (h1 : y < 256) : Go.bits .or .u8 y 128 = y % 128 + 128 := by
  by_cases c : y < 128
  · rw [or8lt y h0 c]; omega
  · obtain ⟨z, rfl⟩ : ∃ z : Int, y = 128 + z := ⟨y - 128, by omega⟩
    have e : (128 : Int) + z = Go.bits .or .u8 128 z := (bits_join .u8 8 (by decide) wraps_u8 7 128 z (by decide) (by decide) (by decide) (by omega) (by omega) (by omega)).symm
    have hz : z = (z.toNat : Int) := by omega
    have hlt : z.toNat < 128 := by omega
    rw [hz] at e ⊢
    generalize z.toNat = n at e hlt
    have : Go.bits .or .u8 (128 + (n : Int)) 128 = 128 + n := by
      have h1 := (bits_nat .u8 8 (by decide) wraps_u8 (128 + n) 128 (by omega) (by omega)).2
      rw [show ((128 + n : Nat) : Int) = 128 + (n : Int) by omega] at h1
      have h2 : (128 + n ||| 128 : Nat) = 128 + n := by
        have h3 : 128 + n = 128 ||| n := Nat.two_pow_add_eq_or_of_lt (i := 7) hlt 1
        rw [h3, Nat.or_comm 128 n, Nat.or_assoc, Nat.or_self]
      rw [h2] at h1
      rw [show ((128 : Nat) : Int) = 128 from rfl] at h1
      rw [h1]; omega
    rw [this]; omega
theorem or64 (y : Int) (h0 : 0 ≤ y) (h1 : y < 128) : Go.bits .or .u64 y 128 = y + 128 := by
  rw [or_comm64, bits_join .u64 64 (by decide) wraps_u64 7 128 y (by decide) (by decide) (by decide) h0 h1 (by omega)]; omega
theorem joinlow (i : Nat) (x y : Int) (hx0 : 0 ≤ x) (hx : x < 2 ^ i) (hi : i ≤ 63) (hy0 : 0 ≤ y) (hy : y * 2 ^ i < 2 ^ 64) : Go.bits .or .u64 x (y * 2 ^ i) = x + y * 2 ^ i := by
  have hp : (2 : Int) ^ i ≤ 2 ^ 63 := by exact_mod_cast Nat.pow_le_pow_right (by decide : 0 < 2) hi
  rw [or_comm64, bits_join .u64 64 (by decide) wraps_u64 i (y * 2 ^ i) x (Int.mul_nonneg hy0 (by exact_mod_cast Nat.zero_le _)) (Int.mul_emod_left _ _) hy hx0 hx (by omega)]; omega

/-! ### the two readers agree -/
theorem agree (s : ByteArray) (p : Int) (hs : s.size ≤ 140737488351232) (hp : 0 ≤ p) (hps : p ≤ s.size) : ∀ (n i : Nat) (x : Int) (kv kr : Nat), i + n = 10 → 0 < n → 3 * n ≤ kv → 2 * n ≤ kr →
    ∃ r, vint_Get.l0 kv s p x i = some r ∧ cinctureref2_Get.l0 kr s p x i = some r := by
  intro n
  induction n with
  | zero => intro i x kv kr _ h; omega
  | succ n ih =>
    intro i x kv kr hi _ hkv hkr
    obtain ⟨kv, rfl⟩ : ∃ k, kv = k + 3 := ⟨kv - 3, by omega⟩
    obtain ⟨kr, rfl⟩ : ∃ k, kr = k + 2 := ⟨kr - 2, by omega⟩
    simp only [vint_Get.l0, cinctureref2_Get.l0]
    have e1 : wrap64 ((s.size : Int) - p) = s.size - p := w64 _ (by omega) (by omega)
    have e2 : wrap64 (p + (i : Int)) = p + i := w64 _ (by omega) (by omega)
    have e3 : wrap64 (7 * (i : Int)) = 7 * i := w64 _ (by omega) (by omega)
    have e4 : IntKind.u64.wrap (7 * (i : Int)) = 7 * i := u64w _ (by omega) (by omega)
    rw [e1, e2, e3]
    have hb := bt_range s (p + i)
    generalize bt s (p + i) = b at hb
    have e5 : Int.tmod b 128 = b % 128 := Int.tmod_eq_emod_of_nonneg hb.1
    rw [e5, if_pos (show (i : Int) < 10 by omega)]
    by_cases c1 : (s.size : Int) ≤ p + i
    · rw [if_pos (show (i : Int) ≥ (s.size : Int) - p by omega), if_pos (show p + (i : Int) ≥ s.size from c1)]
      exact ⟨_, rfl, rfl⟩
    rw [if_neg (show ¬ (i : Int) ≥ (s.size : Int) - p by omega), if_neg (show ¬ p + (i : Int) ≥ s.size from c1)]
    rw [if_pos (show 0 ≤ p + (i : Int) by omega), if_pos (show 0 ≤ p + (i : Int) by omega), if_pos (show p + (i : Int) < s.size by omega), if_pos (show p + (i : Int) < s.size by omega)]
    have e6 : wrap64 ((i : Int) + 1) = ((i + 1 : Nat) : Int) := w64 _ (by omega) (by omega)
    simp only [vint_Get.j2, cinctureref2_Get.j2, vint_Get.j3, e2, e3, e4, e6, and127 b hb.1 (show b < 256 by omega)]
    clear e1 e2 e3 e4 e5 e6
    have e7 : 0 ≤ 7 * (i : Int) := by omega
    rw [if_pos e7, if_pos e7]
    generalize Go.bits .or .u64 x (shl .u64 (IntKind.u64.wrap (b % 128)) (7 * (i : Int))) = y
    generalize hI1 : ((i + 1 : Nat) : Int) = I1
    have hI0 : 0 ≤ (i : Int) := by omega
    have hi' : (i : Int) ≤ 9 := by omega
    clear e7
    generalize wrap64 (p + (i : Int) + 1) = q
    obtain ⟨I, hI⟩ : ∃ I : Int, I = (i : Int) := ⟨_, rfl⟩
    rw [← hI]
    rw [← hI] at hI0 hi'
    by_cases c2 : I = 9
    · rw [if_pos c2, if_pos c2]
      have c6 : I > 0 := by omega
      by_cases c3 : b > 1
      · simp [c3]
      · have c5 : b < 128 := by omega
        by_cases c4 : b = 0 <;> simp [c3, c4, c5, c6]
    · rw [if_neg c2, if_neg c2]
      by_cases c5 : b < 128
      · by_cases c4 : b = 0 <;> by_cases c6 : I > 0 <;> simp [c4, c5, c6]
      · obtain ⟨r, h1, h2⟩ := ih (i + 1) y kv kr (by omega) (by omega) (by omega) (by omega)
        rw [hI1] at h1 h2
        have c4 : ¬ b = 0 := by omega
        have c4' : (b == 0) = false := by simpa using c4
        refine ⟨r, ?_, ?_⟩
        · simp [c4, c5, h1]
        · by_cases c6 : I > 0 <;> simp [c4', c5, c6, h2]

/-! ### what the writers write -/
def enc : Nat → Int → List Int
  | 0, _ => []
  | n + 1, v => if v ≥ 128 then (v % 128 + 128) :: enc n (v / 128) else [v]

theorem enc_length : ∀ n v, (enc n v).length ≤ n
  | 0, _ => by simp [enc]
  | n + 1, v => by
    simp only [enc]; split
    · simpa using enc_length n (v / 128)
    · simp

theorem put_enc : ∀ (n : Nat) (v : Int) (l : List Int) (k : Nat), 0 ≤ v → v < 2 ^ 64 → v < 128 ^ n → 0 < n → n ≤ k → l.length + n < 1000 → vint_Put.l0 k v l = some (strOfNums (l ++ enc n v)) ∧ cinctureref2_Put.l0 k v l = some (strOfNums (l ++ enc n v))
  | 0, _, _, _, _, _, _, h, _, _ => by omega
  | n + 1, v, l, k, h0, h1, h2, _, hk, hl => by
    obtain ⟨k, rfl⟩ : ∃ j, k = j + 1 := ⟨k - 1, by omega⟩
    simp only [vint_Put.l0, cinctureref2_Put.l0, enc]
    have hl' : l.length < 140737488355328 := by omega
    by_cases c : v ≥ 128
    · rw [if_pos c, if_pos (show v > 127 by omega), if_pos hl', if_pos hl', if_pos c]
      have hn : 0 < n := by
        rcases n with _ | n
        · simp at h2; omega
        · omega
      have h3 : v / 128 < 128 ^ n := by
        rw [Int.pow_succ] at h2
        exact Int.ediv_lt_of_lt_mul (by omega) h2
      have e1 : Go.bits .or .u8 (v % 256) 128 = v % 128 + 128 := by rw [or8 _ (by omega) (by omega)]; omega
      have e2 : Go.bits .or .u64 (Go.bits .and .u64 v 127) 128 % 256 = v % 128 + 128 := by
        rw [and127' v h0 h1, or64 _ (by omega) (by omega)]; omega
      rw [e1, e2]
      have := put_enc n (v / 128) (l ++ [v % 128 + 128]) k (by omega) (by omega) h3 hn (by omega) (by simp; omega)
      simpa using this
    · rw [if_neg c, if_neg (show ¬ v > 127 by omega), if_pos hl', if_neg c]
      have : v % 256 = v := by omega
      simp [this]

theorem bt_strOf (l : List Int) (i : Nat) (h : i < l.length) (v : Int) (hv : l[i] = v) (h0 : 0 ≤ v) (h1 : v < 256) : bt (strOfNums l) i = v := by
  subst hv
  have hsz : (strOfNums l).size = l.length := strOfNums_size l
  rw [← bt_at _ _ (by rw [hsz]; simpa using h)]
  show (((strOfNums l).data[(i : Int).toNat]'_).toNat : Int) = _
  simp [strOfNums]
  omega

theorem get_put : ∀ (n i : Nat) (x v : Int) (l : List Int) (k : Nat), i + n = 10 → 0 < n → l.length = i → 0 ≤ x → x < 2 ^ (7 * i) → 0 ≤ v → v * 2 ^ (7 * i) < 2 ^ 64 → v < 128 ^ n → (0 < i → 0 < v) → 3 * n ≤ k →
    vint_Get.l0 k (strOfNums (l ++ enc n v)) 0 x i = some (x + v * 2 ^ (7 * i), ((l ++ enc n v).length : Int), 0) := by
  intro n
  induction n with
  | zero => intro i x v l k _ h; omega
  | succ n ih =>
    intro i x v l k hi _ hl hx0 hx hv0 hv hvn hpos hk
    obtain ⟨k, rfl⟩ : ∃ j, k = j + 3 := ⟨k - 3, by omega⟩
    simp only [vint_Get.l0]
    have hlen := enc_length (n + 1) v
    have hlen1 : 0 < (enc (n + 1) v).length := by simp only [enc]; split <;> simp
    have hsz : ((strOfNums (l ++ enc (n + 1) v)).size : Int) = i + (enc (n + 1) v).length := by rw [strOfNums_size]; simp; omega
    have hll : ((l ++ enc (n + 1) v).length : Int) = i + (enc (n + 1) v).length := by simp; omega
    rw [hsz]
    clear hsz
    have e1 : wrap64 ((i : Int) + (enc (n + 1) v).length - 0) = i + (enc (n + 1) v).length := by rw [w64 _ (by omega) (by omega)]; omega
    have e2 : wrap64 (0 + (i : Int)) = i := by clear e1; rw [w64 _ (by omega) (by omega)]; omega
    have e3 : wrap64 (7 * (i : Int)) = 7 * i := by clear e1 e2; exact w64 _ (by omega) (by omega)
    rw [e1, e2, e3, if_pos (show (i : Int) < 10 by clear e1 e2 e3; omega), if_neg (show ¬ (i : Int) ≥ i + (enc (n + 1) v).length by clear e1 e2 e3; omega), if_pos (show 0 ≤ (i : Int) by clear e1 e2 e3; omega), if_pos (show (i : Int) < i + (enc (n + 1) v).length by clear e1 e2 e3; omega), if_pos (show 0 ≤ 7 * (i : Int) by clear e1 e2 e3; omega)]
    clear e1 e2 e3
    have hsh : ∀ y : Int, 0 ≤ y → y * 2 ^ (7 * i) < 2 ^ 64 → y < 128 → Go.bits .or .u64 x (shl .u64 (IntKind.u64.wrap y) (7 * (i : Int))) = x + y * 2 ^ (7 * i) := by
      intro y h0 h1 h2
      have hm : min (7 * (i : Int)).toNat IntKind.u64.bits = 7 * i := by
        have : IntKind.u64.bits = 64 := rfl
        omega
      rw [u64w y h0 (by omega)]
      unfold shl
      rw [hm, u64w _ (Int.mul_nonneg h0 (by exact_mod_cast Nat.zero_le _)) h1]
      exact joinlow (7 * i) x y hx0 hx (by omega) h0 h1
    by_cases c : v ≥ 128
    · have he : enc (n + 1) v = (v % 128 + 128) :: enc n (v / 128) := by simp only [enc]; rw [if_pos c]
      have hb : bt (strOfNums (l ++ enc (n + 1) v)) (i : Int) = v % 128 + 128 := by
        refine bt_strOf _ i (by simp; omega) _ ?_ (by omega) (by omega)
        rw [List.getElem_append_right (by omega)]
        simp [he, hl]
      rw [hb]
      clear hb
      have i9 : ¬ (i : Int) = 9 := by
        intro h
        have h9 : i = 9 := by omega
        subst h9
        have : (2:Int) ^ (7 * 9) = 9223372036854775808 := by decide
        rw [this] at hv
        omega
      have e5 : Int.tmod (v % 128 + 128) 128 = v % 128 := by rw [Int.tmod_eq_emod_of_nonneg (by omega)]; omega
      have hle : v % 128 * 2 ^ (7 * i) ≤ v * 2 ^ (7 * i) := Int.mul_le_mul_of_nonneg_right (by omega) (by exact_mod_cast Nat.zero_le _)
      rw [if_neg i9, e5, hsh (v % 128) (by omega) (by omega) (by omega)]
      clear e5
      simp only [vint_Get.j2, vint_Get.j3, Bool.false_eq_true, reduceIte]
      rw [if_neg (show ¬ v % 128 + 128 = 0 by omega), if_neg (show ¬ v % 128 + 128 < 128 by omega)]
      have e6 : wrap64 ((i : Int) + 1) = ((i + 1 : Nat) : Int) := w64 _ (by omega) (by omega)
      rw [e6]
      clear e6
      have hp : (2 : Int) ^ (7 * (i + 1)) = 128 * 2 ^ (7 * i) := by
        rw [show 7 * (i + 1) = 7 * i + 7 by omega, Int.pow_add, Int.mul_comm]; rfl
      have hp0 : (0 : Int) < 2 ^ (7 * i) := by exact_mod_cast Nat.two_pow_pos _
      have hdm : v % 128 * 2 ^ (7 * i) + v / 128 * (128 * 2 ^ (7 * i)) = v * 2 ^ (7 * i) := by
        rw [← Int.mul_assoc, ← Int.add_mul]; congr 1; omega
      have hn : 0 < n := by omega
      have := ih (i + 1) (x + v % 128 * 2 ^ (7 * i)) (v / 128) (l ++ [v % 128 + 128]) k (by omega) hn (by simp; omega) (by
          have : 0 ≤ v % 128 * 2 ^ (7 * i) := Int.mul_nonneg (by omega) (by omega)
          omega) (by
          rw [hp]
          have : v % 128 * 2 ^ (7 * i) ≤ 127 * 2 ^ (7 * i) := Int.mul_le_mul_of_nonneg_right (by omega) (by omega)
          omega) (by omega) (by rw [hp]; have : 0 ≤ v % 128 * 2 ^ (7 * i) := Int.mul_nonneg (by omega) (by omega)
                                omega) (by
          rw [Int.pow_succ] at hvn
          exact Int.ediv_lt_of_lt_mul (by omega) hvn) (by omega) (by omega)
      rw [he]
      rw [show l ++ (v % 128 + 128) :: enc n (v / 128) = l ++ [v % 128 + 128] ++ enc n (v / 128) by simp]
      rw [this, hp]
      congr 2
      omega
    · have he : enc (n + 1) v = [v] := by simp only [enc]; rw [if_neg c]
      have hb : bt (strOfNums (l ++ enc (n + 1) v)) (i : Int) = v := by
        refine bt_strOf _ i (by simp; omega) _ ?_ (by omega) (by omega)
        rw [List.getElem_append_right (by omega)]
        simp [he, hl]
      rw [hb]
      clear hb
      have e5 : Int.tmod v 128 = v := by rw [Int.tmod_eq_emod_of_nonneg (by omega)]; omega
      rw [e5, hsh v hv0 hv (by omega)]
      clear e5
      have e7 : wrap64 (wrap64 (0 + (i : Int)) + 1) = i + 1 := by rw [w64 (0 + (i : Int)) (by omega) (by omega), w64 _ (by omega) (by omega)]; omega
      have hz : ¬ (v = 0 ∧ (i : Int) > 0) := by clear e7; intro h; have := hpos (by omega); omega
      have fin : vint_Get.j2 (k + 2) (strOfNums (l ++ enc (n + 1) v)) 0 (x + v * 2 ^ (7 * i)) i v i false = some (x + v * 2 ^ (7 * i), ((l ++ enc (n + 1) v).length : Int), 0) := by
        simp only [vint_Get.j2, vint_Get.j3, Bool.false_eq_true, reduceIte]
        rw [e7, hll, he]
        clear e7 he
        by_cases c0 : v = 0
        · have : ¬ (i : Int) > 0 := fun h => hz ⟨c0, h⟩
          have hi0 : i = 0 := by omega
          subst hi0
          simp [c0]
        · rw [if_neg c0, if_pos (show v < 128 by omega)]; simp
      by_cases c9 : (i : Int) = 9
      · have hv1 : ¬ v > 1 := by
          clear fin hsh e7 hll hz hlen hlen1 ih
          have h9 : i = 9 := by omega
          subst h9
          have : (2:Int) ^ (7 * 9) = 9223372036854775808 := by decide
          rw [this] at hv
          omega
        rw [if_pos c9, decide_eq_false hv1]
        exact fin
      · rw [if_neg c9]; exact fin

theorem u64_of_wf {a : Int} (h : (Lit.int .u64 a).wf = true) : 0 ≤ a ∧ a < 18446744073709551616 := by
  simp only [Lit.wf, IntKind.min, IntKind.max, IntKind.signed, IntKind.bits, Bool.and_eq_true, decide_eq_true_eq] at h
  simp at h; omega
theorem i64_of_wf {a : Int} (h : (Lit.int .i64 a).wf = true) : -9223372036854775808 ≤ a ∧ a < 9223372036854775808 := by
  simp only [Lit.wf, IntKind.min, IntKind.max, IntKind.signed, IntKind.bits, Bool.and_eq_true, decide_eq_true_eq] at h
  simp at h; omega

set_option maxHeartbeats 400000 in
theorem alive_true (k : Nat) : cincturelaw18_alive.f (k + 40) = some true := by
  have h1 : vint_Get.f (k + 40) (⟨#[172, 2]⟩ : ByteArray) 0 = some (300, 2, 0) := by
    have := get_put 10 0 0 300 [] (k + 39) rfl (by decide) rfl (by decide) (by decide) (by decide) (by decide) (by decide) (by omega) (by omega)
    have e : strOfNums ([] ++ enc 10 300) = (⟨#[172, 2]⟩ : ByteArray) := by decide +kernel
    rw [e] at this
    unfold vint_Get.f
    rw [if_neg (by decide), show decide ((0:Int) > ((⟨#[172, 2]⟩ : ByteArray).size : Int)) = false by decide]
    simp only [vint_Get.j0, Bool.false_eq_true, if_false]
    exact this
  have h2 : vint_Put.f (k + 40) 300 = some (⟨#[172, 2]⟩ : ByteArray) := by
    have := (put_enc 10 300 [] (k + 40) (by decide) (by decide) (by decide) (by decide) (by omega) (by decide)).1
    have e : strOfNums ([] ++ enc 10 300) = (⟨#[172, 2]⟩ : ByteArray) := by decide +kernel
    rw [e] at this
    exact this
  unfold cincturelaw18_alive.f
  rw [h1, h2]
  have e : (⟨#[172, 2]⟩ : ByteArray).toList = [172, 2] := by decide +kernel
  simp [e]

theorem p10 : (128 : Int) ^ 10 = 1180591620717411303424 := by decide
theorem put_ok (v : Int) (h0 : 0 ≤ v) (h1 : v < 18446744073709551616) : vint_Put.f (0 + 40) v = some (strOfNums ([] ++ enc 10 v)) ∧ cinctureref2_Put.f (0 + 40) v = some (strOfNums ([] ++ enc 10 v)) :=
  put_enc 10 v [] 40 h0 (by omega) (by rw [p10]; omega) (by decide) (by decide) (by decide)
theorem start_ok (s : ByteArray) (k : Nat) : vint_Get.f (k + 1) s 0 = vint_Get.l0 k s 0 0 0 := by
  unfold vint_Get.f
  rw [if_neg (by decide), show decide ((0:Int) > (s.size : Int)) = false from decide_eq_false (by omega)]
  simp only [vint_Get.j0, Bool.false_eq_true, if_false]
theorem getput_ok (v : Int) (h0 : 0 ≤ v) (h1 : v < 18446744073709551616) : vint_Get.f (0 + 40) (strOfNums ([] ++ enc 10 v)) 0 = some (v, ((enc 10 v).length : Int), 0) := by
  have := get_put 10 0 0 v [] 39 rfl (by decide) rfl (by decide) (by decide) h0 (by simp; omega) (by rw [p10]; omega) (fun h => absurd h (by decide)) (by decide)
  rw [show (0 + 40 : Nat) = 39 + 1 from rfl, start_ok]
  simpa using this
theorem get_agree (s : ByteArray) (p : Int) (hs : s.size ≤ 140737488351232) : ∃ r, vint_Get.f (0 + 40) s p = some r ∧ cinctureref2_Get.f (0 + 40) s p = some r := by
  unfold vint_Get.f cinctureref2_Get.f
  by_cases c1 : p < 0
  · rw [if_pos c1, if_pos c1]
    simp only [vint_Get.j0, cinctureref2_Get.j0, if_true]
    exact ⟨_, rfl, rfl⟩
  · rw [if_neg c1, if_neg c1]
    by_cases c2 : p > s.size
    · rw [decide_eq_true c2]
      simp only [vint_Get.j0, cinctureref2_Get.j0, if_true]
      exact ⟨_, rfl, rfl⟩
    · rw [decide_eq_false c2]
      simp only [vint_Get.j0, cinctureref2_Get.j0, Bool.false_eq_true, if_false]
      exact agree s p hs (by omega) (by omega) 10 0 0 39 39 rfl (by decide) (by decide) (by decide)

/-- The printed claim, as plain Lean: the two readers and the two writers agree, and what was written is read back. -/
theorem VintTells : cincturelaw18_VintTells.Pure := by
  intro v s p hv hs hp
  have hv := u64_of_wf hv
  refine ⟨0 + 40, ?_⟩
  unfold cincturelaw18_VintTells.f
  rw [alive_true 0, Option.bind_some, if_pos rfl]
  by_cases c : (s.size : Int) > 300
  · rw [if_pos c]
  rw [if_neg c]
  obtain ⟨r, h1, h2⟩ := get_agree s p hs
  obtain ⟨h3, h4⟩ := put_ok v hv.1 hv.2
  have h5 := getput_ok v hv.1 hv.2
  rw [h1, h2, h3, h4, Option.bind_some, Option.bind_some, Option.bind_some, h5, Option.bind_some, if_pos rfl, if_pos rfl, if_pos rfl, Option.bind_some, if_pos rfl, if_pos rfl, if_pos (by rw [strOfNums_size]; rfl)]
  rfl

end Go.Proofs.Ytlhhdlhnpgiamaa.VT
