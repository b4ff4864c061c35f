/- Text and bytes of numbers: plain facts. -/
import Derived.Test.YtlhhdlhnpgiamaaDoorMC
import Derived.Test.YtlhhdlhnpgiamaaDoorXB
namespace Go.Proofs.YtlhhdlhnpgiamaaDoor.X

/-- the bytes of a string -/
def bs (s : ByteArray) : List Nat := s.data.toList.map UInt8.toNat
theorem bs_length (s : ByteArray) : (bs s).length = s.size := by
  unfold bs
  rw [List.length_map]
  rfl
theorem bs_getD (s : ByteArray) (i : Nat) : bAt s i = (bs s).getD i 0 := by
  simp only [bAt, bs, List.getD, List.getElem?_map]
  cases s.data.toList[i]? <;> rfl
theorem bs_lt (s : ByteArray) : ∀ d ∈ bs s, d < 256 := by
  intro d hd
  simp only [bs, List.mem_map] at hd
  obtain ⟨x, _, rfl⟩ := hd
  exact x.toNat_lt
theorem bs_inj {s t : ByteArray} (h : bs s = bs t) : s = t := by
  have : s.data.toList = t.data.toList := by
    simp only [bs] at h
    exact (List.map_inj_right (fun a b e => UInt8.toNat_inj.1 e)).1 h
  cases s; cases t
  simp only [ByteArray.mk.injEq]
  exact Array.toList_inj.1 this
/-- the string with these bytes -/
def ofB (l : List Nat) : ByteArray := ⟨(l.map UInt8.ofNat).toArray⟩
theorem bs_ofB {l : List Nat} (h : ∀ d ∈ l, d < 256) : bs (ofB l) = l := by
  simp only [bs, ofB, List.map_map]
  conv => rhs; rw [← List.map_id l]
  apply List.map_congr_left
  intro d hd
  simp [Nat.mod_eq_of_lt (h d hd)]
theorem ofB_bs (s : ByteArray) : ofB (bs s) = s := bs_inj (bs_ofB (bs_lt s))

/-! ### decimal text -/
def dv (l : List Nat) : Nat := l.foldl (fun v d => v * 10 + (d - 48)) 0
theorem dv_snoc (l : List Nat) (d : Nat) : dv (l ++ [d]) = dv l * 10 + (d - 48) := by simp [dv]
def isDig (d : Nat) : Bool := decide (48 ≤ d) && decide (d ≤ 57)
def decOk (l : List Nat) : Bool := (!l.isEmpty && decide (l.length ≤ 4000)) && ((l.getD 0 0 != 48 || decide (l.length ≤ 1)) && l.all isDig)
theorem dv_lt' : ∀ (l : List Nat) (v : Nat), (∀ d ∈ l, d ≤ 57) → l.foldl (fun v d => v * 10 + (d - 48)) v < (v + 1) * 10 ^ l.length
  | [], v, _ => by simp
  | d :: l, v, h => by
    have h1 := dv_lt' l (v * 10 + (d - 48)) fun x hx => h x (List.mem_cons_of_mem _ hx)
    have h2 := h d List.mem_cons_self
    simp only [List.foldl_cons, List.length_cons, Nat.pow_succ]
    refine Nat.lt_of_lt_of_le h1 ?_
    rw [Nat.mul_comm (10 ^ l.length), ← Nat.mul_assoc]
    exact Nat.mul_le_mul_right _ (by omega)
theorem dv_lt {l : List Nat} (h : ∀ d ∈ l, d ≤ 57) : dv l < 10 ^ l.length := by
  have := dv_lt' l 0 h
  simpa [dv] using this
theorem bl_dv {l : List Nat} (h : ∀ d ∈ l, d ≤ 57) : bl (dv l) ≤ 4 * l.length := by
  rw [bl_le_iff, Nat.pow_mul]
  exact Nat.lt_of_lt_of_le (dv_lt h) (Nat.pow_le_pow_left (by decide) _)

end Go.Proofs.YtlhhdlhnpgiamaaDoor.X
