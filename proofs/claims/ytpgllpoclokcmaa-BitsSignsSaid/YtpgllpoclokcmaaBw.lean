/-
  Plain laws, no program in sight: fields of 32-bit words, on natural numbers.
-/
import Derived.RowKit
import Derived.Laws.BitsAllLaws
namespace Go.Proofs.Ytpgllpoclokcmaa.Bw
open Go.RowKit
/-- The n bits from bit l on (n at least 1). -/
def fld (x l n : Nat) : Nat := x / 2 ^ l % 2 ^ n
/-- The mask of n bits from bit l on, in 32 bits. -/
def msk (l n : Nat) : Nat := (2 ^ n - 1) * 2 ^ l % 4294967296
/-- x with the n bits from bit l on replaced by v's. -/
def setf (x l n v : Nat) : Nat := (x &&& (4294967295 - msk l n)) ||| (v * 2 ^ l % 4294967296 &&& msk l n)
/-- Sign extension of the low n bits, n from 1 to 31. -/
def sext (x n : Nat) : Nat := if x % 2 ^ n / 2 ^ (n - 1) = 1 then x % 2 ^ n + (4294967296 - 2 ^ n) else x % 2 ^ n

theorem p32 : (4294967296 : Nat) = 2 ^ 32 := by decide
theorem p32' : (4294967295 : Nat) = 2 ^ 32 - 1 := by decide
theorem tb_msk (l n i : Nat) : (msk l n).testBit i = (decide (i < 32) && decide (l ≤ i) && decide (i - l < n)) := by
  unfold msk
  rw [p32, Nat.testBit_mod_two_pow, Nat.testBit_mul_two_pow, Nat.testBit_two_pow_sub_one, Bool.and_assoc]
theorem msk_le (l n : Nat) : msk l n < 2 ^ 32 := by unfold msk; rw [p32]; exact Nat.mod_lt _ (Nat.pow_pos (by omega))
theorem tb_not {m : Nat} (hm : m < 2 ^ 32) (i : Nat) : (4294967295 - m).testBit i = (decide (i < 32) && !m.testBit i) := by
  have e : 4294967295 - m = 2 ^ 32 - (m + 1) := by rw [p32']; omega
  rw [e, Nat.testBit_two_pow_sub_succ hm]
theorem tb_fld (x l n i : Nat) : (fld x l n).testBit i = (decide (i < n) && x.testBit (l + i)) := by
  unfold fld; rw [Nat.testBit_mod_two_pow, Nat.testBit_div_two_pow, Nat.add_comm i l]
theorem tb_setf (x l n v i : Nat) : (setf x l n v).testBit i = ((x.testBit i && (decide (i < 32) && !(decide (i < 32) && decide (l ≤ i) && decide (i - l < n)))) || ((decide (i < 32) && decide (l ≤ i) && v.testBit (i - l)) && (decide (i < 32) && decide (l ≤ i) && decide (i - l < n)))) := by
  unfold setf
  rw [Nat.testBit_or, Nat.testBit_and, Nat.testBit_and, tb_not (msk_le l n), tb_msk, p32, Nat.testBit_mod_two_pow, Nat.testBit_mul_two_pow]
  simp only [Bool.and_assoc]
theorem tb_big {x : Nat} (hx : x < 4294967296) {i : Nat} (hi : 32 ≤ i) : x.testBit i = false :=
  Nat.testBit_lt_two_pow (Nat.lt_of_lt_of_le hx (by rw [p32]; exact Nat.pow_le_pow_right (by omega) hi))
theorem setf_lt (x l n v : Nat) (hx : x < 4294967296) : setf x l n v < 4294967296 := by
  unfold setf
  rw [p32] at hx ⊢
  refine Nat.or_lt_two_pow (Nat.lt_of_le_of_lt Nat.and_le_left hx) (Nat.lt_of_le_of_lt Nat.and_le_left (Nat.mod_lt _ (Nat.pow_pos (by omega))))
theorem fld_lt (x l n : Nat) (hx : x < 4294967296) : fld x l n < 4294967296 :=
  Nat.lt_of_le_of_lt (Nat.mod_le _ _) (Nat.lt_of_le_of_lt (Nat.div_le_self _ _) hx)
/-- The program's way: v is masked first. -/
theorem setf_prog (x l n v : Nat) : (x &&& (4294967295 - msk l n)) ||| ((v &&& (2 ^ n - 1)) * 2 ^ l % 4294967296) = setf x l n v := by
  unfold setf
  congr 1
  apply Nat.eq_of_testBit_eq; intro i
  rw [Nat.testBit_and, tb_msk, p32, Nat.testBit_mod_two_pow, Nat.testBit_mod_two_pow, Nat.testBit_mul_two_pow, Nat.testBit_mul_two_pow, Nat.testBit_and, Nat.testBit_two_pow_sub_one]
  by_cases h1 : i < 32 <;> by_cases h2 : l ≤ i <;> by_cases h3 : i - l < n <;> simp [h1, h2, h3]
/-- A mask of 32 bits or more is the mask of 32 bits. -/
theorem setf_32 (x l n v : Nat) (hn : 32 ≤ n) : setf x l n v = setf x l 32 v := by
  apply Nat.eq_of_testBit_eq; intro i
  rw [tb_setf, tb_setf]
  by_cases h1 : i < 32
  · rw [show decide (i - l < n) = true by simp; omega, show decide (i - l < 32) = true by simp; omega]
  · simp [h1]
theorem fld_32 (x l n : Nat) (hx : x < 4294967296) (hn : 32 ≤ n) : fld x l n = x / 2 ^ l := by
  unfold fld
  apply Nat.mod_eq_of_lt
  refine Nat.lt_of_le_of_lt (Nat.div_le_self _ _) (Nat.lt_of_lt_of_le hx ?_)
  rw [p32]; exact Nat.pow_le_pow_right (by omega) hn
/-- What is set is read back. -/
theorem fld_setf (x l n v : Nat) (h : l + n ≤ 32) : fld (setf x l n v) l n = fld v 0 n := by
  apply Nat.eq_of_testBit_eq; intro i
  rw [tb_fld, tb_fld, tb_setf]
  by_cases h1 : i < n
  · have h2 : l + i < 32 := by omega
    have h3 : l + i - l = i := by omega
    simp [h1, h2, h3]
  · simp [h1]
theorem setf_fld (x l n : Nat) (hx : x < 4294967296) : setf x l n (fld x l n) = x := by
  apply Nat.eq_of_testBit_eq; intro i
  rw [tb_setf, tb_fld]
  by_cases h1 : i < 32
  · by_cases h2 : l ≤ i
    · have h4 : l + (i - l) = i := by omega
      by_cases h3 : i - l < n <;> simp [h1, h2, h3, h4]
    · simp [h1, h2]
  · rw [tb_big hx (by omega)]; simp [h1]
theorem setf_back (x l n v : Nat) (hx : x < 4294967296) : setf (setf x l n v) l n (fld x l n) = x := by
  apply Nat.eq_of_testBit_eq; intro i
  rw [tb_setf, tb_fld, tb_setf]
  by_cases h1 : i < 32
  · by_cases h2 : l ≤ i
    · have h4 : l + (i - l) = i := by omega
      by_cases h3 : i - l < n <;> simp [h1, h2, h3, h4]
    · simp [h1, h2]
  · rw [tb_big hx (by omega)]; simp [h1]

/-! Sign extension -/
theorem half (n : Nat) (h1 : 1 ≤ n) : 2 ^ n = 2 * 2 ^ (n - 1) := by
  obtain ⟨m, rfl⟩ : ∃ m, n = m + 1 := ⟨n - 1, by omega⟩
  rw [Nat.pow_succ, Nat.mul_comm]; rfl
theorem low_bit (y n : Nat) (h1 : 1 ≤ n) (hy : y < 2 ^ n) : (y / 2 ^ (n - 1) = 1) ↔ 2 ^ (n - 1) ≤ y := by
  have hp : 0 < 2 ^ (n - 1) := Nat.pow_pos (by omega)
  have hh := half n h1
  constructor
  · intro h
    rcases Nat.lt_or_ge y (2 ^ (n - 1)) with h' | h'
    · rw [Nat.div_eq_of_lt h'] at h; omega
    · exact h'
  · intro h
    have h2 : y / 2 ^ (n - 1) < 2 := Nat.div_lt_of_lt_mul (by rw [Nat.mul_comm, ← hh]; exact hy)
    have h3 : 1 ≤ y / 2 ^ (n - 1) := (Nat.le_div_iff_mul_le hp).2 (by omega)
    omega
theorem sext_lt (x n : Nat) (hn : n < 32) : sext x n < 4294967296 := by
  have h2 : x % 2 ^ n < 2 ^ n := Nat.mod_lt _ (Nat.pow_pos (by omega))
  have h3 : 2 ^ n ≤ 2 ^ 32 := Nat.pow_le_pow_right (by omega) (by omega)
  rw [← p32] at h3
  unfold sext; split <;> omega
/-- The program's way: shift up, shift down with the sign. -/
theorem sext_prog (x n : Nat) (h1 : 1 ≤ n) (h2 : n < 32) :
    wrap32 ((x : Int) * 2 ^ (32 - n) % 4294967296) / 2 ^ (32 - n) % 4294967296 = (sext x n : Int) := by
  have e32 : (2 : Nat) ^ n * 2 ^ (32 - n) = 4294967296 := by rw [← Nat.pow_add, show n + (32 - n) = 32 by omega]
  have e1 : ((x : Int) * 2 ^ (32 - n) % 4294967296) = ((x % 2 ^ n * 2 ^ (32 - n) : Nat) : Int) := by
    rw [← Nat.mul_mod_mul_right, e32]
    simp
  rw [e1]
  have hy : x % 2 ^ n < 2 ^ n := Nat.mod_lt _ (Nat.pow_pos (by omega))
  unfold sext
  generalize x % 2 ^ n = y at *
  have hlb := low_bit y n h1 hy
  have hh := half n h1
  have hq : 0 < 2 ^ (32 - n) := Nat.pow_pos (by omega)
  have e31 : (2 : Nat) ^ (n - 1) * 2 ^ (32 - n) = 2147483648 := by
    rw [← Nat.pow_add, show n - 1 + (32 - n) = 31 by omega]
  have hle : 2 ^ n ≤ 4294967296 := by rw [← e32]; exact Nat.le_mul_of_pos_right _ hq
  have hqi : ((2 : Int) ^ (32 - n)) = ((2 ^ (32 - n) : Nat) : Int) := by simp
  rw [hqi]
  generalize 2 ^ (32 - n) = q at *
  by_cases hs : 2 ^ (n - 1) ≤ y
  · rw [if_pos (hlb.2 hs)]
    have h5 : 2147483648 ≤ y * q := by rw [← e31]; exact Nat.mul_le_mul_right _ hs
    have h6 : y * q < 4294967296 := by rw [← e32]; exact Nat.mul_lt_mul_of_pos_right hy hq
    have e2 : wrap32 ((y * q : Nat) : Int) = ((y : Int) - (2 ^ n : Nat)) * (q : Int) := by
      have e3 : (4294967296 : Int) = ((2 ^ n : Nat) : Int) * (q : Int) := by rw [← Int.natCast_mul, e32]; rfl
      rw [Int.sub_mul, ← e3, ← Int.natCast_mul]
      unfold wrap32; omega
    rw [e2, Int.mul_ediv_cancel _ (by omega)]
    omega
  · rw [if_neg (by rw [hlb]; exact hs)]
    have h6 : y * q < 2147483648 := by rw [← e31]; exact Nat.mul_lt_mul_of_pos_right (by omega) hq
    have e2 : wrap32 ((y * q : Nat) : Int) = (y : Int) * (q : Int) := by
      rw [← Int.natCast_mul]; unfold wrap32; omega
    rw [e2, Int.mul_ediv_cancel _ (by omega)]
    omega
/-- The reference's way. -/
theorem sext_ref (x n : Nat) (h1 : 1 ≤ n) (h2 : n < 32) :
    (if x % 2 ^ n / 2 ^ (n - 1) = 1 then x % 2 ^ n ||| (4294967295 * 2 ^ n % 4294967296) else x % 2 ^ n) = sext x n := by
  unfold sext
  split
  · have hy : x % 2 ^ n < 2 ^ n := Nat.mod_lt _ (Nat.pow_pos (by omega))
    have e : 4294967295 * 2 ^ n % 4294967296 = 4294967296 - 2 ^ n := by
      have hle : 2 ^ n < 4294967296 := by rw [p32]; exact Nat.pow_lt_pow_right (by omega) h2
      have : 1 ≤ 2 ^ n := Nat.pow_pos (by omega)
      omega
    rw [e, Nat.or_comm, nat_join n _ _ ?_ hy, Nat.add_comm]
    obtain ⟨d, hd⟩ : ∃ d, 32 = n + d := ⟨32 - n, by omega⟩
    rw [p32, hd, Nat.pow_add]
    rw [show 2 ^ n * 2 ^ d - 2 ^ n = 2 ^ n * (2 ^ d - 1) by rw [Nat.mul_sub, Nat.mul_one]]
    exact Nat.mul_mod_right _ _
  · rfl
theorem tb_sext (x n i : Nat) (h1 : 1 ≤ n) (h2 : n < 32) : (sext x n).testBit i = (decide (i < 32) && x.testBit (min i (n - 1))) := by
  have hy : x % 2 ^ n < 2 ^ n := Nat.mod_lt _ (Nat.pow_pos (by omega))
  have hsign : (x % 2 ^ n / 2 ^ (n - 1) = 1) ↔ x.testBit (n - 1) = true := by
    rw [low_bit _ n h1 hy]
    have : (x % 2 ^ n).testBit (n - 1) = x.testBit (n - 1) := by rw [Nat.testBit_mod_two_pow]; simp; omega
    rw [← this]
    constructor
    · intro h; exact Nat.testBit_of_two_pow_le_and_two_pow_add_one_gt h (by rw [show n - 1 + 1 = n by omega]; exact hy)
    · intro h; exact Nat.ge_two_pow_of_testBit h
  rw [← sext_ref x n h1 h2]
  by_cases hs : x.testBit (n - 1) = true
  · rw [if_pos (hsign.2 hs), Nat.testBit_or, Nat.testBit_mod_two_pow, p32', p32, Nat.testBit_mod_two_pow, Nat.testBit_mul_two_pow, Nat.testBit_two_pow_sub_one]
    by_cases a : i < n
    · rw [show min i (n - 1) = i by omega, show decide (i < 32) = true by simp; omega, show decide (n ≤ i) = false by simp; omega]; simp [a]
    · rw [show min i (n - 1) = n - 1 by omega, hs]
      by_cases b : i < 32
      · simp [a, b]; omega
      · simp [a, b]
  · rw [if_neg (by rw [hsign]; exact hs), Nat.testBit_mod_two_pow]
    by_cases a : i < n
    · rw [show min i (n - 1) = i by omega]; simp [a]; omega
    · rw [show min i (n - 1) = n - 1 by omega]; simp [a, hs]
end Go.Proofs.Ytpgllpoclokcmaa.Bw
