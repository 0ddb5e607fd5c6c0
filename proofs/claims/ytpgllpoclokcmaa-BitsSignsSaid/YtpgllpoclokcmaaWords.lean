/-
  Contracts: the word functions of chapter 1 (package bits and the reference) compute the plain functions of Bw.
-/
import Derived.Test.YtpgllpoclokcmaaProg
import Derived.Test.YtpgllpoclokcmaaBw
import Derived.WalkKit
import Derived.Lib.Hide
import Derived.WalkSpells
import Derived.WalkLawsBesides
import Derived.BigQuiet
import Derived.Deep.QuietTactic
set_option linter.unusedVariables false
namespace Go.Proofs.Ytpgllpoclokcmaa
open Go.RowKit
namespace Words
/-- 2^n - 1 in the walk's spelling. -/
theorem mask_eq (n : Nat) (h : n < 32) : ((2 : Int) ^ n - 1) % 4294967296 = ((2 ^ n - 1 : Nat) : Int) := by
  have hle : 2 ^ n < 4294967296 := by rw [Bw.p32]; exact Nat.pow_lt_pow_right (by omega) h
  have : 1 ≤ 2 ^ n := Nat.pow_pos (by omega)
  have e : ((2 : Int) ^ n) = ((2 ^ n : Nat) : Int) := by simp
  rw [e]; omega
theorem mask_eq' (n : Nat) (h : n < 32) : ((2 : Int) ^ n % 4294967296 - 1) % 4294967296 = ((2 ^ n - 1 : Nat) : Int) := by
  have hle : 2 ^ n < 4294967296 := by rw [Bw.p32]; exact Nat.pow_lt_pow_right (by omega) h
  have : 1 ≤ 2 ^ n := Nat.pow_pos (by omega)
  have e : ((2 : Int) ^ n) = ((2 ^ n : Nat) : Int) := by simp
  rw [e]; omega
theorem and_mask (y n : Nat) (hy : y < 4294967296) (h : n < 32) : bits .and .u32 (y : Int) ((2 ^ n - 1 : Nat) : Int) = ((y % 2 ^ n : Nat) : Int) := by
  have hle : 2 ^ n < 4294967296 := by rw [Bw.p32]; exact Nat.pow_lt_pow_right (by omega) h
  rw [u32_and_nat y _ hy (by omega), Nat.and_two_pow_sub_one_eq_mod]
theorem div_cast (x l : Nat) : (x : Int) / 2 ^ l = ((x / 2 ^ l : Nat) : Int) := by simp
theorem ret_u32 {a b : Int} (h : a = b) : Ending.returned (.int .u32 a) = .returned (.int .u32 b) := by rw [h]

/-- The mask, as a natural number. -/
def mskN (n : Int) : Nat := if 32 ≤ n then 4294967295 else 2 ^ n.toNat - 1
theorem mask_any (n : Int) (h1 : 1 ≤ n) (h2 : n ≤ 9223372036854775807) (w : World) :
    Calls Try.prog 30 #[.int .i64 n] w fun e w' => e = .returned (.int .u32 (mskN n)) ∧ w = w' := by
  by_cases h : 32 ≤ n
  · have hm : Hid (mskN n = 4294967295) := if_pos h
    go_enter Try.func30, Try.ntmps30
    go_wp2
    go_ret
    exact ⟨by rw [hm.out]; rfl, rfl⟩
  · have hm : Hid (mskN n = 2 ^ n.toNat - 1) := if_neg h
    go_enter Try.func30, Try.ntmps30
    go_wp2
    go_ret
    exact ⟨by rw [hm.out]; exact ret_u32 (mask_eq n.toNat (by omega)), rfl⟩

/-- Sign extension, of whatever n. -/
def sextA (x : Nat) (n : Int) : Nat := if n < 1 then 0 else if 32 ≤ n then x else Bw.sext x n.toNat
def fldA (x : Nat) (l n : Int) : Nat := if l < 0 ∨ 31 < l ∨ n < 1 then 0 else Bw.fld x l.toNat (min n 32).toNat
def setA (x : Nat) (l n : Int) (v : Nat) : Nat := if l < 0 ∨ 31 < l ∨ n < 1 then x else Bw.setf x l.toNat (min n 32).toNat v

theorem sext_any (x : Nat) (n : Int) (hx : (x : Int) ≤ 4294967295) (hn : -9223372036854775808 ≤ n) (hn' : n ≤ 9223372036854775807) (w : World) :
    Calls Try.prog 24 #[.int .u32 x, .int .i64 n] w fun e w' => e = .returned (.int .u32 (sextA x n)) ∧ w = w' := by
  by_cases h1 : n < 1
  · have hm : Hid (sextA x n = 0) := if_pos h1
    go_enter Try.func24, Try.ntmps24
    go_wp2
    go_ret
    exact ⟨by rw [hm.out]; rfl, rfl⟩
  · by_cases h2 : 32 ≤ n
    · have hm : Hid (sextA x n = x) := by show (if n < 1 then 0 else if 32 ≤ n then x else _) = x; rw [if_neg h1, if_pos h2]
      go_enter Try.func24, Try.ntmps24
      go_wp2
      go_ret
      exact ⟨by rw [hm.out]; rfl, rfl⟩
    · have hm : Hid (sextA x n = Bw.sext x n.toNat) := by show (if n < 1 then 0 else if 32 ≤ n then x else _) = _; rw [if_neg h1, if_neg h2]
      obtain ⟨k, rfl⟩ := Int.eq_ofNat_of_zero_le (a := n) (by omega)
      have HP := Lib.hid (Bw.sext_prog x k (by omega) (by omega))
      go_enter Try.func24, Try.ntmps24
      go_wp2
      go_ret
      exact ⟨ret_u32 (by rw [hm.out]; exact HP.out), rfl⟩

theorem sext_ref_any (x : Nat) (n : Int) (hx : (x : Int) ≤ 4294967295) (hn : -9223372036854775808 ≤ n) (hn' : n ≤ 9223372036854775807) (w : World) :
    Calls Try.prog 26 #[.int .u32 x, .int .i64 n] w fun e w' => e = .returned (.int .u32 (sextA x n)) ∧ w = w' := by
  by_cases h1 : n < 1
  · have hm : Hid (sextA x n = 0) := if_pos h1
    go_enter Try.func26, Try.ntmps26
    go_wp2
    go_ret
    exact ⟨by rw [hm.out]; rfl, rfl⟩
  · by_cases h2 : 32 ≤ n
    · have hm : Hid (sextA x n = x) := by show (if n < 1 then 0 else if 32 ≤ n then x else _) = x; rw [if_neg h1, if_pos h2]
      go_enter Try.func26, Try.ntmps26
      go_wp2
      go_ret
      exact ⟨by rw [hm.out]; rfl, rfl⟩
    · have hm : Hid (sextA x n = Bw.sext x n.toNat) := by show (if n < 1 then 0 else if 32 ≤ n then x else _) = _; rw [if_neg h1, if_neg h2]
      obtain ⟨k, rfl⟩ := Int.eq_ofNat_of_zero_le (a := n) (by omega)
      have hk1 : 1 ≤ k := by omega
      have hk2 : k < 32 := by omega
      have HP := Lib.hid (Bw.sext_ref x k hk1 hk2)
      have ha : bits .and .u32 (x : Int) ((2 ^ k - 1) % 4294967296) = ((x % 2 ^ k : Nat) : Int) := by rw [mask_eq k hk2]; exact and_mask x k (by omega) hk2
      have hm1 : ((4294967295 : Int) * 2 ^ k % 4294967296) = ((4294967295 * 2 ^ k % 4294967296 : Nat) : Int) := by simp
      have ho : bits .or .u32 ((x % 2 ^ k : Nat) : Int) ((4294967295 : Int) * 2 ^ k % 4294967296) = ((x % 2 ^ k ||| (4294967295 * 2 ^ k % 4294967296) : Nat) : Int) := by
        rw [hm1]; exact u32_or_nat _ _ (Nat.lt_of_le_of_lt (Nat.mod_le _ _) (by omega)) (Nat.mod_lt _ (by omega))
      have HA := Lib.hid ha
      have HO := Lib.hid ho
      clear ha ho hm1
      by_cases hs : x % 2 ^ k / 2 ^ (k - 1) = 1
      · have ht : (bits .and .u32 (x : Int) ((2 ^ k - 1) % 4294967296) / 2 ^ (k - 1) == 1) = true := by
          rw [HA.out, div_cast, hs]; rfl
        have HS := Lib.hid hs
        clear hs
        go_enter Try.func26, Try.ntmps26
        go_wp2
        go_ret
        refine ⟨ret_u32 (a := bits .or .u32 (bits .and .u32 (x : Int) ((2 ^ k - 1) % 4294967296)) (4294967295 * 2 ^ k % 4294967296)) ?_, rfl⟩
        rw [hm.out, HA.out, HO.out]
        have := HP.out
        rw [if_pos HS.out] at this
        rw [this]; rfl
      · have ht : (bits .and .u32 (x : Int) ((2 ^ k - 1) % 4294967296) / 2 ^ (k - 1) == 1) = false := by
          rw [HA.out, div_cast, beq_eq_false_iff_ne]; omega
        have HS := Lib.hid hs
        clear hs
        go_enter Try.func26, Try.ntmps26
        go_wp2
        go_ret
        refine ⟨ret_u32 (a := bits .and .u32 (x : Int) ((2 ^ k - 1) % 4294967296)) ?_, rfl⟩
        rw [hm.out, HA.out]
        have := HP.out
        rw [if_neg HS.out] at this
        rw [this]; rfl

theorem fld_any (x : Nat) (l n : Int) (hx : (x : Int) ≤ 4294967295) (hn' : n ≤ 9223372036854775807) (w : World) :
    Calls Try.prog 25 #[.int .u32 x, .int .i64 l, .int .i64 n] w fun e w' => e = .returned (.int .u32 (fldA x l n)) ∧ w = w' := by
  by_cases h : l < 0 ∨ 31 < l ∨ n < 1
  · have hm : Hid (fldA x l n = 0) := if_pos h
    rcases h with h | h | h
    · have hd : decide (l < 0) = true := by simpa using h
      go_enter Try.func25, Try.ntmps25
      go_wp2
      go_ret
      exact ⟨by rw [hm.out]; rfl, rfl⟩
    · by_cases h0 : l < 0
      · omega
      · go_enter Try.func25, Try.ntmps25
        go_wp2
        go_ret
        exact ⟨by rw [hm.out]; rfl, rfl⟩
    · by_cases h0 : l < 0
      · go_enter Try.func25, Try.ntmps25
        go_wp2
        go_ret
        exact ⟨by rw [hm.out]; rfl, rfl⟩
      · by_cases h1 : 31 < l
        · go_enter Try.func25, Try.ntmps25
          go_wp2
          go_ret
          exact ⟨by rw [hm.out]; rfl, rfl⟩
        · go_enter Try.func25, Try.ntmps25
          go_wp2
          go_ret
          exact ⟨by rw [hm.out]; rfl, rfl⟩
  · have hm : Hid (fldA x l n = Bw.fld x l.toNat (min n 32).toNat) := if_neg h
    have hl1 : 0 ≤ l := by omega
    have hl2 : l ≤ 31 := by omega
    have hn1 : 1 ≤ n := by omega
    clear h
    obtain ⟨i, rfl⟩ := Int.eq_ofNat_of_zero_le (a := l) hl1
    obtain ⟨k, rfl⟩ := Int.eq_ofNat_of_zero_le (a := n) (by omega)
    have HX : Hid ((x : Int) / 2 ^ i = ((x / 2 ^ i : Nat) : Int)) := div_cast x i
    have hxi : x / 2 ^ i < 4294967296 := Nat.lt_of_le_of_lt (Nat.div_le_self _ _) (by omega)
    by_cases h2 : (32 : Int) ≤ k
    · have HM : Hid (mskN (k : Int) = 4294967295) := if_pos h2
      have HF : Hid (Bw.fld x i (min (k : Int) 32).toNat = x / 2 ^ i) := Bw.fld_32 x i _ (by omega) (by omega)
      go_enter Try.func25, Try.ntmps25
      go_wp2_with (go_at_call 30; refine (mask_any _ (by omega) (by omega) _).mono ?_; rintro e w' ⟨rfl, rfl⟩)
      go_ret
      refine ⟨ret_u32 (a := bits .and .u32 ((x : Int) / 2 ^ i) (mskN (k : Int) : Int)) ?_, rfl⟩
      rw [hm.out, HX.out, HM.out, u32_and_nat _ _ hxi (by omega), nat_mask32, Nat.mod_eq_of_lt hxi]
      exact congrArg Int.ofNat HF.out.symm
    · have HM : Hid (mskN (k : Int) = 2 ^ k - 1) := if_neg h2
      have hk : k < 32 := by omega
      have HF : Hid ((min (k : Int) 32).toNat = k) := show (min (k : Int) 32).toNat = k by omega
      go_enter Try.func25, Try.ntmps25
      go_wp2_with (go_at_call 30; refine (mask_any _ (by omega) (by omega) _).mono ?_; rintro e w' ⟨rfl, rfl⟩)
      go_ret
      refine ⟨ret_u32 (a := bits .and .u32 ((x : Int) / 2 ^ i) (mskN (k : Int) : Int)) ?_, rfl⟩
      rw [hm.out, HX.out, HM.out, and_mask _ _ hxi hk, HF.out]
      rfl

theorem fld_ref_any (x : Nat) (l n : Int) (hx : (x : Int) ≤ 4294967295) (hn' : n ≤ 9223372036854775807) (w : World) :
    Calls Try.prog 27 #[.int .u32 x, .int .i64 l, .int .i64 n] w fun e w' => e = .returned (.int .u32 (fldA x l n)) ∧ w = w' := by
  by_cases h : l < 0 ∨ 31 < l ∨ n < 1
  · have hm : Hid (fldA x l n = 0) := if_pos h
    rcases h with h | h | h
    · go_enter Try.func27, Try.ntmps27
      go_wp2
      go_ret
      exact ⟨by rw [hm.out]; rfl, rfl⟩
    · by_cases h0 : l < 0
      · omega
      · go_enter Try.func27, Try.ntmps27
        go_wp2
        go_ret
        exact ⟨by rw [hm.out]; rfl, rfl⟩
    · by_cases h0 : l < 0
      · go_enter Try.func27, Try.ntmps27
        go_wp2
        go_ret
        exact ⟨by rw [hm.out]; rfl, rfl⟩
      · by_cases h1 : 31 < l
        · go_enter Try.func27, Try.ntmps27
          go_wp2
          go_ret
          exact ⟨by rw [hm.out]; rfl, rfl⟩
        · go_enter Try.func27, Try.ntmps27
          go_wp2
          go_ret
          exact ⟨by rw [hm.out]; rfl, rfl⟩
  · have hm : Hid (fldA x l n = Bw.fld x l.toNat (min n 32).toNat) := if_neg h
    have hl1 : 0 ≤ l := by omega
    have hl2 : l ≤ 31 := by omega
    have hn1 : 1 ≤ n := by omega
    clear h
    obtain ⟨i, rfl⟩ := Int.eq_ofNat_of_zero_le (a := l) hl1
    obtain ⟨k, rfl⟩ := Int.eq_ofNat_of_zero_le (a := n) (by omega)
    have HX : Hid ((x : Int) / 2 ^ i = ((x / 2 ^ i : Nat) : Int)) := div_cast x i
    have hxi : x / 2 ^ i < 4294967296 := Nat.lt_of_le_of_lt (Nat.div_le_self _ _) (by omega)
    by_cases h2 : (32 : Int) ≤ k
    · have HF : Hid (Bw.fld x i (min (k : Int) 32).toNat = x / 2 ^ i) := Bw.fld_32 x i _ (by omega) (by omega)
      go_enter Try.func27, Try.ntmps27
      go_wp2
      go_ret
      refine ⟨ret_u32 (a := (x : Int) / 2 ^ i) ?_, rfl⟩
      rw [hm.out, HX.out]
      exact congrArg Int.ofNat HF.out.symm
    · have hk : k < 32 := by omega
      have HF : Hid ((min (k : Int) 32).toNat = k) := show (min (k : Int) 32).toNat = k by omega
      go_enter Try.func27, Try.ntmps27
      go_wp2
      go_ret
      refine ⟨ret_u32 (a := bits .and .u32 ((x : Int) / 2 ^ i) ((2 ^ k - 1) % 4294967296)) ?_, rfl⟩
      rw [hm.out, HX.out, mask_eq k hk, and_mask _ _ hxi hk, HF.out]
      rfl

/-- The mask of n bits from bit l on, n below 32, in the walk's spelling. -/
theorem msk_eq (i k : Nat) (hk : k < 32) : ((2 ^ k - 1 : Nat) : Int) * 2 ^ i % 4294967296 = (Bw.msk i k : Int) := by
  unfold Bw.msk; simp
theorem msk_eq32 (i : Nat) : (4294967295 : Int) * 2 ^ i % 4294967296 = (Bw.msk i 32 : Int) := by
  unfold Bw.msk; simp
theorem msk_lt (i k : Nat) : Bw.msk i k < 4294967296 := by have := Bw.msk_le i k; rw [← Bw.p32] at this; exact this
theorem andn_eq (x m : Nat) (hx : (x : Int) ≤ 4294967295) (hm : m < 4294967296) : bits .andNot .u32 (x : Int) (m : Int) = ((x &&& (4294967295 - m) : Nat) : Int) := u32_andNot_nat x m (by omega) hm
theorem shl_cast (v i : Nat) : (v : Int) * 2 ^ i % 4294967296 = ((v * 2 ^ i % 4294967296 : Nat) : Int) := by simp

theorem set_any (x : Nat) (l n : Int) (v : Nat) (hx : (x : Int) ≤ 4294967295) (hn' : n ≤ 9223372036854775807) (hv : (v : Int) ≤ 4294967295) (w : World) :
    Calls Try.prog 28 #[.int .u32 x, .int .i64 l, .int .i64 n, .int .u32 v] w fun e w' => e = .returned (.int .u32 (setA x l n v)) ∧ w = w' := by
  by_cases h : l < 0 ∨ 31 < l ∨ n < 1
  · have hm : Hid (setA x l n v = x) := if_pos h
    rcases h with h | h | h
    · go_enter Try.func28, Try.ntmps28
      go_wp2
      go_ret
      exact ⟨by rw [hm.out]; rfl, rfl⟩
    · by_cases h0 : l < 0
      · omega
      · go_enter Try.func28, Try.ntmps28
        go_wp2
        go_ret
        exact ⟨by rw [hm.out]; rfl, rfl⟩
    · by_cases h0 : l < 0
      · go_enter Try.func28, Try.ntmps28
        go_wp2
        go_ret
        exact ⟨by rw [hm.out]; rfl, rfl⟩
      · by_cases h1 : 31 < l
        · go_enter Try.func28, Try.ntmps28
          go_wp2
          go_ret
          exact ⟨by rw [hm.out]; rfl, rfl⟩
        · go_enter Try.func28, Try.ntmps28
          go_wp2
          go_ret
          exact ⟨by rw [hm.out]; rfl, rfl⟩
  · have hm : Hid (setA x l n v = Bw.setf x l.toNat (min n 32).toNat v) := if_neg h
    have hl1 : 0 ≤ l := by omega
    have hl2 : l ≤ 31 := by omega
    have hn1 : 1 ≤ n := by omega
    clear h
    obtain ⟨i, rfl⟩ := Int.eq_ofNat_of_zero_le (a := l) hl1
    obtain ⟨k, rfl⟩ := Int.eq_ofNat_of_zero_le (a := n) (by omega)
    have key : ∀ j : Nat, j ≤ 32 → mskN (k : Int) = 2 ^ j - 1 → (min (k : Int) 32).toNat = j →
        bits .or .u32 (bits .andNot .u32 (x : Int) ((mskN (k : Int) : Int) * 2 ^ i % 4294967296)) (bits .and .u32 (v : Int) (mskN (k : Int) : Int) * 2 ^ i % 4294967296) = (Bw.setf x i j v : Int) := by
      intro j hj hmj _
      have h2j : 2 ^ j - 1 < 4294967296 := by
        have : 2 ^ j ≤ 2 ^ 32 := Nat.pow_le_pow_right (by omega) hj
        rw [← Bw.p32] at this; omega
      have e1 : ((2 ^ j - 1 : Nat) : Int) * 2 ^ i % 4294967296 = (Bw.msk i j : Int) := by unfold Bw.msk; simp
      rw [hmj, e1, andn_eq _ _ hx (msk_lt _ _), u32_and_nat v _ (by omega) h2j, shl_cast, u32_or_nat _ _ (Nat.lt_of_le_of_lt Nat.and_le_left (by omega)) (Nat.mod_lt _ (by omega)), Bw.setf_prog]
    have KEY := Lib.hid key
    clear key
    go_enter Try.func28, Try.ntmps28
    go_wp2_with (go_at_call 30; refine (mask_any _ (by omega) (by omega) _).mono ?_; rintro e w' ⟨rfl, rfl⟩)
    go_ret
    refine ⟨ret_u32 (a := bits .or .u32 (bits .andNot .u32 (x : Int) ((mskN (k : Int) : Int) * 2 ^ i % 4294967296)) (bits .and .u32 (v : Int) (mskN (k : Int) : Int) * 2 ^ i % 4294967296)) ?_, rfl⟩
    rw [hm.out]
    by_cases h2 : (32 : Int) ≤ k
    · rw [KEY.out 32 (by omega) (if_pos h2) (by omega), show (min (k : Int) 32).toNat = 32 by omega]; rfl
    · rw [KEY.out k (by omega) (if_neg h2) (by omega), show (min (k : Int) 32).toNat = k by omega]; rfl

theorem set_ref_any (x : Nat) (l n : Int) (v : Nat) (hx : (x : Int) ≤ 4294967295) (hn' : n ≤ 9223372036854775807) (hv : (v : Int) ≤ 4294967295) (w : World) :
    Calls Try.prog 29 #[.int .u32 x, .int .i64 l, .int .i64 n, .int .u32 v] w fun e w' => e = .returned (.int .u32 (setA x l n v)) ∧ w = w' := by
  by_cases h : l < 0 ∨ 31 < l ∨ n < 1
  · have hm : Hid (setA x l n v = x) := if_pos h
    rcases h with h | h | h
    · go_enter Try.func29, Try.ntmps29
      go_wp2
      go_ret
      exact ⟨by rw [hm.out]; rfl, rfl⟩
    · by_cases h0 : l < 0
      · omega
      · go_enter Try.func29, Try.ntmps29
        go_wp2
        go_ret
        exact ⟨by rw [hm.out]; rfl, rfl⟩
    · by_cases h0 : l < 0
      · go_enter Try.func29, Try.ntmps29
        go_wp2
        go_ret
        exact ⟨by rw [hm.out]; rfl, rfl⟩
      · by_cases h1 : 31 < l
        · go_enter Try.func29, Try.ntmps29
          go_wp2
          go_ret
          exact ⟨by rw [hm.out]; rfl, rfl⟩
        · go_enter Try.func29, Try.ntmps29
          go_wp2
          go_ret
          exact ⟨by rw [hm.out]; rfl, rfl⟩
  · have hm : Hid (setA x l n v = Bw.setf x l.toNat (min n 32).toNat v) := if_neg h
    have hl1 : 0 ≤ l := by omega
    have hl2 : l ≤ 31 := by omega
    have hn1 : 1 ≤ n := by omega
    clear h
    obtain ⟨i, rfl⟩ := Int.eq_ofNat_of_zero_le (a := l) hl1
    obtain ⟨k, rfl⟩ := Int.eq_ofNat_of_zero_le (a := n) (by omega)
    have key : ∀ j : Nat, bits .or .u32 (bits .andNot .u32 (x : Int) (Bw.msk i j : Int)) (bits .and .u32 ((v : Int) * 2 ^ i % 4294967296) (Bw.msk i j : Int)) = (Bw.setf x i j v : Int) := by
      intro j
      rw [andn_eq _ _ hx (msk_lt _ _), shl_cast, u32_and_nat _ _ (Nat.mod_lt _ (by omega)) (msk_lt _ _), u32_or_nat _ _ (Nat.lt_of_le_of_lt Nat.and_le_left (by omega)) (Nat.lt_of_le_of_lt Nat.and_le_left (Nat.mod_lt _ (by omega)))]
      rfl
    have KEY := Lib.hid key
    clear key
    by_cases h2 : (32 : Int) ≤ k
    · have HF : Hid ((min (k : Int) 32).toNat = 32) := show (min (k : Int) 32).toNat = 32 by omega
      go_enter Try.func29, Try.ntmps29
      go_wp2
      go_ret
      refine ⟨ret_u32 (a := bits .or .u32 (bits .andNot .u32 (x : Int) ((4294967295 : Int) * 2 ^ i % 4294967296)) (bits .and .u32 ((v : Int) * 2 ^ i % 4294967296) ((4294967295 : Int) * 2 ^ i % 4294967296))) ?_, rfl⟩
      rw [hm.out, HF.out, msk_eq32, KEY.out]; rfl
    · have hk : k < 32 := by omega
      have HF : Hid ((min (k : Int) 32).toNat = k) := show (min (k : Int) 32).toNat = k by omega
      have HM : Hid ((((2 : Int) ^ k - 1) % 4294967296 * 2 ^ i % 4294967296) = (Bw.msk i k : Int)) := show _ = _ by rw [mask_eq k hk, msk_eq i k hk]
      go_enter Try.func29, Try.ntmps29
      go_wp2
      go_ret
      refine ⟨ret_u32 (a := bits .or .u32 (bits .andNot .u32 (x : Int) (((2 : Int) ^ k - 1) % 4294967296 * 2 ^ i % 4294967296)) (bits .and .u32 ((v : Int) * 2 ^ i % 4294967296) (((2 : Int) ^ k - 1) % 4294967296 * 2 ^ i % 4294967296))) ?_, rfl⟩
      rw [hm.out, HF.out, HM.out, KEY.out]; rfl

/-- Quotient and remainder of two words, as signed numbers. -/
def divQ (a b : Int) : Int := if b = 0 then 4294967295 else (wrap32 a).tdiv (wrap32 b) % 4294967296
def divR (a b : Int) : Int := if b = 0 then a else (wrap32 a).tmod (wrap32 b) % 4294967296
theorem ret_two {a b c d : Int} (h : a = b) (h' : c = d) : Ending.returned (.tuple #[.int .u32 a, .int .u32 c]) = .returned (.tuple #[.int .u32 b, .int .u32 d]) := by rw [h, h']
theorem w32_bounds (a : Int) : -2147483648 ≤ wrap32 a ∧ wrap32 a ≤ 2147483647 := by unfold wrap32; omega
theorem w32_ne {b : Int} (h0 : 0 ≤ b) (h1 : b ≤ 4294967295) (h : ¬ b = 0) : ¬ wrap32 b = 0 := by unfold wrap32; omega
theorem tdiv_bd (x y : Int) : x.tdiv y ≤ (if 0 ≤ x then x else -x) ∧ -(if 0 ≤ x then x else -x) ≤ x.tdiv y := by
  have h := Int.natAbs_tdiv_le_natAbs x y
  split <;> omega
theorem wrap_mod (x : Int) : wrap32 x % 4294967296 = x % 4294967296 := by unfold wrap32; omega

theorem div_any (a b : Int) (ha : 0 ≤ a) (ha' : a ≤ 4294967295) (hb : 0 ≤ b) (hb' : b ≤ 4294967295) (w : World) :
    Calls Try.prog 13 #[.int .u32 a, .int .u32 b] w fun e w' => e = .returned (.tuple #[.int .u32 (divQ a b), .int .u32 (divR a b)]) ∧ ∃ n, w' = w.drewN n := by
  by_cases h0 : b = 0
  · have hq : Hid (divQ a b = 4294967295) := if_pos h0
    have hr : Hid (divR a b = a) := if_pos h0
    have hz : (b == 0) = true := by simp [h0]
    clear h0
    go_enter Try.func13, Try.ntmps13
    go_wp2
    go_ret2
    exact ⟨by rw [hq.out, hr.out]; rfl, 0, rfl⟩
  · have hq : Hid (divQ a b = (wrap32 a).tdiv (wrap32 b) % 4294967296) := if_neg h0
    have hr : Hid (divR a b = (wrap32 a).tmod (wrap32 b) % 4294967296) := if_neg h0
    have hz : (b == 0) = false := by simp [h0]
    have hn := w32_ne hb hb' h0
    clear h0
    by_cases hm : a = 2147483648 ∧ b = 4294967295
    · obtain ⟨rfl, rfl⟩ := hm
      go_enter Try.func13, Try.ntmps13
      go_wp2
      go_ret2
      exact ⟨by rw [hq.out, hr.out]; exact ret_two (by decide +kernel) (by decide +kernel), 0, rfl⟩
    · have hw := Lib.hid (wrap_mod ((wrap32 a).tdiv (wrap32 b)))
      by_cases h1 : a = 2147483648
      · have h2 : (b == 4294967295) = false := by rw [beq_eq_false_iff_ne]; omega
        have h1' : (a == 2147483648) = true := by simp [h1]
        clear hm h1
        go_enter Try.func13, Try.ntmps13
        go_wp2
        go_quiet (fail)
        go_wp2
        go_ret2
        exact ⟨by rw [hq.out, hr.out]; exact ret_two hw.out rfl, _, rfl⟩
      · have h1' : (a == 2147483648) = false := by simp [h1]
        clear hm h1
        go_enter Try.func13, Try.ntmps13
        go_wp2
        go_quiet (fail)
        go_wp2
        go_ret2
        exact ⟨by rw [hq.out, hr.out]; exact ret_two hw.out rfl, _, rfl⟩

theorem div_ref_any (a b : Int) (ha : 0 ≤ a) (ha' : a ≤ 4294967295) (hb : 0 ≤ b) (hb' : b ≤ 4294967295) (w : World) :
    Calls Try.prog 14 #[.int .u32 a, .int .u32 b] w fun e w' => e = .returned (.tuple #[.int .u32 (divQ a b), .int .u32 (divR a b)]) ∧ ∃ n, w' = w.drewN n := by
  by_cases h0 : b = 0
  · have hq : Hid (divQ a b = 4294967295) := if_pos h0
    have hr : Hid (divR a b = a) := if_pos h0
    have hz : (b == 0) = true := by simp [h0]
    clear h0
    go_enter Try.func14, Try.ntmps14
    go_wp2
    go_ret2
    exact ⟨by rw [hq.out, hr.out]; rfl, 0, rfl⟩
  · have hq : Hid (divQ a b = (wrap32 a).tdiv (wrap32 b) % 4294967296) := if_neg h0
    have hr : Hid (divR a b = (wrap32 a).tmod (wrap32 b) % 4294967296) := if_neg h0
    have hz : (b == 0) = false := by simp [h0]
    have hn := w32_ne hb hb' h0
    clear h0
    have b1 := (w32_bounds a).1
    have b2 := (w32_bounds a).2
    have b3 := (w32_bounds b).1
    have b4 := (w32_bounds b).2
    have hw := Lib.hid (show wrap64 ((wrap32 a).tdiv (wrap32 b)) = (wrap32 a).tdiv (wrap32 b) by
      have := tdiv_bd (wrap32 a) (wrap32 b)
      refine IntWalk.wrap64_in _ ⟨?_, ?_⟩ <;> split at this <;> omega)
    go_enter Try.func14, Try.ntmps14
    go_wp2
    go_quiet (fail)
    go_wp2
    go_ret2
    exact ⟨by rw [hq.out, hr.out]; exact ret_two (congrArg (· % 4294967296) hw.out) rfl, _, rfl⟩

/-- The next value and seed of the generator, in the walk's spelling. -/
def seedN (x : Int) : Int := IntKind.u64.wrap (x + 11400714819323198485)
def mixA (s : Int) : Int := IntKind.u64.wrap (bits .xor .u64 s (s / 1073741824) * 13787848793156543929)
def mixB (z : Int) : Int := IntKind.u64.wrap (bits .xor .u64 z (z / 134217728) * 10723151780598845931)
def mixC (z : Int) : Int := bits .xor .u64 z (z / 2147483648)
def nextV (x : Int) : Int := mixC (mixB (mixA (seedN x)))
theorem next_any (x : Int) (w : World) :
    Calls Try.prog 16 #[.int .u64 x] w fun e w' => e = .returned (.tuple #[.int .u64 (nextV x), .int .u64 (seedN x)]) ∧ w = w' := by
  go_enter Try.func16, Try.ntmps16
  go_wp2
  go_ret2
  exact ⟨rfl, rfl⟩
theorem next_ref_any (x : Int) (w : World) :
    Calls Try.prog 17 #[.int .u64 x] w fun e w' => e = .returned (.tuple #[.int .u64 (nextV x), .int .u64 (seedN x)]) ∧ w = w' := by
  go_enter Try.func17, Try.ntmps17
  go_wp2
  go_ret2
  exact ⟨rfl, rfl⟩

end Words
end Go.Proofs.Ytpgllpoclokcmaa
