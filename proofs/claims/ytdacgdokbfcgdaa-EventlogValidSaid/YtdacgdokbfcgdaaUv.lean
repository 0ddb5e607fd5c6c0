/-
  Plain laws, no program in sight: the varint encoding of numbers, its reader, and the hash of chapter 1.
-/
import Derived.RowKit
import Derived.Laws.BitsAllLaws
set_option linter.unusedVariables false
namespace Go.Proofs.Ytdacgdokbfcgdaa.Uv

/-- The encoding with fuel. -/
def putF : Nat → Nat → List UInt8
  | 0, x => [UInt8.ofNat x]
  | f + 1, x => if 128 ≤ x then UInt8.ofNat (x % 128 + 128) :: putF f (x / 128) else [UInt8.ofNat x]
/-- The encoding of a number below 2^64. -/
def put (x : Nat) : List UInt8 := putF 10 x

/-- The reader: i bytes are read, x is gathered. -/
def rd (i x : Nat) : List UInt8 → Option (Nat × Nat)
  | [] => none
  | b :: t => if 10 ≤ i then none else if i = 9 ∧ 1 < b.toNat then none
    else if 128 ≤ b.toNat then rd (i + 1) (x + (b.toNat - 128) * 128 ^ i) t
    else if b.toNat = 0 ∧ 0 < i then none else some (x + b.toNat * 128 ^ i, i + 1)

theorem putF_len : ∀ f x, (putF f x).length ≤ f + 1
  | 0, x => by simp [putF]
  | f + 1, x => by
    unfold putF; split
    · simp; exact putF_len f _
    · simp
theorem putF_len_bits : ∀ f k x, x < 128 ^ k → 1 ≤ k → k ≤ f + 1 → (putF f x).length ≤ k
  | 0, k, x, h, h1, _ => by simp [putF]; omega
  | f + 1, k, x, h, h1, h2 => by
    unfold putF; split
    · rename_i hx
      match k, h1 with
      | 1, _ => simp at h; omega
      | k + 2, _ =>
        simp only [List.length_cons]
        have := putF_len_bits f (k + 1) (x / 128) (by rw [Nat.pow_succ] at h; exact Nat.div_lt_of_lt_mul (by rw [Nat.mul_comm]; exact h)) (by omega) (by omega)
        omega
    · simp; omega
theorem pow10 : (128 : Nat) ^ 10 = 1180591620717411303424 := by decide
theorem put_len (x : Nat) (h : x < 18446744073709551616) : (put x).length ≤ 10 :=
  putF_len_bits 10 10 x (by rw [pow10]; omega) (by omega) (by omega)
theorem putF_pos : ∀ f x, 1 ≤ (putF f x).length
  | 0, x => by simp [putF]
  | f + 1, x => by unfold putF; split <;> simp
theorem put_pos (x : Nat) : 1 ≤ (put x).length := putF_pos _ _

theorem ofNat_toNat {n : Nat} (h : n < 256) : (UInt8.ofNat n).toNat = n := by
  simp [UInt8.toNat_ofNat']; omega

/-- Fuel beyond need changes nothing. -/
theorem putF_fuel : ∀ f g k x, x < 128 ^ k → 1 ≤ k → k ≤ f + 1 → k ≤ g + 1 → putF f x = putF g x
  | 0, 0, _, _, _, _, _, _ => rfl
  | 0, g + 1, k, x, h, h1, h2, _ => by
    obtain rfl : k = 1 := by omega
    simp at h
    simp [putF]; omega
  | f + 1, 0, k, x, h, h1, _, h2 => by
    obtain rfl : k = 1 := by omega
    simp at h
    simp [putF]; omega
  | f + 1, g + 1, k, x, h, h1, h2, h3 => by
    unfold putF
    split
    · rename_i hx
      match k, h1 with
      | 1, _ => simp at h; omega
      | k + 2, _ =>
        rw [putF_fuel f g (k + 1) (x / 128) (by rw [Nat.pow_succ] at h; exact Nat.div_lt_of_lt_mul (by rw [Nat.mul_comm]; exact h)) (by omega) (by omega) (by omega)]
    · rfl
/-- The step of the encoding. -/
theorem put_step (x : Nat) (h : x < 18446744073709551616) (hx : 128 ≤ x) : put x = UInt8.ofNat (x % 128 + 128) :: put (x / 128) := by
  have e : putF 9 (x / 128) = putF 10 (x / 128) := putF_fuel 9 10 10 (x / 128) (by rw [pow10]; omega) (by omega) (by omega) (by omega)
  unfold put
  rw [← e]
  show putF (9 + 1) x = _
  rw [putF, if_pos hx]
theorem put_small (x : Nat) (hx : x < 128) : put x = [UInt8.ofNat x] := by
  unfold put; show putF (9 + 1) x = _; rw [putF, if_neg (by omega)]

theorem pow_split (i : Nat) (x : Nat) : x % 128 * 128 ^ i + x / 128 * 128 ^ (i + 1) = x * 128 ^ i := by
  rw [Nat.pow_succ, Nat.mul_comm (128 ^ i) 128, ← Nat.mul_assoc, ← Nat.add_mul]
  congr 1; omega

/-- What is written is read, whatever follows it. -/
theorem rd_putF : ∀ f i x a t, i + f = 9 → (x * 128 ^ i < 18446744073709551616) → (x = 0 → i = 0) → rd i a (putF f x ++ t) = some (a + x * 128 ^ i, i + (putF f x).length)
  | 0, i, x, a, t, hi, hx, h0 => by
    obtain rfl : i = 9 := by omega
    have h9 : (128 : Nat) ^ 9 = 9223372036854775808 := by decide
    rw [h9] at hx
    have hxs : x ≤ 1 := by omega
    simp only [putF, List.cons_append, List.nil_append, rd, List.length_cons, List.length_nil]
    rw [ofNat_toNat (by omega), if_neg (by omega), if_neg (by omega), if_neg (by omega), if_neg (by omega)]
  | f + 1, i, x, a, t, hi, hx, h0 => by
    unfold putF
    split
    · rename_i h128
      simp only [List.cons_append, rd, List.length_cons]
      rw [ofNat_toNat (by omega), if_neg (by omega), if_neg (by omega), if_pos (by omega)]
      rw [rd_putF f (i + 1) (x / 128) _ t (by omega) (by have := pow_split i x; omega) (by omega)]
      have e : x % 128 + 128 - 128 = x % 128 := by omega
      rw [e, Nat.add_assoc a, pow_split i x]
      exact congrArg some (Prod.ext rfl (by show i + 1 + (putF f (x / 128)).length = i + ((putF f (x / 128)).length + 1); omega))
    · simp only [List.cons_append, List.nil_append, rd, List.length_cons, List.length_nil]
      rw [ofNat_toNat (by omega), if_neg (by omega), if_neg (by omega), if_neg (by omega), if_neg (by omega)]

theorem putF_9_10 (x : Nat) (h : x < 18446744073709551616) : putF 9 x = put x :=
  putF_fuel 9 10 10 x (by rw [pow10]; omega) (by omega) (by omega) (by omega)
theorem rd_put (x : Nat) (h : x < 18446744073709551616) (t : List UInt8) : rd 0 0 (put x ++ t) = some (x, (put x).length) := by
  rw [← putF_9_10 x h, rd_putF 9 0 x 0 t (by omega) (by simpa using h) (by simp)]
  simp

/-- What is read is written. -/
theorem putF_rd : ∀ f i a (s : List UInt8) v n, i + f = 9 → rd i a s = some (v, n) →
    ∃ x, v = a + x * 128 ^ i ∧ x * 128 ^ i < 18446744073709551616 ∧ i < n ∧ n - i ≤ s.length ∧ putF f x = s.take (n - i) ∧ (x = 0 → i = 0)
  | f, i, a, [], v, n, hi, h => by simp [rd] at h
  | f, i, a, b :: t, v, n, hi, h => by
    have hb := b.toNat_lt
    simp only [rd] at h
    rw [if_neg (by omega)] at h
    split at h
    · simp at h
    · rename_i h9
      split at h
      · rename_i h128
        match f with
        | 0 => omega
        | f + 1 =>
          obtain ⟨x, hv, hlt, hin, hnl, hp, hz⟩ := putF_rd f (i + 1) _ t v n (by omega) h
          refine ⟨(b.toNat - 128) + x * 128, ?_, ?_, by omega, by simp; omega, ?_, by omega⟩
          · rw [hv, Nat.add_mul, Nat.add_assoc, Nat.pow_succ, Nat.mul_comm (128 ^ i) 128, Nat.mul_assoc]
          · have hp0 : 0 < 128 ^ i := Nat.pow_pos (by omega)
            have e : ((b.toNat - 128) + x * 128) * 128 ^ i = (b.toNat - 128) * 128 ^ i + x * 128 ^ (i + 1) := by
              rw [Nat.add_mul, Nat.pow_succ, Nat.mul_comm (128 ^ i) 128, Nat.mul_assoc]
            rw [e]
            have h1 : (b.toNat - 128) * 128 ^ i ≤ 127 * 128 ^ i := Nat.mul_le_mul_right _ (by omega)
            -- x * 128^(i+1) is a multiple of 128^(i+1), below 2^64 = 2 * 128^9
            have hi8 : i ≤ 8 := by omega
            obtain ⟨d, hd⟩ : ∃ d, 9 = (i + 1) + d := ⟨8 - i, by omega⟩
            have e9 : (18446744073709551616 : Nat) = (2 * 128 ^ d) * 128 ^ (i + 1) := by
              rw [Nat.mul_assoc, ← Nat.pow_add, Nat.add_comm d (i + 1), ← hd]
            rw [e9] at hlt ⊢
            have hx1 : x + 1 ≤ 2 * 128 ^ d := Nat.lt_of_mul_lt_mul_right hlt
            have h2 : (x + 1) * 128 ^ (i + 1) ≤ (2 * 128 ^ d) * 128 ^ (i + 1) := Nat.mul_le_mul_right _ hx1
            rw [Nat.add_mul, Nat.one_mul] at h2
            have h3 : 128 ^ (i + 1) = 128 * 128 ^ i := by rw [Nat.pow_succ, Nat.mul_comm]
            omega
          · have e : n - i = (n - (i + 1)) + 1 := by omega
            rw [e, List.take_succ_cons, ← hp]
            have hx0 : 1 ≤ x := by
              rcases Nat.eq_zero_or_pos x with h | h
              · exact absurd (hz h) (by omega)
              · exact h
            rw [putF, if_pos (by omega)]
            congr 1
            · apply UInt8.toNat_inj.1; rw [ofNat_toNat (by omega)]; omega
            · congr 1; omega
      · rename_i h128
        split at h
        · simp at h
        · rename_i h0
          simp only [Option.some.injEq, Prod.mk.injEq] at h
          obtain ⟨rfl, rfl⟩ := h
          refine ⟨b.toNat, rfl, ?_, by omega, by simp, ?_, by omega⟩
          · by_cases h9' : i = 9
            · subst h9'
              have : b.toNat ≤ 1 := by omega
              have h9 : (128 : Nat) ^ 9 = 9223372036854775808 := by decide
              rw [h9]; omega
            · obtain ⟨d, hd⟩ : ∃ d, 9 = (i + 1) + d := ⟨8 - i, by omega⟩
              have e9 : (18446744073709551616 : Nat) = (2 * 128 ^ d * 128) * 128 ^ i := by
                rw [Nat.mul_assoc, Nat.mul_assoc, Nat.mul_comm 128 (128 ^ i), ← Nat.pow_succ, ← Nat.pow_add, Nat.add_comm d, ← hd]
              rw [e9]
              have hd0 : 1 ≤ 128 ^ d := Nat.pow_pos (by omega)
              exact Nat.mul_lt_mul_of_pos_right (by omega) (Nat.pow_pos (by omega))
          · have e : i + 1 - i = 1 := by omega
            rw [e]
            simp only [List.take_succ_cons, List.take_zero]
            match f with
            | 0 => simp [putF]
            | f + 1 => rw [putF, if_neg (by omega)]; simp

theorem put_rd {s : List UInt8} {v n : Nat} (h : rd 0 0 s = some (v, n)) : v < 18446744073709551616 ∧ 1 ≤ n ∧ n ≤ s.length ∧ put v = s.take n := by
  obtain ⟨x, hv, hlt, hin, hnl, hp, _⟩ := putF_rd 9 0 0 s v n (by omega) h
  simp at hv hlt hnl hp
  subst hv
  exact ⟨hlt, by omega, hnl, by rw [← putF_9_10 v hlt, hp]⟩
/-- The three results of the reader. -/
def uvX (l : List UInt8) : Nat := match rd 0 0 l with | some (v, _) => v | none => 0
def uvN (l : List UInt8) : Nat := match rd 0 0 l with | some (_, n) => n | none => 0
def uvB (l : List UInt8) : Bool := match rd 0 0 l with | some _ => true | none => false
theorem uv_none {l : List UInt8} (h : rd 0 0 l = none) : uvX l = 0 ∧ uvN l = 0 ∧ uvB l = false := by simp [uvX, uvN, uvB, h]
theorem uv_some {l : List UInt8} {v n : Nat} (h : rd 0 0 l = some (v, n)) : uvX l = v ∧ uvN l = n ∧ uvB l = true := by simp [uvX, uvN, uvB, h]
theorem uvX_lt (l : List UInt8) : uvX l < 18446744073709551616 := by
  unfold uvX; split
  · rename_i v n h; exact (put_rd h).1
  · omega
theorem uvN_le (l : List UInt8) : uvN l ≤ l.length := by
  unfold uvN; split
  · rename_i v n h; exact (put_rd h).2.2.1
  · omega
theorem uvN_pos (l : List UInt8) (h : uvB l = true) : 1 ≤ uvN l := by
  unfold uvB at h; unfold uvN; split
  · rename_i v n h; exact (put_rd h).2.1
  · rename_i e; simp [e] at h
/-- The steps of the reader. -/
theorem rd_nil (i x : Nat) : rd i x [] = none := rfl
theorem rd_ten (x : Nat) (l : List UInt8) : rd 10 x l = none := by cases l <;> simp [rd]
theorem rd_nine {b : UInt8} (x : Nat) (t : List UInt8) (h : 1 < b.toNat) : rd 9 x (b :: t) = none := by simp [rd, h]
theorem rd_nine' {b : UInt8} {i : Nat} (x : Nat) (t : List UInt8) (hi : i = 9) (h : 1 < b.toNat) : rd i x (b :: t) = none := by subst hi; exact rd_nine x t h
theorem rd_more {b : UInt8} (i x : Nat) (t : List UInt8) (hi : i < 10) (h9 : ¬ (i = 9 ∧ 1 < b.toNat)) (h : 128 ≤ b.toNat) : rd i x (b :: t) = rd (i + 1) (x + b.toNat % 128 * 128 ^ i) t := by
  rw [rd, if_neg (by omega), if_neg h9, if_pos h, show b.toNat - 128 = b.toNat % 128 by have := b.toNat_lt; omega]
theorem rd_zero {b : UInt8} (i x : Nat) (t : List UInt8) (hi : i < 10) (h9 : ¬ (i = 9 ∧ 1 < b.toNat)) (h : b.toNat = 0) (h0 : 0 < i) : rd i x (b :: t) = none := by
  rw [rd, if_neg (by omega), if_neg h9, if_neg (by omega), if_pos ⟨h, h0⟩]
theorem rd_last {b : UInt8} (i x : Nat) (t : List UInt8) (hi : i < 10) (h9 : ¬ (i = 9 ∧ 1 < b.toNat)) (h : b.toNat < 128) (h0 : ¬ (b.toNat = 0 ∧ 0 < i)) : rd i x (b :: t) = some (x + b.toNat % 128 * 128 ^ i, i + 1) := by
  rw [rd, if_neg (by omega), if_neg h9, if_neg (by omega), if_neg h0, Nat.mod_eq_of_lt h]
/-- A group joined to what was read before. -/
theorem join_lt {x c i : Nat} (hx : x < 128 ^ i) (hc : c < 128) : x + c * 128 ^ i < 128 ^ (i + 1) := by
  rw [Nat.pow_succ, Nat.mul_comm (128 ^ i)]
  have : c * 128 ^ i ≤ 127 * 128 ^ i := Nat.mul_le_mul_right _ (by omega)
  omega
theorem p7 (i : Nat) : 2 ^ (7 * i) = 128 ^ i := by rw [Nat.pow_mul]
theorem small_group {c i : Nat} (hi : i < 10) (hc : c < 128) (h9 : i = 9 → c ≤ 1) : c * 128 ^ i < 18446744073709551616 := by
  by_cases h : i = 9
  · subst h
    have h9' : (128 : Nat) ^ 9 = 9223372036854775808 := by decide
    rw [h9']; have := h9 rfl; omega
  · have h1 : c * 128 ^ i ≤ 127 * 128 ^ 8 := Nat.mul_le_mul (by omega) (Nat.pow_le_pow_right (by omega) (by omega))
    have h8 : (128 : Nat) ^ 8 = 72057594037927936 := by decide
    rw [h8] at h1; omega
theorem acc_lt {x i : Nat} (hi : i ≤ 9) (hx : x < 128 ^ i) : x < 18446744073709551616 := by
  have h1 : 128 ^ i ≤ 128 ^ 9 := Nat.pow_le_pow_right (by omega) hi
  have h9' : (128 : Nat) ^ 9 = 9223372036854775808 := by decide
  rw [h9'] at h1; omega
/-- Or is plus. -/
theorem join {x c i : Nat} (hx : x < 128 ^ i) (hi : i < 10) (hc : c < 128) (h9 : i = 9 → c ≤ 1) : x ||| (c * 2 ^ (7 * i) % 18446744073709551616) = x + c * 128 ^ i := by
  rw [p7, Nat.mod_eq_of_lt (small_group hi hc h9), Nat.or_comm, ← p7]
  rw [nat_join (7 * i) _ _ (Nat.mul_mod_left _ _) (by rw [p7]; exact hx), Nat.add_comm]
end Go.Proofs.Ytdacgdokbfcgdaa.Uv
