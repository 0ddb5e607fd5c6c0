/-
  Words for memory: a slice value that reads as a list of cells; what a world keeps.
  Plain laws, no program in sight: the varint encoding of numbers, its reader, and the hash of chapter 1.
  Plain laws, no program in sight: the hash of chapter 1 (FNV-1a, 64 bits) on lists of bytes.
  Contracts: the hash and the varints of chapter 1 (package bits and the reference) compute the plain functions of Hs and Uv.
  Plain laws, no program in sight: sealed segments (chapter 19).
-/
import Derived.WalkKit
import Derived.Deep.Draws
import Derived.Lib.Hide
import Derived.RowKit
import Derived.Laws.BitsAllLaws
import Derived.Test.YthpjbffhdaaibaaGreatProg
import Derived.WalkSpells
import Derived.WalkLawsBesides
import Derived.BigQuiet
import Derived.Deep.QuietTactic
namespace Go.Proofs.YthpjbffhdaaibaaGreat
open Go.RowKit
set_option linter.unusedVariables false
/-- What all worlds on the way of a call keep: what was there when it began. -/
def Held (w w' : World) : Prop := Below w.heap.size w w'
theorem lt_of_cell {w : World} {p : Addr} {v : Value} (h : w.cell? p = some v) : p.block < w.heap.size := by
  rcases Nat.lt_or_ge p.block w.heap.size with hl | hl
  · exact hl
  · simp [World.cell?, Array.getElem?_eq_none hl] at h
namespace Held
theorem refl (w : World) : Held w w := Below.refl _ _
theorem drew {w a : World} (h : Held w a) : Held w a.drew := Below.drew h
theorem drewN {w a : World} (h : Held w a) : ∀ n, Held w (a.drewN n)
  | 0 => h
  | n + 1 => ⟨h.os, h.tape, h.output, h.size, h.block⟩
theorem alloc {w a : World} (h : Held w a) (o : Obj) : Held w (a.alloc o) := Below.alloc h h.size o
theorem step {w a b : World} (h : Held w a) (hb : Held a b) : Held w b := Below.trans h (Below.mono hb h.size)
theorem set {w a : World} (h : Held w a) {p : Addr} (hp : w.heap.size ≤ p.block) (u : Value) : Held w (a.setCell p u) := Below.setCell h hp u
theorem le {w a : World} (h : Held w a) : w.heap.size ≤ a.heap.size := h.size
theorem cell {w a : World} (h : Held w a) {p : Addr} {v : Value} (hp : w.cell? p = some v) : a.cell? p = some v := by
  rw [Below.cell h ?_, hp]
  rcases Nat.lt_or_ge p.block w.heap.size with hl | hl
  · exact hl
  · simp [World.cell?, Array.getElem?_eq_none hl] at hp
end Held
/-- The slice value '.slice A n _' holds the cells xs, 'size' cells an element. -/
def Rd (w : World) (size : Nat) (A : Option Addr) (n : Nat) (xs : List Value) : Prop :=
  xs.length = n * size ∧ (n = 0 ∨ ∃ b off, A = some ⟨b, off, none⟩ ∧ ∀ j (h : j < xs.length), w.cell? ⟨b, off + j, none⟩ = some xs[j])
namespace Rd
theorem held {w a : World} {size : Nat} {A : Option Addr} {n : Nat} {xs : List Value} (h : Rd w size A n xs) (ha : Held w a) : Rd a size A n xs :=
  ⟨h.1, h.2.imp id fun ⟨b, off, e, hc⟩ => ⟨b, off, e, fun j hj => ha.cell (hc j hj)⟩⟩
theorem zero (w : World) (size : Nat) (A : Option Addr) : Rd w size A 0 [] := ⟨by simp, .inl rfl⟩
end Rd
end Go.Proofs.YthpjbffhdaaibaaGreat

set_option linter.unusedVariables false
namespace Go.Proofs.YthpjbffhdaaibaaGreat.Uv

/-- The encoding with fuel. -/
def putF : Nat → Nat → List UInt8
  | 0, x => [UInt8.ofNat x]
  | f + 1, x => if 128 ≤ x then UInt8.ofNat (x % 128 + 128) :: putF f (x / 128) else [UInt8.ofNat x]
/-- The encoding of a number below 2^64. -/
def put (x : Nat) : List UInt8 := putF 10 x

/-- The reader: i bytes are read, x is gathered. -/
def rd (i x : Nat) : List UInt8 → Option (Nat × Nat)
  | [] => none
  | b :: t => if 10 ≤ i then none else if i = 9 ∧ 1 < b.toNat then none
    else if 128 ≤ b.toNat then rd (i + 1) (x + (b.toNat - 128) * 128 ^ i) t
    else if b.toNat = 0 ∧ 0 < i then none else some (x + b.toNat * 128 ^ i, i + 1)

theorem putF_len : ∀ f x, (putF f x).length ≤ f + 1
  | 0, x => by simp [putF]
  | f + 1, x => by
    unfold putF; split
    · simp; exact putF_len f _
    · simp
theorem putF_len_bits : ∀ f k x, x < 128 ^ k → 1 ≤ k → k ≤ f + 1 → (putF f x).length ≤ k
  | 0, k, x, h, h1, _ => by simp [putF]; omega
  | f + 1, k, x, h, h1, h2 => by
    unfold putF; split
    · rename_i hx
      match k, h1 with
      | 1, _ => simp at h; omega
      | k + 2, _ =>
        simp only [List.length_cons]
        have := putF_len_bits f (k + 1) (x / 128) (by rw [Nat.pow_succ] at h; exact Nat.div_lt_of_lt_mul (by rw [Nat.mul_comm]; exact h)) (by omega) (by omega)
        omega
    · simp; omega
theorem pow10 : (128 : Nat) ^ 10 = 1180591620717411303424 := by decide
theorem put_len (x : Nat) (h : x < 18446744073709551616) : (put x).length ≤ 10 :=
  putF_len_bits 10 10 x (by rw [pow10]; omega) (by omega) (by omega)
theorem putF_pos : ∀ f x, 1 ≤ (putF f x).length
  | 0, x => by simp [putF]
  | f + 1, x => by unfold putF; split <;> simp
theorem put_pos (x : Nat) : 1 ≤ (put x).length := putF_pos _ _

theorem ofNat_toNat {n : Nat} (h : n < 256) : (UInt8.ofNat n).toNat = n := by
  simp [UInt8.toNat_ofNat']; omega

/-- Fuel beyond need changes nothing. -/
theorem putF_fuel : ∀ f g k x, x < 128 ^ k → 1 ≤ k → k ≤ f + 1 → k ≤ g + 1 → putF f x = putF g x
  | 0, 0, _, _, _, _, _, _ => rfl
  | 0, g + 1, k, x, h, h1, h2, _ => by
    obtain rfl : k = 1 := by omega
    simp at h
    simp [putF]; omega
  | f + 1, 0, k, x, h, h1, _, h2 => by
    obtain rfl : k = 1 := by omega
    simp at h
    simp [putF]; omega
  | f + 1, g + 1, k, x, h, h1, h2, h3 => by
    unfold putF
    split
    · rename_i hx
      match k, h1 with
      | 1, _ => simp at h; omega
      | k + 2, _ =>
        rw [putF_fuel f g (k + 1) (x / 128) (by rw [Nat.pow_succ] at h; exact Nat.div_lt_of_lt_mul (by rw [Nat.mul_comm]; exact h)) (by omega) (by omega) (by omega)]
    · rfl
/-- The step of the encoding. -/
theorem put_step (x : Nat) (h : x < 18446744073709551616) (hx : 128 ≤ x) : put x = UInt8.ofNat (x % 128 + 128) :: put (x / 128) := by
  have e : putF 9 (x / 128) = putF 10 (x / 128) := putF_fuel 9 10 10 (x / 128) (by rw [pow10]; omega) (by omega) (by omega) (by omega)
  unfold put
  rw [← e]
  show putF (9 + 1) x = _
  rw [putF, if_pos hx]
theorem put_small (x : Nat) (hx : x < 128) : put x = [UInt8.ofNat x] := by
  unfold put; show putF (9 + 1) x = _; rw [putF, if_neg (by omega)]

theorem pow_split (i : Nat) (x : Nat) : x % 128 * 128 ^ i + x / 128 * 128 ^ (i + 1) = x * 128 ^ i := by
  rw [Nat.pow_succ, Nat.mul_comm (128 ^ i) 128, ← Nat.mul_assoc, ← Nat.add_mul]
  congr 1; omega

/-- What is written is read, whatever follows it. -/
theorem rd_putF : ∀ f i x a t, i + f = 9 → (x * 128 ^ i < 18446744073709551616) → (x = 0 → i = 0) → rd i a (putF f x ++ t) = some (a + x * 128 ^ i, i + (putF f x).length)
  | 0, i, x, a, t, hi, hx, h0 => by
    obtain rfl : i = 9 := by omega
    have h9 : (128 : Nat) ^ 9 = 9223372036854775808 := by decide
    rw [h9] at hx
    have hxs : x ≤ 1 := by omega
    simp only [putF, List.cons_append, List.nil_append, rd, List.length_cons, List.length_nil]
    rw [ofNat_toNat (by omega), if_neg (by omega), if_neg (by omega), if_neg (by omega), if_neg (by omega)]
  | f + 1, i, x, a, t, hi, hx, h0 => by
    unfold putF
    split
    · rename_i h128
      simp only [List.cons_append, rd, List.length_cons]
      rw [ofNat_toNat (by omega), if_neg (by omega), if_neg (by omega), if_pos (by omega)]
      rw [rd_putF f (i + 1) (x / 128) _ t (by omega) (by have := pow_split i x; omega) (by omega)]
      have e : x % 128 + 128 - 128 = x % 128 := by omega
      rw [e, Nat.add_assoc a, pow_split i x]
      exact congrArg some (Prod.ext rfl (by show i + 1 + (putF f (x / 128)).length = i + ((putF f (x / 128)).length + 1); omega))
    · simp only [List.cons_append, List.nil_append, rd, List.length_cons, List.length_nil]
      rw [ofNat_toNat (by omega), if_neg (by omega), if_neg (by omega), if_neg (by omega), if_neg (by omega)]

theorem putF_9_10 (x : Nat) (h : x < 18446744073709551616) : putF 9 x = put x :=
  putF_fuel 9 10 10 x (by rw [pow10]; omega) (by omega) (by omega) (by omega)
theorem rd_put (x : Nat) (h : x < 18446744073709551616) (t : List UInt8) : rd 0 0 (put x ++ t) = some (x, (put x).length) := by
  rw [← putF_9_10 x h, rd_putF 9 0 x 0 t (by omega) (by simpa using h) (by simp)]
  simp

/-- What is read is written. -/
theorem putF_rd : ∀ f i a (s : List UInt8) v n, i + f = 9 → rd i a s = some (v, n) →
    ∃ x, v = a + x * 128 ^ i ∧ x * 128 ^ i < 18446744073709551616 ∧ i < n ∧ n - i ≤ s.length ∧ putF f x = s.take (n - i) ∧ (x = 0 → i = 0)
  | f, i, a, [], v, n, hi, h => by simp [rd] at h
  | f, i, a, b :: t, v, n, hi, h => by
    have hb := b.toNat_lt
    simp only [rd] at h
    rw [if_neg (by omega)] at h
    split at h
    · simp at h
    · rename_i h9
      split at h
      · rename_i h128
        match f with
        | 0 => omega
        | f + 1 =>
          obtain ⟨x, hv, hlt, hin, hnl, hp, hz⟩ := putF_rd f (i + 1) _ t v n (by omega) h
          refine ⟨(b.toNat - 128) + x * 128, ?_, ?_, by omega, by simp; omega, ?_, by omega⟩
          · rw [hv, Nat.add_mul, Nat.add_assoc, Nat.pow_succ, Nat.mul_comm (128 ^ i) 128, Nat.mul_assoc]
          · have hp0 : 0 < 128 ^ i := Nat.pow_pos (by omega)
            have e : ((b.toNat - 128) + x * 128) * 128 ^ i = (b.toNat - 128) * 128 ^ i + x * 128 ^ (i + 1) := by
              rw [Nat.add_mul, Nat.pow_succ, Nat.mul_comm (128 ^ i) 128, Nat.mul_assoc]
            rw [e]
            have h1 : (b.toNat - 128) * 128 ^ i ≤ 127 * 128 ^ i := Nat.mul_le_mul_right _ (by omega)
            -- x * 128^(i+1) is a multiple of 128^(i+1), below 2^64 = 2 * 128^9
            have hi8 : i ≤ 8 := by omega
            obtain ⟨d, hd⟩ : ∃ d, 9 = (i + 1) + d := ⟨8 - i, by omega⟩
            have e9 : (18446744073709551616 : Nat) = (2 * 128 ^ d) * 128 ^ (i + 1) := by
              rw [Nat.mul_assoc, ← Nat.pow_add, Nat.add_comm d (i + 1), ← hd]
            rw [e9] at hlt ⊢
            have hx1 : x + 1 ≤ 2 * 128 ^ d := Nat.lt_of_mul_lt_mul_right hlt
            have h2 : (x + 1) * 128 ^ (i + 1) ≤ (2 * 128 ^ d) * 128 ^ (i + 1) := Nat.mul_le_mul_right _ hx1
            rw [Nat.add_mul, Nat.one_mul] at h2
            have h3 : 128 ^ (i + 1) = 128 * 128 ^ i := by rw [Nat.pow_succ, Nat.mul_comm]
            omega
          · have e : n - i = (n - (i + 1)) + 1 := by omega
            rw [e, List.take_succ_cons, ← hp]
            have hx0 : 1 ≤ x := by
              rcases Nat.eq_zero_or_pos x with h | h
              · exact absurd (hz h) (by omega)
              · exact h
            rw [putF, if_pos (by omega)]
            congr 1
            · apply UInt8.toNat_inj.1; rw [ofNat_toNat (by omega)]; omega
            · congr 1; omega
      · rename_i h128
        split at h
        · simp at h
        · rename_i h0
          simp only [Option.some.injEq, Prod.mk.injEq] at h
          obtain ⟨rfl, rfl⟩ := h
          refine ⟨b.toNat, rfl, ?_, by omega, by simp, ?_, by omega⟩
          · by_cases h9' : i = 9
            · subst h9'
              have : b.toNat ≤ 1 := by omega
              have h9 : (128 : Nat) ^ 9 = 9223372036854775808 := by decide
              rw [h9]; omega
            · obtain ⟨d, hd⟩ : ∃ d, 9 = (i + 1) + d := ⟨8 - i, by omega⟩
              have e9 : (18446744073709551616 : Nat) = (2 * 128 ^ d * 128) * 128 ^ i := by
                rw [Nat.mul_assoc, Nat.mul_assoc, Nat.mul_comm 128 (128 ^ i), ← Nat.pow_succ, ← Nat.pow_add, Nat.add_comm d, ← hd]
              rw [e9]
              have hd0 : 1 ≤ 128 ^ d := Nat.pow_pos (by omega)
              exact Nat.mul_lt_mul_of_pos_right (by omega) (Nat.pow_pos (by omega))
          · have e : i + 1 - i = 1 := by omega
            rw [e]
            simp only [List.take_succ_cons, List.take_zero]
            match f with
            | 0 => simp [putF]
            | f + 1 => rw [putF, if_neg (by omega)]; simp

theorem put_rd {s : List UInt8} {v n : Nat} (h : rd 0 0 s = some (v, n)) : v < 18446744073709551616 ∧ 1 ≤ n ∧ n ≤ s.length ∧ put v = s.take n := by
  obtain ⟨x, hv, hlt, hin, hnl, hp, _⟩ := putF_rd 9 0 0 s v n (by omega) h
  simp at hv hlt hnl hp
  subst hv
  exact ⟨hlt, by omega, hnl, by rw [← putF_9_10 v hlt, hp]⟩
/-- The three results of the reader. -/
def uvX (l : List UInt8) : Nat := match rd 0 0 l with | some (v, _) => v | none => 0
def uvN (l : List UInt8) : Nat := match rd 0 0 l with | some (_, n) => n | none => 0
def uvB (l : List UInt8) : Bool := match rd 0 0 l with | some _ => true | none => false
theorem uv_none {l : List UInt8} (h : rd 0 0 l = none) : uvX l = 0 ∧ uvN l = 0 ∧ uvB l = false := by simp [uvX, uvN, uvB, h]
theorem uv_some {l : List UInt8} {v n : Nat} (h : rd 0 0 l = some (v, n)) : uvX l = v ∧ uvN l = n ∧ uvB l = true := by simp [uvX, uvN, uvB, h]
theorem uvX_lt (l : List UInt8) : uvX l < 18446744073709551616 := by
  unfold uvX; split
  · rename_i v n h; exact (put_rd h).1
  · omega
theorem uvN_le (l : List UInt8) : uvN l ≤ l.length := by
  unfold uvN; split
  · rename_i v n h; exact (put_rd h).2.2.1
  · omega
theorem uvN_pos (l : List UInt8) (h : uvB l = true) : 1 ≤ uvN l := by
  unfold uvB at h; unfold uvN; split
  · rename_i v n h; exact (put_rd h).2.1
  · rename_i e; simp [e] at h
/-- The steps of the reader. -/
theorem rd_nil (i x : Nat) : rd i x [] = none := rfl
theorem rd_ten (x : Nat) (l : List UInt8) : rd 10 x l = none := by cases l <;> simp [rd]
theorem rd_nine {b : UInt8} (x : Nat) (t : List UInt8) (h : 1 < b.toNat) : rd 9 x (b :: t) = none := by simp [rd, h]
theorem rd_nine' {b : UInt8} {i : Nat} (x : Nat) (t : List UInt8) (hi : i = 9) (h : 1 < b.toNat) : rd i x (b :: t) = none := by subst hi; exact rd_nine x t h
theorem rd_more {b : UInt8} (i x : Nat) (t : List UInt8) (hi : i < 10) (h9 : ¬ (i = 9 ∧ 1 < b.toNat)) (h : 128 ≤ b.toNat) : rd i x (b :: t) = rd (i + 1) (x + b.toNat % 128 * 128 ^ i) t := by
  rw [rd, if_neg (by omega), if_neg h9, if_pos h, show b.toNat - 128 = b.toNat % 128 by have := b.toNat_lt; omega]
theorem rd_zero {b : UInt8} (i x : Nat) (t : List UInt8) (hi : i < 10) (h9 : ¬ (i = 9 ∧ 1 < b.toNat)) (h : b.toNat = 0) (h0 : 0 < i) : rd i x (b :: t) = none := by
  rw [rd, if_neg (by omega), if_neg h9, if_neg (by omega), if_pos ⟨h, h0⟩]
theorem rd_last {b : UInt8} (i x : Nat) (t : List UInt8) (hi : i < 10) (h9 : ¬ (i = 9 ∧ 1 < b.toNat)) (h : b.toNat < 128) (h0 : ¬ (b.toNat = 0 ∧ 0 < i)) : rd i x (b :: t) = some (x + b.toNat % 128 * 128 ^ i, i + 1) := by
  rw [rd, if_neg (by omega), if_neg h9, if_neg (by omega), if_neg h0, Nat.mod_eq_of_lt h]
/-- A group joined to what was read before. -/
theorem join_lt {x c i : Nat} (hx : x < 128 ^ i) (hc : c < 128) : x + c * 128 ^ i < 128 ^ (i + 1) := by
  rw [Nat.pow_succ, Nat.mul_comm (128 ^ i)]
  have : c * 128 ^ i ≤ 127 * 128 ^ i := Nat.mul_le_mul_right _ (by omega)
  omega
theorem p7 (i : Nat) : 2 ^ (7 * i) = 128 ^ i := by rw [Nat.pow_mul]
theorem small_group {c i : Nat} (hi : i < 10) (hc : c < 128) (h9 : i = 9 → c ≤ 1) : c * 128 ^ i < 18446744073709551616 := by
  by_cases h : i = 9
  · subst h
    have h9' : (128 : Nat) ^ 9 = 9223372036854775808 := by decide
    rw [h9']; have := h9 rfl; omega
  · have h1 : c * 128 ^ i ≤ 127 * 128 ^ 8 := Nat.mul_le_mul (by omega) (Nat.pow_le_pow_right (by omega) (by omega))
    have h8 : (128 : Nat) ^ 8 = 72057594037927936 := by decide
    rw [h8] at h1; omega
theorem acc_lt {x i : Nat} (hi : i ≤ 9) (hx : x < 128 ^ i) : x < 18446744073709551616 := by
  have h1 : 128 ^ i ≤ 128 ^ 9 := Nat.pow_le_pow_right (by omega) hi
  have h9' : (128 : Nat) ^ 9 = 9223372036854775808 := by decide
  rw [h9'] at h1; omega
/-- Or is plus. -/
theorem join {x c i : Nat} (hx : x < 128 ^ i) (hi : i < 10) (hc : c < 128) (h9 : i = 9 → c ≤ 1) : x ||| (c * 2 ^ (7 * i) % 18446744073709551616) = x + c * 128 ^ i := by
  rw [p7, Nat.mod_eq_of_lt (small_group hi hc h9), Nat.or_comm, ← p7]
  rw [nat_join (7 * i) _ _ (Nat.mul_mod_left _ _) (by rw [p7]; exact hx), Nat.add_comm]
end Go.Proofs.YthpjbffhdaaibaaGreat.Uv

set_option linter.unusedVariables false
namespace Go.Proofs.YthpjbffhdaaibaaGreat.Hs
/-- One byte. -/
def step (h : Nat) (c : UInt8) : Nat := (h ^^^ c.toNat) * 1099511628211 % 18446744073709551616
/-- A list of bytes. -/
def hash (h : Nat) (l : List UInt8) : Nat := l.foldl step h

theorem step_lt (h : Nat) (c : UInt8) : step h c < 18446744073709551616 := Nat.mod_lt _ (by omega)
theorem hash_lt (h : Nat) (l : List UInt8) (hh : h < 18446744073709551616) : hash h l < 18446744073709551616 := by
  unfold hash
  induction l generalizing h with
  | nil => exact hh
  | cons c l ih => exact ih _ (step_lt _ _)
theorem hash_append (h : Nat) (a b : List UInt8) : hash h (a ++ b) = hash (hash h a) b := List.foldl_append
theorem hash_cons (h : Nat) (c : UInt8) (b : List UInt8) : hash h (c :: b) = hash (step h c) b := rfl
theorem hash_nil (h : Nat) : hash h [] = h := rfl
theorem hash_snoc (h : Nat) (a : List UInt8) (c : UInt8) : hash h (a ++ [c]) = step (hash h a) c := by rw [hash_append, hash_cons, hash_nil]

theorem mul_inv_any {a p i k M : Nat} (hp : p * i = 1 + k * M) (ha : a < M) : a * p % M * i % M = a := by
  rw [Nat.mod_mul_mod, Nat.mul_assoc, hp, Nat.mul_add, Nat.mul_one, ← Nat.mul_assoc, Nat.add_mul_mod_self_right, Nat.mod_eq_of_lt ha]
theorem mul_inv {a : Nat} (ha : a < 18446744073709551616) : a * 1099511628211 % 18446744073709551616 * 14886173955864302971 % 18446744073709551616 = a :=
  mul_inv_any (k := 887285111055) (Nat.eq_of_beq_eq_true rfl) ha
theorem xor_lt {h : Nat} (hh : h < 18446744073709551616) (c : UInt8) : h ^^^ c.toNat < 18446744073709551616 :=
  Nat.xor_lt_two_pow (n := 64) hh (by have := c.toNat_lt; omega)
theorem step_inj {h h' : Nat} {c c' : UInt8} (hh : h < 18446744073709551616) (hh' : h' < 18446744073709551616) (e : step h c = step h' c') : h ^^^ c.toNat = h' ^^^ c'.toNat := by
  have := congrArg (fun x => x * 14886173955864302971 % 18446744073709551616) e
  simp only [step] at this
  rwa [mul_inv (xor_lt hh c), mul_inv (xor_lt hh' c')] at this
theorem xor_cancel_right {a b c : Nat} (h : a ^^^ c = b ^^^ c) : a = b := by
  have := congrArg (· ^^^ c) h
  simpa [Nat.xor_assoc] using this
theorem xor_cancel_left {a b c : Nat} (h : c ^^^ a = c ^^^ b) : a = b := by
  rw [Nat.xor_comm c a, Nat.xor_comm c b] at h; exact xor_cancel_right h
/-- Different hashes stay different behind the same bytes. -/
theorem hash_inj {h h' : Nat} (l : List UInt8) (hh : h < 18446744073709551616) (hh' : h' < 18446744073709551616) (e : hash h l = hash h' l) : h = h' := by
  unfold hash at e
  induction l generalizing h h' with
  | nil => exact e
  | cons c l ih => exact xor_cancel_right (step_inj hh hh' (ih (step_lt _ _) (step_lt _ _) e))
/-- Two strings that differ in one byte have different hashes. -/
theorem hash_differs {h : Nat} (a b : List UInt8) {c c' : UInt8} (hh : h < 18446744073709551616) (hc : c ≠ c') : hash h (a ++ c :: b) ≠ hash h (a ++ c' :: b) := by
  intro e
  rw [hash_append, hash_append] at e
  have e2 : step (hash h a) c = step (hash h a) c' := hash_inj b (step_lt _ _) (step_lt _ _) e
  have := xor_cancel_left (step_inj (hash_lt _ _ hh) (hash_lt _ _ hh) e2)
  exact hc (UInt8.toNat_inj.1 this)
/-- The same of a list and the list with one byte set. -/
theorem hash_set {h : Nat} (l : List UInt8) (k : Nat) (hk : k < l.length) (c : UInt8) (hh : h < 18446744073709551616) (hc : l[k] ≠ c) : hash h l ≠ hash h (l.set k c) := by
  have e1 : l = l.take k ++ l[k] :: l.drop (k + 1) := by simp
  have e2 : l.set k c = l.take k ++ c :: l.drop (k + 1) := by rw [List.set_eq_take_append_cons_drop, if_pos hk]
  rw [e2]
  intro e
  exact hash_differs (l.take k) (l.drop (k + 1)) hh hc (by rw [← e1]; exact e)
end Go.Proofs.YthpjbffhdaaibaaGreat.Hs

set_option linter.unusedVariables false
set_option maxRecDepth 100000
namespace Go.Proofs.YthpjbffhdaaibaaGreat
open Go.RowKit
namespace Strs
theorem ret_u64 {a b : Int} (h : a = b) : Ending.returned (.int .u64 a) = .returned (.int .u64 b) := by rw [h]
theorem int_u64 {a b : Int} (h : a = b) : Value.int .u64 a = .int .u64 b := by rw [h]
theorem take_snoc (s : ByteArray) (k : Nat) (h : k < s.size) : s.data.toList.take (k + 1) = s.data.toList.take k ++ [s[k]] := by
  rw [List.take_succ_eq_append_getElem (by simpa using h)]; rfl
theorem take_all (s : ByteArray) : s.data.toList.take s.size = s.data.toList := List.take_of_length_le (by simp)
theorem step_eq (h : Nat) (c : UInt8) (hh : h < 18446744073709551616) : IntKind.u64.wrap (bits .xor .u64 (h : Int) (c.toNat : Int) * 1099511628211) = (Hs.step h c : Int) := by
  rw [u64_xor_nat h _ hh (by have := c.toNat_lt; omega), IntKind.wrap_u64]
  unfold Hs.step; simp
theorem hash_any (h : Nat) (s : ByteArray) (hh : (h : Int) ≤ 18446744073709551615) (hs : s.size ≤ 9223372036854775807) (w : World) :
    Calls Tryz.prog 108 #[.int .u64 h, .string s] w fun e w' => e = .returned (.int .u64 (Hs.hash h s.data.toList)) ∧ w = w' := by
  have TA := Lib.hid (take_all s)
  go_enter Tryz.func108, Tryz.ntmps108
  go_wp2
  go_loop [0, 8] (fun x i => ∃ k : Nat, k ≤ s.size ∧ i = .int .i64 k ∧ x = .int .u64 (Hs.hash h (s.data.toList.take k))) (fun _ i => s.size - (intOf i).toNat)
  case atStart => exact ⟨0, Nat.zero_le _, rfl, rfl⟩
  case round =>
    obtain ⟨k, hk, rfl, rfl⟩ := hrel
    have hl := Hs.hash_lt h (s.data.toList.take k) (by omega)
    by_cases hlt : k < s.size
    · have hb : (s[k].toNat : Int) ≤ 255 := by have := s[k].toNat_lt; omega
      have HS := Lib.hid (Hs.hash_snoc h (s.data.toList.take k) s[k])
      have HT := Lib.hid (take_snoc s k hlt)
      have HE := Lib.hid (step_eq _ s[k] hl)
      clear hl
      go_wp2
      go_round
      case rel => exact ⟨k + 1, by omega, by go_num, int_u64 (by rw [HT.out, HS.out, ← HE.out])⟩
      case measure => simp [intOf]; omega
    · obtain rfl : k = s.size := by omega
      go_wp2
      go_ret
      exact ⟨ret_u64 (by rw [TA.out]), rfl⟩
theorem hash_ref_any (h : Nat) (s : ByteArray) (hh : (h : Int) ≤ 18446744073709551615) (hs : s.size ≤ 9223372036854775807) (w : World) :
    Calls Tryz.prog 84 #[.int .u64 h, .string s] w fun e w' => e = .returned (.int .u64 (Hs.hash h s.data.toList)) ∧ w = w' := by
  have TA := Lib.hid (take_all s)
  go_enter Tryz.func84, Tryz.ntmps84
  go_wp2
  go_loop [0, 5] (fun x i => ∃ k : Nat, k ≤ s.size ∧ i = .int .i64 k ∧ x = .int .u64 (Hs.hash h (s.data.toList.take k))) (fun _ i => s.size - (intOf i).toNat)
  case atStart => exact ⟨0, Nat.zero_le _, rfl, rfl⟩
  case round =>
    obtain ⟨k, hk, rfl, rfl⟩ := hrel
    have hl := Hs.hash_lt h (s.data.toList.take k) (by omega)
    by_cases hlt : k < s.size
    · have hb : (s[k].toNat : Int) ≤ 255 := by have := s[k].toNat_lt; omega
      have HS := Lib.hid (Hs.hash_snoc h (s.data.toList.take k) s[k])
      have HT := Lib.hid (take_snoc s k hlt)
      have HE := Lib.hid (step_eq _ s[k] hl)
      clear hl
      go_wp2
      go_round
      case rel => exact ⟨k + 1, by omega, by go_num, int_u64 (by rw [HT.out, HS.out, ← HE.out])⟩
      case measure => simp [intOf]; omega
    · obtain rfl : k = s.size := by omega
      go_wp2
      go_ret
      exact ⟨ret_u64 (by rw [TA.out]), rfl⟩

/-- The bytes of the encoding that lie before x when the loop has come so far. -/
theorem str_eq {a b : List UInt8} (h : a = b) : Ending.returned (.string ⟨a.toArray⟩) = .returned (.string ⟨b.toArray⟩) := by rw [h]
theorem Tryzinfo_u8 : (Tryz.prog.info? 5).map (fun i => (i.zero, i.size, i.bytes)) = some (some (.int .u8 0), 1, 1) := by kernel_rfl
/-- Bytes as the cells of a slice. -/
def by8 (l : List UInt8) : List Value := l.map fun c => Value.int .u8 c.toNat
theorem by8_append (a b : List UInt8) : by8 (a ++ b) = by8 a ++ by8 b := List.map_append
theorem by8_one (l : List UInt8) : ∀ u ∈ by8 l, u.oneCell' = true := by
  intro u hu; obtain ⟨c, _, rfl⟩ := List.mem_map.1 hu; rfl
theorem by8_at {l : List UInt8} {j : Nat} {u : Value} (h : (by8 l)[j]? = some u) : ∃ h : j < l.length, u = .int .u8 l[j].toNat := by
  unfold by8 at h
  rw [List.getElem?_map] at h
  cases e : l[j]? with
  | none => simp [e] at h
  | some c =>
    obtain ⟨hj, rfl⟩ := List.getElem?_eq_some_iff.1 e
    simp [e] at h
    exact ⟨hj, h.symm⟩
/-- Append to bytes that the call itself made. -/
theorem app_u8 (w : World) {ops : Array Oper} {rest : List Oper} {o : Oper} {a : Act} {Q : Exit → Act → World → Prop} (hgd : o.guard = none) (s x : Operand)
    (ho : o.op = .call { callee := .builtin .append, args := #[s, x], argTypes := #[63, 63] }) (base : Nat) (v : Value) (l news : List UInt8) (ad : Addr) (m c : Nat)
    (hs : a.eval s = v) (hown : w.ownsRow base 5 1 v l.length (by8 l)) (hx : a.eval x = .slice (some ad) m c) (hm : news.length = m)
    (hnews : ∀ j (h : j < news.length), w.cell? (ad.add j) = some (.int .u8 news[j].toNat)) (hb : l.length + m ≤ 140737488355328) (hbase : base ≤ w.heap.size)
    (h : ∀ v' w', w'.ownsRow base 5 1 v' (l ++ news).length (by8 (l ++ news)) → w.grownBy w' v.ownBlock → (v' = .slice none 0 0 ↔ v = .slice none 0 0 ∧ m = 0) → wpList Tryz.prog ops Q rest (a.put o.dst v') w') :
    wpList Tryz.prog ops Q (o :: rest) a w := by
  obtain ⟨i0, hi, hz0, hz1, hz2⟩ := info_parts Tryzinfo_u8
  refine wpList_append_own w hgd s x 63 ho base 5 i0 (.int .u8 0) 1 1 Tryz.underlying63 hi hz0 hz1 hz2 rfl (by decide) v l.length (by8 l) hs hown ad m c (by8 news) hx (by simp [by8, hm]) ?_ (by8_one news) (by unfold maxLen; omega) (by omega) hbase ?_
  · intro j u hj
    obtain ⟨hk, rfl⟩ := by8_at hj
    exact hnews j hk
  · intro v' w' h1 h2 h3
    refine h v' w' ?_ h2 h3
    rw [by8_append, List.length_append, hm]; exact h1
/-- A row of one byte that was just made. -/
theorem one_cell (w : World) (n : Int) (c : UInt8) (h : n = (c.toNat : Int)) (t : TypeId) : ∀ j (h : j < [c].length), (w.alloc (.cells #[.int .u8 n] t)).cell? ((⟨w.heap.size, 0, none⟩ : Addr).add j) = some (.int .u8 [c][j].toNat) := by
  intro j hj
  simp at hj
  subst hj h
  simp [Addr.add]

theorem by8_get (l : List UInt8) (j : Nat) (hj : j < l.length) : (by8 l)[j]? = some (.int .u8 l[j].toNat) := by
  unfold by8; rw [List.getElem?_map, List.getElem?_eq_getElem hj]; rfl
theorem addr_add (g j : Nat) : (⟨g, 0, none⟩ : Addr).add j = ⟨g, j, none⟩ := by
  unfold Addr.add; split
  · rename_i h; subst h; rfl
  · simp
/-- Bytes that the call owns, as a string. -/
theorem conv_own {w : World} {base : Nat} {v : Value} {l : List UInt8} (h : w.ownsRow base 5 1 v l.length (by8 l)) :
    (convert 63 9 v).run Tryz.prog w = .ok (.string ⟨l.toArray⟩) w := by
  have h' := h
  obtain ⟨_, h⟩ := h
  rcases h with ⟨rfl, h0⟩ | ⟨g, cap, cur, rfl, _⟩
  · have hl : l = [] := List.eq_nil_of_length_eq_zero h0
    subst hl
    have := run_convert_bytes_back (P := Tryz.prog) w 63 9 5 default 0 [] Tryz.underlying63 Tryz.underlying5 Tryz.underlying9 (fun j hj => absurd hj (by simp))
    rw [run_convert_bytes_string w _ _ _ none 0 0 Tryz.underlying63 Tryz.underlying5 Tryz.underlying9]
    rfl
  · exact run_convert_bytes_back (P := Tryz.prog) w 63 9 5 _ cap l Tryz.underlying63 Tryz.underlying5 Tryz.underlying9 (fun j hj => by
      have := h'.cellAt j (by omega)
      rw [by8_get l j hj] at this
      rw [addr_add]; exact this)
theorem or128 : ∀ c : Nat, c < 256 → c ||| 128 = c % 128 + 128 := by decide +kernel
theorem put_byte (z : Nat) : bits .or .u8 ((z : Int) % 256) 128 = ((UInt8.ofNat (z % 128 + 128)).toNat : Int) := by
  rw [show ((z : Int) % 256) = ((z % 256 : Nat) : Int) by simp, show (128 : Int) = ((128 : Nat) : Int) from rfl, u8_or_nat _ _ (Nat.mod_lt _ (by omega)) (by omega), or128 _ (Nat.mod_lt _ (by omega)), Uv.ofNat_toNat (by omega)]
  congr 1; omega
theorem last_byte (z : Nat) (h : z < 128) : (z : Int) = ((UInt8.ofNat z).toNat : Int) := by rw [Uv.ofNat_toNat (by omega)]
theorem below_app {W w w1 : World} {b : Nat} {v : Value} {e : TypeId} {size n : Nat} {xs : List Value} {o : Obj} (hb : Below b W w) (hbs : b ≤ w.heap.size) (hown : w.ownsRow b e size v n xs) (hg : (w.alloc o).grownBy w1 v.ownBlock) : Below b W w1 := by
  refine (hb.alloc hbs o).grown hg (by simp; omega) ?_
  intro k hk
  obtain ⟨_, h⟩ := hown
  rcases h with ⟨rfl, _⟩ | ⟨g, cap, cur, rfl, hg', _⟩
  · simp [Value.ownBlock] at hk
  · simp [Value.ownBlock] at hk; omega

theorem put_any (x : Nat) (hx : (x : Int) ≤ 18446744073709551615) (w : World) :
    Calls Tryz.prog 37 #[.int .u64 x] w fun e w' => e = .returned (.string ⟨(Uv.put x).toArray⟩) ∧ Below w.heap.size w w' := by
  go_enter Tryz.func37, Tryz.ntmps37
  go_wp2
  go_loopw [0, 3] (fun y v wr => ∃ (z : Nat) (l : List UInt8), y = .int .u64 z ∧ (z : Int) ≤ 18446744073709551615 ∧ l ++ Uv.put z = Uv.put x ∧ wr.ownsRow w.heap.size 5 1 v l.length (by8 l) ∧ Below w.heap.size w wr)
    (fun y _ _ => (intOf y).toNat)
  case atStart => exact ⟨x, [], rfl, by omega, rfl, World.ownsRow_nil _ _ _ _, Below.refl _ _⟩
  case round =>
    obtain ⟨z, l, rfl, hz, hl, hown, hbel⟩ := hrel
    have hsz := hbel.size
    have hll : l.length ≤ 10 := by
      have h1 := congrArg List.length hl
      have h2 := Uv.put_len x (by omega)
      simp at h1; omega
    have HL := Lib.hid hl
    have HB := Lib.hid hbel
    have HO := Lib.hid hown
    clear hl hbel
    by_cases hlt : (128 : Int) ≤ z
    · go_wp2_with (at_builtin; refine app_u8 _ rfl _ _ rfl w.heap.size _ l [UInt8.ofNat (z % 128 + 128)] ⟨wr.heap.size, 0, none⟩ 1 1 rfl (hown.alloc _) rfl rfl (one_cell _ _ _ (put_byte z) _) (by omega) (by simp; omega) ?_; intro v' w1 hown1 hg1 _)
      go_roundw
      case rel =>
        refine ⟨z / 128, l ++ [UInt8.ofNat (z % 128 + 128)], by simp, by omega, ?_, hown1, below_app HB.out hsz HO.out hg1⟩
        rw [← HL.out, List.append_assoc, Uv.put_step z (by omega) (by omega)]; rfl
      case measure => simp [intOf]; omega
    · have hfin : Hid (l ++ [UInt8.ofNat z] = Uv.put x) := show _ = _ by rw [← HL.out, Uv.put_small z (by omega)]
      go_wp2_with (at_builtin; refine app_u8 _ rfl _ _ rfl w.heap.size _ l [UInt8.ofNat z] ⟨wr.heap.size, 0, none⟩ 1 1 rfl (hown.alloc _) rfl rfl (one_cell _ _ _ (last_byte z (by omega)) _) (by omega) (by simp; omega) ?_; intro v' w1 hown1 hg1 _; have hcv := conv_own hown1)
      go_ret
      exact ⟨by rw [← hfin.out]; rfl, below_app HB.out hsz HO.out hg1⟩

theorem put_byte' (z : Nat) (h : z < 18446744073709551616) : bits .or .u8 (bits .and .u64 (z : Int) 127 % 256) 128 = ((UInt8.ofNat (z % 128 + 128)).toNat : Int) := by
  rw [show (127 : Int) = ((127 : Nat) : Int) from rfl, u64_and_nat z 127 h (by omega), nat_mask7, show ((z % 128 : Nat) : Int) % 256 = ((z % 128 : Nat) : Int) by omega,
    show (128 : Int) = ((128 : Nat) : Int) from rfl, u8_or_nat _ _ (by omega) (by omega), or128 _ (by omega), Uv.ofNat_toNat (by omega)]
  congr 1; omega
theorem put_ref_any (x : Nat) (hx : (x : Int) ≤ 18446744073709551615) (w : World) :
    Calls Tryz.prog 40 #[.int .u64 x] w fun e w' => e = .returned (.string ⟨(Uv.put x).toArray⟩) ∧ Below w.heap.size w w' := by
  go_enter Tryz.func40, Tryz.ntmps40
  go_wp2
  go_loopw [0, 3] (fun y v wr => ∃ (z : Nat) (l : List UInt8), y = .int .u64 z ∧ (z : Int) ≤ 18446744073709551615 ∧ l ++ Uv.put z = Uv.put x ∧ wr.ownsRow w.heap.size 5 1 v l.length (by8 l) ∧ Below w.heap.size w wr)
    (fun y _ _ => (intOf y).toNat)
  case atStart => exact ⟨x, [], rfl, by omega, rfl, World.ownsRow_nil _ _ _ _, Below.refl _ _⟩
  case round =>
    obtain ⟨z, l, rfl, hz, hl, hown, hbel⟩ := hrel
    have hsz := hbel.size
    have hll : l.length ≤ 10 := by
      have h1 := congrArg List.length hl
      have h2 := Uv.put_len x (by omega)
      simp at h1; omega
    have HL := Lib.hid hl
    have HB := Lib.hid hbel
    have HO := Lib.hid hown
    clear hl hbel
    by_cases hlt : (128 : Int) ≤ z
    · go_wp2_with (at_builtin; refine app_u8 _ rfl _ _ rfl w.heap.size _ l [UInt8.ofNat (z % 128 + 128)] ⟨wr.heap.size, 0, none⟩ 1 1 rfl (hown.alloc _) rfl rfl (one_cell _ _ _ (put_byte' z (by omega)) _) (by omega) (by simp; omega) ?_; intro v' w1 hown1 hg1 _)
      go_roundw
      case rel =>
        refine ⟨z / 128, l ++ [UInt8.ofNat (z % 128 + 128)], by simp, by omega, ?_, hown1, below_app HB.out hsz HO.out hg1⟩
        rw [← HL.out, List.append_assoc, Uv.put_step z (by omega) (by omega)]; rfl
      case measure => simp [intOf]; omega
    · have hfin : Hid (l ++ [UInt8.ofNat z] = Uv.put x) := show _ = _ by rw [← HL.out, Uv.put_small z (by omega)]
      go_wp2_with (at_builtin; refine app_u8 _ rfl _ _ rfl w.heap.size _ l [UInt8.ofNat z] ⟨wr.heap.size, 0, none⟩ 1 1 rfl (hown.alloc _) rfl rfl (one_cell _ _ _ (last_byte z (by omega)) _) (by omega) (by simp; omega) ?_; intro v' w1 hown1 hg1 _; have hcv := conv_own hown1)
      go_ret
      exact ⟨by rw [← hfin.out]; rfl, below_app HB.out hsz HO.out hg1⟩

theorem drop_at (s : ByteArray) (k : Nat) (h : k < s.size) : s.data.toList.drop k = s[k] :: s.data.toList.drop (k + 1) := by
  rw [List.drop_eq_getElem_cons (by simpa using h)]; rfl
theorem acc_eq {a k n : Nat} (hb : n < 256) (ha : a < 128 ^ k) (hk : k < 10) (h9 : k = 9 → n % 128 ≤ 1) :
    bits .or .u64 (a : Int) (IntKind.u64.wrap (IntKind.u64.wrap (bits .and .u8 (n : Int) 127) * 2 ^ (7 * k))) = ((a + n % 128 * 128 ^ k : Nat) : Int) := by
  rw [show (127 : Int) = ((127 : Nat) : Int) from rfl, u8_and_nat _ _ (by omega) (by omega), nat_mask7, IntWalk.u64_in ((n % 128 : Nat) : Int) (by omega), IntKind.wrap_u64]
  rw [show ((n % 128 : Nat) : Int) * 2 ^ (7 * k) % 18446744073709551616 = ((n % 128 * 2 ^ (7 * k) % 18446744073709551616 : Nat) : Int) by simp]
  rw [u64_or_nat _ _ (Uv.acc_lt (by omega) ha) (Nat.mod_lt _ (by omega)), Uv.join ha hk (by omega) h9]
theorem acc_eq9 {a : Nat} (ha : a < 128 ^ 9) : bits .or .u64 (a : Int) (IntKind.u64.wrap (IntKind.u64.wrap (bits .and .u8 1 127) * 9223372036854775808)) = ((a + 1 % 128 * 128 ^ 9 : Nat) : Int) := by
  have := acc_eq (k := 9) (n := 1) (by omega) ha (by omega) (by omega)
  rw [show ((2 : Int) ^ (7 * 9)) = 9223372036854775808 by decide] at this
  exact this
theorem ret_uv {a b c d : Int} {t : Bool} (h : a = b) (h' : c = d) : Ending.returned (.tuple #[.int .u64 a, .int .i64 c, .bool t]) = .returned (.tuple #[.int .u64 b, .int .i64 d, .bool t]) := by rw [h, h']
set_option maxHeartbeats 600000 in
theorem uv_any (s : ByteArray) (hs : s.size ≤ 9223372036854775807) (w : World) :
    Calls Tryz.prog 42 #[.string s] w fun e w' => e = .returned (.tuple #[.int .u64 (Uv.uvX s.data.toList), .int .i64 (Uv.uvN s.data.toList), .bool (Uv.uvB s.data.toList)]) ∧ w = w' := by
  go_enter Tryz.func42, Tryz.ntmps42
  go_wp2
  all_goals
    go_loop [5, 11] (fun x i => ∃ k a : Nat, k ≤ s.size ∧ k ≤ 10 ∧ i = .int .i64 k ∧ x = .int .u64 a ∧ a < 128 ^ k ∧ Uv.rd k a (s.data.toList.drop k) = Uv.rd 0 0 s.data.toList) (fun _ i => 10 - (intOf i).toNat)
    case atStart => exact ⟨0, 0, Nat.zero_le _, by omega, rfl, rfl, by simp, rfl⟩
    case round =>
      obtain ⟨k, a, hk, hk10, rfl, rfl, ha, hr⟩ := hrel
      have HA := Lib.hid ha
      have HR := Lib.hid hr
      clear ha hr
      by_cases hlt : k < s.size ∧ k < 10
      · obtain ⟨h1, h2⟩ := hlt
        have hb0 := s[k].toNat_lt
        obtain ⟨n, hn⟩ : ∃ n, s[k].toNat = n := ⟨_, rfl⟩
        have hb : (n : Int) ≤ 255 := by omega
        clear hb0
        have ha64 : (a : Int) ≤ 18446744073709551615 := by have := Uv.acc_lt (by omega) HA.out; omega
        have H1 := Lib.hid h1
        have HD : Hid (∃ c : UInt8, c.toNat = n ∧ s.data.toList.drop k = c :: s.data.toList.drop (k + 1)) := ⟨s[k], hn, drop_at s k h1⟩
        by_cases h9 : k = 9
        · subst h9
          by_cases g1 : (1 : Int) < n
          · have hd : Uv.rd 0 0 s.data.toList = none := by
              obtain ⟨c, hc, hcd⟩ := HD.out
              rw [← HR.out, hcd]; exact Uv.rd_nine _ _ (by omega)
            have HN := Lib.hid hd
            clear hd
            go_wp2
            go_ret3
            refine ⟨?_, rfl⟩
            rw [(Uv.uv_none HN.out).1, (Uv.uv_none HN.out).2.1, (Uv.uv_none HN.out).2.2]; rfl
          · by_cases h0 : n = 0
            · have hd : Uv.rd 0 0 s.data.toList = none := by
                obtain ⟨c, hc, hcd⟩ := HD.out
                rw [← HR.out, hcd]; exact Uv.rd_zero 9 a _ h2 (by omega) (by omega) (by omega)
              have HN := Lib.hid hd
              clear hd
              subst h0
              go_wp2
              go_ret3
              refine ⟨?_, rfl⟩
              rw [(Uv.uv_none HN.out).1, (Uv.uv_none HN.out).2.1, (Uv.uv_none HN.out).2.2]; rfl
            · obtain rfl : n = 1 := by omega
              have hd : Uv.rd 0 0 s.data.toList = some (a + 1 % 128 * 128 ^ 9, 9 + 1) := by
                obtain ⟨c, hc, hcd⟩ := HD.out
                have h := Uv.rd_last (b := c) 9 a (s.data.toList.drop (9 + 1)) h2 (by omega) (by omega) (by omega)
                rw [hc] at h
                rw [← HR.out, hcd]; exact h
              have HN := Lib.hid hd
              clear hd
              go_wp2
              go_ret3
              refine ⟨?_, rfl⟩
              rw [(Uv.uv_some HN.out).1, (Uv.uv_some HN.out).2.1, (Uv.uv_some HN.out).2.2]
              exact ret_uv (acc_eq9 HA.out) rfl
        · by_cases h128 : (128 : Int) ≤ n
          · go_wp2
            go_round
            case rel =>
              refine ⟨k + 1, a + n % 128 * 128 ^ k, by have := H1.out; omega, by omega, by go_num, int_u64 (acc_eq (by omega) HA.out h2 (by omega)), Uv.join_lt HA.out (Nat.mod_lt _ (by omega)), ?_⟩
              obtain ⟨c, hc, hcd⟩ := HD.out
              rw [← HR.out, hcd, Uv.rd_more k a _ h2 (by omega) (by omega), hc]
            case measure => simp [intOf]; omega
          · by_cases h0 : n = 0 ∧ 0 < k
            · have hd : Uv.rd 0 0 s.data.toList = none := by
                obtain ⟨c, hc, hcd⟩ := HD.out
                rw [← HR.out, hcd]; exact Uv.rd_zero k a _ h2 (by omega) (by omega) (by omega)
              have HN := Lib.hid hd
              clear hd
              go_wp2
              all_goals
                go_ret3
                refine ⟨?_, rfl⟩
                rw [(Uv.uv_none HN.out).1, (Uv.uv_none HN.out).2.1, (Uv.uv_none HN.out).2.2]; rfl
            · have hd : Uv.rd 0 0 s.data.toList = some (a + n % 128 * 128 ^ k, k + 1) := by
                obtain ⟨c, hc, hcd⟩ := HD.out
                rw [← HR.out, hcd, ← hc]; exact Uv.rd_last k a _ h2 (by omega) (by omega) (by omega)
              have HN := Lib.hid hd
              clear hd
              by_cases h00 : n = 0
              · subst h00
                go_wp2
                go_ret3
                refine ⟨?_, rfl⟩
                rw [(Uv.uv_some HN.out).1, (Uv.uv_some HN.out).2.1, (Uv.uv_some HN.out).2.2]
                exact ret_uv (acc_eq (n := 0) (by omega) HA.out h2 (by omega)) (by omega)
              · clear h0
                go_wp2
                go_ret3
                refine ⟨?_, rfl⟩
                rw [(Uv.uv_some HN.out).1, (Uv.uv_some HN.out).2.1, (Uv.uv_some HN.out).2.2]
                exact ret_uv (acc_eq (by omega) HA.out h2 (by omega)) (by omega)
      · have hd : Uv.rd 0 0 s.data.toList = none := by
          rw [← HR.out]
          by_cases hk : k = 10
          · rw [hk]; exact Uv.rd_ten _ _
          · rw [List.drop_of_length_le (by simp; omega)]; rfl
        have HN := Lib.hid hd
        clear hd
        go_wp2
        go_ret3
        refine ⟨?_, rfl⟩
        rw [(Uv.uv_none HN.out).1, (Uv.uv_none HN.out).2.1, (Uv.uv_none HN.out).2.2]; rfl
theorem acc_ref {a k n : Nat} (hb : n < 256) (ha : a < 128 ^ k) (hk : k < 10) (h9 : k = 9 → n % 128 ≤ 1) :
    bits .or .u64 (a : Int) (IntKind.u64.wrap (bits .and .u64 (n : Int) 127 * 2 ^ (7 * k))) = ((a + n % 128 * 128 ^ k : Nat) : Int) := by
  rw [show (127 : Int) = ((127 : Nat) : Int) from rfl, u64_and_nat _ _ (by omega) (by omega), nat_mask7, IntKind.wrap_u64]
  rw [show ((n % 128 : Nat) : Int) * 2 ^ (7 * k) % 18446744073709551616 = ((n % 128 * 2 ^ (7 * k) % 18446744073709551616 : Nat) : Int) by simp]
  rw [u64_or_nat _ _ (Uv.acc_lt (by omega) ha) (Nat.mod_lt _ (by omega)), Uv.join ha hk (by omega) h9]
theorem acc_ref9 {a : Nat} (ha : a < 128 ^ 9) : bits .or .u64 (a : Int) (IntKind.u64.wrap (bits .and .u64 1 127 * 9223372036854775808)) = ((a + 1 % 128 * 128 ^ 9 : Nat) : Int) := by
  have := acc_ref (k := 9) (n := 1) (by omega) ha (by omega) (by omega)
  rw [show ((2 : Int) ^ (7 * 9)) = 9223372036854775808 by decide] at this
  exact this
set_option maxHeartbeats 600000 in
theorem uv_ref_any (s : ByteArray) (hs : s.size ≤ 9223372036854775807) (w : World) :
    Calls Tryz.prog 46 #[.string s] w fun e w' => e = .returned (.tuple #[.int .u64 (Uv.uvX s.data.toList), .int .i64 (Uv.uvN s.data.toList), .bool (Uv.uvB s.data.toList)]) ∧ w = w' := by
  go_enter Tryz.func46, Tryz.ntmps46
  go_wp2
  all_goals
    go_loop [5, 6] (fun x i => ∃ k a : Nat, k ≤ s.size ∧ k ≤ 10 ∧ i = .int .i64 k ∧ x = .int .u64 a ∧ a < 128 ^ k ∧ Uv.rd k a (s.data.toList.drop k) = Uv.rd 0 0 s.data.toList) (fun _ i => 10 - (intOf i).toNat)
    case atStart => exact ⟨0, 0, Nat.zero_le _, by omega, rfl, rfl, by simp, rfl⟩
    case round =>
      obtain ⟨k, a, hk, hk10, rfl, rfl, ha, hr⟩ := hrel
      have HA := Lib.hid ha
      have HR := Lib.hid hr
      clear ha hr
      by_cases hlt : k < s.size ∧ k < 10
      · obtain ⟨h1, h2⟩ := hlt
        have hb0 := s[k].toNat_lt
        obtain ⟨n, hn⟩ : ∃ n, s[k].toNat = n := ⟨_, rfl⟩
        have hb : (n : Int) ≤ 255 := by omega
        clear hb0
        have ha64 : (a : Int) ≤ 18446744073709551615 := by have := Uv.acc_lt (by omega) HA.out; omega
        have H1 := Lib.hid h1
        have HD : Hid (∃ c : UInt8, c.toNat = n ∧ s.data.toList.drop k = c :: s.data.toList.drop (k + 1)) := ⟨s[k], hn, drop_at s k h1⟩
        by_cases h9 : k = 9
        · subst h9
          by_cases g1 : (1 : Int) < n
          · have hd : Uv.rd 0 0 s.data.toList = none := by
              obtain ⟨c, hc, hcd⟩ := HD.out
              rw [← HR.out, hcd]; exact Uv.rd_nine _ _ (by omega)
            have HN := Lib.hid hd
            clear hd
            go_wp2
            go_ret3
            refine ⟨?_, rfl⟩
            rw [(Uv.uv_none HN.out).1, (Uv.uv_none HN.out).2.1, (Uv.uv_none HN.out).2.2]; rfl
          · by_cases h0 : n = 0
            · have hd : Uv.rd 0 0 s.data.toList = none := by
                obtain ⟨c, hc, hcd⟩ := HD.out
                rw [← HR.out, hcd]; exact Uv.rd_zero 9 a _ h2 (by omega) (by omega) (by omega)
              have HN := Lib.hid hd
              clear hd
              subst h0
              go_wp2
              go_ret3
              refine ⟨?_, rfl⟩
              rw [(Uv.uv_none HN.out).1, (Uv.uv_none HN.out).2.1, (Uv.uv_none HN.out).2.2]; rfl
            · obtain rfl : n = 1 := by omega
              have hd : Uv.rd 0 0 s.data.toList = some (a + 1 % 128 * 128 ^ 9, 9 + 1) := by
                obtain ⟨c, hc, hcd⟩ := HD.out
                have h := Uv.rd_last (b := c) 9 a (s.data.toList.drop (9 + 1)) h2 (by omega) (by omega) (by omega)
                rw [hc] at h
                rw [← HR.out, hcd]; exact h
              have HN := Lib.hid hd
              clear hd
              go_wp2
              go_ret3
              refine ⟨?_, rfl⟩
              rw [(Uv.uv_some HN.out).1, (Uv.uv_some HN.out).2.1, (Uv.uv_some HN.out).2.2]
              exact ret_uv (acc_ref9 HA.out) rfl
        · by_cases h128 : (128 : Int) ≤ n
          · go_wp2
            go_round
            case rel =>
              refine ⟨k + 1, a + n % 128 * 128 ^ k, by have := H1.out; omega, by omega, by go_num, int_u64 (acc_ref (by omega) HA.out h2 (by omega)), Uv.join_lt HA.out (Nat.mod_lt _ (by omega)), ?_⟩
              obtain ⟨c, hc, hcd⟩ := HD.out
              rw [← HR.out, hcd, Uv.rd_more k a _ h2 (by omega) (by omega), hc]
            case measure => simp [intOf]; omega
          · by_cases h0 : n = 0 ∧ 0 < k
            · have hd : Uv.rd 0 0 s.data.toList = none := by
                obtain ⟨c, hc, hcd⟩ := HD.out
                rw [← HR.out, hcd]; exact Uv.rd_zero k a _ h2 (by omega) (by omega) (by omega)
              have HN := Lib.hid hd
              clear hd
              go_wp2
              all_goals
                go_ret3
                refine ⟨?_, rfl⟩
                rw [(Uv.uv_none HN.out).1, (Uv.uv_none HN.out).2.1, (Uv.uv_none HN.out).2.2]; rfl
            · have hd : Uv.rd 0 0 s.data.toList = some (a + n % 128 * 128 ^ k, k + 1) := by
                obtain ⟨c, hc, hcd⟩ := HD.out
                rw [← HR.out, hcd, ← hc]; exact Uv.rd_last k a _ h2 (by omega) (by omega) (by omega)
              have HN := Lib.hid hd
              clear hd
              by_cases h00 : n = 0
              · subst h00
                go_wp2
                go_ret3
                refine ⟨?_, rfl⟩
                rw [(Uv.uv_some HN.out).1, (Uv.uv_some HN.out).2.1, (Uv.uv_some HN.out).2.2]
                exact ret_uv (acc_ref (n := 0) (by omega) HA.out h2 (by omega)) (by omega)
              · clear h0
                go_wp2
                all_goals
                  go_ret3
                  refine ⟨?_, rfl⟩
                  rw [(Uv.uv_some HN.out).1, (Uv.uv_some HN.out).2.1, (Uv.uv_some HN.out).2.2]
                  exact ret_uv (acc_ref (by omega) HA.out h2 (by omega)) (by omega)
      · have hd : Uv.rd 0 0 s.data.toList = none := by
          rw [← HR.out]
          by_cases hk : k = 10
          · rw [hk]; exact Uv.rd_ten _ _
          · rw [List.drop_of_length_le (by simp; omega)]; rfl
        have HN := Lib.hid hd
        clear hd
        by_cases h1 : k < s.size
        · go_wp2
          go_ret3
          refine ⟨?_, rfl⟩
          rw [(Uv.uv_none HN.out).1, (Uv.uv_none HN.out).2.1, (Uv.uv_none HN.out).2.2]; rfl
        · go_wp2
          go_ret3
          refine ⟨?_, rfl⟩
          rw [(Uv.uv_none HN.out).1, (Uv.uv_none HN.out).2.1, (Uv.uv_none HN.out).2.2]; rfl
/-- '[]byte(s)': a new block. -/
theorem bytes_of (s : ByteArray) (w : World) : ∃ (C : Array Value) (cap : Nat), s.size ≤ C.size ∧ (∀ i (h : i < s.size), C[i]? = some (.int .u8 s[i].toNat)) ∧
    (convert 9 63 (.string s)).run Tryz.prog w = .ok (.slice (some ⟨w.heap.size, 0, none⟩) s.size cap) (w.drew.alloc (.cells C 5 (C.size, C.size + 1))) := by
  refine ⟨bytesRow s (grownCap w s.size 0 5), grownCap w s.size 0 5, ?_, fun i h => bytesRow_at s _ i h, run_bytes_of_string (P := Tryz.prog) w 9 63 5 s Tryz.underlying9 Tryz.underlying63 Tryz.underlying5⟩
  rcases Nat.lt_or_ge (bytesRow s (grownCap w s.size 0 5)).size s.size with h | h
  · have := bytesRow_at s (grownCap w s.size 0 5) _ h
    simp at this
  · exact h
theorem bytes_back (w : World) (a : Addr) (cap : Nat) (l : List UInt8) (hc : ∀ j (hj : j < l.length), w.cell? (a.add j) = some (.int .u8 (l[j].toNat : Int))) :
    (convert 63 9 (.slice (some a) l.length cap)).run Tryz.prog w = .ok (.string ⟨l.toArray⟩) w :=
  run_convert_bytes_back w _ _ 5 a cap l Tryz.underlying63 Tryz.underlying5 Tryz.underlying9 hc
/-- The hash's contracts at whatever number. -/
theorem hash_int (h : Int) (s : ByteArray) (h0 : 0 ≤ h) (hh : h ≤ 18446744073709551615) (hs : s.size ≤ 9223372036854775807) (w : World) :
    Calls Tryz.prog 108 #[.int .u64 h, .string s] w fun e w' => e = .returned (.int .u64 (Hs.hash h.toNat s.data.toList)) ∧ w' = w := by
  obtain ⟨n, rfl⟩ := Int.eq_ofNat_of_zero_le h0
  exact (hash_any n s hh hs w).mono fun e w' ⟨h1, h2⟩ => ⟨h1, h2.symm⟩
theorem hash_ref_int (h : Int) (s : ByteArray) (h0 : 0 ≤ h) (hh : h ≤ 18446744073709551615) (hs : s.size ≤ 9223372036854775807) (w : World) :
    Calls Tryz.prog 84 #[.int .u64 h, .string s] w fun e w' => e = .returned (.int .u64 (Hs.hash h.toNat s.data.toList)) ∧ w' = w := by
  obtain ⟨n, rfl⟩ := Int.eq_ofNat_of_zero_le h0
  exact (hash_ref_any n s hh hs w).mono fun e w' ⟨h1, h2⟩ => ⟨h1, h2.symm⟩
end Strs
end Go.Proofs.YthpjbffhdaaibaaGreat

namespace Go.Proofs.YthpjbffhdaaibaaGreat.Lg
set_option linter.unusedVariables false
open Uv
/-- The start of the hash. -/
def HS : Nat := 14695981039346656037
/-- Eight bytes, the most significant one first. -/
def be8 (x : Nat) : List UInt8 := (List.range 8).map fun i => UInt8.ofNat (x / 256 ^ (7 - i) % 256)
theorem be8_len (x : Nat) : (be8 x).length = 8 := by simp [be8]
theorem be8_inj {x y : Nat} (hx : x < 18446744073709551616) (hy : y < 18446744073709551616) (h : be8 x = be8 y) : x = y := by
  have g : ∀ i, i < 8 → x / 256 ^ (7 - i) % 256 = y / 256 ^ (7 - i) % 256 := by
    intro i hi
    have h1 : (be8 x)[i]? = (be8 y)[i]? := by rw [h]
    unfold be8 at h1
    rw [List.getElem?_map, List.getElem?_map, List.getElem?_range hi] at h1
    simp only [Option.map_some, Option.some.injEq] at h1
    have h2 := congrArg UInt8.toNat h1
    rw [ofNat_toNat (Nat.mod_lt _ (by omega)), ofNat_toNat (Nat.mod_lt _ (by omega))] at h2
    exact h2
  have g0 := g 0 (by omega)
  have g1 := g 1 (by omega)
  have g2 := g 2 (by omega)
  have g3 := g 3 (by omega)
  have g4 := g 4 (by omega)
  have g5 := g 5 (by omega)
  have g6 := g 6 (by omega)
  have g7 := g 7 (by omega)
  simp only [Nat.reduceSub, Nat.reducePow, Nat.div_one] at g0 g1 g2 g3 g4 g5 g6 g7
  omega
/-- A reader reads a number: the number, what is left, is it bad. -/
def numR (l : List UInt8) (bad : Bool) : Nat × List UInt8 × Bool := if (uvB l && !bad) = true then (uvX l, l.drop (uvN l), false) else (0, l, true)
/-- .. so many bytes. -/
def bytesR (n : Nat) (l : List UInt8) (bad : Bool) : List UInt8 × List UInt8 × Bool := if (bad || decide (l.length < n)) = true then ([], l, true) else (l.take n, l.drop n, false)
def dataR (l : List UInt8) (bad : Bool) : List UInt8 × List UInt8 × Bool := bytesR (numR l bad).1 (numR l bad).2.1 (numR l bad).2.2
def packed (seq : Nat) (body : List UInt8) : List UInt8 := put seq ++ put body.length ++ body ++ be8 (Hs.hash HS (put seq ++ put body.length ++ body))
def packS (seq : Nat) (body : List UInt8) : List UInt8 := put seq ++ put body.length ++ body
theorem packed_eq (seq : Nat) (body : List UInt8) : packed seq body = packS seq body ++ be8 (Hs.hash HS (packS seq body)) := rfl
def opR (l : List UInt8) : List UInt8 × List UInt8 × Bool := dataR (numR l false).2.1 (numR l false).2.2
def opens (l : List UInt8) : Nat × List UInt8 × Int :=
  if ((opR l).2.2 || decide ((opR l).2.1.length ≠ 8)) = true then (0, [], 1900)
  else if be8 (Hs.hash HS (l.take (l.length - 8))) ≠ (opR l).2.1 then (0, [], 1903)
  else ((numR l false).1, (opR l).1, 0)
theorem numR_put (x : Nat) (hx : x < 18446744073709551616) (t : List UInt8) : numR (put x ++ t) false = (x, t, false) := by
  have h := uv_some (rd_put x hx t)
  unfold numR
  rw [h.1, h.2.1, h.2.2, List.drop_left]; rfl
theorem numR_len (l : List UInt8) (b : Bool) : (numR l b).2.1.length ≤ l.length := by unfold numR; split <;> simp
theorem numR_lt (l : List UInt8) (b : Bool) : (numR l b).1 < 18446744073709551616 := by
  unfold numR; split
  · exact uvX_lt l
  · exact Nat.zero_lt_succ _
theorem bytesR_len (n : Nat) (l : List UInt8) (b : Bool) : (bytesR n l b).1.length ≤ l.length ∧ (bytesR n l b).2.1.length ≤ l.length := by
  unfold bytesR; split <;> simp [List.length_take]; omega
theorem opens_packed (n : Nat) (b : List UInt8) (hn : n < 18446744073709551616) (hb : b.length < 18446744073709551616) : opens (packed n b) = (n, b, 0) := by
  have h1 : numR (packed n b) false = (n, put b.length ++ (b ++ be8 (Hs.hash HS (packS n b))), false) := by
    have : packed n b = put n ++ (put b.length ++ (b ++ be8 (Hs.hash HS (packS n b)))) := by rw [packed_eq]; unfold packS; simp
    rw [this]; exact numR_put n hn _
  have h2 : opR (packed n b) = (b, be8 (Hs.hash HS (packS n b)), false) := by
    unfold opR dataR
    rw [h1]
    simp only
    rw [numR_put b.length hb]
    unfold bytesR
    simp
  have h3 : (packed n b).take ((packed n b).length - 8) = packS n b := by
    have hl : (packed n b).length - 8 = (packS n b).length := by rw [packed_eq, List.length_append, be8_len]; omega
    rw [hl, packed_eq]; exact List.take_left
  unfold opens
  rw [h2, h1, h3]
  simp [be8_len]
theorem numR_ok {l t : List UInt8} {n : Nat} (h : numR l false = (n, t, false)) : l = put n ++ t ∧ n < 18446744073709551616 := by
  unfold numR at h
  split at h
  · rename_i hu
    cases hr : rd 0 0 l with
    | none => rw [(uv_none hr).2.2] at hu; simp at hu
    | some p =>
      obtain ⟨v, k⟩ := p
      have hs := uv_some hr
      rw [hs.1, hs.2.1] at h
      injection h with h1 h2
      injection h2 with h2 _
      obtain ⟨g1, g2, g3, g4⟩ := put_rd hr
      subst h1 h2
      exact ⟨by rw [g4, List.take_append_drop], g1⟩
  · injection h with _ h2
    injection h2 with _ h2
    cases h2
theorem numR_bad (l : List UInt8) : (numR l true).2.2 = true := by unfold numR; simp
/-- What is opened is the sealed form of what it is opened to. -/
theorem opens_ok {l b : List UInt8} {n : Nat} (h : opens l = (n, b, 0)) : l = packed n b ∧ n < 18446744073709551616 := by
  unfold opens at h
  split at h
  · injection h with _ h; injection h with _ h; cases h
  · rename_i h1
    split at h
    · injection h with _ h; injection h with _ h; cases h
    · rename_i h2
      injection h with e1 e2
      injection e2 with e2 _
      simp only [Bool.or_eq_true, decide_eq_true_eq, not_or] at h1
      obtain ⟨hbad, hlen⟩ := h1
      have hlen : (opR l).2.1.length = 8 := by simpa using hlen
      have h2 : be8 (Hs.hash HS (l.take (l.length - 8))) = (opR l).2.1 := by simpa using h2
      obtain ⟨x, t, bd, hx⟩ : ∃ x t bd, numR l false = (x, t, bd) := ⟨_, _, _, rfl⟩
      have ho : opR l = dataR t bd := by unfold opR; rw [hx]
      cases bd with
      | true =>
        exfalso; apply hbad
        rw [ho]
        unfold dataR bytesR
        rw [numR_bad]; rfl
      | false =>
        obtain ⟨hl, hx64⟩ := numR_ok hx
        obtain ⟨y, t2, bd2, hy⟩ : ∃ y t2 bd2, numR t false = (y, t2, bd2) := ⟨_, _, _, rfl⟩
        have ho2 : opR l = bytesR y t2 bd2 := by rw [ho]; unfold dataR; rw [hy]
        cases bd2 with
        | true => exfalso; apply hbad; rw [ho2]; unfold bytesR; simp
        | false =>
          obtain ⟨ht, hy64⟩ := numR_ok hy
          unfold bytesR at ho2
          split at ho2
          · exfalso; apply hbad; rw [ho2]
          · rename_i hyl
            simp only [Bool.false_or, decide_eq_true_eq, Nat.not_lt] at hyl
            rw [ho2] at e2 hlen h2
            simp only at e2 hlen h2
            rw [hx] at e1
            simp only at e1
            subst e1 e2
            have hyy : (t2.take y).length = y := by rw [List.length_take]; omega
            have hs : l = packS x (t2.take y) ++ t2.drop y := by
              rw [hl, ht]; unfold packS; rw [hyy]; simp
            have htk : l.take (l.length - 8) = packS x (t2.take y) := by
              have : l.length - 8 = (packS x (t2.take y)).length := by rw [hs, List.length_append, hlen]; omega
              rw [this, hs]; exact List.take_left
            rw [htk] at h2
            refine ⟨?_, hx64⟩
            rw [packed_eq, h2]; exact hs
/-- A sealed segment with one byte changed is not opened. -/
theorem packed_set (n : Nat) (b : List UInt8) (k : Nat) (hk : k < (packed n b).length) (c : UInt8) (hc : (packed n b)[k] ≠ c) (hb : b.length < 18446744073709551616) : (opens ((packed n b).set k c)).2.2 ≠ 0 := by
  intro h
  obtain ⟨n', b', e, he⟩ : ∃ n' b' e, opens ((packed n b).set k c) = (n', b', e) := ⟨_, _, _, rfl⟩
  rw [he] at h
  simp only at h
  subst h
  obtain ⟨hs, _⟩ := opens_ok he
  have hlen : (packed n b).length = (packed n' b').length := by rw [← hs, List.length_set]
  have hl2 : (packS n b).length = (packS n' b').length := by
    rw [packed_eq, packed_eq, List.length_append, List.length_append, be8_len, be8_len] at hlen; omega
  have hlt : ∀ l, Hs.hash HS l < 18446744073709551616 := fun l => Hs.hash_lt _ _ (by decide)
  by_cases hkl : k < (packS n b).length
  · have e1 : (packS n b).set k c = packS n' b' := by
      have h1 := congrArg (List.take (packS n b).length) hs
      rw [packed_eq, List.set_append_left _ _ hkl] at h1
      rw [show (packS n b).length = ((packS n b).set k c).length by simp, List.take_left] at h1
      rw [h1, packed_eq, show ((packS n b).set k c).length = (packS n' b').length by simp [hl2], List.take_left]
    have e2 : be8 (Hs.hash HS (packS n b)) = be8 (Hs.hash HS (packS n' b')) := by
      have h1 := congrArg (List.drop (packS n b).length) hs
      rw [packed_eq, List.set_append_left _ _ hkl] at h1
      rw [show (packS n b).length = ((packS n b).set k c).length by simp, List.drop_left] at h1
      rw [h1, packed_eq, show ((packS n b).set k c).length = (packS n' b').length by simp [hl2], List.drop_left]
    have e3 := be8_inj (hlt _) (hlt _) e2
    rw [← e1] at e3
    have hne : (packS n b)[k] ≠ c := by
      intro h; apply hc
      rw [← h]
      simp only [packed_eq]
      exact List.getElem_append_left hkl
    exact Hs.hash_set (packS n b) k hkl c (by decide) hne e3
  · have e1 : packS n b = packS n' b' := by
      have h1 := congrArg (List.take (packS n b).length) hs
      rw [packed_eq, List.set_append_right _ _ (by omega), List.take_left] at h1
      rw [h1, packed_eq, hl2, List.take_left]
    rw [packed_eq n' b', ← e1, ← packed_eq] at hs
    have h2 : ((packed n b).set k c)[k]? = (packed n b)[k]? := by rw [hs]
    rw [List.getElem?_set_self hk, List.getElem?_eq_getElem hk] at h2
    injection h2 with h2
    exact hc h2.symm
end Go.Proofs.YthpjbffhdaaibaaGreat.Lg
