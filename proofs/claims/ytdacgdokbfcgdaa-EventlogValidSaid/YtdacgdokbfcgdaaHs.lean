/-
  Plain laws, no program in sight: the hash of chapter 1 (FNV-1a, 64 bits) on lists of bytes.
-/
import Derived.RowKit
set_option linter.unusedVariables false
namespace Go.Proofs.Ytdacgdokbfcgdaa.Hs
/-- One byte. -/
def step (h : Nat) (c : UInt8) : Nat := (h ^^^ c.toNat) * 1099511628211 % 18446744073709551616
/-- A list of bytes. -/
def hash (h : Nat) (l : List UInt8) : Nat := l.foldl step h

theorem step_lt (h : Nat) (c : UInt8) : step h c < 18446744073709551616 := Nat.mod_lt _ (by omega)
theorem hash_lt (h : Nat) (l : List UInt8) (hh : h < 18446744073709551616) : hash h l < 18446744073709551616 := by
  unfold hash
  induction l generalizing h with
  | nil => exact hh
  | cons c l ih => exact ih _ (step_lt _ _)
theorem hash_append (h : Nat) (a b : List UInt8) : hash h (a ++ b) = hash (hash h a) b := List.foldl_append
theorem hash_cons (h : Nat) (c : UInt8) (b : List UInt8) : hash h (c :: b) = hash (step h c) b := rfl
theorem hash_nil (h : Nat) : hash h [] = h := rfl
theorem hash_snoc (h : Nat) (a : List UInt8) (c : UInt8) : hash h (a ++ [c]) = step (hash h a) c := by rw [hash_append, hash_cons, hash_nil]

theorem mul_inv_any {a p i k M : Nat} (hp : p * i = 1 + k * M) (ha : a < M) : a * p % M * i % M = a := by
  rw [Nat.mod_mul_mod, Nat.mul_assoc, hp, Nat.mul_add, Nat.mul_one, ← Nat.mul_assoc, Nat.add_mul_mod_self_right, Nat.mod_eq_of_lt ha]
theorem mul_inv {a : Nat} (ha : a < 18446744073709551616) : a * 1099511628211 % 18446744073709551616 * 14886173955864302971 % 18446744073709551616 = a :=
  mul_inv_any (k := 887285111055) (Nat.eq_of_beq_eq_true rfl) ha
theorem xor_lt {h : Nat} (hh : h < 18446744073709551616) (c : UInt8) : h ^^^ c.toNat < 18446744073709551616 :=
  Nat.xor_lt_two_pow (n := 64) hh (by have := c.toNat_lt; omega)
theorem step_inj {h h' : Nat} {c c' : UInt8} (hh : h < 18446744073709551616) (hh' : h' < 18446744073709551616) (e : step h c = step h' c') : h ^^^ c.toNat = h' ^^^ c'.toNat := by
  have := congrArg (fun x => x * 14886173955864302971 % 18446744073709551616) e
  simp only [step] at this
  rwa [mul_inv (xor_lt hh c), mul_inv (xor_lt hh' c')] at this
theorem xor_cancel_right {a b c : Nat} (h : a ^^^ c = b ^^^ c) : a = b := by
  have := congrArg (· ^^^ c) h
  simpa [Nat.xor_assoc] using this
theorem xor_cancel_left {a b c : Nat} (h : c ^^^ a = c ^^^ b) : a = b := by
  rw [Nat.xor_comm c a, Nat.xor_comm c b] at h; exact xor_cancel_right h
/-- Different hashes stay different behind the same bytes. -/
theorem hash_inj {h h' : Nat} (l : List UInt8) (hh : h < 18446744073709551616) (hh' : h' < 18446744073709551616) (e : hash h l = hash h' l) : h = h' := by
  unfold hash at e
  induction l generalizing h h' with
  | nil => exact e
  | cons c l ih => exact xor_cancel_right (step_inj hh hh' (ih (step_lt _ _) (step_lt _ _) e))
/-- Two strings that differ in one byte have different hashes. -/
theorem hash_differs {h : Nat} (a b : List UInt8) {c c' : UInt8} (hh : h < 18446744073709551616) (hc : c ≠ c') : hash h (a ++ c :: b) ≠ hash h (a ++ c' :: b) := by
  intro e
  rw [hash_append, hash_append] at e
  have e2 : step (hash h a) c = step (hash h a) c' := hash_inj b (step_lt _ _) (step_lt _ _) e
  have := xor_cancel_left (step_inj (hash_lt _ _ hh) (hash_lt _ _ hh) e2)
  exact hc (UInt8.toNat_inj.1 this)
/-- The same of a list and the list with one byte set. -/
theorem hash_set {h : Nat} (l : List UInt8) (k : Nat) (hk : k < l.length) (c : UInt8) (hh : h < 18446744073709551616) (hc : l[k] ≠ c) : hash h l ≠ hash h (l.set k c) := by
  have e1 : l = l.take k ++ l[k] :: l.drop (k + 1) := by simp
  have e2 : l.set k c = l.take k ++ c :: l.drop (k + 1) := by rw [List.set_eq_take_append_cons_drop, if_pos hk]
  rw [e2]
  intro e
  exact hash_differs (l.take k) (l.drop (k + 1)) hh hc (by rw [← e1]; exact e)
end Go.Proofs.Ytdacgdokbfcgdaa.Hs
