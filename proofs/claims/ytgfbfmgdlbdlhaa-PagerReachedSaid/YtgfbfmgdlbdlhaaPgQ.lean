/-
  Plain laws, no program in sight: the second chance (chapter 36).
-/
import Derived.RowKit
set_option linter.unusedVariables false
namespace Go.Proofs.Ytgfbfmgdlbdlhaa.Pg
/-- f steps from at_: the victim, if one was found, and the marks. -/
def vicF (R : List Bool) (ex : Int) (n : Nat) : Nat → List Bool → Nat → Option Nat × List Bool
  | 0, U, a => (none, U)
  | f + 1, U, a => if R.getD a false = false ∨ (a : Int) = ex then vicF R ex n f U ((a + 1) % n) else if U.getD a false = true then vicF R ex n f (U.set a false) ((a + 1) % n) else (some a, U)
def vicOut (U R : List Bool) (hand : Int) : Bool := decide (U.length ≠ R.length ∨ (U.length : Int) < 1 ∨ 32 < (U.length : Int) ∨ hand < 0 ∨ (U.length : Int) ≤ hand)
def vicP (U R : List Bool) (hand ex : Int) : Option Nat × List Bool := vicF R ex U.length (2 * U.length) U hand.toNat
def vicV (U R : List Bool) (hand ex : Int) : Int := if vicOut U R hand then -1 else match (vicP U R hand ex).1 with | some k => k | none => -1
def vicH (U R : List Bool) (hand ex : Int) : Int := if vicOut U R hand then hand else match (vicP U R hand ex).1 with | some k => ((k + 1) % U.length : Nat) | none => hand
def vicU (U R : List Bool) (hand ex : Int) : List Bool := if vicOut U R hand then U else (vicP U R hand ex).2
theorem vic_pass {R : List Bool} {ex : Int} {n f : Nat} {U : List Bool} {a : Nat} (h : R.getD a false = false ∨ (a : Int) = ex) : vicF R ex n (f + 1) U a = vicF R ex n f U ((a + 1) % n) := if_pos h
theorem vic_mark {R : List Bool} {ex : Int} {n f : Nat} {U : List Bool} {a : Nat} (h : ¬ (R.getD a false = false ∨ (a : Int) = ex)) (hu : U.getD a false = true) : vicF R ex n (f + 1) U a = vicF R ex n f (U.set a false) ((a + 1) % n) := by
  rw [vicF, if_neg h, if_pos hu]
theorem vic_hit {R : List Bool} {ex : Int} {n f : Nat} {U : List Bool} {a : Nat} (h : ¬ (R.getD a false = false ∨ (a : Int) = ex)) (hu : ¬ U.getD a false = true) : vicF R ex n (f + 1) U a = (some a, U) := by
  rw [vicF, if_neg h, if_neg hu]
theorem vicF_len (R : List Bool) (ex : Int) (n : Nat) : ∀ f U a, (vicF R ex n f U a).2.length = U.length
  | 0, U, a => rfl
  | f + 1, U, a => by
    unfold vicF
    split
    · exact vicF_len R ex n f U _
    · split
      · rw [vicF_len R ex n f _ _, List.length_set]
      · rfl
theorem vicF_lt {R : List Bool} {ex : Int} {n : Nat} (hn : 0 < n) : ∀ f U a k, a < n → (vicF R ex n f U a).1 = some k → k < n
  | 0, U, a, k, ha, h => by simp [vicF] at h
  | f + 1, U, a, k, ha, h => by
    unfold vicF at h
    split at h
    · exact vicF_lt hn f U _ k (Nat.mod_lt _ hn) h
    · split at h
      · exact vicF_lt hn f _ _ k (Nat.mod_lt _ hn) h
      · simp at h; omega
theorem vicV_lt {U R : List Bool} {hand ex : Int} (h : 0 ≤ vicV U R hand ex) : vicV U R hand ex < U.length := by
  unfold vicV at h ⊢
  cases ho : vicOut U R hand
  · rw [ho] at h
    simp only [Bool.false_eq_true, if_false] at h ⊢
    simp only [vicOut, decide_eq_false_iff_not] at ho
    cases hk : (vicP U R hand ex).1 with
    | none => rw [hk] at h; simp at h
    | some k =>
      have := vicF_lt (n := U.length) (by omega) _ _ _ k (by omega) hk
      simp only; omega
  · rw [ho] at h; simp at h
theorem vicU_len (U R : List Bool) (hand ex : Int) : (vicU U R hand ex).length = U.length := by
  unfold vicU
  split
  · rfl
  · exact vicF_len _ _ _ _ _ _
end Go.Proofs.Ytgfbfmgdlbdlhaa.Pg
