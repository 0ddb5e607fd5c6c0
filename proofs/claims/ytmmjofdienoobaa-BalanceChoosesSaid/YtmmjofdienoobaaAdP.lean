/-
  Plain laws, no program in sight: admission (chapter 39).
-/
import Derived.RowKit
namespace Go.Proofs.Ytmmjofdienoobaa.Ad
set_option linter.unusedVariables false
/-- A demand: reservation, limit, processor time, group. -/
structure Dem where
  r : Int
  l : Int
  c : Int
  g : Int
def units (n : Int) : Bool := decide (0 ≤ n) && decide (n ≤ 1000000)
def vd (d : Dem) : Bool := decide (0 ≤ d.r) && decide (d.r ≤ d.l) && units d.l && units d.c && decide (0 ≤ d.g)
def vh (m c : Int) : Bool := units m && units c
def valid (m c : Int) (L : List Dem) : Bool := vh m c && decide (L.length ≤ 16) && L.all vd
def sumR (L : List Dem) : Int := (L.map Dem.r).sum
def sumC (L : List Dem) : Int := (L.map Dem.c).sum
def freeM (m c : Int) (L : List Dem) : Int := if valid m c L then m - sumR L else 0
def freeC (m c : Int) (L : List Dem) : Int := if valid m c L then c - sumC L else 0
def clash (L : List Dem) (g : Int) : Bool := L.any fun x => decide (x.g = g)
def admit (m c : Int) (up : Bool) (L : List Dem) (d : Dem) : Int :=
  if (valid m c L && vd d) = false then 3900 else if up = false then 3904 else if freeM m c L < d.r then 3901 else if freeC m c L < d.c then 3902
  else if d.g ≠ 0 ∧ clash L d.g = true then 3903 else 0
/-- All fit, each beside those before it: of the list's elements from k on. -/
def fitsTo (m c : Int) (up : Bool) (L : List Dem) : Nat → Bool
  | 0 => true
  | k + 1 => fitsTo m c up L k && (match L[k]? with | some d => decide (admit m c up (L.take k) d = 0) | none => true)
def fits (m c : Int) (up : Bool) (L : List Dem) : Bool := fitsTo m c up L L.length

theorem units_iff (n : Int) : units n = true ↔ 0 ≤ n ∧ n ≤ 1000000 := by simp [units]
theorem vd_iff (d : Dem) : vd d = true ↔ 0 ≤ d.r ∧ d.r ≤ d.l ∧ units d.l = true ∧ units d.c = true ∧ 0 ≤ d.g := by
  simp [vd, and_assoc]
theorem vd_bd {d : Dem} (h : vd d = true) : 0 ≤ d.r ∧ d.r ≤ 1000000 ∧ 0 ≤ d.c ∧ d.c ≤ 1000000 ∧ 0 ≤ d.l ∧ d.l ≤ 1000000 ∧ 0 ≤ d.g := by
  obtain ⟨h1, h2, h3, h4, h5⟩ := (vd_iff d).1 h
  have h3 := (units_iff _).1 h3
  have h4 := (units_iff _).1 h4
  omega
theorem sumR_snoc (L : List Dem) (d : Dem) : sumR (L ++ [d]) = sumR L + d.r := by simp [sumR]
theorem sumC_snoc (L : List Dem) (d : Dem) : sumC (L ++ [d]) = sumC L + d.c := by simp [sumC]
theorem sum_bd (L : List Dem) (h : L.all vd = true) : 0 ≤ sumR L ∧ sumR L ≤ 1000000 * L.length ∧ 0 ≤ sumC L ∧ sumC L ≤ 1000000 * L.length := by
  induction L with
  | nil => simp [sumR, sumC]
  | cons d L ih =>
    simp only [List.all_cons, Bool.and_eq_true] at h
    have := ih h.2
    have hd := vd_bd h.1
    simp only [sumR, sumC, List.map_cons, List.sum_cons, List.length_cons] at *
    omega
theorem all_take {L : List Dem} (h : L.all vd = true) (k : Nat) : (L.take k).all vd = true := by
  rw [List.all_eq_true] at *
  exact fun x hx => h x (List.mem_of_mem_take hx)
theorem take_snoc (L : List Dem) (k : Nat) (h : k < L.length) : L.take (k + 1) = L.take k ++ [L[k]] := List.take_succ_eq_append_getElem h
theorem all_snoc (L : List Dem) (k : Nat) (h : k < L.length) : (L.take (k + 1)).all vd = ((L.take k).all vd && vd L[k]) := by
  rw [take_snoc L k h, List.all_append]; simp
theorem clash_snoc (L : List Dem) (k : Nat) (h : k < L.length) (g : Int) : clash (L.take (k + 1)) g = (clash (L.take k) g || decide (L[k].g = g)) := by
  rw [take_snoc L k h]; unfold clash; rw [List.any_append]; simp
theorem all_len (L : List Dem) : (L.take L.length).all vd = L.all vd := by rw [List.take_length]
theorem fits_step {m c : Int} {up : Bool} {L : List Dem} {k : Nat} (h : k < L.length) : fitsTo m c up L (k + 1) = (fitsTo m c up L k && decide (admit m c up (L.take k) L[k] = 0)) := by
  rw [fitsTo, List.getElem?_eq_getElem h]
/-- Once false, always false. -/
theorem fits_no {m c : Int} {up : Bool} {L : List Dem} {k : Nat} (h : fitsTo m c up L k = false) : ∀ j, k ≤ j → fitsTo m c up L j = false := by
  intro j hj
  induction j with
  | zero => obtain rfl : k = 0 := by omega
            exact h
  | succ j ih =>
    by_cases e : k = j + 1
    · rw [← e]; exact h
    · rw [fitsTo, ih (by omega)]; rfl
end Go.Proofs.Ytmmjofdienoobaa.Ad
