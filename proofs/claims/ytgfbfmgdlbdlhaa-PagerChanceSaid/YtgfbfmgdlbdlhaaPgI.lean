/-
  Plain laws, no program in sight: the second chance where some resident page is not used (chapter 36).
-/
import Derived.Test.YtgfbfmgdlbdlhaaPgL
set_option linter.unusedVariables false
namespace Go.Proofs.Ytgfbfmgdlbdlhaa
open Go.RowKit
namespace Pg
theorem ring_ne {n a i j : Nat} (hi : i < n) (hj : j < n) (h : (a + i) % n = (a + j) % n) : i = j := by
  rcases Nat.lt_trichotomy i j with hl | hl | hl
  · exfalso
    have h1 := Nat.sub_mod_eq_zero_of_mod_eq h.symm
    rw [show a + j - (a + i) = j - i by omega, Nat.mod_eq_of_lt (by omega)] at h1
    omega
  · exact hl
  · exfalso
    have h1 := Nat.sub_mod_eq_zero_of_mod_eq h
    rw [show a + i - (a + j) = i - j by omega, Nat.mod_eq_of_lt (by omega)] at h1
    omega
theorem set_other (U : List Bool) (a j : Nat) (h : a ≠ j) : (U.set a false).getD j false = U.getD j false := by
  rw [List.getD_eq_getElem?_getD, List.getD_eq_getElem?_getD, List.getElem?_set_ne h]
theorem set_same (U : List Bool) (a : Nat) : (U.set a false).getD a false = false := by
  rw [List.getD_eq_getElem?_getD, List.getElem?_set]
  by_cases h : a < U.length <;> simp [h]
theorem vic_idle {R : List Bool} {n : Nat} : ∀ (i0 f : Nat) (U : List Bool) (a : Nat), i0 < f → i0 < n → a < n → R.getD ((a + i0) % n) false = true → U.getD ((a + i0) % n) false = false →
    (∀ i, i < i0 → R.getD ((a + i) % n) false = true → U.getD ((a + i) % n) false = true) →
    (vicF R (-1) n f U a).1 = some ((a + i0) % n) ∧ (∀ i, i < n → (vicF R (-1) n f U a).2.getD ((a + i) % n) false = if i < i0 ∧ R.getD ((a + i) % n) false = true then false else U.getD ((a + i) % n) false)
  | i0, 0, U, a, h, _, _, _, _, _ => by omega
  | 0, f + 1, U, a, h1, h2, h3, h4, h5, h6 => by
    rw [Nat.add_zero, Nat.mod_eq_of_lt h3] at h4 h5
    have hno : ¬ (R.getD a false = false ∨ (a : Int) = -1) := by rw [h4]; simp
    rw [vic_hit hno (by rw [h5]; decide)]
    refine ⟨by rw [Nat.add_zero, Nat.mod_eq_of_lt h3], fun i hi => ?_⟩
    rw [if_neg (by omega)]
  | i0 + 1, f + 1, U, a, h1, h2, h3, h4, h5, h6 => by
    have hn : 0 < n := by omega
    have hm : (a + 1) % n < n := Nat.mod_lt _ hn
    have h00 : (a + 0) % n = a := by rw [Nat.add_zero, Nat.mod_eq_of_lt h3]
    cases hR : R.getD a false
    · rw [vic_pass (.inl hR)]
      obtain ⟨g1, g2⟩ := vic_idle i0 f U ((a + 1) % n) (by omega) (by omega) hm (by rw [mod_step]; exact h4) (by rw [mod_step]; exact h5) (fun i hi hr => by rw [mod_step] at hr ⊢; exact h6 (i + 1) (by omega) hr)
      refine ⟨by rw [g1, mod_step], fun i hi => ?_⟩
      cases i with
      | zero =>
        rw [h00, hR, if_neg (by simp)]
        have := g2 (n - 1) (by omega)
        rw [mod_step, show a + (n - 1 + 1) = a + n by omega, Nat.add_mod_right, Nat.mod_eq_of_lt h3] at this
        rw [this, if_neg (by omega)]
      | succ i =>
        have := g2 i (by omega)
        rw [mod_step] at this
        rw [this]
        by_cases hc : i < i0 ∧ R.getD ((a + (i + 1)) % n) false = true
        · rw [if_pos hc, if_pos ⟨by omega, hc.2⟩]
        · rw [if_neg hc, if_neg (fun q => hc ⟨by omega, q.2⟩)]
    · have hU := h6 0 (by omega) (by rw [h00]; exact hR)
      rw [h00] at hU
      have hno : ¬ (R.getD a false = false ∨ (a : Int) = -1) := by rw [hR]; simp
      rw [vic_mark hno hU]
      have hne : ∀ i, i + 1 < n → a ≠ (a + (i + 1)) % n := fun i hi e => by
        have := ring_ne (n := n) (a := a) (i := 0) (j := i + 1) hn hi (by rw [h00]; exact e)
        omega
      obtain ⟨g1, g2⟩ := vic_idle i0 f (U.set a false) ((a + 1) % n) (by omega) (by omega) hm (by rw [mod_step]; exact h4) (by rw [mod_step, set_other _ _ _ (hne i0 h2)]; exact h5) (fun i hi hr => by rw [mod_step] at hr ⊢; rw [set_other _ _ _ (hne i (by omega))]; exact h6 (i + 1) (by omega) hr)
      refine ⟨by rw [g1, mod_step], fun i hi => ?_⟩
      cases i with
      | zero =>
        rw [h00, hR, if_pos ⟨by omega, rfl⟩]
        have := g2 (n - 1) (by omega)
        rw [mod_step, show a + (n - 1 + 1) = a + n by omega, Nat.add_mod_right, Nat.mod_eq_of_lt h3] at this
        rw [this, if_neg (by omega), set_same]
      | succ i =>
        have := g2 i (by omega)
        rw [mod_step] at this
        rw [this]
        by_cases hc : i < i0 ∧ R.getD ((a + (i + 1)) % n) false = true
        · rw [if_pos hc, if_pos ⟨by omega, hc.2⟩]
        · rw [if_neg hc, if_neg (fun q => hc ⟨by omega, q.2⟩), set_other _ _ _ (hne i hi)]
def idleAt (U R : List Bool) (i : Nat) : Bool := R.getD i false && !U.getD i false
def idleK (U R : List Bool) (k : Nat) : Bool := (List.range k).any (idleAt U R)
def someK (R : List Bool) (k : Nat) : Bool := (List.range k).any fun i => R.getD i false
theorem idleK_next (U R : List Bool) (k : Nat) : idleK U R (k + 1) = (idleK U R k || idleAt U R k) := by unfold idleK; rw [List.range_succ, List.any_append]; simp
theorem someK_next (R : List Bool) (k : Nat) : someK R (k + 1) = (someK R k || R.getD k false) := by unfold someK; rw [List.range_succ, List.any_append]; simp
/-- The least of the numbers below m that fit. -/
theorem least {p : Nat → Prop} [DecidablePred p] : ∀ (m : Nat), (∃ i, i < m ∧ p i) → ∃ i, i < m ∧ p i ∧ ∀ j, j < i → ¬ p j
  | 0, ⟨i, hi, _⟩ => by omega
  | m + 1, ⟨i, hi, hp⟩ => by
    by_cases h : ∃ i, i < m ∧ p i
    · obtain ⟨j, h1, h2, h3⟩ := least m h
      exact ⟨j, by omega, h2, h3⟩
    · exact ⟨i, hi, hp, fun j hj hpj => h ⟨j, by omega, hpj⟩⟩
/-- What the law asks of the victim. -/
structure Chosen (U R : List Bool) (h0 n : Nat) (v : Nat) (V : List Bool) (H : Int) : Prop where
  lt : v < n
  res : R.getD v false = true
  len : V.length = n
  hand : H = ((v + 1) % n : Nat)
  idle : idleK U R n = true → U.getD v false = false ∧ ∃ i0, i0 < n ∧ (h0 + i0) % n = v ∧ ∀ i, i < n → (i < i0 → R.getD ((h0 + i) % n) false = true → U.getD ((h0 + i) % n) false = true ∧ V.getD ((h0 + i) % n) false = false) ∧ (i0 ≤ i ∨ R.getD ((h0 + i) % n) false = false → V.getD ((h0 + i) % n) false = U.getD ((h0 + i) % n) false)
theorem vicOut_no {U R : List Bool} {n h0 : Nat} (hU : U.length = n) (hR : R.length = n) (hn : 1 ≤ n ∧ n ≤ 32) (hh : h0 < n) : vicOut U R h0 = false := by
  unfold vicOut; rw [hU, hR]; simp; omega
theorem chance_no {U R : List Bool} {n h0 : Nat} (hU : U.length = n) (hR : R.length = n) (hn : 1 ≤ n ∧ n ≤ 32) (hh : h0 < n) (hs : someK R n = false) : vicV U R h0 (-1) = -1 := by
  unfold vicV
  rw [vicOut_no hU hR hn hh]
  simp only [Bool.false_eq_true, if_false]
  cases hk : (vicP U R h0 (-1)).1 with
  | none => rfl
  | some k =>
    exfalso
    unfold vicP at hk
    rw [hU] at hk
    obtain ⟨r1, _⟩ := vicF_res _ _ _ _ hk
    have hl := vicF_lt (n := n) (by omega) _ _ _ k (by omega) hk
    unfold someK at hs
    rw [List.any_eq_false] at hs
    exact hs k (List.mem_range.2 hl) r1
theorem chance_yes {U R : List Bool} {n h0 : Nat} (hU : U.length = n) (hR : R.length = n) (hn : 1 ≤ n ∧ n ≤ 32) (hh : h0 < n) (hs : someK R n = true) :
    ∃ v : Nat, vicV U R h0 (-1) = v ∧ Chosen U R h0 n v (vicU U R h0 (-1)) (vicH U R h0 (-1)) := by
  unfold someK at hs
  rw [List.any_eq_true] at hs
  obtain ⟨r, hr, hRr⟩ := hs
  have hr' := List.mem_range.1 hr
  obtain ⟨k, hk⟩ := vicF_some (R := R) (ex := -1) (n := n) U (a := h0) (r := r) hh hr' hRr (by omega)
  have ho := vicOut_no hU hR hn hh
  have hP : vicP U R h0 (-1) = vicF R (-1) n (2 * n) U h0 := by unfold vicP; rw [hU]; rfl
  refine ⟨k, ?_, ?_⟩
  · unfold vicV; rw [ho, hP, hk]; rfl
  · obtain ⟨r1, _⟩ := vicF_res _ _ _ _ hk
    have hl := vicF_lt (n := n) (by omega) _ _ _ k hh hk
    have hV : vicU U R h0 (-1) = (vicF R (-1) n (2 * n) U h0).2 := by unfold vicU; rw [ho, hP]; rfl
    refine ⟨hl, r1, by rw [hV, vicF_len, hU], by unfold vicH; rw [ho, hP, hk, hU]; rfl, fun hid => ?_⟩
    unfold idleK at hid
    rw [List.any_eq_true] at hid
    obtain ⟨q, hq, hqi⟩ := hid
    have hq' := List.mem_range.1 hq
    obtain ⟨i0, hi0, hp, hmin⟩ := least (p := fun i => idleAt U R ((h0 + i) % n) = true) n (by
      by_cases hle : h0 ≤ q
      · exact ⟨q - h0, by omega, by rw [show h0 + (q - h0) = q by omega, Nat.mod_eq_of_lt hq']; exact hqi⟩
      · exact ⟨q + n - h0, by omega, by rw [show h0 + (q + n - h0) = q + n by omega, Nat.add_mod_right, Nat.mod_eq_of_lt hq']; exact hqi⟩)
    unfold idleAt at hp
    simp only [Bool.and_eq_true, Bool.not_eq_true'] at hp
    obtain ⟨g1, g2⟩ := vic_idle i0 (2 * n) U h0 (by omega) hi0 hh hp.1 hp.2 (fun i hi hr => by
      have := hmin i hi
      unfold idleAt at this
      rw [hr] at this
      simpa using this)
    rw [hk] at g1
    injection g1 with g1
    refine ⟨by rw [g1]; exact hp.2, i0, hi0, g1.symm, fun i hi => ⟨fun hlt hR => ⟨?_, ?_⟩, fun hor => ?_⟩⟩
    · have := hmin i hlt
      unfold idleAt at this
      rw [hR] at this
      simpa using this
    · rw [hV, g2 i hi, if_pos ⟨hlt, hR⟩]
    · rw [hV, g2 i hi, if_neg]
      rintro ⟨q1, q2⟩
      rcases hor with h | h
      · omega
      · rw [q2] at h; cases h
end Pg
end Go.Proofs.Ytgfbfmgdlbdlhaa
