/-
  Plain laws, no program in sight: the compressed form of chapter 20: matches, tokens, the way back.
-/
import Derived.RowKit
set_option linter.unusedVariables false
namespace Go.Proofs.Ytgfbfmgdlbdlhaa.Cp
/-- How many bytes two lists have in common at their heads. -/
def lcp : List UInt8 → List UInt8 → Nat
  | a :: s, b :: t => if a = b then lcp s t + 1 else 0
  | _, _ => 0
/-- The length of the match at distance k. -/
def mlen (s : List UInt8) (i k : Nat) : Nat := min 67 (lcp (s.drop i) (s.drop (i - k)))
/-- The best match among the distances up to k. -/
def best (s : List UInt8) (i : Nat) : Nat → Nat × Nat
  | 0 => (0, 0)
  | k + 1 => if (best s i k).2 < mlen s i (k + 1) then (k + 1, mlen s i (k + 1)) else best s i k
def floor4 (p : Nat × Nat) : Nat × Nat := if p.2 < 4 then (0, 0) else p
def mat (s : List UInt8) (i : Nat) : Nat × Nat := floor4 (best s i (min 255 i))
/-- Tokens of a run of literal bytes. -/
def litsF : Nat → List UInt8 → List UInt8
  | 0, _ => []
  | f + 1, [] => []
  | f + 1, l => UInt8.ofNat (min 128 l.length - 1) :: (l.take 128 ++ litsF f (l.drop 128))
def lits (l : List UInt8) : List UInt8 := litsF (l.length + 1) l
/-- The compressed form from position i on, the literals from st on pending. -/
def compF : Nat → List UInt8 → Nat → Nat → List UInt8
  | 0, s, i, st => lits (s.drop st)
  | f + 1, s, i, st =>
    if i < s.length then
      if (mat s i).2 = 0 then compF f s (i + 1) st
      else lits ((s.drop st).take (i - st)) ++ (UInt8.ofNat (124 + (mat s i).2) :: UInt8.ofNat (mat s i).1 :: compF f s (i + (mat s i).2) (i + (mat s i).2))
    else lits (s.drop st)
def comp (s : List UInt8) (i st : Nat) : List UInt8 := compF (s.length - i) s i st
def compress (s : List UInt8) : List UInt8 := comp s 0 0

theorem lcp_le : ∀ a b : List UInt8, lcp a b ≤ a.length
  | [], _ => by simp [lcp]
  | _ :: _, [] => by simp [lcp]
  | a :: s, b :: t => by unfold lcp; split <;> simp; exact lcp_le s t
theorem mlen_le (s : List UInt8) (i k : Nat) : mlen s i k ≤ 67 ∧ mlen s i k ≤ s.length - i := by
  unfold mlen; have := lcp_le (s.drop i) (s.drop (i - k)); rw [List.length_drop] at this; omega
theorem best_spec (s : List UInt8) (i : Nat) : ∀ k, (best s i k).1 ≤ k ∧ (best s i k).2 ≤ 67 ∧ (best s i k).2 ≤ s.length - i ∧ (0 < (best s i k).2 → 1 ≤ (best s i k).1 ∧ mlen s i (best s i k).1 = (best s i k).2)
  | 0 => by simp [best]
  | k + 1 => by
    have h := best_spec s i k
    have hm := mlen_le s i (k + 1)
    unfold best; split
    · exact ⟨Nat.le_refl _, hm.1, hm.2, fun _ => ⟨by simp, rfl⟩⟩
    · exact ⟨by omega, h.2.1, h.2.2.1, h.2.2.2⟩
theorem best_max (s : List UInt8) (i : Nat) : ∀ k j, 1 ≤ j → j ≤ k → mlen s i j ≤ (best s i k).2
  | 0, j, h1, h2 => by omega
  | k + 1, j, h1, h2 => by
    unfold best; split
    · rename_i h
      by_cases e : j = k + 1
      · subst e; exact Nat.le_refl _
      · have := best_max s i k j h1 (by omega); show _ ≤ mlen s i (k + 1); omega
    · rename_i h
      by_cases e : j = k + 1
      · subst e; omega
      · exact best_max s i k j h1 (by omega)
theorem mat_spec (s : List UInt8) (i : Nat) : mat s i = (0, 0) ∨ (4 ≤ (mat s i).2 ∧ (mat s i).2 ≤ 67 ∧ (mat s i).2 ≤ s.length - i ∧ 1 ≤ (mat s i).1 ∧ (mat s i).1 ≤ 255 ∧ (mat s i).1 ≤ i ∧ mlen s i (mat s i).1 = (mat s i).2) := by
  have h := best_spec s i (min 255 i)
  unfold mat floor4
  split
  · exact .inl rfl
  · rename_i h4
    have := h.2.2.2 (by omega)
    exact .inr ⟨by omega, h.2.1, h.2.2.1, this.1, by omega, by omega, this.2⟩
theorem mat_zero {s : List UInt8} {i : Nat} (h : (mat s i).2 = 0) : mat s i = (0, 0) := by
  rcases mat_spec s i with h1 | h1
  · exact h1
  · omega
theorem mat_pos {s : List UInt8} {i : Nat} (h : ¬ (mat s i).2 = 0) : 4 ≤ (mat s i).2 ∧ (mat s i).2 ≤ 67 ∧ (mat s i).2 ≤ s.length - i ∧ 1 ≤ (mat s i).1 ∧ (mat s i).1 ≤ 255 ∧ (mat s i).1 ≤ i ∧ mlen s i (mat s i).1 = (mat s i).2 := by
  rcases mat_spec s i with h1 | h1
  · rw [h1] at h; exact absurd rfl h
  · exact h1
/-- Fuel beyond need changes nothing. -/
theorem litsF_fuel : ∀ (f g : Nat) (l : List UInt8), l.length < f → l.length < g → litsF f l = litsF g l
  | 0, _, _, h, _ => by omega
  | _ + 1, 0, _, _, h => by omega
  | f + 1, g + 1, [], _, _ => rfl
  | f + 1, g + 1, c :: l, h1, h2 => by
    show UInt8.ofNat _ :: (_ ++ litsF f _) = UInt8.ofNat _ :: (_ ++ litsF g _)
    rw [litsF_fuel f g ((c :: l).drop 128) (by simp at h1 ⊢; omega) (by simp at h2 ⊢; omega)]
theorem lits_nil : lits [] = [] := rfl
theorem lits_step {l : List UInt8} (h : 0 < l.length) : lits l = UInt8.ofNat (min 128 l.length - 1) :: (l.take (min 128 l.length) ++ lits (l.drop (min 128 l.length))) := by
  have e1 : l.take (min 128 l.length) = l.take 128 := by
    by_cases hl : l.length ≤ 128
    · rw [Nat.min_eq_right hl, List.take_length, List.take_of_length_le hl]
    · rw [Nat.min_eq_left (by omega)]
  have e2 : l.drop (min 128 l.length) = l.drop 128 := by
    by_cases hl : l.length ≤ 128
    · rw [Nat.min_eq_right hl, List.drop_length, List.drop_of_length_le hl]
    · rw [Nat.min_eq_left (by omega)]
  rw [e1, e2]
  match l, h with
  | c :: l, _ =>
    unfold lits
    show UInt8.ofNat _ :: (_ ++ litsF _ _) = _
    rw [litsF_fuel _ _ ((c :: l).drop 128) (by simp; omega) (Nat.lt_succ_self _)]
theorem compF_fuel : ∀ (f g : Nat) (s : List UInt8) (i st : Nat), s.length - i ≤ f → s.length - i ≤ g → compF f s i st = compF g s i st
  | 0, 0, _, _, _, _, _ => rfl
  | 0, g + 1, s, i, st, h, _ => by unfold compF; rw [if_neg (by omega)]
  | f + 1, 0, s, i, st, _, h => by unfold compF; rw [if_neg (by omega)]
  | f + 1, g + 1, s, i, st, h1, h2 => by
    unfold compF
    split
    · split
      · exact compF_fuel f g s (i + 1) st (by omega) (by omega)
      · rename_i hm
        have := mat_pos hm
        rw [compF_fuel f g s (i + (mat s i).2) _ (by omega) (by omega)]
    · rfl
theorem comp_end {s : List UInt8} {i st : Nat} (h : s.length ≤ i) : comp s i st = lits (s.drop st) := by
  unfold comp; rw [show s.length - i = 0 by omega]; rfl
theorem comp_skip {s : List UInt8} {i st : Nat} (h : i < s.length) (hm : (mat s i).2 = 0) : comp s i st = comp s (i + 1) st := by
  unfold comp
  rw [show s.length - i = (s.length - (i + 1)) + 1 by omega, compF, if_pos h, if_pos hm]
theorem comp_match {s : List UInt8} {i st : Nat} (h : i < s.length) (hm : ¬ (mat s i).2 = 0) :
    comp s i st = lits ((s.drop st).take (i - st)) ++ (UInt8.ofNat (124 + (mat s i).2) :: UInt8.ofNat (mat s i).1 :: comp s (i + (mat s i).2) (i + (mat s i).2)) := by
  have h4 := mat_pos hm
  unfold comp
  rw [compF_fuel (s.length - i) ((s.length - (i + 1)) + 1) s i st (by omega) (by omega), compF, if_pos h, if_neg hm]
  rw [compF_fuel (s.length - (i + 1)) (s.length - (i + (mat s i).2)) s _ _ (by omega) (by omega)]

/-! ### the way by a list of earlier positions -/
/-- The group of four bytes at a position. -/
def grp (s : List UInt8) (i : Nat) : Option (List UInt8) := if i + 4 ≤ s.length then some ((s.drop i).take 4) else none
/-- The positions from lo on, n of them, at which the group g begins. -/
def occ (s : List UInt8) (g : List UInt8) (lo n : Nat) : List Nat := (List.range' lo n).filter fun j => grp s j == some g
/-- What the window holds at position i. -/
def pos (s : List UInt8) (g : List UInt8) (i : Nat) : List Nat := occ s g (i - 255) (i - (i - 255))
def step (s : List UInt8) (i j : Nat) (p : Nat × Nat) : Nat × Nat := if p.2 < mlen s i (i - j) then (i - j, mlen s i (i - j)) else p
/-- The best of the positions of a list, the last ones first. -/
def among (s : List UInt8) (i : Nat) (l : List Nat) : Nat × Nat := l.foldr (step s i) (0, 0)
theorem lcp_ge : ∀ (n : Nat) (a b : List UInt8), n ≤ a.length → n ≤ b.length → (n ≤ lcp a b ↔ a.take n = b.take n)
  | 0, a, b, _, _ => by simp
  | n + 1, [], b, h, _ => by simp at h
  | n + 1, _ :: _, [], _, h => by simp at h
  | n + 1, a :: s, b :: t, h1, h2 => by
    have ih := lcp_ge n s t (by simpa using h1) (by simpa using h2)
    unfold lcp
    split
    · rename_i e
      subst e
      simp only [List.take_succ_cons, List.cons.injEq, true_and]
      rw [← ih]; omega
    · rename_i e
      simp only [List.take_succ_cons, List.cons.injEq]
      constructor
      · intro h; omega
      · intro h; exact absurd h.1 e
theorem grp_iff {s : List UInt8} {i j : Nat} (hi : i + 4 ≤ s.length) (hj : j ≤ i) : grp s j = grp s i ↔ 4 ≤ lcp (s.drop i) (s.drop j) := by
  unfold grp
  rw [if_pos hi, if_pos (by omega), Option.some.injEq, lcp_ge 4 _ _ (by rw [List.length_drop]; omega) (by rw [List.length_drop]; omega)]
  exact ⟨fun h => h.symm, fun h => h.symm⟩
theorem range'_cons (lo n : Nat) (h : 0 < lo) : List.range' (lo - 1) (n + 1) = (lo - 1) :: List.range' lo n := by
  rw [List.range'_succ]; congr 2; omega
theorem step4 (b : Nat × Nat) (m K : Nat) (h : 4 ≤ m) : (if (floor4 b).2 < m then (K, m) else floor4 b) = floor4 (if b.2 < m then (K, m) else b) := by
  unfold floor4
  by_cases hs : b.2 < 4
  · rw [if_pos hs, if_pos (show b.2 < m by omega), if_pos (show 0 < m by omega), if_neg (show ¬ m < 4 by omega)]
  · rw [if_neg hs]
    by_cases hl : b.2 < m
    · rw [if_pos hl, if_neg (show ¬ m < 4 by omega)]
    · rw [if_neg hl, if_neg hs]
theorem step4n (b : Nat × Nat) (m K : Nat) (h : ¬ 4 ≤ m) : floor4 b = floor4 (if b.2 < m then (K, m) else b) := by
  unfold floor4
  by_cases hl : b.2 < m
  · rw [if_pos hl, if_pos (show b.2 < 4 by omega), if_pos (show m < 4 by omega)]
  · rw [if_neg hl]
theorem fold_best (s : List UInt8) (i : Nat) (hi : i + 4 ≤ s.length) (g : List UInt8) (hg : grp s i = some g) : ∀ k, k ≤ i → (occ s g (i - k) k).foldr (step s i) (0, 0) = floor4 (best s i k)
  | 0, _ => rfl
  | k + 1, hk => by
    have ih := fold_best s i hi g hg k (by omega)
    have hb := best_spec s i k
    have e : occ s g (i - (k + 1)) (k + 1) = if 4 ≤ mlen s i (k + 1) then (i - (k + 1)) :: occ s g (i - k) k else occ s g (i - k) k := by
      unfold occ
      rw [show i - (k + 1) = (i - k) - 1 by omega, range'_cons _ _ (by omega), List.filter_cons]
      have h1 := grp_iff (s := s) (i := i) (j := i - k - 1) hi (by omega)
      have h2 : 4 ≤ mlen s i (k + 1) ↔ grp s (i - k - 1) = some g := by
        rw [← hg, h1]
        unfold mlen
        rw [show i - (k + 1) = i - k - 1 by omega]; omega
      by_cases h : grp s (i - k - 1) = some g
      · rw [if_pos (by simpa using h), if_pos (h2.2 h)]
      · rw [if_neg (by simpa using h), if_neg (fun h' => h (h2.1 h'))]
    rw [e]
    unfold best
    by_cases h4 : 4 ≤ mlen s i (k + 1)
    · rw [if_pos h4, List.foldr_cons, ih]
      have ek : i - (i - (k + 1)) = k + 1 := by omega
      unfold step
      rw [ek]
      exact step4 _ _ _ h4
    · rw [if_neg h4, ih]
      exact step4n _ _ _ h4
theorem among_pos {s : List UInt8} {i : Nat} {g : List UInt8} (hg : grp s i = some g) : among s i (pos s g i) = mat s i := by
  have hi : i + 4 ≤ s.length := by
    unfold grp at hg; split at hg
    · assumption
    · cases hg
  have h := fold_best s i hi g hg (min 255 i) (by omega)
  have e1 : i - 255 = i - min 255 i := by omega
  have e2 : i - (i - min 255 i) = min 255 i := by omega
  unfold among pos mat
  rw [e1, e2]
  exact h
theorem mat_none {s : List UInt8} {i : Nat} (hg : grp s i = none) : mat s i = (0, 0) := by
  have hi : s.length - i < 4 := by
    unfold grp at hg; split at hg
    · cases hg
    · omega
  rcases mat_spec s i with h | h
  · exact h
  · omega
/-- Once the limit is reached nothing better comes. -/
theorem among_full {s : List UInt8} {i : Nat} (p : Nat × Nat) (hp : min 67 (s.length - i) ≤ p.2) : ∀ l : List Nat, l.foldr (step s i) p = p
  | [] => rfl
  | j :: l => by
    rw [List.foldr_cons, among_full p hp l]
    unfold step
    have := mlen_le s i (i - j)
    rw [if_neg (by omega)]
theorem among_append (s : List UInt8) (i : Nat) (a b : List Nat) : among s i (a ++ b) = a.foldr (step s i) (among s i b) := by
  unfold among; rw [List.foldr_append]
end Go.Proofs.Ytgfbfmgdlbdlhaa.Cp
