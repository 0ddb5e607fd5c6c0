/-
  Plain laws of compression: the way back, the length, patterns that repeat.
-/
import Derived.Test.YtgfbfmgdlbdlhaaCpD
import Derived.Test.YtgfbfmgdlbdlhaaCpE
set_option linter.unusedVariables false
namespace Go.Proofs.Ytgfbfmgdlbdlhaa
namespace Cp
theorem dec_lits (most : Nat) : ∀ (k : Nat) (l r out : List UInt8), l.length ≤ k → (out.length ≤ most) → dec most (lits l ++ r) out = if out.length + l.length ≤ most then dec most r (out ++ l) else (2001, [])
  | 0, [], r, out, _, h => by rw [lits_nil, List.nil_append, if_pos (by simpa using h), List.append_nil]
  | 0, _ :: _, _, _, h, _ => by simp at h
  | k + 1, l, r, out, hk, h => by
    by_cases h0 : l.length = 0
    · rw [List.eq_nil_of_length_eq_zero h0, lits_nil, List.nil_append, if_pos (by simpa using h), List.append_nil]
    · rw [lits_step (by omega)]
      obtain ⟨n, hn⟩ : ∃ n, n = min 128 l.length := ⟨_, rfl⟩
      rw [← hn, List.cons_append, dec_cons]
      have hc : (UInt8.ofNat (n - 1)).toNat = n - 1 := by simp [UInt8.toNat_ofNat']; omega
      have hlen : ((l.take n ++ lits (l.drop n)) ++ r).length = n + ((lits (l.drop n)).length + r.length) := by
        simp only [List.length_append, List.length_take]; omega
      rw [hc, if_pos (by omega), if_neg (by omega), show n - 1 + 1 = n by omega]
      have e1 : ((l.take n ++ lits (l.drop n)) ++ r).drop n = lits (l.drop n) ++ r := by
        rw [List.append_assoc, List.drop_append_of_le_length (by rw [List.length_take]; omega), List.drop_of_length_le (by rw [List.length_take]; omega), List.nil_append]
      have e2 : ((l.take n ++ lits (l.drop n)) ++ r).take n = l.take n := by
        rw [List.append_assoc, List.take_append_of_le_length (by rw [List.length_take]; omega), List.take_take, Nat.min_self]
      rw [e1, e2]
      by_cases hm : most < out.length + n
      · rw [if_pos hm, if_neg (by omega)]
      · rw [if_neg hm, dec_lits most k (l.drop n) r (out ++ l.take n) (by rw [List.length_drop]; omega) (by rw [List.length_append, List.length_take]; omega)]
        rw [List.length_append, List.length_take, List.length_drop, List.append_assoc, List.take_append_drop]
        by_cases ht : out.length + l.length ≤ most
        · rw [if_pos ht, if_pos (by omega)]
        · rw [if_neg ht, if_neg (by omega)]
theorem lcp_at : ∀ (n : Nat) (a b : List UInt8), n ≤ lcp a b → ∀ k, k < n → ∃ c, a[k]? = some c ∧ b[k]? = some c := by
  intro n a b h k hk
  exact (lcp_next (a := a) (b := b) (n := k) (by omega)).1 (by omega)
theorem copyN_take (s : List UInt8) (i d : Nat) (hd : 1 ≤ d) (hdi : d ≤ i) : ∀ n, i + n ≤ s.length → n ≤ lcp (s.drop i) (s.drop (i - d)) → copyN (s.take i) d n = s.take (i + n)
  | 0, _, _ => rfl
  | n + 1, h1, h2 => by
    rw [copyN, copyN_take s i d hd hdi n (by omega) (by omega)]
    obtain ⟨c, hc1, hc2⟩ := lcp_at (n + 1) _ _ h2 n (by omega)
    rw [List.getElem?_drop] at hc1 hc2
    have hl : (s.take (i + n)).length = i + n := by rw [List.length_take]; omega
    rw [hl, show i + (n + 1) = (i + n) + 1 by omega, List.take_add_one, hc1]
    congr 1
    rw [List.getD_eq_getElem?_getD, List.getElem?_take, if_pos (by omega), show i + n - d = i - d + n by omega, hc2]
    rfl
theorem dec_comp (most : Nat) (s : List UInt8) : ∀ (k i st : Nat), s.length - i ≤ k → st ≤ i → i ≤ s.length → st ≤ most → dec most (comp s i st) (s.take st) = if s.length ≤ most then (0, s) else (2001, []) := by
  have fin : ∀ i st : Nat, s.length ≤ i → st ≤ i → i ≤ s.length → st ≤ most → dec most (comp s i st) (s.take st) = if s.length ≤ most then (0, s) else (2001, []) := by
    intro i st hi hst hi2 hm
    have hl : (s.take st).length = st := by rw [List.length_take]; omega
    rw [comp_end hi, ← List.append_nil (lits (s.drop st)), dec_lits most _ _ _ _ (Nat.le_refl _) (by rw [hl]; exact hm), hl, List.length_drop, dec_nil, List.take_append_drop]
    by_cases h : s.length ≤ most
    · rw [if_pos h, if_pos (by omega)]
    · rw [if_neg h, if_neg (by omega)]
  intro k
  induction k with
  | zero => exact fun i st hk hst hi hm => fin i st (by omega) hst hi hm
  | succ k ih =>
    intro i st hk hst hi hm
    by_cases hil : s.length ≤ i
    · exact fin i st hil hst hi hm
    · by_cases hmt : (mat s i).2 = 0
      · rw [comp_skip (by omega) hmt]
        exact ih (i + 1) st (by omega) (by omega) (by omega) hm
      · rw [comp_match (by omega) hmt]
        have hp := mat_pos hmt
        have hl : (s.take st).length = st := by rw [List.length_take]; omega
        have hlt : ((s.drop st).take (i - st)).length = i - st := by rw [List.length_take, List.length_drop]; omega
        rw [dec_lits most _ _ _ _ (Nat.le_refl _) (by rw [hl]; exact hm), hl, hlt]
        have et : s.take st ++ (s.drop st).take (i - st) = s.take i := by
          rw [← List.take_add, show st + (i - st) = i by omega]
        rw [et]
        by_cases him : st + (i - st) ≤ most
        · rw [if_pos him, dec_cons]
          have hli : (s.take i).length = i := by rw [List.length_take]; omega
          have hc : (UInt8.ofNat (124 + (mat s i).2)).toNat = 124 + (mat s i).2 := by simp [UInt8.toNat_ofNat']; omega
          have hd : (UInt8.ofNat (mat s i).1).toNat = (mat s i).1 := by simp [UInt8.toNat_ofNat']; omega
          rw [hc, if_neg (by omega), if_pos (by omega)]
          simp only
          rw [hd, hli, if_neg (by omega), show 124 + (mat s i).2 - 124 = (mat s i).2 by omega]
          have hlc : (mat s i).2 ≤ lcp (s.drop i) (s.drop (i - (mat s i).1)) := by
            have := hp.2.2.2.2.2.2
            unfold mlen at this; omega
          rw [copyN_take s i _ hp.2.2.2.1 hp.2.2.2.2.2.1 _ (by omega) hlc]
          by_cases hin : most < i + (mat s i).2
          · rw [if_pos hin, if_neg (by omega)]
          · rw [if_neg hin]
            exact ih (i + (mat s i).2) (i + (mat s i).2) (by omega) (Nat.le_refl _) (by omega) (by omega)
        · rw [if_neg him, if_neg (by omega)]
/-- What is compressed comes back, within the least limit that permits it. -/
theorem back (most : Nat) (s : List UInt8) : dec most (compress s) [] = if s.length ≤ most then (0, s) else (2001, []) := by
  have := dec_comp most s s.length 0 0 (by omega) (Nat.le_refl _) (Nat.zero_le _) (Nat.zero_le _)
  exact this
theorem comp_len (s : List UInt8) : ∀ (k i st : Nat), s.length - i ≤ k → st ≤ i → i ≤ s.length → (comp s i st).length ≤ (s.length - st) + (s.length - st + 127) / 128 := by
  have fin : ∀ i st : Nat, s.length ≤ i → st ≤ i → (comp s i st).length ≤ (s.length - st) + (s.length - st + 127) / 128 := by
    intro i st hi hst
    rw [comp_end hi, lits_len _ _ (Nat.le_refl _), List.length_drop]
    exact Nat.le_refl _
  intro k
  induction k with
  | zero => exact fun i st hk hst hi => fin i st (by omega) hst
  | succ k ih =>
    intro i st hk hst hi
    by_cases hil : s.length ≤ i
    · exact fin i st hil hst
    · by_cases hmt : (mat s i).2 = 0
      · rw [comp_skip (by omega) hmt]
        exact ih (i + 1) st (by omega) (by omega) (by omega)
      · rw [comp_match (by omega) hmt]
        have hp := mat_pos hmt
        have h2 := ih (i + (mat s i).2) (i + (mat s i).2) (by omega) (Nat.le_refl _) (by omega)
        rw [List.length_append, lits_len _ _ (Nat.le_refl _), List.length_take, List.length_drop, List.length_cons, List.length_cons]
        omega
theorem compress_len (s : List UInt8) : (compress s).length ≤ s.length + (s.length + 127) / 128 := comp_len s s.length 0 0 (by omega) (Nat.le_refl _) (Nat.zero_le _)
/-! ### a pattern that repeats -/
theorem per_lcp : ∀ (a b : List UInt8), (∀ k, k < a.length → a[k]? = b[k]?) → lcp a b = a.length
  | [], b, _ => by simp [lcp]
  | x :: a, [], h => by have := h 0 (by simp); simp at this
  | x :: a, y :: b, h => by
    have h0 := h 0 (by simp)
    simp at h0
    subst h0
    unfold lcp
    rw [if_pos rfl, per_lcp a b (fun k hk => by have := h (k + 1) (by simpa using hk); simpa using this)]
    rfl
/-- Each byte from p on is the one p places before. -/
def Per (s : List UInt8) (p : Nat) : Prop := ∀ k, p ≤ k → k < s.length → s[k]? = s[k - p]?
theorem per_mat {s : List UInt8} {p i : Nat} (hp : Per s p) (h1 : 1 ≤ p) (h2 : p ≤ 255) (hi : p ≤ i) (h4 : 4 ≤ s.length - i) : (mat s i).2 = min 67 (s.length - i) := by
  have hl : lcp (s.drop i) (s.drop (i - p)) = s.length - i := by
    rw [per_lcp _ _ (fun k hk => ?_), List.length_drop]
    rw [List.length_drop] at hk
    rw [List.getElem?_drop, List.getElem?_drop, hp (i + k) (by omega) (by omega)]
    congr 1; omega
  have hm : mlen s i p = min 67 (s.length - i) := by unfold mlen; rw [hl]
  have hb := best_max s i (min 255 i) p h1 (by omega)
  have hs := best_spec s i (min 255 i)
  unfold mat floor4
  rw [if_neg (by omega)]
  omega
theorem per_rest {s : List UInt8} {p : Nat} (hp : Per s p) (h1 : 1 ≤ p) (h2 : p ≤ 255) : ∀ (k i st : Nat), s.length - i ≤ k → st ≤ i → i ≤ s.length → p ≤ i → i - st ≤ 100 → (comp s i st).length ≤ (if st < i then i - st + 1 else 0) + 2 * ((s.length - i) / 67) + 4 := by
  have fin : ∀ i st : Nat, s.length ≤ i → st ≤ i → i ≤ s.length → i - st ≤ 104 → (comp s i st).length ≤ (if st < i then i - st + 1 else 0) := by
    intro i st hi hst hi2 h100
    rw [comp_end hi, lits_len _ _ (Nat.le_refl _), List.length_drop]
    split <;> omega
  intro k
  induction k with
  | zero =>
    intro i st hk hst hi hpi h100
    have := fin i st (by omega) hst hi (by omega)
    omega
  | succ k ih =>
    intro i st hk hst hi hpi h100
    by_cases h4 : 4 ≤ s.length - i
    · have hm := per_mat hp h1 h2 hpi h4
      rw [comp_match (by omega) (by omega)]
      have h3 := ih (i + (mat s i).2) (i + (mat s i).2) (by omega) (Nat.le_refl _) (by omega) (by omega) (by omega)
      rw [if_neg (by omega)] at h3
      rw [List.length_append, lits_len _ _ (Nat.le_refl _), List.length_take, List.length_drop, List.length_cons, List.length_cons]
      by_cases h67 : s.length - i ≤ 67
      · have hlast : (comp s (i + (mat s i).2) (i + (mat s i).2)).length = 0 := by
          have := fin (i + (mat s i).2) (i + (mat s i).2) (by omega) (Nat.le_refl _) (by omega) (by omega)
          rw [if_neg (by omega)] at this; omega
        split <;> omega
      · split <;> omega
    · -- fewer than four bytes are left: all literal
      have all : ∀ (j i : Nat), s.length - i ≤ j → i ≤ s.length → ¬ 4 ≤ s.length - i → comp s i st = lits (s.drop st) := by
        intro j
        induction j with
        | zero => exact fun i hj hi _ => comp_end (by omega)
        | succ j ihj =>
          intro i hj hi h4
          by_cases hil : s.length ≤ i
          · exact comp_end hil
          · have hz : (mat s i).2 = 0 := by
              rcases mat_spec s i with h | h
              · rw [h]
              · omega
            rw [comp_skip (by omega) hz]
            exact ihj (i + 1) (by omega) (by omega) (by omega)
      rw [all _ i (Nat.le_refl _) hi h4, lits_len _ _ (Nat.le_refl _), List.length_drop]
      split <;> omega
theorem per_head {s : List UInt8} {p : Nat} (hp : Per s p) (h1 : 1 ≤ p) (h2 : p ≤ 20) (h4 : 4 * p ≤ s.length) : ∀ (k i st : Nat), p - i ≤ k → st ≤ i → i ≤ p → (comp s i st).length ≤ 2 * (s.length / 67) + 4 + (p - st) + 4
  | 0, i, st, hk, hst, hi => by
    have := per_rest hp h1 (by omega) s.length i st (by omega) hst (by omega) (by omega) (by omega)
    have h5 := Nat.div_le_div_right (c := 67) (show s.length - i ≤ s.length by omega)
    split at this <;> omega
  | k + 1, i, st, hk, hst, hi => by
    by_cases hip : p ≤ i
    · have := per_rest hp h1 (by omega) s.length i st (by omega) hst (by omega) (by omega) (by omega)
      have h5 := Nat.div_le_div_right (c := 67) (show s.length - i ≤ s.length by omega)
      split at this <;> omega
    · by_cases hmt : (mat s i).2 = 0
      · rw [comp_skip (by omega) hmt]
        exact per_head hp h1 h2 h4 k (i + 1) st (by omega) (by omega) (by omega)
      · rw [comp_match (by omega) hmt]
        have hq := mat_pos hmt
        rw [List.length_append, lits_len _ _ (Nat.le_refl _), List.length_take, List.length_drop, List.length_cons, List.length_cons]
        by_cases hin : i + (mat s i).2 ≤ p
        · have h3 := per_head hp h1 h2 h4 k (i + (mat s i).2) (i + (mat s i).2) (by omega) (Nat.le_refl _) hin
          omega
        · have h3 := per_rest hp h1 (by omega) s.length (i + (mat s i).2) (i + (mat s i).2) (by omega) (Nat.le_refl _) (by omega) (by omega) (by omega)
          rw [if_neg (by omega)] at h3
          have h5 := Nat.div_le_div_right (c := 67) (show s.length - (i + (mat s i).2) ≤ s.length by omega)
          omega
theorem runs {s : List UInt8} {p : Nat} (hp : Per s p) (h1 : 1 ≤ p) (h2 : p ≤ 20) (h4 : 4 * p ≤ s.length) : (compress s).length ≤ 2 * p + 2 + 2 * (s.length / 67 + 2) := by
  by_cases hp1 : p = 1
  · subst hp1
    have hz : (mat s 0).2 = 0 := by
      rcases mat_spec s 0 with h | h
      · rw [h]
      · omega
    unfold compress
    rw [comp_skip (by omega) hz]
    show (comp s 1 0).length ≤ _
    have := per_rest hp h1 (by omega) s.length 1 0 (by omega) (by omega) (by omega) (by omega) (by omega)
    have h5 := Nat.div_le_div_right (c := 67) (show s.length - 1 ≤ s.length by omega)
    rw [if_pos (by omega)] at this
    omega
  · have := per_head hp h1 h2 h4 p 0 0 (by omega) (Nat.le_refl _) (by omega)
    unfold compress
    omega
/-- A pattern, many times. -/
def reps (p : List UInt8) : Nat → List UInt8
  | 0 => []
  | n + 1 => reps p n ++ p
theorem reps_len (p : List UInt8) : ∀ n, (reps p n).length = n * p.length
  | 0 => by simp [reps]
  | n + 1 => by rw [reps, List.length_append, reps_len p n, Nat.succ_mul]
theorem reps_head (p : List UInt8) : ∀ n, reps p (n + 1) = p ++ reps p n
  | 0 => by simp [reps]
  | n + 1 => by
    show reps p (n + 1) ++ p = p ++ (reps p n ++ p)
    rw [reps_head p n, List.append_assoc]
theorem reps_per (p : List UInt8) (n : Nat) (h : 1 ≤ p.length) : Per (reps p n) p.length := by
  intro k hk hl
  cases n with
  | zero => simp [reps] at hl
  | succ n =>
    rw [reps_len] at hl
    have e1 : (reps p (n + 1))[k]? = (reps p n)[k - p.length]? := by
      rw [reps_head, List.getElem?_append_right hk]
    have e2 : (reps p (n + 1))[k - p.length]? = (reps p n)[k - p.length]? := by
      rw [reps, List.getElem?_append_left]
      rw [reps_len]
      rw [Nat.succ_mul] at hl; omega
    rw [e1, e2]
end Cp
end Go.Proofs.Ytgfbfmgdlbdlhaa
