/-
  Plain laws for SwitchLearns: the ports to which a frame goes; a slice cut short.
-/
import Derived.Test.YtnmhmjcpiijkcaaLawSw
set_option linter.unusedVariables false
namespace Go.Proofs.Ytnmhmjcpiijkcaa
open Go.RowKit
namespace Net
/-- What the law asks of the ports O: none is pt, all are ports, they rise, and all are the target where there is one. -/
structure Good (P pt t : Int) (O : List Int) : Prop where
  at_ : ∀ k (h : k < O.length), ¬ O[k] = pt ∧ 0 ≤ O[k] ∧ O[k] < P ∧ (0 ≤ t → O[k] = t)
  rise : ∀ k (h : k + 1 < O.length), O[k] < O[k + 1]
theorem floodN_mem (pt : Int) : ∀ n x, x ∈ floodN pt n → 0 ≤ x ∧ x < n ∧ ¬ x = pt
  | 0, x, h => by simp [floodN] at h
  | n + 1, x, h => by
    unfold floodN at h
    split at h
    · have := floodN_mem pt n x h; omega
    · rename_i hne
      rcases List.mem_append.1 h with h | h
      · have := floodN_mem pt n x h; omega
      · simp at h; subst h; omega
theorem floodN_rise (pt : Int) : ∀ n k (h : k + 1 < (floodN pt n).length), (floodN pt n)[k] < (floodN pt n)[k + 1]
  | 0, k, h => by simp [floodN] at h
  | n + 1, k, h => by
    by_cases hp : (n : Int) = pt
    · have e : floodN pt (n + 1) = floodN pt n := if_pos hp
      have := floodN_rise pt n k (by rw [← e]; exact h)
      simp only [e]; exact this
    · have e : floodN pt (n + 1) = floodN pt n ++ [(n : Int)] := if_neg hp
      have hl : k + 1 < (floodN pt n ++ [(n : Int)]).length := by rw [← e]; exact h
      simp only [e]
      rw [List.length_append, List.length_singleton] at hl
      by_cases hk : k + 1 < (floodN pt n).length
      · rw [List.getElem_append_left (by omega), List.getElem_append_left hk]
        exact floodN_rise pt n k hk
      · rw [List.getElem_append_left (by omega), List.getElem_append_right (by omega)]
        simp only [List.getElem_singleton]
        exact (floodN_mem pt n _ (List.getElem_mem _)).2.1
theorem floodN_count (pt : Int) : ∀ n : Nat, 0 ≤ pt → ((floodN pt n).length : Int) = if pt < n then (n : Int) - 1 else n
  | 0, h => by rw [if_neg (by omega)]; rfl
  | n + 1, h => by
    have ih := floodN_count pt n h
    unfold floodN
    by_cases hp : (n : Int) = pt
    · rw [if_pos hp, ih, if_neg (by omega), if_pos (by omega)]; omega
    · rw [if_neg hp, List.length_append, List.length_singleton]
      by_cases hlt : pt < n
      · rw [if_pos hlt] at ih; rw [if_pos (by omega)]; omega
      · rw [if_neg hlt] at ih; rw [if_neg (by omega)]; omega
theorem outs_good {P pt : Int} {M : List Lr} (hv : VS P M) (to : Nat) (h0 : 0 ≤ pt) (h1 : pt < P) : Good P pt (tgt M to) (outs P pt M to) ∧
    ((outs P pt M to).length : Int) = (if tgt M to = pt then 0 else if 0 ≤ tgt M to then 1 else P - 1) ∧ (tgt M to = -1 ∨ 0 ≤ tgt M to ∧ tgt M to < P) := by
  have ht : tgt M to = -1 ∨ 0 ≤ tgt M to ∧ tgt M to < P := by
    by_cases h : ∃ x ∈ M, x.a = to
    · obtain ⟨x, hx, hxa⟩ := h
      have := tgtF_hit to M (-1) hv.dis x hx hxa
      have := (hv.ent x hx).2
      right; unfold tgt; omega
    · exact .inl (tgtF_none _ _ _ (fun x hx e => h ⟨x, hx, e⟩))
  have hP := hv.lo
  unfold outs
  generalize tgt M to = t at ht ⊢
  by_cases h2 : t = -1
  · subst h2
    rw [if_pos rfl, if_neg (by omega), if_neg (by omega)]
    refine ⟨⟨fun k hk => ?_, fun k hk => floodN_rise pt _ k hk⟩, ?_, .inl rfl⟩
    · have := floodN_mem pt P.toNat _ (List.getElem_mem hk)
      exact ⟨this.2.2, this.1, by have h9 := this.2.1; omega, fun h => by omega⟩
    · unfold flood
      rw [floodN_count pt P.toNat h0, if_pos (by omega)]; omega
  · rw [if_neg h2]
    by_cases h3 : t = pt
    · rw [if_pos h3, if_pos h3]
      exact ⟨⟨fun k hk => by simp at hk, fun k hk => by simp at hk⟩, rfl, ht⟩
    · rw [if_neg h3, if_neg h3, if_pos (by omega)]
      refine ⟨⟨fun k hk => ?_, fun k hk => by simp at hk⟩, rfl, ht⟩
      simp at hk
      subst hk
      exact ⟨h3, by show 0 ≤ t; omega, by show t < P; omega, fun _ => rfl⟩
/-- A slice of the call's own, cut short. -/
theorem own_take {B : Nat} {w : World} {A : Option Addr} {n cap m : Nat} {L : List Lr} (h : Own 35 2 lrC B w (.slice A n cap) L) (hm : m = min n 16) : Own 35 2 lrC B w (.slice A m cap) (L.take 16) := by
  have hr := (h.reads lrC_len).2.1
  have hlen : (L.take 16).length = m := by rw [List.length_take, hm, hr]; omega
  refine ⟨flat_len lrC_len _, ?_⟩
  rw [hlen]
  rcases h.2 with ⟨he, h0⟩ | ⟨g, cp, cur, he, q1, q2, q3, q4, q5, q6⟩
  · injection he with e1 e2 e3
    subst e1 e2 e3
    left
    have hm0 : m = 0 := by omega
    subst hm0
    exact ⟨rfl, rfl⟩
  · injection he with e1 e2 e3
    subst e1 e3
    right
    refine ⟨g, cap, cur, rfl, q1, q2, by omega, q4, q5, ?_⟩
    by_cases h16 : L.length ≤ 16
    · rw [List.take_of_length_le h16, ← q6]; congr 1; omega
    · rw [Sg.flat_take lrC_len L 16 (by omega), ← q6, List.take_take]; congr 1; omega
end Net
end Go.Proofs.Ytnmhmjcpiijkcaa
