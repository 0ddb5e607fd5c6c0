/-
  Plain laws, no program in sight: trees stay valid; what nodes see (chapter 41).
-/
import Derived.Test.YtncgihbnfmpdbaaSnQ
set_option linter.unusedVariables false
set_option linter.unusedSimpArgs false
namespace Go.Proofs.Ytncgihbnfmpdbaa.Sn
theorem kidsTo_mem (N : List Nd) (n : Int) : ∀ (k : Nat) (j : Int), j ∈ kidsTo N n k ↔ ∃ (i : Nat) (x : Nd), j = i ∧ i < k ∧ N[i]? = some x ∧ isKid n x = true
  | 0, j => by simp [kidsTo]
  | k + 1, j => by
    rw [kidsTo, List.mem_append, kidsTo_mem N n k j]
    constructor
    · rintro (⟨i, x, h1, h2, h3, h4⟩ | h)
      · exact ⟨i, x, h1, by omega, h3, h4⟩
      · split at h
        · rename_i x hx
          split at h
          · rename_i hk
            rw [List.mem_singleton] at h
            exact ⟨k, x, h, by omega, hx, hk⟩
          · cases h
        · cases h
    · rintro ⟨i, x, h1, h2, h3, h4⟩
      by_cases e : i = k
      · subst e
        right
        rw [h3]; simp only; rw [if_pos h4]; simp [h1]
      · exact .inl ⟨i, x, h1, by omega, h3, h4⟩
theorem kids_mem {N : List Nd} {n j : Int} : j ∈ kids N n ↔ ∃ (i : Nat) (x : Nd), j = i ∧ N[i]? = some x ∧ isKid n x = true := by
  unfold kids
  rw [kidsTo_mem]
  constructor
  · rintro ⟨i, x, h1, _, h3, h4⟩; exact ⟨i, x, h1, h3, h4⟩
  · rintro ⟨i, x, h1, h3, h4⟩; exact ⟨i, x, h1, (List.getElem?_eq_some_iff.1 h3).1, h3, h4⟩
theorem kids_none {N : List Nd} {n : Int} : (kids N n).isEmpty = true ↔ ∀ (i : Nat) (x : Nd), N[i]? = some x → isKid n x = false := by
  rw [List.isEmpty_iff]
  constructor
  · intro h i x hx
    cases hk : isKid n x
    · rfl
    · have : (i : Int) ∈ kids N n := kids_mem.2 ⟨i, x, rfl, hx, hk⟩
      rw [h] at this; cases this
  · intro h
    refine List.eq_nil_iff_forall_not_mem.2 fun j hj => ?_
    obtain ⟨i, x, _, hx, hk⟩ := kids_mem.1 hj
    rw [h i x hx] at hk; cases hk
/-- Two lists of nodes in which the same nodes are children of n (or in none are). -/
theorem kids_same {N M : List Nd} {n : Int} (h : ∀ i : Nat, (∃ x, N[i]? = some x ∧ isKid n x = true) ↔ (∃ x, M[i]? = some x ∧ isKid n x = true)) : (kids N n).isEmpty = (kids M n).isEmpty := by
  rw [Bool.eq_iff_iff, kids_none, kids_none]
  constructor
  · intro g i x hx
    cases hk : isKid n x
    · rfl
    · obtain ⟨y, hy, hky⟩ := (h i).2 ⟨x, hx, hk⟩
      rw [g i y hy] at hky; cases hky
  · intro g i x hx
    cases hk : isKid n x
    · rfl
    · obtain ⟨y, hy, hky⟩ := (h i).1 ⟨x, hx, hk⟩
      rw [g i y hy] at hky; cases hky
theorem live_iff {x : Nd} : live x = true ↔ ¬ x.nm.size = 0 := by unfold live; simp
theorem ex_iff {N : List Nd} {n : Int} : ex N n = true ↔ ∃ (i : Nat) (x : Nd), n = i ∧ N[i]? = some x ∧ live x = true := by
  unfold ex
  rw [Bool.and_eq_true, decide_eq_true_eq]
  constructor
  · rintro ⟨h1, h2⟩
    obtain ⟨i, rfl⟩ := Int.eq_ofNat_of_zero_le h1
    rw [show ((i : Int)).toNat = i by omega] at h2
    split at h2
    · rename_i x hx; exact ⟨i, x, rfl, hx, h2⟩
    · cases h2
  · rintro ⟨i, x, rfl, hx, hl⟩
    refine ⟨by omega, ?_⟩
    rw [show ((i : Int)).toNat = i by omega, hx]
    exact hl
theorem upd_at {N : List Nd} {i : Nat} {f : Nd → Nd} (j : Nat) : (upd N i f)[j]? = if i = j then (N[j]?).map f else N[j]? := by
  unfold upd
  cases hx : N[i]? with
  | none =>
    simp only
    split
    · rename_i e; subst e; rw [hx]; rfl
    · rfl
  | some x =>
    simp only
    rw [List.getElem?_set]
    split
    · rename_i e; subst e
      rw [if_pos (List.getElem?_eq_some_iff.1 hx).1, hx]; rfl
    · rfl
theorem upd_len {N : List Nd} {i : Nat} {f : Nd → Nd} : (upd N i f).length = N.length := by
  unfold upd; split <;> simp
theorem findTo_none {N : List Nd} {nm : ByteArray} : ∀ k, findTo N nm k = none ↔ ∀ (i : Nat) (x : Nd), i < k → N[i]? = some x → ¬ x.nm = nm
  | 0 => ⟨fun _ i x h => by omega, fun _ => rfl⟩
  | k + 1 => by
    rw [findTo]
    constructor
    · intro h i x hi hx
      cases hf : findTo N nm k with
      | some j => rw [hf] at h; cases h
      | none =>
        rw [hf] at h
        by_cases e : i = k
        · subst e
          rw [hx] at h
          simp only at h
          split at h
          · cases h
          · assumption
        · exact (findTo_none k).1 hf i x (by omega) hx
    · intro h
      rw [(findTo_none k).2 fun i x hi hx => h i x (by omega) hx]
      simp only
      split
      · rename_i x hx
        rw [if_neg (h k x (by omega) hx)]
      · rfl
theorem find_none {N : List Nd} {nm : ByteArray} : (find N nm).isSome = false ↔ ∀ (i : Nat) (x : Nd), N[i]? = some x → ¬ x.nm = nm := by
  unfold find
  rw [Option.isSome_eq_false_iff, Option.isNone_iff_eq_none, findTo_none]
  exact ⟨fun h i x hx => h i x (List.getElem?_eq_some_iff.1 hx).1 hx, fun h i x _ hx => h i x hx⟩
/-- The nodes of a tree with a new one. -/
theorem created_at {N : List Nd} {par : Int} {nm : ByteArray} (j : Nat) : (created N par nm)[j]? = if j < N.length then (N[j]?).map (fun x => if par = j then { x with op := false } else x) else if j = N.length then some ⟨nm, par, true, []⟩ else none := by
  unfold created
  have hl : (if 0 ≤ par then upd N par.toNat (fun x => { x with op := false }) else N).length = N.length := by split <;> simp [upd_len]
  by_cases h1 : j < N.length
  · rw [if_pos h1, List.getElem?_append_left (by omega)]
    split
    · rename_i hp
      obtain ⟨p, rfl⟩ := Int.eq_ofNat_of_zero_le hp
      rw [show ((p : Int)).toNat = p by omega, upd_at]
      by_cases e : p = j
      · subst e; simp
      · rw [if_neg e]
        have : ¬ (p : Int) = j := by omega
        cases N[j]? <;> simp [this]
    · rename_i hp
      have : ¬ par = j := by omega
      cases N[j]? <;> simp [this]
  · rw [if_neg h1, List.getElem?_append_right (by omega), hl]
    by_cases h2 : j = N.length
    · subst h2; rw [if_pos rfl, Nat.sub_self]; rfl
    · rw [if_neg h2]
      exact List.getElem?_eq_none (by simp; omega)
theorem createE_ok {T : Tr} {par : Int} {nm : ByteArray} (h : createE T par nm = 0) : (par = -1 ∨ ex T.nodes par = true) ∧ (find T.nodes nm).isSome = false ∧ T.nodes.length < 12 := by
  unfold createE at h
  split at h
  · simp at h
  · rename_i h1
    split at h
    · simp at h
    · rename_i h2
      split at h
      · simp at h
      · rename_i h3
        exact ⟨Decidable.not_not.1 h1, by simpa using h2, by omega⟩
end Go.Proofs.Ytncgihbnfmpdbaa.Sn
