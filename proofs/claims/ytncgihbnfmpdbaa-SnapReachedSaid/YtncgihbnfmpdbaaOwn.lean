/-
  Rows of the call's own, written in place: over any program.
-/
import Derived.Test.YtncgihbnfmpdbaaSl
set_option linter.unusedVariables false
namespace Go.Proofs.Ytncgihbnfmpdbaa
open Go.RowKit
theorem flat_set {α : Type} {s : Nat} {f : α → List Value} (hf : ∀ x, (f x).length = s) : ∀ (L : List α) (k : Nat) (hk : k < L.length) (i : Nat) (u : Value) (x : α), i < s → f x = (f L[k]).set i u → (L.set k x).flatMap f = (L.flatMap f).set (k * s + i) u
  | [], k, hk, _, _, _, _, _ => by simp at hk
  | y :: L, 0, hk, i, u, x, hi, hx => by
    simp only [List.set_cons_zero, List.flatMap_cons, Nat.zero_mul, Nat.zero_add]
    rw [List.set_append, if_pos (by rw [hf]; exact hi)]
    congr 1
  | y :: L, k + 1, hk, i, u, x, hi, hx => by
    have hk' : k < L.length := by simpa using hk
    simp only [List.set_cons_succ, List.flatMap_cons]
    rw [flat_set hf L k hk' i u x hi (by simpa using hx), List.set_append, if_neg (by rw [hf, Nat.add_mul]; omega), hf]
    congr 2
    rw [Nat.add_mul]; omega
/-- The block of a row of the call's own that is not empty, and each of its cells. -/
theorem Own.slot {α : Type} {e : TypeId} {s : Nat} {f : α → List Value} (hf : ∀ x, (f x).length = s) {base : Nat} {w : World} {A : Option Addr} {n cap : Nat} {L : List α} (h : Own e s f base w (.slice A n cap) L) (hs : 0 < s) {k : Nat} (hk : k < L.length) :
    ∃ g, A = some ⟨g, 0, none⟩ ∧ base ≤ g ∧ g < w.heap.size ∧ ∀ i, i < s → w.frozen? ⟨g, k * s + i, none⟩ = false ∧ ∀ v, (f L[k])[i]? = some v → w.cell? ⟨g, k * s + i, none⟩ = some v := by
  have hfl : (L.flatMap f).length = L.length * s := flat_len hf L
  rcases h.2 with ⟨he, h0⟩ | ⟨g, cp, cur, he, q1, q2, q3, q4, q5, q6⟩
  · omega
  · injection he with e1 e2 e3
    subst e1
    refine ⟨g, rfl, q1, (Array.getElem?_eq_some_iff.1 q2).1, fun i hi => ⟨by simp [World.frozen?, q2], fun v hv => ?_⟩⟩
    have hfa := flat_at hf L k hk i hi
    rw [hv] at hfa
    have hlt : k * s + i < L.length * s := by
      have := (List.getElem?_eq_some_iff.1 hfa).1
      omega
    rw [← q6, List.getElem?_take, if_pos (by exact hlt)] at hfa
    simp only [World.cell?, q2]
    simpa using hfa
/-- A cell of such a row, stored. -/
theorem Own.put {α : Type} {e : TypeId} {s : Nat} {f : α → List Value} (hf : ∀ x, (f x).length = s) {base : Nat} {w : World} {g n cap : Nat} {L : List α} (h : Own e s f base w (.slice (some ⟨g, 0, none⟩) n cap) L) {k : Nat} (hk : k < L.length) {i : Nat} (hi : i < s) (u : Value) (x : α)
    (hx : f x = (f L[k]).set i u) : Own e s f base (w.setCell ⟨g, k * s + i, none⟩ u) (.slice (some ⟨g, 0, none⟩) n cap) (L.set k x) := by
  have hfl : (L.flatMap f).length = L.length * s := flat_len hf L
  refine ⟨by rw [List.length_set]; exact flat_len hf _ |>.trans (by rw [List.length_set]), .inr ?_⟩
  rcases h.2 with ⟨he, h0⟩ | ⟨g', cp, cur, he, q1, q2, q3, q4, q5, q6⟩
  · cases he
  · injection he with e1 e2 e3
    injection e1 with e1
    injection e1 with e1
    subst e1 e2 e3
    refine ⟨g, cap, cur.setIfInBounds (k * s + i) u, ?_, q1, ?_, ?_, q4, ?_, ?_⟩
    · rw [List.length_set]
    · simp only [World.setCell]
      rw [Array.getElem?_modify, if_pos rfl, q2]; rfl
    · rw [List.length_set]; exact q3
    · rw [Array.size_setIfInBounds]; exact q5
    · rw [flat_set hf L k hk i u x hi hx, ← q6, List.length_set, Array.toList_setIfInBounds, List.take_set]
/-- A row is not touched by a store elsewhere. -/
theorem Own.far {α : Type} {e : TypeId} {s : Nat} {f : α → List Value} {base : Nat} {w : World} {v : Value} {L : List α} (h : Own e s f base w v L) {c j : Nat} {u : Value} (hc : v.ownBlock ≠ some c) : Own e s f base (w.setCell ⟨c, j, none⟩ u) v L := by
  refine ⟨h.1, h.2.imp id ?_⟩
  rintro ⟨g, cp, cur, rfl, q1, q2, q3⟩
  refine ⟨g, cp, cur, rfl, q1, ?_, q3⟩
  simp only [World.setCell]
  rw [Array.getElem?_modify, if_neg (fun e => hc (by rw [e]; rfl))]
  exact q2
end Go.Proofs.Ytncgihbnfmpdbaa
