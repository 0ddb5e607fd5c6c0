/-
  Plain laws, no program in sight: pages of a pager, and the pager (chapter 36).
-/
import Derived.Test.YtgfbfmgdlbdlhaaCpF
set_option linter.unusedVariables false
namespace Go.Proofs.Ytgfbfmgdlbdlhaa.Pg
open Go.RowKit
/-- A page: its state, its data, its mark. -/
structure Pg where
  st : Int
  d : ByteArray
  u : Bool
def pgC (x : Pg) : List Value := [.int .i64 x.st, .string x.d, .bool x.u]
theorem pgC_len (x : Pg) : (pgC x).length = 3 := rfl
theorem pgC_one (x : Pg) : ∀ u ∈ pgC x, u.oneCell' = true := by
  intro u hu
  simp only [pgC, List.mem_cons, List.not_mem_nil, or_false] at hu
  rcases hu with rfl | rfl | rfl <;> rfl
def zip (d : ByteArray) : ByteArray := ⟨(Cp.compress d.data.toList).toArray⟩
def unz (d : ByteArray) : ByteArray := ⟨(Cp.dec 128 d.data.toList []).2.toArray⟩
def unzE (d : ByteArray) : Nat := (Cp.dec 128 d.data.toList []).1
def putOut (d : ByteArray) : Pg := if (zip d).size ≤ 64 then ⟨2, zip d, false⟩ else ⟨3, d, false⟩
def content (x : Pg) : ByteArray := if x.st = 2 then unz x.d else x.d
def okZ (u : Bool) (d : ByteArray) : Bool := if u = true ∨ 64 < d.size then false else decide (unzE d = 0) && (decide ((unz d).size = 128) && decide (zip (unz d) = d))
def okS (u : Bool) (d : ByteArray) : Bool := !u && (decide (d.size = 128) && decide (64 < (zip d).size))
/-- A page has one of the three forms. -/
def okP (x : Pg) : Bool := if x.st = 1 then decide (x.d.size = 128) else if x.st = 2 then okZ x.u x.d else if x.st = 3 then okS x.u x.d else false
def count (st : Int) (L : List Pg) : Nat := (L.filter fun x => decide (x.st = st)).length
def valid (L : List Pg) (lim hand : Int) : Bool :=
  if (L.length : Int) < 1 ∨ 32 < (L.length : Int) ∨ lim < 1 ∨ (L.length : Int) < lim ∨ hand < 0 ∨ (L.length : Int) ≤ hand then false
  else L.all okP && decide ((count 1 L : Int) ≤ lim)
theorem take_next {α : Type} (L : List α) (q : Nat) (h : q < L.length) : L.take (q + 1) = L.take q ++ [L[q]] := List.take_succ_eq_append_getElem h
theorem count_next (st : Int) (L : List Pg) (q : Nat) (h : q < L.length) : count st (L.take (q + 1)) = count st (L.take q) + if L[q].st = st then 1 else 0 := by
  unfold count
  rw [take_next L q h, List.filter_append, List.length_append]
  by_cases hs : L[q].st = st
  · rw [if_pos hs]; simp [hs]
  · rw [if_neg hs]; simp [hs]
theorem count_le (st : Int) (L : List Pg) : count st L ≤ L.length := List.length_filter_le _ _
theorem all_next (p : Pg → Bool) (L : List Pg) (k : Nat) (h : k < L.length) : (L.take (k + 1)).all p = ((L.take k).all p && p L[k]) := by
  rw [take_next L k h, List.all_append]; simp
theorem all_no {p : Pg → Bool} {L : List Pg} {k : Nat} (h : (L.take k).all p = false) : L.all p = false := by
  cases hh : L.all p
  · rfl
  · rw [List.all_eq_true] at hh
    rw [List.all_eq_false] at h
    obtain ⟨x, hx, hn⟩ := h
    exact absurd (hh x (List.mem_of_mem_take hx)) hn
end Go.Proofs.Ytgfbfmgdlbdlhaa.Pg
