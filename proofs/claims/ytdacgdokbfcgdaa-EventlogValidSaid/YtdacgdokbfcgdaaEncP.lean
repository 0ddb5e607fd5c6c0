/-
  Plain laws, no program in sight: the encoding of a log segment.
-/
import Derived.Test.YtdacgdokbfcgdaaEv
set_option linter.unusedVariables false
namespace Go.Proofs.Ytdacgdokbfcgdaa.Enc
open Go.RowKit
/-- An entry: its position, and its event's kind, number and data. -/
structure Ent where
  t : Nat
  k : Int
  n : Int
  d : ByteArray
def entC (x : Ent) : List Value := [.int .u64 (x.t : Int), .int .i64 x.k, .int .u32 x.n, .string x.d]
theorem entC_len (x : Ent) : (entC x).length = 4 := rfl
theorem entC_one (x : Ent) : ∀ u ∈ entC x, u.oneCell' = true := by
  intro u hu
  simp only [entC, List.mem_cons, List.not_mem_nil, or_false] at hu
  rcases hu with rfl | rfl | rfl | rfl <;> rfl
/-- The fields lie in their types. -/
structure EntOK (x : Ent) : Prop where
  t : x.t < 18446744073709551616
  k1 : -9223372036854775808 ≤ x.k
  k2 : x.k ≤ 9223372036854775807
  n1 : 0 ≤ x.n
  n2 : x.n ≤ 4294967295
  d : (x.d.size : Int) ≤ 9223372036854775807
def okX (x : Ent) : Bool := Ev.ok x.k x.n x.d.data.toList
def encE (k n : Int) (d : List UInt8) : List UInt8 :=
  if k = 1 ∨ k = 3 ∨ k = 6 then Uv.put k.toNat ++ Uv.put n.toNat else if k = 4 then Uv.put k.toNat ++ Uv.put n.toNat ++ (Uv.put d.length ++ d)
  else if k = 5 then Uv.put k.toNat ++ (Uv.put d.length ++ d) else Uv.put k.toNat
/-- y may not stand behind x. -/
def adj (x y : Ent) : Bool := decide (y.t < x.t) || (decide (y.t = x.t) && decide (x.k = 1))
def ordTo (L : List Ent) : Nat → Bool
  | 0 => true
  | k + 1 => ordTo L k && (match L[k]?, L[k + 1]? with | some x, some y => !adj x y | _, _ => true)
def ord (L : List Ent) : Bool := ordTo L (L.length - 1)
def lastT (f : Nat) (L : List Ent) : Nat := match L.getLast? with | some x => x.t | none => f
def encF (f : Nat) : List Ent → List UInt8
  | [] => []
  | x :: L => Uv.put (x.t - f) ++ encE x.k x.n x.d.data.toList ++ encF x.t L
def early (L : List Ent) (f : Nat) : Bool := match L[0]? with | some x => decide (x.t < f) | none => false
def encode (L : List Ent) (f : Nat) : List UInt8 × Int :=
  if 400 < L.length then ([], 1902) else if L.all okX = false then ([], 1900) else if (!ord L || early L f) = true then ([], 1901)
  else if 65536 < (Uv.put L.length ++ encF f L).length then ([], 1902) else (Uv.put L.length ++ encF f L, 0)
theorem lastT_snoc (f : Nat) (L : List Ent) (x : Ent) : lastT f (L ++ [x]) = x.t := by simp [lastT]
theorem encF_snoc (x : Ent) : ∀ (L : List Ent) (f : Nat), encF f (L ++ [x]) = encF f L ++ (Uv.put (x.t - lastT f L) ++ encE x.k x.n x.d.data.toList)
  | [], f => by simp [encF, lastT]
  | [y], f => by simp [encF, lastT]
  | y :: z :: L, f => by
    have ih := encF_snoc x (z :: L) y.t
    have e1 : lastT f (y :: z :: L) = lastT y.t (z :: L) := by simp [lastT, List.getLast?_cons]
    rw [e1]
    show Uv.put (y.t - f) ++ encE y.k y.n y.d.data.toList ++ encF y.t ((z :: L) ++ [x]) = _
    rw [ih]
    simp [encF]
theorem take_next {α : Type} (L : List α) (q : Nat) (h : q < L.length) : L.take (q + 1) = L.take q ++ [L[q]] := List.take_succ_eq_append_getElem h
theorem encF_next (L : List Ent) (f q : Nat) (h : q < L.length) : encF f (L.take (q + 1)) = encF f (L.take q) ++ (Uv.put (L[q].t - lastT f (L.take q)) ++ encE L[q].k L[q].n L[q].d.data.toList) := by
  rw [take_next L q h, encF_snoc]
theorem lastT_next (L : List Ent) (f q : Nat) (h : q < L.length) : lastT f (L.take (q + 1)) = L[q].t := by
  rw [take_next L q h, lastT_snoc]
theorem ordTo_mono {L : List Ent} {j k : Nat} (h : ordTo L k = true) (hj : j ≤ k) : ordTo L j = true := by
  induction k with
  | zero => obtain rfl : j = 0 := by omega
            rfl
  | succ k ih =>
    unfold ordTo at h
    rw [Bool.and_eq_true] at h
    by_cases e : j = k + 1
    · subst e; unfold ordTo; rw [h.1, h.2]; rfl
    · exact ih h.1 (by omega)
theorem ordTo_no {L : List Ent} {j k : Nat} (h : ordTo L j = false) (hj : j ≤ k) : ordTo L k = false := by
  cases hk : ordTo L k
  · rfl
  · rw [ordTo_mono hk hj] at h; cases h
theorem ordTo_next {L : List Ent} {k : Nat} (h : k + 1 < L.length) : ordTo L (k + 1) = (ordTo L k && !adj L[k] L[k + 1]) := by
  rw [ordTo, List.getElem?_eq_getElem (by omega), List.getElem?_eq_getElem h]
theorem last_le {L : List Ent} {f q : Nat} (ho : ord L = true) (he : early L f = false) (h : q < L.length) : lastT f (L.take q) ≤ L[q].t := by
  cases q with
  | zero =>
    unfold early at he
    rw [List.getElem?_eq_getElem h] at he
    simp [lastT] at he ⊢
    exact he
  | succ q =>
    rw [lastT_next L f q (by omega)]
    have := ordTo_mono ho (j := q + 1) (by omega)
    rw [ordTo_next (by omega), Bool.and_eq_true] at this
    have := this.2
    simp only [adj, Bool.not_eq_true', Bool.or_eq_false_iff, decide_eq_false_iff_not] at this
    omega
theorem ok_bd {k n : Int} {d : List UInt8} (h : Ev.ok k n d = true) : 1 ≤ k ∧ k ≤ 6 ∧ d.length ≤ 128 := by
  unfold Ev.ok Ev.okE at h
  by_cases hd : d = []
  · subst hd
    simp at h
    refine ⟨?_, ?_, by simp⟩ <;> (repeat' split at h) <;> first | omega | (simp at h)
  · simp [hd] at h
    have : d.length ≤ 128 := by (repeat' split at h) <;> first | omega | (simp at h <;> omega)
    refine ⟨?_, ?_, this⟩ <;> (repeat' split at h) <;> first | omega | (simp at h)
theorem encE_len {k n : Int} {d : List UInt8} (hk : 1 ≤ k) (hk6 : k ≤ 6) (hn : 0 ≤ n) (hn2 : n ≤ 4294967295) (hd : d.length ≤ 128) : (encE k n d).length ≤ 158 := by
  have h1 := Uv.put_len k.toNat (by omega)
  have h2 := Uv.put_len n.toNat (by omega)
  have h3 := Uv.put_len d.length (by omega)
  unfold encE
  split
  · rw [List.length_append]; omega
  · split
    · rw [List.length_append, List.length_append, List.length_append]; omega
    · split
      · rw [List.length_append, List.length_append]; omega
      · omega
theorem encF_len {L : List Ent} (hx : ∀ x ∈ L, EntOK x ∧ okX x = true) : ∀ f, (encF f L).length ≤ 168 * L.length := by
  induction L with
  | nil => intro f; simp [encF]
  | cons x L ih =>
    intro f
    have h1 := hx x (by simp)
    have hb := ok_bd h1.2
    have h2 := encE_len hb.1 hb.2.1 h1.1.n1 h1.1.n2 hb.2.2
    have h3 := Uv.put_len (x.t - f) (by have := h1.1.t; omega)
    have h4 := ih (fun y hy => hx y (by simp [hy])) x.t
    unfold encF
    rw [List.length_append, List.length_append, List.length_cons]
    omega
end Go.Proofs.Ytdacgdokbfcgdaa.Enc
