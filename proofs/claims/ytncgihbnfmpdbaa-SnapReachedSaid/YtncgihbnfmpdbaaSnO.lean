/-
  A sorted list of deltas, cut at a block; a node's deltas turned in memory (chapter 41).
-/
import Derived.Test.YtncgihbnfmpdbaaSnN
set_option linter.unusedVariables false
set_option linter.unusedSimpArgs false
set_option maxRecDepth 100000
namespace Go.Proofs.Ytncgihbnfmpdbaa
open Go.RowKit
/-- A cell of an element of a row. -/
theorem Mem.cellAt {W w : World} {H : List Ck} {α : Type} {e : TypeId} {s : Nat} {f : α → List Value} {base : Nat} (h : Mem W w H) (i : Nat) {g n cap : Nat} {L : List α} (hi : H[i]? = some (.row e s f base (.slice (some ⟨g, 0, none⟩) n cap) L)) (hf : ∀ x, (f x).length = s) (hs : 0 < s) {k : Nat} {y : α} (hk : L[k]? = some y) {j : Nat} (hj : j < s) :
    w.frozen? ⟨g, k * s + j, none⟩ = false ∧ ∀ v, (f y)[j]? = some v → w.cell? ⟨g, k * s + j, none⟩ = some v := by
  obtain ⟨hlt, rfl⟩ := List.getElem?_eq_some_iff.1 hk
  obtain ⟨g', hA, _, h2, h3⟩ := Own.slot hf (h.row i hi) hs hlt
  injection hA with hA
  injection hA with hA
  subst hA
  exact h3 j hj
namespace Sn
theorem drop_ge {ds : List Dl} {b : Int} {k : Nat} (hs : Srt ds) (hge : ∀ d, ds[k]? = some d → b ≤ d.b) : ∀ d ∈ ds.drop k, b ≤ d.b := by
  intro d hd
  obtain ⟨j, hj, rfl⟩ := List.mem_iff_getElem.1 hd
  rw [List.length_drop] at hj
  rw [List.getElem_drop]
  have h1 := hge ds[k] (List.getElem?_eq_getElem (by omega))
  by_cases h0 : j = 0
  · subst h0; exact h1
  · have := List.pairwise_iff_getElem.1 hs k (k + j) (by omega) (by omega) (by omega)
    omega
theorem take_lt {ds : List Dl} {b : Int} {k : Nat} (hlt : ∀ j d, j < k → ds[j]? = some d → d.b < b) : ∀ d ∈ ds.take k, d.b < b := by
  intro d hd
  obtain ⟨j, hj, rfl⟩ := List.mem_iff_getElem.1 hd
  rw [List.length_take] at hj
  rw [List.getElem_take]
  exact hlt j _ (by omega) (List.getElem?_eq_getElem (by omega))
theorem cut_below {ds : List Dl} {b : Int} {k : Nat} (hs : Srt ds) (hlt : ∀ j d, j < k → ds[j]? = some d → d.b < b) (hge : ∀ d, ds[k]? = some d → b ≤ d.b) : below ds b = ds.take k := by
  unfold below
  conv => lhs; rw [← List.take_append_drop k ds]
  rw [List.filter_append, List.filter_eq_self.2 (fun d hd => by simpa using take_lt hlt d hd), List.filter_eq_nil_iff.2 (fun d hd => by have := drop_ge hs hge d hd; simp; omega), List.append_nil]
theorem cut_above {ds : List Dl} {b : Int} {k : Nat} (hs : Srt ds) (hlt : ∀ j d, j < k → ds[j]? = some d → d.b < b) (hge : ∀ d, ds[k]? = some d → b < d.b) : above ds b = ds.drop k := by
  unfold above
  conv => lhs; rw [← List.take_append_drop k ds]
  rw [List.filter_append, List.filter_eq_nil_iff.2 (fun d hd => by have := take_lt hlt d hd; simp; omega), List.nil_append]
  refine List.filter_eq_self.2 fun d hd => ?_
  have := drop_ge (b := b + 1) hs (fun d hd => by have := hge d hd; omega) d hd
  simp; omega
theorem cut_over {ds : List Dl} {b : Int} {k : Nat} {d : Dl} (hs : Srt ds) (hlt : ∀ j d, j < k → ds[j]? = some d → d.b < b) (hd : ds[k]? = some d) (he : d.b = b) : above ds b = ds.drop (k + 1) := by
  obtain ⟨hk, hdk⟩ := List.getElem?_eq_some_iff.1 hd
  unfold above
  conv => lhs; rw [← List.take_append_drop k ds]
  rw [List.filter_append, List.filter_eq_nil_iff.2 (fun d hd => by have := take_lt hlt d hd; simp; omega), List.nil_append, List.drop_eq_getElem_cons hk, List.filter_cons, if_neg (by rw [hdk]; simp; omega)]
  refine List.filter_eq_self.2 fun d' hd' => ?_
  have := drop_ge (b := b + 1) (k := k + 1) hs (fun d' hd' => by
    obtain ⟨hk', rfl⟩ := List.getElem?_eq_some_iff.1 hd'
    have := List.pairwise_iff_getElem.1 hs k (k + 1) hk hk' (by omega)
    rw [hdk] at this
    omega) d' hd'
  simp; omega
/-- The deltas without a block: what stands before it, what stands behind it. -/
structure Cut (ds D : List Dl) (b : Int) (k : Nat) : Prop where
  lo : D.take k = below ds b
  hi : D.drop k = above ds b
  k : k ≤ D.length
  len : D.length ≤ ds.length
theorem Cut.no {ds : List Dl} {b : Int} {k : Nat} (hs : Srt ds) (hk : k ≤ ds.length) (hlt : ∀ j d, j < k → ds[j]? = some d → d.b < b) (hge : ∀ d, ds[k]? = some d → b < d.b) : Cut ds ds b k :=
  ⟨(cut_below hs hlt fun d hd => Int.le_of_lt (hge d hd)).symm, (cut_above hs hlt hge).symm, hk, Nat.le_refl _⟩
theorem Cut.yes {ds : List Dl} {b : Int} {k : Nat} {d : Dl} (hs : Srt ds) (hlt : ∀ j d, j < k → ds[j]? = some d → d.b < b) (hd : ds[k]? = some d) (he : d.b = b) : Cut ds (ds.take k ++ ds.drop (k + 1)) b k := by
  have hk := (List.getElem?_eq_some_iff.1 hd).1
  have hl : (ds.take k).length = k := by rw [List.length_take]; omega
  refine ⟨?_, ?_, by rw [List.length_append, hl]; omega, by rw [List.length_append, hl, List.length_drop]; omega⟩
  · rw [cut_below hs hlt (fun d' hd' => by rw [hd] at hd'; injection hd' with hd'; subst hd'; omega), List.take_append_of_le_length (by omega), List.take_of_length_le (by omega)]
  · rw [cut_over hs hlt hd he, List.drop_append_of_le_length (by omega), List.drop_of_length_le (by omega), List.nil_append]
theorem Cut.whole {ds D : List Dl} {b : Int} {k : Nat} (h : Cut ds D b k) (s : ByteArray) : D = putD ds b s false := by
  unfold putD; rw [← h.lo, ← h.hi]; simp
theorem Cut.put {ds D : List Dl} {b : Int} {k : Nat} (h : Cut ds D b k) (s : ByteArray) : D.take k ++ [⟨b, s⟩] ++ D.drop k = putD ds b s true := by
  unfold putD; rw [h.lo, h.hi]; rfl
theorem dRows_put {W : World} {R : List Nr} {N : List Nd} {p : Nat} {y : Nr} {x : Nd} (hy : R[p]? = some y) (hx : N[p]? = some x) (A : Option Addr) (n cap : Nat) (D : List Dl) :
    (dRows W R N).set p (.row 38 2 dlC W.heap.size (.slice A n cap) D) = dRows W (R.set p { y with A := A, n := n, cap := cap }) (setDs N p D) := by
  refine List.ext_getElem? fun j => ?_
  have hl : (dRows W R N).length = min R.length N.length := by unfold dRows; exact List.length_zipWith
  have h1 := (List.getElem?_eq_some_iff.1 hy).1
  have h2 := (List.getElem?_eq_some_iff.1 hx).1
  by_cases e : p = j
  · subst e
    rw [List.getElem?_set_self (by rw [hl]; omega)]
    unfold dRows
    rw [List.getElem?_zipWith, List.getElem?_set_self h1]
    rw [setDs_at hx, if_pos rfl]
    rfl
  · rw [List.getElem?_set_ne e]
    unfold dRows
    rw [List.getElem?_zipWith, List.getElem?_zipWith, List.getElem?_set_ne e]
    unfold setDs
    rw [upd_at, if_neg e]
theorem setDs_self {N : List Nd} {p : Nat} {x : Nd} (hx : N[p]? = some x) : setDs N p x.ds = N := by
  refine List.ext_getElem? fun j => ?_
  unfold setDs
  rw [upd_at]
  by_cases e : p = j
  · subst e; rw [if_pos rfl, hx]; rfl
  · rw [if_neg e]
theorem setDs_twice {N : List Nd} {p : Nat} (D E : List Dl) : setDs (setDs N p D) p E = setDs N p E := by
  refine List.ext_getElem? fun j => ?_
  unfold setDs
  rw [upd_at, upd_at, upd_at]
  by_cases e : p = j
  · subst e; rw [if_pos rfl, if_pos rfl, if_pos rfl]; cases N[p]? <;> rfl
  · rw [if_neg e, if_neg e, if_neg e]
theorem NrsE.ds {R : List Nr} {N : List Nd} {p : Nat} {y : Nr} {x : Nd} (h : NrsE R N) (hy : R[p]? = some y) (hx : N[p]? = some x) (A : Option Addr) (n cap : Nat) (D : List Dl) (hn : n = D.length) : NrsE (R.set p { y with A := A, n := n, cap := cap }) (setDs N p D) := by
  have hq := h.2 p y x hy hx
  exact h.set hx ⟨hq.nm, hq.par, hq.op, hn⟩
theorem writeE_no {T : Tr} {n b : Int} (h : ¬ (ex T.nodes n = true ∧ 0 ≤ b ∧ b < T.base.length)) : writeE T n b = 4100 := if_pos h
theorem writeE_at {T : Tr} {p : Nat} {x : Nd} {b : Int} (hx : T.nodes[p]? = some x) (hl : live x = true) (h0 : 0 ≤ b) (h1 : b < T.base.length) : writeE T p b = if x.op then 0 else 4103 := by
  unfold writeE
  rw [if_neg (fun q => q ⟨ex_iff.2 ⟨p, x, rfl, hx, hl⟩, h0, h1⟩), show ((p : Int)).toNat = p by omega, hx]
theorem write_at {T : Tr} {p : Nat} {x : Nd} {b : Int} {s : ByteArray} (hx : T.nodes[p]? = some x) (h : writeE T p b = 0) : write T p b s = ⟨T.base, setDs T.nodes p (putD x.ds b s (decide (¬ s = sees T x.par b)))⟩ := by
  unfold write
  rw [if_pos h]
  congr 1
  unfold written setDs
  rw [show ((p : Int)).toNat = p by omega]
  unfold upd
  rw [hx]
end Sn
end Go.Proofs.Ytncgihbnfmpdbaa
