/-
  Plain law: a journal with one byte changed in a record behind its length (chapter 42).
-/
import Derived.Test.YtmmnanmegdflgaaZxJqH
import Derived.Test.YtmmnanmegdflgaaZ23
set_option linter.unusedVariables false
set_option linter.unusedSimpArgs false
namespace Go.Proofs.Ytmmnanmegdflgaa
namespace Jn
open Ad Lg Uv
theorem sealed_pos (n : Nat) (o : Man) : 1 ≤ (Jn.sealed n o).length := by
  unfold Jn.sealed packed
  simp only [List.length_append, be8_len]
  omega
theorem endL_next {L : List Int} {n len1 : Nat} (hL : L.length = len1) (hl : len1 ≤ 60) {z : Int} (hz : L[n]? = some z) : endL L (n + 1) = endL L n + (Jn.sealed n (mg z)).length + 1 := by
  have hn := (List.getElem?_eq_some_iff.1 hz).1
  unfold endL
  rw [opsL_at hz, recs_snoc, List.length_append, opsL_len (by omega), Nat.zero_add, ((mg_tiny z).recl (n := n) (by omega)).1]
  omega
theorem spoilt_parse {L : List Int} {n len1 : Nat} (hL : L.length = len1) (hl : len1 ≤ 60) {z : Int} (hz : L[n]? = some z) {l : List UInt8} (e : l = recs 0 (opsL L len1)) {j : Nat} (hj : j < l.length) {c : UInt8} (hc : l[j] ≠ c) (h1 : endL L n + 1 ≤ j) (h2 : j < endL L (n + 1)) :
    (parse (l.set j c)).1 = opsL L n := by
  have hn := (List.getElem?_eq_some_iff.1 hz).1
  have ho : (opsL L len1)[n]? = some (mg z) := by
    unfold opsL
    rw [List.getElem?_map, List.getElem?_take, if_pos (by omega), hz]; rfl
  have hlen : (opsL L len1).length = len1 := opsL_len (by omega)
  obtain ⟨ho1, ho2⟩ := List.getElem?_eq_some_iff.1 ho
  have ht := (mg_tiny z).sealed (n := n) (by omega)
  have hnx := endL_next hL hl hz
  have hp1 := put_one (x := (Jn.sealed n (mg z)).length) (by omega)
  have eA : opsL L n = (opsL L len1).take n := (opsL_take (by omega)).symm
  have hAl : (recs 0 ((opsL L len1).take n)).length = endL L n := by rw [← eA]; rfl
  have e1 : l = recs 0 ((opsL L len1).take n) ++ (put (Jn.sealed n (mg z)).length ++ (Jn.sealed n (mg z) ++ recs (n + 1) ((opsL L len1).drop (n + 1)))) := by
    rw [e]
    have h3 := recs_split (opsL L len1) n
    rw [Nat.min_eq_left (by omega), List.drop_eq_getElem_cons ho1, ho2] at h3
    rw [h3]
    simp only [recs, record, List.append_assoc]
  obtain ⟨i, hi⟩ : ∃ i, j = endL L n + (1 + i) := ⟨j - endL L n - 1, by omega⟩
  have hiq : i < (Jn.sealed n (mg z)).length := by omega
  have hPi : l[j] = (Jn.sealed n (mg z))[i] := by
    have h4 : l[j]? = some (Jn.sealed n (mg z))[i] := by
      rw [e1, List.getElem?_append_right (by omega), List.getElem?_append_right (by omega), List.getElem?_append_left (by omega), hAl, hp1]
      rw [show j - endL L n - 1 = i by omega]
      exact List.getElem?_eq_getElem hiq
    rw [List.getElem?_eq_getElem hj] at h4
    injection h4
  have e2 : l.set j c = recs 0 ((opsL L len1).take n) ++ (put (Jn.sealed n (mg z)).length ++ ((Jn.sealed n (mg z)).set i c ++ recs (n + 1) ((opsL L len1).drop (n + 1)))) := by
    rw [e1, List.set_append_right _ _ (by omega), List.set_append_right _ _ (by omega), List.set_append_left _ _ (by omega), hAl, hp1]
    rw [show j - endL L n - 1 = i by omega]
  rw [e2, eA]
  refine parse_spoilt (opsL_tiny L len1) (by omega) ho (List.length_set) ?_
  have he := (mg_tiny z).enc
  exact packed_set n (enc (mg z)) i hiq c (by rw [hPi] at hc; exact hc) (by omega)
end Jn
end Go.Proofs.Ytmmnanmegdflgaa
