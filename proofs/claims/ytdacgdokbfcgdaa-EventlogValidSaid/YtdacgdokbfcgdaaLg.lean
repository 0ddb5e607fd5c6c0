/-
  Plain laws, no program in sight: sealed segments (chapter 19).
-/
import Derived.Test.YtdacgdokbfcgdaaUv
import Derived.Test.YtdacgdokbfcgdaaHs
namespace Go.Proofs.Ytdacgdokbfcgdaa.Lg
set_option linter.unusedVariables false
open Uv
/-- The start of the hash. -/
def HS : Nat := 14695981039346656037
/-- Eight bytes, the most significant one first. -/
def be8 (x : Nat) : List UInt8 := (List.range 8).map fun i => UInt8.ofNat (x / 256 ^ (7 - i) % 256)
theorem be8_len (x : Nat) : (be8 x).length = 8 := by simp [be8]
theorem be8_inj {x y : Nat} (hx : x < 18446744073709551616) (hy : y < 18446744073709551616) (h : be8 x = be8 y) : x = y := by
  have g : ∀ i, i < 8 → x / 256 ^ (7 - i) % 256 = y / 256 ^ (7 - i) % 256 := by
    intro i hi
    have h1 : (be8 x)[i]? = (be8 y)[i]? := by rw [h]
    unfold be8 at h1
    rw [List.getElem?_map, List.getElem?_map, List.getElem?_range hi] at h1
    simp only [Option.map_some, Option.some.injEq] at h1
    have h2 := congrArg UInt8.toNat h1
    rw [ofNat_toNat (Nat.mod_lt _ (by omega)), ofNat_toNat (Nat.mod_lt _ (by omega))] at h2
    exact h2
  have g0 := g 0 (by omega)
  have g1 := g 1 (by omega)
  have g2 := g 2 (by omega)
  have g3 := g 3 (by omega)
  have g4 := g 4 (by omega)
  have g5 := g 5 (by omega)
  have g6 := g 6 (by omega)
  have g7 := g 7 (by omega)
  simp only [Nat.reduceSub, Nat.reducePow, Nat.div_one] at g0 g1 g2 g3 g4 g5 g6 g7
  omega
/-- A reader reads a number: the number, what is left, is it bad. -/
def numR (l : List UInt8) (bad : Bool) : Nat × List UInt8 × Bool := if (uvB l && !bad) = true then (uvX l, l.drop (uvN l), false) else (0, l, true)
/-- .. so many bytes. -/
def bytesR (n : Nat) (l : List UInt8) (bad : Bool) : List UInt8 × List UInt8 × Bool := if (bad || decide (l.length < n)) = true then ([], l, true) else (l.take n, l.drop n, false)
def dataR (l : List UInt8) (bad : Bool) : List UInt8 × List UInt8 × Bool := bytesR (numR l bad).1 (numR l bad).2.1 (numR l bad).2.2
def packed (seq : Nat) (body : List UInt8) : List UInt8 := put seq ++ put body.length ++ body ++ be8 (Hs.hash HS (put seq ++ put body.length ++ body))
def packS (seq : Nat) (body : List UInt8) : List UInt8 := put seq ++ put body.length ++ body
theorem packed_eq (seq : Nat) (body : List UInt8) : packed seq body = packS seq body ++ be8 (Hs.hash HS (packS seq body)) := rfl
def opR (l : List UInt8) : List UInt8 × List UInt8 × Bool := dataR (numR l false).2.1 (numR l false).2.2
def opens (l : List UInt8) : Nat × List UInt8 × Int :=
  if ((opR l).2.2 || decide ((opR l).2.1.length ≠ 8)) = true then (0, [], 1900)
  else if be8 (Hs.hash HS (l.take (l.length - 8))) ≠ (opR l).2.1 then (0, [], 1903)
  else ((numR l false).1, (opR l).1, 0)
theorem numR_put (x : Nat) (hx : x < 18446744073709551616) (t : List UInt8) : numR (put x ++ t) false = (x, t, false) := by
  have h := uv_some (rd_put x hx t)
  unfold numR
  rw [h.1, h.2.1, h.2.2, List.drop_left]; rfl
theorem numR_len (l : List UInt8) (b : Bool) : (numR l b).2.1.length ≤ l.length := by unfold numR; split <;> simp
theorem numR_lt (l : List UInt8) (b : Bool) : (numR l b).1 < 18446744073709551616 := by
  unfold numR; split
  · exact uvX_lt l
  · exact Nat.zero_lt_succ _
theorem bytesR_len (n : Nat) (l : List UInt8) (b : Bool) : (bytesR n l b).1.length ≤ l.length ∧ (bytesR n l b).2.1.length ≤ l.length := by
  unfold bytesR; split <;> simp [List.length_take]; omega
theorem opens_packed (n : Nat) (b : List UInt8) (hn : n < 18446744073709551616) (hb : b.length < 18446744073709551616) : opens (packed n b) = (n, b, 0) := by
  have h1 : numR (packed n b) false = (n, put b.length ++ (b ++ be8 (Hs.hash HS (packS n b))), false) := by
    have : packed n b = put n ++ (put b.length ++ (b ++ be8 (Hs.hash HS (packS n b)))) := by rw [packed_eq]; unfold packS; simp
    rw [this]; exact numR_put n hn _
  have h2 : opR (packed n b) = (b, be8 (Hs.hash HS (packS n b)), false) := by
    unfold opR dataR
    rw [h1]
    simp only
    rw [numR_put b.length hb]
    unfold bytesR
    simp
  have h3 : (packed n b).take ((packed n b).length - 8) = packS n b := by
    have hl : (packed n b).length - 8 = (packS n b).length := by rw [packed_eq, List.length_append, be8_len]; omega
    rw [hl, packed_eq]; exact List.take_left
  unfold opens
  rw [h2, h1, h3]
  simp [be8_len]
theorem numR_ok {l t : List UInt8} {n : Nat} (h : numR l false = (n, t, false)) : l = put n ++ t ∧ n < 18446744073709551616 := by
  unfold numR at h
  split at h
  · rename_i hu
    cases hr : rd 0 0 l with
    | none => rw [(uv_none hr).2.2] at hu; simp at hu
    | some p =>
      obtain ⟨v, k⟩ := p
      have hs := uv_some hr
      rw [hs.1, hs.2.1] at h
      injection h with h1 h2
      injection h2 with h2 _
      obtain ⟨g1, g2, g3, g4⟩ := put_rd hr
      subst h1 h2
      exact ⟨by rw [g4, List.take_append_drop], g1⟩
  · injection h with _ h2
    injection h2 with _ h2
    cases h2
theorem numR_bad (l : List UInt8) : (numR l true).2.2 = true := by unfold numR; simp
/-- What is opened is the sealed form of what it is opened to. -/
theorem opens_ok {l b : List UInt8} {n : Nat} (h : opens l = (n, b, 0)) : l = packed n b ∧ n < 18446744073709551616 := by
  unfold opens at h
  split at h
  · injection h with _ h; injection h with _ h; cases h
  · rename_i h1
    split at h
    · injection h with _ h; injection h with _ h; cases h
    · rename_i h2
      injection h with e1 e2
      injection e2 with e2 _
      simp only [Bool.or_eq_true, decide_eq_true_eq, not_or] at h1
      obtain ⟨hbad, hlen⟩ := h1
      have hlen : (opR l).2.1.length = 8 := by simpa using hlen
      have h2 : be8 (Hs.hash HS (l.take (l.length - 8))) = (opR l).2.1 := by simpa using h2
      obtain ⟨x, t, bd, hx⟩ : ∃ x t bd, numR l false = (x, t, bd) := ⟨_, _, _, rfl⟩
      have ho : opR l = dataR t bd := by unfold opR; rw [hx]
      cases bd with
      | true =>
        exfalso; apply hbad
        rw [ho]
        unfold dataR bytesR
        rw [numR_bad]; rfl
      | false =>
        obtain ⟨hl, hx64⟩ := numR_ok hx
        obtain ⟨y, t2, bd2, hy⟩ : ∃ y t2 bd2, numR t false = (y, t2, bd2) := ⟨_, _, _, rfl⟩
        have ho2 : opR l = bytesR y t2 bd2 := by rw [ho]; unfold dataR; rw [hy]
        cases bd2 with
        | true => exfalso; apply hbad; rw [ho2]; unfold bytesR; simp
        | false =>
          obtain ⟨ht, hy64⟩ := numR_ok hy
          unfold bytesR at ho2
          split at ho2
          · exfalso; apply hbad; rw [ho2]
          · rename_i hyl
            simp only [Bool.false_or, decide_eq_true_eq, Nat.not_lt] at hyl
            rw [ho2] at e2 hlen h2
            simp only at e2 hlen h2
            rw [hx] at e1
            simp only at e1
            subst e1 e2
            have hyy : (t2.take y).length = y := by rw [List.length_take]; omega
            have hs : l = packS x (t2.take y) ++ t2.drop y := by
              rw [hl, ht]; unfold packS; rw [hyy]; simp
            have htk : l.take (l.length - 8) = packS x (t2.take y) := by
              have : l.length - 8 = (packS x (t2.take y)).length := by rw [hs, List.length_append, hlen]; omega
              rw [this, hs]; exact List.take_left
            rw [htk] at h2
            refine ⟨?_, hx64⟩
            rw [packed_eq, h2]; exact hs
/-- A sealed segment with one byte changed is not opened. -/
theorem packed_set (n : Nat) (b : List UInt8) (k : Nat) (hk : k < (packed n b).length) (c : UInt8) (hc : (packed n b)[k] ≠ c) (hb : b.length < 18446744073709551616) : (opens ((packed n b).set k c)).2.2 ≠ 0 := by
  intro h
  obtain ⟨n', b', e, he⟩ : ∃ n' b' e, opens ((packed n b).set k c) = (n', b', e) := ⟨_, _, _, rfl⟩
  rw [he] at h
  simp only at h
  subst h
  obtain ⟨hs, _⟩ := opens_ok he
  have hlen : (packed n b).length = (packed n' b').length := by rw [← hs, List.length_set]
  have hl2 : (packS n b).length = (packS n' b').length := by
    rw [packed_eq, packed_eq, List.length_append, List.length_append, be8_len, be8_len] at hlen; omega
  have hlt : ∀ l, Hs.hash HS l < 18446744073709551616 := fun l => Hs.hash_lt _ _ (by decide)
  by_cases hkl : k < (packS n b).length
  · have e1 : (packS n b).set k c = packS n' b' := by
      have h1 := congrArg (List.take (packS n b).length) hs
      rw [packed_eq, List.set_append_left _ _ hkl] at h1
      rw [show (packS n b).length = ((packS n b).set k c).length by simp, List.take_left] at h1
      rw [h1, packed_eq, show ((packS n b).set k c).length = (packS n' b').length by simp [hl2], List.take_left]
    have e2 : be8 (Hs.hash HS (packS n b)) = be8 (Hs.hash HS (packS n' b')) := by
      have h1 := congrArg (List.drop (packS n b).length) hs
      rw [packed_eq, List.set_append_left _ _ hkl] at h1
      rw [show (packS n b).length = ((packS n b).set k c).length by simp, List.drop_left] at h1
      rw [h1, packed_eq, show ((packS n b).set k c).length = (packS n' b').length by simp [hl2], List.drop_left]
    have e3 := be8_inj (hlt _) (hlt _) e2
    rw [← e1] at e3
    have hne : (packS n b)[k] ≠ c := by
      intro h; apply hc
      rw [← h]
      simp only [packed_eq]
      exact List.getElem_append_left hkl
    exact Hs.hash_set (packS n b) k hkl c (by decide) hne e3
  · have e1 : packS n b = packS n' b' := by
      have h1 := congrArg (List.take (packS n b).length) hs
      rw [packed_eq, List.set_append_right _ _ (by omega), List.take_left] at h1
      rw [h1, packed_eq, hl2, List.take_left]
    rw [packed_eq n' b', ← e1, ← packed_eq] at hs
    have h2 : ((packed n b).set k c)[k]? = (packed n b)[k]? := by rw [hs]
    rw [List.getElem?_set_self hk, List.getElem?_eq_getElem hk] at h2
    injection h2 with h2
    exact hc h2.symm
end Go.Proofs.Ytdacgdokbfcgdaa.Lg
