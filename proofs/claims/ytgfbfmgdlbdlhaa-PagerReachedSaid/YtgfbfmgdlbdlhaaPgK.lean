/-
  Plain laws, no program in sight: a new pager; a page written, a page read (chapter 36).
-/
import Derived.Test.YtgfbfmgdlbdlhaaPgL
set_option linter.unusedVariables false
set_option linter.unusedSimpArgs false
set_option maxRecDepth 100000
namespace Go.Proofs.Ytgfbfmgdlbdlhaa
open Go.RowKit
namespace Pg
theorem newAt_ok (lim : Int) (i : Nat) {s : ByteArray} (h : s.size = 128) : okP (newAt lim i s) = true ∧ content (newAt lim i s) = s ∧ ((newAt lim i s).st = 1 ↔ (i : Int) < lim) := by
  unfold newAt
  split
  · rename_i hl
    obtain ⟨p1, p2, p3, p4, p5⟩ := putOut_ok h
    exact ⟨p1, p2, by constructor <;> intro q; exact absurd q p3; omega⟩
  · rename_i hl
    refine ⟨by simp [okP, h], by simp [content], by simp; omega⟩
theorem new_count {lim : Int} (h0 : 0 ≤ lim) (L : List ByteArray) (hs : ∀ s ∈ L, s.size = 128) : ∀ k, k ≤ L.length → (count 1 (newL lim (L.take k)) : Int) ≤ lim ∧ (count 1 (newL lim (L.take k)) : Int) ≤ k
  | 0, _ => by simp [newL, count]; omega
  | k + 1, hk => by
    have ih := new_count h0 L hs k (by omega)
    have hkl : k < L.length := by omega
    rw [newL_next lim L k hkl]
    have hc : count 1 (newL lim (L.take k) ++ [newAt lim k L[k]]) = count 1 (newL lim (L.take k)) + if (newAt lim k L[k]).st = 1 then 1 else 0 := by
      unfold count
      rw [List.filter_append, List.length_append]
      by_cases hs : (newAt lim k L[k]).st = 1 <;> simp [hs]
    rw [hc]
    have := (newAt_ok lim k (hs _ (List.getElem_mem hkl))).2.2
    split
    · rename_i h1
      have := this.1 h1
      omega
    · omega
theorem new_law {L : List ByteArray} {lim : Int} (h1 : 1 ≤ L.length ∧ L.length ≤ 32) (h2 : 1 ≤ lim ∧ lim ≤ L.length) (hs : ∀ s ∈ L, s.size = 128) : newP L lim = (newL lim L, lim, true) ∧ valid (newL lim L) lim 0 = true ∧ conts (newL lim L) = L := by
  have hb : newBad L lim = false := by unfold newBad; simp; omega
  refine ⟨newP_yes hb hs, valid_mk (by rw [newL_len]; exact h1) (by rw [newL_len]; exact h2) (by rw [newL_len]; omega) ?_ ?_, ?_⟩
  · intro i hi
    have hi' : i < L.length := by rw [newL_len] at hi; exact hi
    simp only [newL, List.getElem_mapIdx]
    exact (newAt_ok lim i (hs _ (List.getElem_mem hi'))).1
  · have := (new_count (lim := lim) (by omega) L hs L.length (Nat.le_refl _)).1
    rwa [List.take_length] at this
  · unfold conts
    apply List.ext_getElem (by rw [List.length_map, newL_len])
    intro i hi hi'
    rw [List.getElem_map]
    simp only [newL, List.getElem_mapIdx]
    exact (newAt_ok lim i (hs _ (List.getElem_mem hi'))).2.1
theorem conts_get {L : List Pg} {C : List ByteArray} (h : conts L = C) {p : Nat} (hp : p < L.length) : ∃ hc : p < C.length, content L[p] = C[p] := by
  subst h
  exact ⟨by simpa [conts] using hp, by simp [conts]⟩
theorem conts_len {L : List Pg} {C : List ByteArray} (h : conts L = C) : C.length = L.length := by rw [← h]; simp [conts]
/-- A page of a valid pager read. -/
theorem read_law {L : List Pg} {lim hand : Int} {C : List ByteArray} (hv : valid L lim hand = true) (hC : conts L = C) {p : Nat} (hp : p < L.length) :
    ∃ L' hand' st, touch L lim hand p = (L', hand', st) ∧ ¬ st = 0 ∧ valid L' lim hand' = true ∧ conts L' = C ∧ L'.length = L.length ∧ (∃ h : p < L'.length, L'[p].st = 1) ∧ readS L lim hand p = C.getD p ⟨#[]⟩ := by
  obtain ⟨t1, t2, ⟨t3, t4⟩, t5, t6⟩ := touch_law hv hp
  have hl := touch_len L lim hand p
  have hr0 : readS L lim hand p = if (touch L lim hand p).2.2 = 0 then ⟨#[]⟩ else ((touch L lim hand p).1.getD ((p : Int)).toNat dfl).d := rfl
  obtain ⟨T, hT⟩ : ∃ T, touch L lim hand p = T := ⟨_, rfl⟩
  simp only [hT] at t1 t2 t3 t4 t5 hl hr0 ⊢
  obtain ⟨L', hand', st⟩ := T
  simp only at t1 t2 t3 t4 t5 hl hr0
  refine ⟨L', hand', st, rfl, by rw [t5]; exact t6, t1, by rw [t2]; exact hC, hl, ⟨t3, t4⟩, ?_⟩
  rw [hr0, if_neg (by rw [t5]; exact t6), show ((p : Int)).toNat = p by omega, List.getD_eq_getElem?_getD, List.getElem?_eq_getElem t3]
  obtain ⟨hc, e⟩ := conts_get (show conts L' = C from by rw [t2]; exact hC) t3
  rw [List.getD_eq_getElem?_getD, List.getElem?_eq_getElem hc]
  simp only [Option.getD_some]
  rw [← e]
  unfold content
  rw [if_neg (by rw [t4]; decide)]
/-- A page of a valid pager written. -/
theorem write_law {L : List Pg} {lim hand : Int} {C : List ByteArray} (hv : valid L lim hand = true) (hC : conts L = C) {p : Nat} (hp : p < L.length) {d : ByteArray} (hd : d.size = 128) :
    ∃ L' hand', write L lim hand p d = (L', hand', true) ∧ valid L' lim hand' = true ∧ conts L' = C.set p d ∧ L'.length = L.length ∧ ∃ h : p < L'.length, L'[p].st = 1 := by
  obtain ⟨T, hand', st, hT, h0, h1, h2, h3, ⟨h4, h5⟩, _⟩ := read_law hv hC hp
  have hw := write_yes (pg := (p : Int)) (L := L) (lim := lim) (hand := hand) hd (by rw [hT]; exact h0)
  rw [hT, show ((p : Int)).toNat = p by omega] at hw
  simp only at hw
  have hg : T.getD p dfl = T[p] := by rw [List.getD_eq_getElem?_getD, List.getElem?_eq_getElem h4]; rfl
  rw [hg, h5] at hw
  obtain ⟨c1, c2, c3, _, c5⟩ := valid_bd h1
  refine ⟨_, _, hw, valid_mk (by rw [List.length_set]; exact c1) (by rw [List.length_set]; exact c2) (by rw [List.length_set]; exact c3) ?_ ?_, ?_, by rw [List.length_set]; exact h3, by rw [List.length_set]; exact h4, by rw [List.getElem_set_self]⟩
  · intro i hi
    rw [List.getElem_set]
    split
    · simp [okP, hd]
    · exact valid_all h1 i (by simpa using hi)
  · have := count_set 1 T p h4 ⟨1, d, T[p].u⟩
    rw [if_pos h5, if_pos rfl] at this
    omega
  · rw [← h2]
    unfold conts
    rw [List.map_set]
    simp [content]
theorem valid_small {L : List Pg} {lim hand : Int} (hv : valid L lim hand = true) : ∀ x ∈ L, (x.d.size : Int) ≤ 1000000 := by
  intro x hx
  obtain ⟨i, hi, rfl⟩ := List.mem_iff_getElem.1 hx
  have h := valid_all hv i hi
  unfold okP at h
  split at h
  · simp at h; omega
  · split at h
    · unfold okZ at h
      split at h
      · cases h
      · rename_i hn; simp at hn; omega
    · split at h
      · unfold okS at h; simp at h; omega
      · cases h
end Pg
end Go.Proofs.Ytgfbfmgdlbdlhaa
