/-
  Plain laws, no program in sight: the deltas that the reference's DeleteNode keeps, block by block (chapter 41).
-/
import Derived.Test.YtncgihbnfmpdbaaSnY
set_option linter.unusedVariables false
set_option linter.unusedSimpArgs false
namespace Go.Proofs.Ytncgihbnfmpdbaa.Sn
def rkB (T : Tr) (c p : List Dl) (k up : Int) (j : Nat) : Bool := ((look c j).isSome || (look p j).isSome) && decide (¬ sees T k j = sees T up j)
def rkTo (T : Tr) (c p : List Dl) (k up : Int) : Nat → List Dl
  | 0 => []
  | j + 1 => rkTo T c p k up j ++ (if rkB T c p k up j then [⟨(j : Int), sees T k j⟩] else [])
theorem rkTo_mem {T : Tr} {c p : List Dl} {k up : Int} {d : Dl} : ∀ {j : Nat}, d ∈ rkTo T c p k up j → ∃ i : Nat, i < j ∧ d = ⟨(i : Int), sees T k i⟩
  | 0, h => by cases h
  | j + 1, h => by
    rw [rkTo] at h
    rcases List.mem_append.1 h with h | h
    · obtain ⟨i, hi, e⟩ := rkTo_mem h
      exact ⟨i, by omega, e⟩
    · split at h
      · exact ⟨j, by omega, List.mem_singleton.1 h⟩
      · cases h
theorem rkTo_len (T : Tr) (c p : List Dl) (k up : Int) : ∀ j : Nat, (rkTo T c p k up j).length ≤ j
  | 0 => Nat.le_refl _
  | j + 1 => by
    have := rkTo_len T c p k up j
    rw [rkTo, List.length_append]
    split <;> simp <;> omega
theorem rkTo_srt (T : Tr) (c p : List Dl) (k up : Int) : ∀ j : Nat, Srt (rkTo T c p k up j)
  | 0 => List.Pairwise.nil
  | j + 1 => by
    rw [rkTo]
    refine List.pairwise_append.2 ⟨rkTo_srt T c p k up j, ?_, ?_⟩
    · split <;> simp
    · intro x hx y hy
      obtain ⟨i, hi, rfl⟩ := rkTo_mem hx
      split at hy
      · rw [List.mem_singleton.1 hy]; simp only; omega
      · cases hy
theorem rkTo_look (T : Tr) (c p : List Dl) (k up b : Int) : ∀ j : Nat, look (rkTo T c p k up j) b = if 0 ≤ b ∧ b < j ∧ rkB T c p k up b.toNat = true then some (sees T k b) else none
  | 0 => by rw [if_neg (by omega)]; rfl
  | j + 1 => by
    rw [rkTo, look_app, rkTo_look T c p k up b j]
    have key : look (if rkB T c p k up j = true then [⟨(j : Int), sees T k j⟩] else []) b = if b = j ∧ rkB T c p k up j = true then some (sees T k j) else none := by
      by_cases hb : rkB T c p k up j = true
      · rw [if_pos hb, look_cons]
        by_cases e : b = j
        · rw [if_pos e.symm, if_pos ⟨e, hb⟩]
        · rw [if_neg (fun q => e q.symm), if_neg (fun q => e q.1)]; rfl
      · rw [if_neg hb, if_neg (fun q => hb q.2)]; rfl
    rw [key]
    by_cases h : 0 ≤ b ∧ b < j ∧ rkB T c p k up b.toNat = true
    · have h' : 0 ≤ b ∧ b < ((j + 1 : Nat) : Int) ∧ rkB T c p k up b.toNat = true := ⟨h.1, by omega, h.2.2⟩
      rw [if_pos h, if_pos h']
    · rw [if_neg h]
      simp only
      by_cases e : b = j
      · subst e
        have e2 : ((j : Int)).toNat = j := by omega
        rw [e2]
        by_cases hb : rkB T c p k up j = true
        · rw [if_pos ⟨rfl, hb⟩, if_pos ⟨by omega, by omega, hb⟩]
        · rw [if_neg (fun q => hb q.2), if_neg (fun q => hb q.2.2)]
      · rw [if_neg (fun q => e q.1), if_neg (fun q => h ⟨q.1, by omega, q.2.2⟩)]
theorem rkTo_kept {T : Tr} (h : Ok T) {i j : Nat} {x y : Nd} (hx : T.nodes[i]? = some x) (hy : T.nodes[j]? = some y) (hp : y.par = i) : rkTo T y.ds x.ds j x.par T.base.length = kept T y.ds x.ds x.par := by
  have hyo := (h.node j y hy).ds
  have hxo := (h.node i x hx).ds
  have hm := merge_srt y.ds x.ds hyo.sorted hxo.sorted
  refine ds_ext _ _ (rkTo_srt _ _ _ _ _ _) (srt_filter hm _) fun b => ?_
  unfold kept
  rw [rkTo_look, look_filter hm, merge_look _ _ _ hyo.sorted hxo.sorted]
  have h1 := sees_at h hy b
  have h2 := sees_at h hx b
  rw [hp] at h1
  rw [h2] at h1
  clear h2
  by_cases hb : 0 ≤ b ∧ b < T.base.length
  · have e2 : (b.toNat : Int) = b := by omega
    unfold rkB
    rw [e2]
    cases hc : look y.ds b with
    | some s =>
      rw [hc] at h1
      simp only at h1
      rw [h1]
      by_cases e : s = sees T x.par b
      · simp [hc, e]
      · simp [hc, e, hb.1, hb.2]
    | none =>
      rw [hc] at h1
      cases hd : look x.ds b with
      | some s =>
        rw [hd] at h1
        simp only at h1
        rw [h1]
        by_cases e : s = sees T x.par b
        · simp [hd, hc, e]
        · simp [hd, hc, e, hb.1, hb.2]
      | none => simp
  · rw [if_neg (fun q => hb ⟨q.1, q.2.1⟩)]
    have n1 : look y.ds b = none := look_none fun d hd e => hb (by rw [← e]; exact ⟨(hyo.all d hd).1, (hyo.all d hd).2.1⟩)
    have n2 : look x.ds b = none := look_none fun d hd e => hb (by rw [← e]; exact ⟨(hxo.all d hd).1, (hxo.all d hd).2.1⟩)
    rw [n1, n2]
theorem lookR_rkB (T : Tr) (c p : List Dl) (k up : Int) (j : Nat) (m h : Bool) (s u : ByteArray) (hm : (look c j).isSome = m) (hh : (look p j).isSome = h) (hs : sees T k j = s) (hu : sees T up j = u) : rkB T c p k up j = ((m || h) && decide (¬ s = u)) := by
  unfold rkB; rw [hm, hh, hs, hu]
theorem rkTo_next {T : Tr} {c p : List Dl} {k up : Int} {j : Nat} {b : Bool} {s : ByteArray} (h : rkB T c p k up j = b) (hs : sees T k j = s) : rkTo T c p k up (j + 1) = rkTo T c p k up j ++ (if b then [⟨(j : Int), s⟩] else []) := by rw [rkTo, h, hs]
end Go.Proofs.Ytncgihbnfmpdbaa.Sn
