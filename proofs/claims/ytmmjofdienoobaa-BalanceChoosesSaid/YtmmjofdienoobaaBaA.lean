/-
  Plain laws: the first placement (chapter 40).
-/
import Derived.Test.YtmmjofdienoobaaBaI
import Derived.Test.YtmmjofdienoobaaMem4
set_option linter.unusedVariables false
set_option linter.unusedSimpArgs false
namespace Go.Proofs.Ytmmjofdienoobaa
open Go.RowKit
namespace Mem
theorem perm {W w : World} {H H' : List Ck} (h : Mem W w H) (p : H.Perm H') : Mem W w H' :=
  ⟨h.held, fun c hc => h.ok c (p.mem_iff.2 hc), (p.pairwise_iff (fun {x y} hxy b hb hb' => hxy b hb' hb)).1 h.sep⟩
theorem front {W w : World} {H : List Ck} {c : Ck} (h : Mem W w (H ++ [c])) : Mem W w (c :: H) := h.perm (List.perm_append_comm (l₁ := H) (l₂ := [c]))
theorem swap {W w : World} {A B F : List Ck} (h : Mem W w (A ++ (B ++ F))) : Mem W w (B ++ (A ++ F)) := h.perm (by
  rw [← List.append_assoc, ← List.append_assoc]
  exact List.Perm.append_right F List.perm_append_comm)
theorem tail {W w : World} {H : List Ck} {c : Ck} (h : Mem W w (c :: H)) : Mem W w H := h.sub (List.sublist_cons_self c H)
end Mem
namespace Ba
open Ad Adm
theorem admit_zero {m c : Int} {up : Bool} {G : List Dem} {d : Dem} (hl : G.length ≤ 16) (hv : G.all vd = true) (hd : vd d = true) :
    admit m c up G d = 0 ↔ (up = true ∧ vh m c = true ∧ ¬ (m - sumR G < d.r) ∧ ¬ (c - sumC G < d.c) ∧ ¬ (d.g ≠ 0 ∧ clash G d.g = true)) := by
  have hval : valid m c G = vh m c := by unfold valid; simp [hl, hv]
  unfold admit freeM freeC
  rw [hval, hd]
  cases vh m c
  · simp
  · cases up
    · simp
    · simp only [Bool.and_self, Bool.true_eq_false, if_false, if_true]
      by_cases h1 : m - sumR G < d.r
      · rw [if_pos h1]; simp [h1]
      · rw [if_neg h1]
        by_cases h2 : c - sumC G < d.c
        · rw [if_pos h2]; simp [h2]
        · rw [if_neg h2]
          by_cases h3 : d.g ≠ 0 ∧ clash G d.g = true
          · rw [if_pos h3]; simp [h3]
          · rw [if_neg h3]; simp only [true_and, true_iff]; exact ⟨h1, h2, h3⟩
theorem gu_mem {Z : List (Dem × Int)} {h : Int} {x : Dem} (hx : x ∈ gu Z h) : (x, h) ∈ Z := by
  unfold gu at hx
  obtain ⟨p, hp, rfl⟩ := List.mem_map.1 hx
  rw [List.mem_filter] at hp
  obtain ⟨hp, e⟩ := hp
  simp only [decide_eq_true_eq] at e
  rw [← e]; exact hp
theorem gu_all {L : List Dem} {on : List Int} {h : Int} (hv : L.all vd = true) : (gu (L.zip on) h).all vd = true := by
  rw [List.all_eq_true] at *
  intro x hx
  exact hv x (List.of_mem_zip (gu_mem hx)).1
/-- What the hosts have left. -/
def lm (H : List Hc) (Z : List (Dem × Int)) : List Int := H.mapIdx fun k c => c.m - sumR (gu Z k)
def lc (H : List Hc) (Z : List (Dem × Int)) : List Int := H.mapIdx fun k c => c.c - sumC (gu Z k)
theorem lm_len (H : List Hc) (Z : List (Dem × Int)) : (lm H Z).length = H.length := List.length_mapIdx
theorem lc_len (H : List Hc) (Z : List (Dem × Int)) : (lc H Z).length = H.length := List.length_mapIdx
theorem lm_at {H : List Hc} {Z : List (Dem × Int)} {k : Nat} {c : Hc} (h : H[k]? = some c) : (lm H Z)[k]? = some (c.m - sumR (gu Z k)) := by
  unfold lm; rw [List.getElem?_mapIdx, h]; rfl
theorem lc_at {H : List Hc} {Z : List (Dem × Int)} {k : Nat} {c : Hc} (h : H[k]? = some c) : (lc H Z)[k]? = some (c.c - sumC (gu Z k)) := by
  unfold lc; rw [List.getElem?_mapIdx, h]; rfl
theorem gu_snoc (Z : List (Dem × Int)) (d : Dem) (k h : Int) : gu (Z ++ [(d, k)]) h = gu Z h ++ (if k = h then [d] else []) := by
  rw [gu_app]; congr 1
  unfold gu
  by_cases e : k = h <;> simp [e]
theorem lm_set {H : List Hc} {Z : List (Dem × Int)} {k : Nat} {d : Dem} {c : Hc} (h : H[k]? = some c) : lm H (Z ++ [(d, (k : Int))]) = (lm H Z).set k (c.m - sumR (gu Z k) - d.r) := by
  refine List.ext_getElem? fun j => ?_
  rw [List.getElem?_set]
  by_cases hj : k = j
  · subst hj
    rw [lm_at h, gu_snoc, if_pos rfl, sumR_snoc, if_pos rfl, lm_len, if_pos (List.getElem?_eq_some_iff.1 h).1]
    congr 1; omega
  · rw [if_neg hj]
    unfold lm
    rw [List.getElem?_mapIdx, List.getElem?_mapIdx, gu_snoc, if_neg (by omega), List.append_nil]
theorem lc_set {H : List Hc} {Z : List (Dem × Int)} {k : Nat} {d : Dem} {c : Hc} (h : H[k]? = some c) : lc H (Z ++ [(d, (k : Int))]) = (lc H Z).set k (c.c - sumC (gu Z k) - d.c) := by
  refine List.ext_getElem? fun j => ?_
  rw [List.getElem?_set]
  by_cases hj : k = j
  · subst hj
    rw [lc_at h, gu_snoc, if_pos rfl, sumC_snoc, if_pos rfl, lc_len, if_pos (List.getElem?_eq_some_iff.1 h).1]
    congr 1; omega
  · rw [if_neg hj]
    unfold lc
    rw [List.getElem?_mapIdx, List.getElem?_mapIdx, gu_snoc, if_neg (by omega), List.append_nil]
theorem set_back {l : List Int} {k : Nat} {x y : Int} (h : l[k]? = some x) : (l.set k y).set k x = l := by
  rw [List.set_set]
  obtain ⟨hk, rfl⟩ := List.getElem?_eq_some_iff.1 h
  exact List.set_getElem_self hk
theorem zip_snoc {L : List Dem} {on : List Int} {d : Dem} (h : L[on.length]? = some d) (x : Int) : L.zip (on ++ [x]) = L.zip on ++ [(d, x)] := by
  obtain ⟨hk, rfl⟩ := List.getElem?_eq_some_iff.1 h
  have e1 : L = L.take on.length ++ (L[on.length] :: L.drop (on.length + 1)) := by simp
  have hl : (L.take on.length).length = on.length := by rw [List.length_take]; omega
  have e2 : L.zip (on ++ [x]) = (L.take on.length).zip on ++ (L[on.length] :: L.drop (on.length + 1)).zip [x] :=
    (congrArg (fun l => List.zip l (on ++ [x])) e1).trans (List.zip_append hl)
  have e3 : L.zip (on ++ []) = (L.take on.length).zip on ++ (L[on.length] :: L.drop (on.length + 1)).zip [] :=
    (congrArg (fun l => List.zip l (on ++ [])) e1).trans (List.zip_append hl)
  rw [List.append_nil] at e3
  rw [e2, e3, List.zip_nil_right, List.append_nil, List.zip_cons_cons, List.zip_nil_right]
/-- What the loop of a guest tries at a host. -/
def gq (H : List Hc) (L : List Dem) (f : Nat) (on : List Int) (d : Dem) (h : Nat) : Option (List Int) := if may H (L.zip on) d h = true then asg H L f (on ++ [(h : Int)]) else none
theorem asg_step {H : List Hc} {L : List Dem} {f : Nat} {on : List Int} {d : Dem} (h : L[on.length]? = some d) : asg H L (f + 1) on = first (gq H L f on d) H.length := by
  rw [asg, h]; rfl
theorem first_stay {α : Type} {g : Nat → Option α} {k : Nat} {q : α} (h : first g k = some q) : ∀ j, k ≤ j → first g j = some q := by
  intro j hj
  induction j with
  | zero => obtain rfl : k = 0 := by omega
            exact h
  | succ j ih =>
    by_cases e : k = j + 1
    · rw [← e]; exact h
    · rw [first, ih (by omega)]
theorem first_next {α : Type} {g : Nat → Option α} {k : Nat} (h : first g k = none) : first g (k + 1) = g k := by rw [first, h]
theorem may_at {H : List Hc} {Z : List (Dem × Int)} {d : Dem} {k : Nat} {c : Hc} (h : H[k]? = some c) : may H Z d k = decide (admit c.m c.c c.up (gu Z k) d = 0) := by unfold may; rw [h]
/-- A demand that is not valid cannot be placed. -/
theorem asg_bad {H : List Hc} {L : List Dem} {j : Nat} {d : Dem} (hd : L[j]? = some d) (hv : vd d = false) : ∀ (f : Nat) (on : List Int), on.length ≤ j → j < on.length + f → asg H L f on = none
  | 0, on, h1, h2 => by omega
  | f + 1, on, h1, h2 => by
    obtain ⟨hj, _⟩ := List.getElem?_eq_some_iff.1 hd
    have hlt : on.length < L.length := by omega
    rw [asg_step (List.getElem?_eq_getElem hlt)]
    have key : ∀ k, first (gq H L f on L[on.length]) k = none := by
      intro k
      induction k with
      | zero => rfl
      | succ k ih =>
        rw [first_next ih]
        unfold gq
        split
        · rename_i hm
          by_cases e : on.length = j
          · subst e
            rw [List.getElem?_eq_getElem hlt] at hd
            injection hd with hd
            unfold may at hm
            split at hm
            · rw [hd] at hm
              unfold admit at hm
              rw [hv, Bool.and_false, if_pos rfl] at hm
              simp at hm
            · cases hm
          · exact asg_bad hd hv f (on ++ [(k : Int)]) (by rw [List.length_append]; simp; omega) (by rw [List.length_append]; simp; omega)
        · rfl
    exact key _
theorem clash_app (G G' : List Dem) (g : Int) : clash (G ++ G') g = (clash G g || clash G' g) := by unfold clash; rw [List.any_append]
def grp (G : List Dem) (g : Int) : Bool := decide (g ≠ 0) && clash G g
end Ba
end Go.Proofs.Ytmmjofdienoobaa
