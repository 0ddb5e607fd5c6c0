/-
  Plain law: what fits on a host, whatever the order (chapter 39).
-/
import Derived.Test.YtmmjofdienoobaaAdP
namespace Go.Proofs.Ytmmjofdienoobaa.Ad
set_option linter.unusedVariables false
/-- x (the later one) may stand beside y. -/
def sep (x y : Dem) : Bool := decide (x.g = 0) || decide (x.g ≠ y.g)
def apI (L : List Dem) (x : Dem) (k : Nat) : Bool := (L.take k).all fun y => sep x y
def apTo (L : List Dem) : Nat → Bool
  | 0 => true
  | i + 1 => apTo L i && (match L[i]? with | some x => apI L x i | none => true)
theorem sep_comm (x y : Dem) : sep x y = sep y x := by
  unfold sep
  by_cases h : x.g = y.g
  · rw [h]
  · simp [h, Ne.symm h]
theorem clash_sep (L : List Dem) (x : Dem) : (decide (x.g ≠ 0) && clash L x.g) = !(L.all fun y => sep x y) := by
  unfold clash
  induction L with
  | nil => simp
  | cons y L ih =>
    rw [List.any_cons, List.all_cons, Bool.not_and, ← ih]
    unfold sep
    by_cases h0 : x.g = 0
    · simp [h0]
    · by_cases h1 : y.g = x.g
      · simp [h0, h1]
      · simp [h0, h1, Ne.symm h1]
theorem apTo_pair (L : List Dem) : ∀ i, i ≤ L.length → (apTo L i = true ↔ (L.take i).Pairwise fun y x => sep x y = true)
  | 0, _ => by simp [apTo]
  | i + 1, h => by
    have hi : i < L.length := by omega
    rw [apTo, List.getElem?_eq_getElem hi, take_snoc L i hi, List.pairwise_append, Bool.and_eq_true, apTo_pair L i (by omega)]
    simp [apI]
theorem apTo_perm {L M : List Dem} (h : L.Perm M) : apTo L L.length = apTo M M.length := by
  rw [Bool.eq_iff_iff, apTo_pair _ _ (Nat.le_refl _), apTo_pair _ _ (Nat.le_refl _), List.take_length, List.take_length]
  exact List.Perm.pairwise_iff (fun {x y} hxy => by rw [sep_comm]; exact hxy) h
theorem sum_perm {L M : List Int} (h : L.Perm M) : L.sum = M.sum := by
  induction h with
  | nil => rfl
  | cons x _ ih => rw [List.sum_cons, List.sum_cons, ih]
  | swap x y L => simp only [List.sum_cons]; omega
  | trans _ _ h1 h2 => rw [h1, h2]
theorem sumR_perm {L M : List Dem} (h : L.Perm M) : sumR L = sumR M := by unfold sumR; exact sum_perm (h.map _)
theorem sumC_perm {L M : List Dem} (h : L.Perm M) : sumC L = sumC M := by unfold sumC; exact sum_perm (h.map _)
theorem valid_take {m c : Int} {L : List Dem} (hm : 0 ≤ m ∧ m ≤ 1000000) (hc : 0 ≤ c ∧ c ≤ 1000000) (hl : L.length ≤ 16) (hv : L.all vd = true) (k : Nat) : valid m c (L.take k) = true := by
  unfold valid vh
  rw [all_take hv, (units_iff m).2 hm, (units_iff c).2 hc]
  have : (L.take k).length ≤ 16 := by rw [List.length_take]; omega
  rw [decide_eq_true this]; rfl
theorem admit_iff {m c : Int} {up : Bool} {L : List Dem} {d : Dem} (hv : valid m c L = true) (hd : vd d = true) :
    decide (admit m c up L d = 0) = (up && (decide (sumR L + d.r ≤ m) && (decide (sumC L + d.c ≤ c) && L.all fun y => sep d y))) := by
  have hcl := clash_sep L d
  unfold admit freeM freeC
  rw [hv, hd]
  cases up
  · simp
  · by_cases h1 : m - sumR L < d.r
    · have : ¬ sumR L + d.r ≤ m := by omega
      simp [h1, this]
    · by_cases h2 : c - sumC L < d.c
      · have : ¬ sumC L + d.c ≤ c := by omega
        simp [h1, h2, this]
      · have g1 : sumR L + d.r ≤ m := by omega
        have g2 : sumC L + d.c ≤ c := by omega
        cases ha : (L.all fun y => sep d y)
        · rw [ha] at hcl
          simp only [Bool.not_false, Bool.and_eq_true, decide_eq_true_eq] at hcl
          simp [h1, h2, hcl]
        · rw [ha] at hcl
          have hn : ¬ (d.g ≠ 0 ∧ clash L d.g = true) := by
            intro hh
            rw [hh.2, decide_eq_true hh.1] at hcl
            cases hcl
          simp [h1, h2, hn, g1, g2]
theorem fitsTo_iff {m c : Int} {up : Bool} {L : List Dem} (hm : 0 ≤ m ∧ m ≤ 1000000) (hc : 0 ≤ c ∧ c ≤ 1000000) (hl : L.length ≤ 16) (hv : L.all vd = true) :
    ∀ k, k ≤ L.length → 0 < k → fitsTo m c up L k = (up && (decide (sumR (L.take k) ≤ m) && (decide (sumC (L.take k) ≤ c) && apTo L k)))
  | 0, _, h => by omega
  | k + 1, h, _ => by
    have hk : k < L.length := by omega
    have hvd : vd L[k] = true := by rw [List.all_eq_true] at hv; exact hv _ (List.getElem_mem hk)
    have hb := vd_bd hvd
    have he : apTo L (k + 1) = (apTo L k && (L.take k).all fun y => sep L[k] y) := by rw [apTo, List.getElem?_eq_getElem hk]; rfl
    rw [fits_step hk, admit_iff (valid_take hm hc hl hv k) hvd, he, take_snoc L k hk, sumR_snoc, sumC_snoc]
    by_cases h0 : k = 0
    · subst h0
      simp [fitsTo, apTo]
    · rw [fitsTo_iff hm hc hl hv k (by omega) (by omega)]
      cases up
      · simp
      · by_cases g1 : sumR (L.take k) + L[k].r ≤ m
        · by_cases g2 : sumC (L.take k) + L[k].c ≤ c
          · have g3 : sumR (L.take k) ≤ m := by omega
            have g4 : sumC (L.take k) ≤ c := by omega
            simp [g1, g2, g3, g4]
          · simp [g2]
        · simp [g1]
theorem fits_iff {m c : Int} {up : Bool} {L : List Dem} (hm : 0 ≤ m ∧ m ≤ 1000000) (hc : 0 ≤ c ∧ c ≤ 1000000) (hl : L.length ≤ 16) (hv : L.all vd = true) (h0 : 0 < L.length) :
    fits m c up L = (up && (decide (sumR L ≤ m) && (decide (sumC L ≤ c) && apTo L L.length))) := by
  unfold fits
  rw [fitsTo_iff hm hc hl hv _ (Nat.le_refl _) h0, List.take_length]
theorem fits_perm {m c : Int} {up : Bool} {L M : List Dem} (hm : 0 ≤ m ∧ m ≤ 1000000) (hc : 0 ≤ c ∧ c ≤ 1000000) (hl : L.length ≤ 16) (hv : L.all vd = true) (h0 : 0 < L.length) (hp : L.Perm M) :
    fits m c up M = fits m c up L := by
  rw [fits_iff hm hc hl hv h0, fits_iff hm hc (by rw [← hp.length_eq]; exact hl) (by rw [List.all_eq_true] at *; exact fun x hx => hv x (hp.mem_iff.2 hx)) (by rw [← hp.length_eq]; exact h0), sumR_perm hp, sumC_perm hp, apTo_perm hp]
theorem turn_perm (L : List Dem) (k : Nat) : L.Perm (L.drop k ++ L.take k) :=
  ((List.perm_append_comm : (L.drop k ++ L.take k).Perm (L.take k ++ L.drop k)).trans (by rw [List.take_append_drop])).symm
end Go.Proofs.Ytmmjofdienoobaa.Ad
