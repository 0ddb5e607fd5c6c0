/-
  Plain laws: valid placements, whatever the order; one guest moved; what is chosen (chapter 40).
-/
import Derived.Test.YtmmjofdienoobaaBaO
import Derived.Test.YtmmjofdienoobaaAdFit
set_option linter.unusedVariables false
set_option linter.unusedSimpArgs false
namespace Go.Proofs.Ytmmjofdienoobaa
open Go.RowKit
namespace Ba
open Ad Adm
/-- The guests fit on the host. -/
def Fit (c : Hc) (G : List Dem) : Prop := G = [] ∨ (c.up = true ∧ vh c.m c.c = true ∧ G.all vd = true ∧ sumR G ≤ c.m ∧ sumC G ≤ c.c ∧ G.Pairwise fun y x => sep x y = true)
theorem vh_bd {m c : Int} (h : vh m c = true) : (0 ≤ m ∧ m ≤ 1000000) ∧ (0 ≤ c ∧ c ≤ 1000000) := by
  unfold vh at h
  simp only [Bool.and_eq_true] at h
  exact ⟨(units_iff _).1 h.1, (units_iff _).1 h.2⟩
theorem fits_Fit {c : Hc} {G : List Dem} (hl : G.length ≤ 16) : fits c.m c.c c.up G = true ↔ Fit c G := by
  by_cases h0 : G = []
  · subst h0; exact ⟨fun _ => .inl rfl, fun _ => rfl⟩
  · have hlen : 0 < G.length := List.length_pos_iff.2 h0
    constructor
    · intro h
      obtain ⟨k, hk⟩ : ∃ k, G.length = k + 1 := ⟨G.length - 1, by omega⟩
      have hkl : k < G.length := by omega
      have h1 : admit c.m c.c c.up (G.take k) G[k] = 0 := by
        have h2 := h
        unfold fits at h2
        rw [hk, fits_step hkl, Bool.and_eq_true, decide_eq_true_eq] at h2
        exact h2.2
      have hv : valid c.m c.c (G.take k) = true ∧ vd G[k] = true := by
        unfold admit at h1
        split at h1
        · simp at h1
        · rename_i hh
          cases hq : (valid c.m c.c (G.take k) && vd G[k])
          · exact absurd hq hh
          · simpa using hq
      have hvh : vh c.m c.c = true ∧ (G.take k).all vd = true := by
        have := hv.1
        unfold valid at this
        simp only [Bool.and_eq_true] at this
        exact ⟨this.1.1, this.2⟩
      have hall : G.all vd = true := by
        have : G = G.take (k + 1) := by rw [← hk, List.take_length]
        rw [this, all_snoc G k hkl, hvh.2, hv.2]; rfl
      obtain ⟨hm, hc⟩ := vh_bd hvh.1
      have h3 := h
      rw [fits_iff hm hc hl hall hlen] at h3
      simp only [Bool.and_eq_true, decide_eq_true_eq] at h3
      have h4 := (apTo_pair G G.length (Nat.le_refl _)).1 h3.2.2.2
      rw [List.take_length] at h4
      exact .inr ⟨h3.1, hvh.1, hall, h3.2.1, h3.2.2.1, h4⟩
    · rintro (h | ⟨h1, h2, h3, h4, h5, h6⟩)
      · exact absurd h h0
      · obtain ⟨hm, hc⟩ := vh_bd h2
        rw [fits_iff hm hc hl h3 hlen, h1, (apTo_pair G G.length (Nat.le_refl _)).2 (by rw [List.take_length]; exact h6)]
        simp [h4, h5]
theorem Fit.perm {c : Hc} {G G' : List Dem} (h : Fit c G) (p : G.Perm G') : Fit c G' := by
  rcases h with rfl | ⟨h1, h2, h3, h4, h5, h6⟩
  · exact .inl (List.Perm.nil_eq p).symm
  · refine .inr ⟨h1, h2, ?_, by rw [← sumR_perm p]; exact h4, by rw [← sumC_perm p]; exact h5, (List.Perm.pairwise_iff (fun {x y} hxy => by rw [sep_comm]; exact hxy) p).1 h6⟩
    rw [List.all_eq_true] at *
    exact fun x hx => h3 x (p.mem_iff.2 hx)
theorem sum_sub {G G' : List Dem} (h : G'.Sublist G) (hv : G.all vd = true) : sumR G' ≤ sumR G ∧ sumC G' ≤ sumC G := by
  induction h with
  | slnil => exact ⟨Int.le_refl _, Int.le_refl _⟩
  | cons a _ ih =>
    simp only [List.all_cons, Bool.and_eq_true] at hv
    have := ih hv.2
    have hb := vd_bd hv.1
    simp only [sumR, sumC, List.map_cons, List.sum_cons] at *
    omega
  | cons_cons a _ ih =>
    simp only [List.all_cons, Bool.and_eq_true] at hv
    have := ih hv.2
    simp only [sumR, sumC, List.map_cons, List.sum_cons] at *
    omega
theorem Fit.sub {c : Hc} {G G' : List Dem} (h : Fit c G) (s : G'.Sublist G) : Fit c G' := by
  rcases h with rfl | ⟨h1, h2, h3, h4, h5, h6⟩
  · exact .inl (List.sublist_nil.1 s)
  · have := sum_sub s h3
    refine .inr ⟨h1, h2, ?_, by omega, by omega, h6.sublist s⟩
    rw [List.all_eq_true] at *
    exact fun x hx => h3 x (s.subset hx)
/-- One that is admitted beside guests that fit. -/
theorem Fit.add {c : Hc} {G : List Dem} {d : Dem} (h : Fit c G) (hl : G.length ≤ 16) (ha : admit c.m c.c c.up G d = 0) : Fit c (d :: G) := by
  have hv : valid c.m c.c G = true ∧ vd d = true := by
    have h1 := ha
    unfold admit at h1
    split at h1
    · simp at h1
    · rename_i hh
      cases hq : (valid c.m c.c G && vd d)
      · exact absurd hq hh
      · simpa using hq
  have h2 := admit_iff (up := c.up) hv.1 hv.2
  rw [ha] at h2
  simp only [decide_true, Bool.true_eq, Bool.and_eq_true, decide_eq_true_eq] at h2
  have hv2 := hv.1
  unfold valid at hv2
  simp only [Bool.and_eq_true] at hv2
  have hp : G.Pairwise fun y x => sep x y = true := by
    rcases h with rfl | h
    · exact List.Pairwise.nil
    · exact h.2.2.2.2.2
  refine .inr ⟨h2.1, hv2.1.1, by rw [List.all_cons, hv.2, hv2.2]; rfl, ?_, ?_, List.pairwise_cons.2 ⟨fun x hx => by rw [sep_comm]; exact List.all_eq_true.1 h2.2.2.2 x hx, hp⟩⟩
  · simp only [sumR, List.map_cons, List.sum_cons] at *; omega
  · simp only [sumC, List.map_cons, List.sum_cons] at *; omega
theorem fitTo_all {H : List Hc} {Z : List (Dem × Int)} : ∀ n, fitTo H Z n = true ↔ ∀ k, k < n → ∀ c, H[k]? = some c → fits c.m c.c c.up (gu Z k) = true
  | 0 => ⟨fun _ k hk => by omega, fun _ => rfl⟩
  | n + 1 => by
    rw [fitTo, Bool.and_eq_true, fitTo_all n]
    constructor
    · rintro ⟨h1, h2⟩ k hk c hc
      by_cases e : k = n
      · subst e; rw [hc] at h2; exact h2
      · exact h1 k (by omega) c hc
    · intro h
      refine ⟨fun k hk => h k (by omega), ?_⟩
      split
      · rename_i c hc; exact h n (by omega) c hc
      · rfl
/-- What a valid placement is. -/
theorem place_iff {H : List Hc} {L : List Dem} {on : List Int} : place H L on = true ↔ (1 ≤ H.length ∧ H.length ≤ 6 ∧ L.length ≤ 16 ∧ on.length = L.length) ∧ (∀ x ∈ on, 0 ≤ x ∧ x < H.length) ∧ ∀ (k : Nat) (c : Hc), H[k]? = some c → Fit c (gu (L.zip on) k) := by
  have hg : ∀ k : Nat, L.length ≤ 16 → (gu (L.zip on) k).length ≤ 16 := fun k h => by have := gu_len (L.zip on) k; rw [List.length_zip] at this; omega
  constructor
  · intro h
    have hb := place_bd h
    refine ⟨hb, fun x hx => ?_, fun k c hc => ?_⟩
    · obtain ⟨i, hi, rfl⟩ := List.mem_iff_getElem.1 hx
      exact place_at h (List.getElem?_eq_getElem hi)
    · unfold place at h
      simp only [Bool.and_eq_true] at h
      exact (fits_Fit (hg k hb.2.2.1)).1 ((fitTo_all _).1 h.2.2 k (List.getElem?_eq_some_iff.1 hc).1 c hc)
  · rintro ⟨h1, h2, h3⟩
    refine place_ok ?_ ?_ ?_
    · unfold out; rw [decide_eq_false_iff_not]; omega
    · rw [List.all_eq_true]
      intro x hx
      have := h2 x hx
      unfold inH; simp; exact this
    · exact (fitTo_all _).2 fun k hk c hc => (fits_Fit (hg k h1.2.2.1)).2 (h3 k c hc)
theorem gu_perm {Z Y : List (Dem × Int)} (p : Z.Perm Y) (h : Int) : (gu Z h).Perm (gu Y h) := by unfold gu; exact (p.filter _).map _
theorem gu_cons (p : Dem × Int) (Z : List (Dem × Int)) (h : Int) : gu (p :: Z) h = if p.2 = h then p.1 :: gu Z h else gu Z h := by
  unfold gu
  by_cases e : p.2 = h <;> simp [e]
theorem set_perm {α : Type} {Z : List α} {i : Nat} (hi : i < Z.length) (p : α) : (Z.set i p).Perm (p :: Z.eraseIdx i) := by
  induction Z generalizing i with
  | nil => simp at hi
  | cons z Z ih => cases i with
    | zero => simp
    | succ i =>
      simp only [List.set_cons_succ, List.eraseIdx_cons_succ]
      exact ((ih (by simpa using hi)).cons z).trans (List.Perm.swap _ _ _)
theorem gu_erase_sub {Z : List (Dem × Int)} {i : Nat} (h : Int) : (gu (Z.eraseIdx i) h).Sublist (gu Z h) := by
  unfold gu
  exact ((List.eraseIdx_sublist Z i).filter _).map _
theorem zip_set {L : List Dem} {on : List Int} {i : Nat} {d : Dem} (hd : L[i]? = some d) (x : Int) : L.zip (on.set i x) = (L.zip on).set i (d, x) := by
  induction L generalizing on i with
  | nil => simp at hd
  | cons e L ih => cases on with
    | nil => simp
    | cons o on => cases i with
      | zero => simp at hd; subst hd; simp
      | succ i => simp at hd; simp [ih hd]
theorem zip_erase (L : List Dem) (on : List Int) (i : Nat) : (L.eraseIdx i).zip (on.eraseIdx i) = (L.zip on).eraseIdx i := by
  induction L generalizing on i with
  | nil => simp
  | cons e L ih => cases on with
    | nil => cases i <;> simp
    | cons o on => cases i with
      | zero => simp
      | succ i => simp [ih]
/-- One guest less. -/
theorem place_erase {H : List Hc} {L : List Dem} {on : List Int} {i : Nat} (hi : i < L.length) (h : place H L on = true) : place H (L.eraseIdx i) (on.eraseIdx i) = true := by
  obtain ⟨h1, h2, h3⟩ := place_iff.1 h
  refine place_iff.2 ⟨⟨h1.1, h1.2.1, ?_, ?_⟩, fun x hx => h2 x (List.mem_of_mem_eraseIdx hx), fun k c hc => ?_⟩
  · rw [List.length_eraseIdx_of_lt hi]; omega
  · rw [List.length_eraseIdx_of_lt hi, List.length_eraseIdx_of_lt (by omega)]; omega
  · rw [zip_erase]; exact (h3 k c hc).sub (gu_erase_sub k)
/-- One guest moved to where it is admitted. -/
theorem place_move {H : List Hc} {L : List Dem} {on : List Int} {i h : Nat} {d : Dem} {c : Hc} (hd : L[i]? = some d) (hp : place H L on = true) (hc : H[h]? = some c) (ha : admit c.m c.c c.up (gu ((L.zip on).eraseIdx i) h) d = 0) : place H L (on.set i h) = true := by
  obtain ⟨h1, h2, h3⟩ := place_iff.1 hp
  have hi := (List.getElem?_eq_some_iff.1 hd).1
  have hh := (List.getElem?_eq_some_iff.1 hc).1
  have hz : i < (L.zip on).length := by rw [List.length_zip]; omega
  refine place_iff.2 ⟨by rw [List.length_set]; exact h1, fun x hx => ?_, fun k c' hc' => ?_⟩
  · rcases List.mem_or_eq_of_mem_set hx with hx | rfl
    · exact h2 x hx
    · omega
  · rw [zip_set hd]
    refine Fit.perm ?_ (gu_perm (set_perm hz (d, (h : Int))) k).symm
    rw [gu_cons]
    have hsub := (h3 k c' hc').sub (gu_erase_sub (i := i) k)
    by_cases e : (h : Int) = k
    · rw [if_pos e]
      obtain rfl : h = k := by omega
      rw [hc] at hc'
      injection hc' with hc'
      subst hc'
      refine hsub.add ?_ ha
      have := gu_len ((L.zip on).eraseIdx i) h
      rw [List.length_eraseIdx_of_lt hz, List.length_zip] at this; omega
    · rw [if_neg e]; exact hsub
/-- What is chosen. -/
theorem choose_inv (H : List Hc) (Z : List (Dem × Int)) (d : Dem) (no : List Int) : ∀ k, k ≤ H.length →
    ((chooseTo H Z d no k).1 < 0 → ∀ (h : Nat) (c : Hc), h < k → H[h]? = some c → ¬ (hasI no h = false ∧ admit c.m c.c c.up (gu Z h) d = 0)) ∧
    (0 ≤ (chooseTo H Z d no k).1 → ∃ (h : Nat) (c : Hc), (chooseTo H Z d no k).1 = h ∧ h < k ∧ H[h]? = some c ∧ hasI no h = false ∧ admit c.m c.c c.up (gu Z h) d = 0 ∧ (chooseTo H Z d no k).2 = freeM c.m c.c (gu Z h) ∧
      ∀ (h' : Nat) (c' : Hc), h' < k → H[h']? = some c' → hasI no h' = false → admit c'.m c'.c c'.up (gu Z h') d = 0 → freeM c'.m c'.c (gu Z h') ≤ freeM c.m c.c (gu Z h))
  | 0, _ => ⟨fun _ h c hh => by omega, fun h => by rw [chooseTo] at h; omega⟩
  | k + 1, hk => by
    obtain ⟨i1, i2⟩ := choose_inv H Z d no k (by omega)
    obtain ⟨c, hc⟩ : ∃ c, H[k]? = some c := ⟨_, List.getElem?_eq_getElem (by omega)⟩
    by_cases g1 : hasI no k = true
    · rw [ch_out hc g1]
      refine ⟨fun h h' c' hh' hc' => ?_, fun h => ?_⟩
      · by_cases e : h' = k
        · subst e; rw [g1]; simp
        · exact i1 h h' c' (by omega) hc'
      · obtain ⟨h0, c0, e1, e2, e3, e4, e5, e6, e7⟩ := i2 h
        refine ⟨h0, c0, e1, by omega, e3, e4, e5, e6, fun h' c' hh' hc' hn ha => ?_⟩
        by_cases e : h' = k
        · subst e; rw [g1] at hn; cases hn
        · exact e7 h' c' (by omega) hc' hn ha
    · have g1 : hasI no k = false := by simpa using g1
      by_cases g2 : admit c.m c.c c.up (gu Z k) d = 0
      · by_cases g3 : (chooseTo H Z d no k).1 < 0 ∨ (chooseTo H Z d no k).2 < freeM c.m c.c (gu Z k)
        · rw [ch_yes hc g1 g2 g3]
          refine ⟨fun h => by simp only at h; omega, fun _ => ⟨k, c, rfl, by omega, hc, g1, g2, rfl, fun h' c' hh' hc' hn ha => ?_⟩⟩
          by_cases e : h' = k
          · subst e; rw [hc] at hc'; injection hc' with hc'; subst hc'; exact Int.le_refl _
          · rcases g3 with g3 | g3
            · exact absurd ⟨hn, ha⟩ (i1 g3 h' c' (by omega) hc')
            · by_cases g4 : (chooseTo H Z d no k).1 < 0
              · exact absurd ⟨hn, ha⟩ (i1 g4 h' c' (by omega) hc')
              · obtain ⟨h0, c0, e1, e2, e3, e4, e5, e6, e7⟩ := i2 (by omega)
                have := e7 h' c' (by omega) hc' hn ha
                omega
        · rw [ch_no hc g3]
          refine ⟨fun h => absurd (.inl h) g3, fun h => ?_⟩
          obtain ⟨h0, c0, e1, e2, e3, e4, e5, e6, e7⟩ := i2 h
          refine ⟨h0, c0, e1, by omega, e3, e4, e5, e6, fun h' c' hh' hc' hn ha => ?_⟩
          by_cases e : h' = k
          · subst e; rw [hc] at hc'; injection hc' with hc'; subst hc'; omega
          · exact e7 h' c' (by omega) hc' hn ha
      · rw [ch_bad hc g2]
        refine ⟨fun h h' c' hh' hc' => ?_, fun h => ?_⟩
        · by_cases e : h' = k
          · subst e; rw [hc] at hc'; injection hc' with hc'; subst hc'; exact fun q => g2 q.2
          · exact i1 h h' c' (by omega) hc'
        · obtain ⟨h0, c0, e1, e2, e3, e4, e5, e6, e7⟩ := i2 h
          refine ⟨h0, c0, e1, by omega, e3, e4, e5, e6, fun h' c' hh' hc' hn ha => ?_⟩
          by_cases e : h' = k
          · subst e; rw [hc] at hc'; injection hc' with hc'; subst hc'; exact absurd ha g2
          · exact e7 h' c' (by omega) hc' hn ha
theorem chooseZ_ok {H : List Hc} {Z : List (Dem × Int)} {d : Dem} {no : List Int} (h : (chooseZ H Z d no).2 = true) :
    ∃ (h : Nat) (c : Hc), (chooseZ H Z d no).1 = h ∧ H[h]? = some c ∧ hasI no h = false ∧ admit c.m c.c c.up (gu Z h) d = 0 ∧ ∀ (h' : Nat) (c' : Hc), H[h']? = some c' → hasI no h' = false → admit c'.m c'.c c'.up (gu Z h') d = 0 → freeM c'.m c'.c (gu Z h') ≤ freeM c.m c.c (gu Z h) := by
  unfold chooseZ pick at h ⊢
  by_cases g : (chooseTo H Z d no H.length).1 < 0
  · rw [if_pos g] at h; cases h
  · rw [if_neg g]
    obtain ⟨h0, c0, e1, e2, e3, e4, e5, e6, e7⟩ := (choose_inv H Z d no H.length (Nat.le_refl _)).2 (by omega)
    exact ⟨h0, c0, e1, e3, e4, e5, fun h' c' hc' => e7 h' c' (List.getElem?_eq_some_iff.1 hc').1 hc'⟩
theorem chooseZ_none {H : List Hc} {Z : List (Dem × Int)} {d : Dem} {no : List Int} (h : (chooseZ H Z d no).2 = false) :
    (chooseZ H Z d no).1 = 0 ∧ ∀ (h' : Nat) (c' : Hc), H[h']? = some c' → ¬ (hasI no h' = false ∧ admit c'.m c'.c c'.up (gu Z h') d = 0) := by
  unfold chooseZ pick at h ⊢
  by_cases g : (chooseTo H Z d no H.length).1 < 0
  · rw [if_pos g]
    exact ⟨rfl, fun h' c' hc' => (choose_inv H Z d no H.length (Nat.le_refl _)).1 g h' c' (List.getElem?_eq_some_iff.1 hc').1 hc'⟩
  · rw [if_neg g] at h; cases h
theorem evTo_next {H : List Hc} {L : List Dem} {on : List Int} {host : Int} {k : Nat} {s : List Mv × List Int} {d : Dem} {x : Int} (h : evTo H L on host k = some s) (hd : L[k]? = some d) (hx : on[k]? = some x) :
    evTo H L on host (k + 1) = if x = host then (if (chooseZ H ((L.zip s.2).eraseIdx k) d [host]).2 = true then some (s.1 ++ [⟨k, host, (chooseZ H ((L.zip s.2).eraseIdx k) d [host]).1⟩], s.2.set k (chooseZ H ((L.zip s.2).eraseIdx k) d [host]).1) else none) else some s := by
  rw [evTo, h, hd, hx]
theorem evTo_none {H : List Hc} {L : List Dem} {on : List Int} {host : Int} {k : Nat} (h : evTo H L on host k = none) : ∀ j, k ≤ j → evTo H L on host j = none := by
  intro j hj
  induction j with
  | zero => obtain rfl : k = 0 := by omega
            exact h
  | succ j ih =>
    by_cases e : k = j + 1
    · rw [← e]; exact h
    · rw [evTo, ih (by omega)]
/-- The placement stays valid on the way. -/
theorem ev_place {H : List Hc} {L : List Dem} {on : List Int} {host : Int} (hp : place H L on = true) : ∀ k, k ≤ L.length → ∀ s, evTo H L on host k = some s → place H L s.2 = true
  | 0, _, s, h => by rw [evTo] at h; injection h with h; subst h; exact hp
  | k + 1, hk, s, h => by
    obtain ⟨d, hd⟩ : ∃ d, L[k]? = some d := ⟨_, List.getElem?_eq_getElem (by omega)⟩
    obtain ⟨x, hx⟩ : ∃ x, on[k]? = some x := ⟨_, List.getElem?_eq_getElem (by rw [(place_bd hp).2.2.2]; omega)⟩
    cases hs : evTo H L on host k with
    | none => rw [evTo_none hs _ (Nat.le_succ k)] at h; cases h
    | some s' =>
      have ih := ev_place hp k (by omega) s' hs
      rw [evTo_next hs hd hx] at h
      split at h
      · split at h
        · rename_i hok
          injection h with h
          subst h
          obtain ⟨h0, c0, e1, e2, _, e4, _⟩ := chooseZ_ok hok
          simp only
          rw [e1]
          exact place_move hd ih e2 e4
        · cases h
      · injection h with h; subst h; exact ih
end Ba
end Go.Proofs.Ytmmjofdienoobaa
