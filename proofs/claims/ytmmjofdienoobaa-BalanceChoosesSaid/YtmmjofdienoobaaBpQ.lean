/-
  Plain laws: an evacuation, a rebalancing, move by move (chapter 40).
-/
import Derived.Test.YtmmjofdienoobaaBpA
set_option linter.unusedVariables false
set_option linter.unusedSimpArgs false
namespace Go.Proofs.Ytmmjofdienoobaa
open Go.RowKit
namespace Ba
open Ad Adm
/-- A placement behind some moves. -/
def app (on : List Int) (ms : List Mv) : List Int := ms.foldl mvd on
theorem app_len (ms : List Mv) : ∀ on, (app on ms).length = on.length := by
  induction ms with
  | nil => intro on; rfl
  | cons m ms ih => intro on; show (app (mvd on m) ms).length = _; rw [ih]; unfold mvd; rw [List.length_set]
theorem app_snoc (on : List Int) (ms : List Mv) (m : Mv) : app on (ms ++ [m]) = mvd (app on ms) m := by unfold app; rw [List.foldl_append]; rfl
theorem app_next {on : List Int} {ms : List Mv} {i : Nat} {m : Mv} (h : ms[i]? = some m) : app on (ms.take (i + 1)) = mvd (app on (ms.take i)) m := by
  rw [take_snoc' h, app_snoc]
/-- What an evacuation has done when it has looked at the first k guests. -/
structure EvOk (H : List Hc) (L : List Dem) (on : List Int) (host : Int) (k : Nat) (ms : List Mv) (x : List Int) : Prop where
  all : app on ms = x
  step : ∀ (i : Nat) (m : Mv), ms[i]? = some m → ∃ g t : Nat, m = ⟨g, host, t⟩ ∧ ¬ (t : Int) = host ∧ (app on (ms.take i))[g]? = some host ∧ place H L (app on (ms.take (i + 1))) = true
  free : ∀ j : Nat, j < k → ¬ x[j]? = some host
  rest : ∀ j : Nat, k ≤ j → x[j]? = on[j]?
  keep : ∀ (j : Nat) (v : Int), on[j]? = some v → ¬ v = host → x[j]? = some v
theorem ev_ok {H : List Hc} {L : List Dem} {on : List Int} {host : Int} (hp : place H L on = true) : ∀ k, k ≤ L.length → ∀ ms x, evTo H L on host k = some (ms, x) → EvOk H L on host k ms x
  | 0, _, ms, x, h => by
    rw [evTo] at h
    injection h with h
    injection h with h1 h2
    subst h1 h2
    exact ⟨rfl, fun i m h => by simp at h, fun j hj => by omega, fun j _ => rfl, fun j v h _ => h⟩
  | k + 1, hk, ms, x, h => by
    obtain ⟨d, hd⟩ : ∃ d, L[k]? = some d := ⟨_, List.getElem?_eq_getElem (by omega)⟩
    obtain ⟨o, ho⟩ : ∃ o, on[k]? = some o := ⟨_, List.getElem?_eq_getElem (by rw [(place_bd hp).2.2.2]; omega)⟩
    cases hs : evTo H L on host k with
    | none => rw [evTo_none hs _ (Nat.le_succ k)] at h; cases h
    | some s =>
      obtain ⟨ms', x'⟩ := s
      have ih := ev_ok hp k (by omega) ms' x' hs
      have hpl := ev_place hp (k + 1) hk (ms, x) h
      rw [evTo_next hs hd ho] at h
      simp only at h hpl
      split at h
      · rename_i he
        split at h
        · rename_i hok
          injection h with h
          injection h with h1 h2
          obtain ⟨h0, c0, e1, e2, e3, _⟩ := chooseZ_ok hok
          rw [e1] at h1 h2
          subst h1 h2
          have hx' : x'[k]? = some host := by rw [ih.rest k (Nat.le_refl k), ho, he]
          have hkx := (List.getElem?_eq_some_iff.1 hx').1
          have hne : ¬ (h0 : Int) = host := by
            intro e
            have : hasI [host] h0 = true := by unfold hasI; simp [e]
            rw [this] at e3; cases e3
          refine ⟨?_, fun i m hm => ?_, fun j hj => ?_, fun j hj => ?_, fun j v hv hne' => ?_⟩
          · rw [app_snoc, ih.all]; rfl
          · by_cases hi : i < ms'.length
            · rw [List.getElem?_append_left hi] at hm
              rw [List.take_append_of_le_length (by omega), List.take_append_of_le_length (by omega)]
              exact ih.step i m hm
            · have hi' : i = ms'.length := by
                have := (List.getElem?_eq_some_iff.1 hm).1
                rw [List.length_append, List.length_singleton] at this; omega
              subst hi'
              rw [List.getElem?_append_right (Nat.le_refl _), Nat.sub_self] at hm
              simp only [List.getElem?_cons_zero] at hm
              injection hm with hm
              subst hm
              refine ⟨k, h0, rfl, hne, ?_, ?_⟩
              · rw [List.take_append_of_le_length (Nat.le_refl _), List.take_length, ih.all]; exact hx'
              · rw [List.take_of_length_le (by rw [List.length_append]; simp), app_snoc, ih.all]
                exact hpl
          · by_cases hj' : k = j
            · subst hj'
              rw [List.getElem?_set_self hkx]
              intro e; injection e with e; exact hne e
            · rw [List.getElem?_set_ne hj']; exact ih.free j (by omega)
          · rw [List.getElem?_set_ne (by omega)]; exact ih.rest j (by omega)
          · by_cases hj' : k = j
            · subst hj'
              rw [ho] at hv; injection hv with hv
              exact absurd (hv ▸ he) hne'
            · rw [List.getElem?_set_ne hj']; exact ih.keep j v hv hne'
        · cases h
      · rename_i he
        injection h with h
        injection h with h1 h2
        subst h1 h2
        refine ⟨ih.all, ih.step, fun j hj => ?_, fun j hj => ih.rest j (by omega), ih.keep⟩
        by_cases hj' : j = k
        · subst hj'
          rw [ih.rest j (Nat.le_refl j), ho]
          intro e; injection e with e; exact he e
        · exact ih.free j (by omega)
/-- What a move of Improve does. -/
theorem impTo_spec (H : List Hc) (L : List Dem) (on : List Int) (least : Int) : ∀ k, k ≤ on.length →
    (impTo H L on least k).least ≤ least ∧ ((impTo H L on least k).found = true → ∃ (g t : Nat) (fr : Int), (impTo H L on least k).best = ⟨g, fr, t⟩ ∧ on[g]? = some fr ∧ ¬ (t : Int) = fr ∧ (spread H L (on.set g t)).2 = true ∧ (spread H L (on.set g t)).1 = (impTo H L on least k).least ∧ (impTo H L on least k).least < least)
  | 0, _ => ⟨Int.le_refl _, fun h => by simp [impTo] at h⟩
  | k + 1, hk => by
    obtain ⟨fr, hfr⟩ : ∃ fr, on[k]? = some fr := ⟨_, List.getElem?_eq_getElem (by omega)⟩
    rw [impTo_next hfr]
    have ih := impTo_spec H L on least k (by omega)
    generalize impTo H L on least k = st at ih ⊢
    have key : ∀ t, (impIn H L on k fr st t).least ≤ least ∧ ((impIn H L on k fr st t).found = true → ∃ (g t' : Nat) (fr' : Int), (impIn H L on k fr st t).best = ⟨g, fr', t'⟩ ∧ on[g]? = some fr' ∧ ¬ (t' : Int) = fr' ∧ (spread H L (on.set g t')).2 = true ∧ (spread H L (on.set g t')).1 = (impIn H L on k fr st t).least ∧ (impIn H L on k fr st t).least < least) := by
      intro t
      induction t with
      | zero => exact ih
      | succ t iht =>
        rw [impIn]
        by_cases e1 : (t : Int) = fr
        · rw [imp1_same e1]; exact iht
        · by_cases e2 : (spread H L (on.set k t)).2 = true ∧ (spread H L (on.set k t)).1 < (impIn H L on k fr st t).least
          · rw [imp1_yes e1 e2.1 e2.2]
            have := iht.1
            exact ⟨by simp only; omega, fun _ => ⟨k, t, fr, rfl, hfr, e1, e2.1, rfl, by simp only; omega⟩⟩
          · rw [imp1_no e1 e2]; exact iht
    exact key _
theorem improve_spec {H : List Hc} {L : List Dem} {x : List Int} {m : Mv} (h : improve H L x = (m, true)) :
    ∃ (g t : Nat) (fr : Int), m = ⟨g, fr, t⟩ ∧ x[g]? = some fr ∧ ¬ (t : Int) = fr ∧ (spread H L (mvd x m)).2 = true ∧ (spread H L (mvd x m)).1 < (spread H L x).1 := by
  cases hs : (spread H L x).2
  · rw [improve_no hs] at h; injection h with _ h; cases h
  · rw [improve_yes hs] at h
    injection h with h1 h2
    obtain ⟨g, t, fr, e1, e2, e3, e4, e5, e6⟩ := (impTo_spec H L x (spread H L x).1 x.length (Nat.le_refl _)).2 h2
    rw [h1] at e1
    refine ⟨g, t, fr, e1, e2, e3, ?_⟩
    rw [e1]
    show (spread H L (x.set g t)).2 = true ∧ (spread H L (x.set g t)).1 < _
    exact ⟨e4, by omega⟩
/-- A rebalancing, move by move. -/
theorem rb_spec (H : List Hc) (L : List Dem) : ∀ (N : Nat) (x : List Int), app x (rb H L N x).1 = (rb H L N x).2 ∧ (rb H L N x).1.length ≤ N ∧ ((rb H L N x).1.length < N → (improve H L (rb H L N x).2).2 = false) ∧
    (∀ (i : Nat) (m : Mv), (rb H L N x).1[i]? = some m → improve H L (app x ((rb H L N x).1.take i)) = (m, true))
  | 0, x => ⟨rfl, Nat.le_refl _, fun h => absurd h (Nat.not_lt_zero _), fun i m h => by simp [rb] at h⟩
  | N + 1, x => by
    cases hb : (improve H L x).2
    · rw [rb_no hb]
      exact ⟨rfl, Nat.zero_le _, fun _ => hb, fun i m h => by simp at h⟩
    · obtain ⟨m0, hm0⟩ : ∃ m0, improve H L x = (m0, true) := ⟨(improve H L x).1, by rw [← hb]⟩
      rw [rb_yes hm0]
      obtain ⟨i1, i2, i3, i4⟩ := rb_spec H L N (mvd x m0)
      refine ⟨i1, by simp only [List.length_cons]; omega, fun h => i3 (by simp only [List.length_cons] at h; omega), fun i m h => ?_⟩
      cases i with
      | zero => simp only [List.getElem?_cons_zero] at h; injection h with h; subst h; exact hm0
      | succ i => simp only [List.getElem?_cons_succ] at h; exact i4 i m h
theorem assign_none_place {H : List Hc} {L : List Dem} (hL : L.length ≤ 8) (h : assign H L = none) (o : List Int) : place H L o = false := by
  cases hp : place H L o
  · rfl
  · obtain ⟨q, hq, _⟩ := assign_complete hL hp
    rw [h] at hq; cases hq
end Ba
end Go.Proofs.Ytmmjofdienoobaa
