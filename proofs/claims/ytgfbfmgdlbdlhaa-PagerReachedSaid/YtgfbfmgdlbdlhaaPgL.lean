/-
  Plain laws, no program in sight: what touching a page of a valid pager does (chapter 36).
-/
import Derived.Test.YtgfbfmgdlbdlhaaPgA
set_option linter.unusedVariables false
set_option linter.unusedSimpArgs false
set_option maxRecDepth 100000
namespace Go.Proofs.Ytgfbfmgdlbdlhaa
open Go.RowKit
namespace Pg
-- the second chance
theorem vicF_res {R : List Bool} {ex : Int} {n : Nat} : ∀ f U a k, (vicF R ex n f U a).1 = some k → R.getD k false = true ∧ (k : Int) ≠ ex
  | 0, U, a, k, h => by simp [vicF] at h
  | f + 1, U, a, k, h => by
    unfold vicF at h
    split at h
    · exact vicF_res f U _ k h
    · rename_i hn
      split at h
      · exact vicF_res f _ _ k h
      · simp at h
        subst h
        simp only [not_or] at hn
        exact ⟨by simpa using hn.1, hn.2⟩
theorem getD_set_false (U : List Bool) (a j : Nat) : (U.set a false).getD j false = true → U.getD j false = true ∧ j ≠ a := by
  intro h
  rw [List.getD_eq_getElem?_getD, List.getElem?_set] at h
  by_cases e : a = j
  · rw [if_pos e] at h
    split at h <;> simp at h
  · rw [if_neg e] at h
    exact ⟨by rw [List.getD_eq_getElem?_getD]; exact h, fun q => e q.symm⟩
theorem vicF_mono {R : List Bool} {ex : Int} {n : Nat} : ∀ f U a j, (vicF R ex n f U a).2.getD j false = true → U.getD j false = true
  | 0, U, a, j, h => h
  | f + 1, U, a, j, h => by
    unfold vicF at h
    split at h
    · exact vicF_mono f U _ j h
    · split at h
      · exact (getD_set_false U a j (vicF_mono f _ _ j h)).1
      · exact h
theorem mod_step (a i n : Nat) : ((a + 1) % n + i) % n = (a + (i + 1)) % n := by
  rw [Nat.mod_add_mod]; congr 1; omega
/-- Where nothing is found, no page that could be a victim was met twice. -/
theorem vicF_none {R : List Bool} {ex : Int} {n : Nat} : ∀ f U a, a < n → (vicF R ex n f U a).1 = none → ∀ i, i < f → R.getD ((a + i) % n) false = true → ((((a + i) % n : Nat)) : Int) ≠ ex → U.getD ((a + i) % n) false = true ∧ ∀ i', i' < i → (a + i') % n ≠ (a + i) % n
  | 0, U, a, ha, h, i, hi => by omega
  | f + 1, U, a, ha, h, i, hi => by
    intro hr he
    have hn : 0 < n := by omega
    have hm : (a + 1) % n < n := Nat.mod_lt _ hn
    have h0 : (a + 0) % n = a := by rw [Nat.add_zero, Nat.mod_eq_of_lt ha]
    unfold vicF at h
    split at h
    · rename_i hp
      cases i with
      | zero =>
        rw [h0] at hr he
        rcases hp with hp | hp
        · rw [hr] at hp; cases hp
        · exact absurd hp he
      | succ i =>
        rw [← mod_step] at hr he ⊢
        obtain ⟨h1, h2⟩ := vicF_none f U _ hm h i (by omega) hr he
        refine ⟨h1, fun i' hi' => ?_⟩
        cases i' with
        | zero =>
          rw [h0]
          intro e
          rw [← e] at hr he
          rcases hp with hp | hp
          · rw [hr] at hp; cases hp
          · exact he hp
        | succ i' => rw [← mod_step]; exact h2 i' (by omega)
    · rename_i hp
      split at h
      · rename_i hu
        cases i with
        | zero => rw [h0]; exact ⟨hu, fun i' hi' => by omega⟩
        | succ i =>
          rw [← mod_step] at hr he ⊢
          obtain ⟨h1, h2⟩ := vicF_none f _ _ hm h i (by omega) hr he
          obtain ⟨h3, h4⟩ := getD_set_false U a _ h1
          refine ⟨h3, fun i' hi' => ?_⟩
          cases i' with
          | zero => rw [h0]; exact fun e => h4 e.symm
          | succ i' => rw [← mod_step]; exact h2 i' (by omega)
      · simp at h
/-- Where some page could be a victim, two rounds find one. -/
theorem vicF_some {R : List Bool} {ex : Int} {n : Nat} (U : List Bool) {a r : Nat} (ha : a < n) (hr : r < n) (hR : R.getD r false = true) (he : (r : Int) ≠ ex) : ∃ k, (vicF R ex n (2 * n) U a).1 = some k := by
  cases h : (vicF R ex n (2 * n) U a).1 with
  | some k => exact ⟨k, rfl⟩
  | none =>
    exfalso
    have hn : 0 < n := by omega
    obtain ⟨i, hi, e⟩ : ∃ i, i < n ∧ (a + i) % n = r := by
      by_cases hle : a ≤ r
      · exact ⟨r - a, by omega, by rw [show a + (r - a) = r by omega, Nat.mod_eq_of_lt hr]⟩
      · exact ⟨r + n - a, by omega, by rw [show a + (r + n - a) = r + n by omega, Nat.add_mod_right, Nat.mod_eq_of_lt hr]⟩
    have e2 : (a + (i + n)) % n = r := by rw [← Nat.add_assoc, Nat.add_mod_right, e]
    have := (vicF_none (2 * n) U a ha h (i + n) (by omega) (by rw [e2]; exact hR) (by rw [e2]; exact he)).2 i (by omega)
    exact this (by rw [e, e2])
-- pages
theorem okP_size {x : Pg} (h : okP x = true) : (content x).size = 128 := by
  unfold okP at h
  unfold content
  split at h
  · rename_i h1
    rw [if_neg (by omega)]
    simpa using h
  · split at h
    · rename_i h2
      rw [if_pos h2]
      unfold okZ at h
      split at h
      · cases h
      · simp at h; exact h.2.1
    · rename_i h2
      rw [if_neg h2]
      split at h
      · unfold okS at h
        simp at h; exact h.2.1
      · cases h
theorem putOut_ok {d : ByteArray} (h : d.size = 128) : okP (putOut d) = true ∧ content (putOut d) = d ∧ (putOut d).st ≠ 1 ∧ (putOut d).u = false ∧ ((putOut d).st = 2 ∧ (putOut d).d.size ≤ 64 ∨ (putOut d).st = 3 ∧ (putOut d).d = d) := by
  obtain ⟨h1, h2⟩ := unz_zip d h
  unfold putOut
  split
  · rename_i hs
    refine ⟨?_, ?_, by simp, rfl, .inl ⟨rfl, hs⟩⟩
    · simp [okP, okZ, h1, h2, h]; omega
    · simp [content, h1]
  · rename_i hs
    refine ⟨?_, ?_, by simp, rfl, .inr ⟨rfl, rfl⟩⟩
    · simp [okP, okS, h]; omega
    · simp [content]
theorem okP_mark {x : Pg} {u : Bool} (h : okP x = true) (hu : u = true → x.u = true) : okP ⟨x.st, x.d, u⟩ = true := by
  by_cases e : u = x.u
  · rw [e]; exact h
  · have hu' : u = false ∧ x.u = true := by
      cases u
      · cases hx : x.u
        · rw [hx] at e; exact absurd rfl e
        · exact ⟨rfl, rfl⟩
      · rw [hu rfl] at e; exact absurd rfl e
    rw [hu'.1]
    unfold okP at h ⊢
    simp only
    split at h
    · rename_i h1; rw [if_pos h1]; exact h
    · rename_i h1
      rw [if_neg h1]
      split at h
      · rename_i h2
        rw [hu'.2] at h
        simp [okZ] at h
      · split at h
        · rw [hu'.2] at h
          simp [okS] at h
        · cases h
theorem count_set (st : Int) : ∀ (L : List Pg) (p : Nat) (h : p < L.length) (y : Pg), count st (L.set p y) + (if L[p].st = st then 1 else 0) = count st L + (if y.st = st then 1 else 0)
  | [], p, h, y => by simp at h
  | x :: L, 0, h, y => by
    simp only [List.set_cons_zero, List.getElem_cons_zero, count, List.filter_cons]
    by_cases h1 : y.st = st <;> by_cases h2 : x.st = st <;> simp [h1, h2] <;> omega
  | x :: L, p + 1, h, y => by
    have ih := count_set st L p (by simpa using h) y
    simp only [List.set_cons_succ, List.getElem_cons_succ, count, List.filter_cons] at ih ⊢
    by_cases h2 : x.st = st <;> simp [h2] <;> omega
theorem count_mark (st : Int) (L : List Pg) (M : List Bool) : count st (mark L M) = count st L := by
  have : (mark L M).map Pg.st = L.map Pg.st := by
    apply List.ext_getElem (by simp [mark])
    intro i h1 h2
    simp [mark]
  have e : ∀ (K : List Pg), count st K = ((K.map Pg.st).filter fun s => decide (s = st)).length := fun K => by
    unfold count; rw [List.filter_map, List.length_map]; rfl
  rw [e, e, this]
theorem count_pos {st : Int} {L : List Pg} (h : 1 ≤ count st L) : ∃ i, ∃ h : i < L.length, L[i].st = st := by
  obtain ⟨x, hx⟩ := List.exists_mem_of_length_pos (l := L.filter fun x => decide (x.st = st)) (show 0 < (L.filter fun x => decide (x.st = st)).length from h)
  obtain ⟨hm, hs⟩ := List.mem_filter.1 hx
  obtain ⟨i, hi, rfl⟩ := List.mem_iff_getElem.1 hm
  exact ⟨i, hi, by simpa using hs⟩
/-- What the pages hold. -/
def conts (L : List Pg) : List ByteArray := L.map content
theorem valid_all {L : List Pg} {lim hand : Int} (h : valid L lim hand = true) : ∀ i (hi : i < L.length), okP L[i] = true := by
  intro i hi
  have := (valid_bd h).2.2.2.1
  rw [List.all_eq_true] at this
  exact this _ (List.getElem_mem hi)
theorem valid_mk {L : List Pg} {lim hand : Int} (h1 : 1 ≤ L.length ∧ L.length ≤ 32) (h2 : 1 ≤ lim ∧ lim ≤ L.length) (h3 : 0 ≤ hand ∧ hand < L.length) (h4 : ∀ i (hi : i < L.length), okP L[i] = true) (h5 : (count 1 L : Int) ≤ lim) : valid L lim hand = true := by
  unfold valid
  rw [if_neg (by omega)]
  have : L.all okP = true := by
    rw [List.all_eq_true]
    intro x hx
    obtain ⟨i, hi, rfl⟩ := List.mem_iff_getElem.1 hx
    exact h4 i hi
  rw [this]; simpa using h5
theorem getD_map_u (L : List Pg) (i : Nat) (hi : i < L.length) : (L.map Pg.u).getD i false = L[i].u := by
  rw [List.getD_eq_getElem?_getD, List.getElem?_map, List.getElem?_eq_getElem hi]; rfl
theorem getD_map_r (L : List Pg) (i : Nat) (hi : i < L.length) : (L.map fun x => decide (x.st = 1)).getD i false = decide (L[i].st = 1) := by
  rw [List.getD_eq_getElem?_getD, List.getElem?_map, List.getElem?_eq_getElem hi]; rfl
/-- The victim of a valid pager with a resident page: a resident page; the marks are a part of the old ones. -/
theorem ev_law {L : List Pg} {lim hand : Int} (hv : valid L lim hand = true) (hc : 1 ≤ count 1 L) :
    ∃ (k : Nat) (hk : k < L.length), evV L hand = k ∧ L[k].st = 1 ∧ evH L hand = ((k + 1) % L.length : Nat) ∧ ∀ i (hi : i < L.length), (evM L hand).getD i false = true → L[i].u = true := by
  obtain ⟨b1, b2, b3, _, _⟩ := valid_bd hv
  obtain ⟨i0, hi0, hs0⟩ := count_pos hc
  have ho : vicOut (L.map Pg.u) (L.map fun x => decide (x.st = 1)) hand = false := by
    unfold vicOut
    simp only [List.length_map]
    simp; omega
  have hlen : (L.map Pg.u).length = L.length := List.length_map _
  obtain ⟨k, hk⟩ := vicF_some (R := L.map fun x => decide (x.st = 1)) (ex := -1) (n := L.length) (L.map Pg.u) (a := hand.toNat) (r := i0) (by omega) hi0 (by rw [getD_map_r _ _ hi0]; simpa using hs0) (by omega)
  have hkl := vicF_lt (by omega) _ _ _ _ (by omega) hk
  obtain ⟨hkr, _⟩ := vicF_res _ _ _ _ hk
  rw [getD_map_r _ _ hkl] at hkr
  have hV : evV L hand = k := by unfold evV vicV vicP; rw [ho, hlen, hk]; rfl
  refine ⟨k, hkl, hV, by simpa using hkr, ?_, ?_⟩
  · unfold evH
    rw [hV, if_neg (by omega)]
    unfold vicH vicP; rw [ho, hlen, hk]; rfl
  · intro i hi h
    unfold evM vicU at h
    rw [ho] at h
    unfold vicP at h
    rw [hlen] at h
    have := vicF_mono _ _ _ _ h
    rw [getD_map_u _ _ hi] at this
    exact this
theorem mark_get (L : List Pg) (M : List Bool) (i : Nat) (hi : i < (mark L M).length) : (mark L M)[i] = ⟨(L[i]'(by simpa [mark] using hi)).st, (L[i]'(by simpa [mark] using hi)).d, M.getD i false⟩ := by simp [mark]
theorem content_mark (x : Pg) (u : Bool) : content ⟨x.st, x.d, u⟩ = content x := rfl
/-- An eviction from a valid pager with a resident page. -/
theorem ev_valid {L : List Pg} {lim hand : Int} (hv : valid L lim hand = true) (hc : 1 ≤ count 1 L) :
    valid (evL L hand) lim (evH L hand) = true ∧ count 1 (evL L hand) + 1 = count 1 L ∧ (∀ i (hi : i < L.length), L[i].st ≠ 1 → ((evL L hand)[i]'(by rw [evL_len]; exact hi)).st = L[i].st) ∧ ∀ i (hi : i < L.length), content ((evL L hand)[i]'(by rw [evL_len]; exact hi)) = content L[i] := by
  obtain ⟨b1, b2, b3, _, b5⟩ := valid_bd hv
  obtain ⟨k, hk, hV, hst, hH, hM⟩ := ev_law hv hc
  have hml : (mark L (evM L hand)).length = L.length := by simp [mark]
  have hE : evL L hand = (mark L (evM L hand)).set k (putOut L[k].d) := by
    unfold evL
    rw [hV, if_neg (by omega)]
    simp [hk]
  have hks : L[k].d.size = 128 := by
    have := okP_size (valid_all hv k hk)
    unfold content at this
    rw [if_neg (by rw [hst]; decide)] at this
    exact this
  obtain ⟨p1, p2, p3, p4, p5⟩ := putOut_ok hks
  have hcnt : count 1 (evL L hand) + 1 = count 1 L := by
    have := count_set 1 (mark L (evM L hand)) k (by rw [hml]; exact hk) (putOut L[k].d)
    rw [mark_get, if_pos hst, if_neg p3, count_mark] at this
    rw [hE]; omega
  have hget : ∀ i (hi : i < L.length), (evL L hand)[i]'(by rw [evL_len]; exact hi) = if i = k then putOut L[k].d else ⟨L[i].st, L[i].d, (evM L hand).getD i false⟩ := by
    intro i hi
    simp only [hE, List.getElem_set, mark_get]
    by_cases e : k = i
    · rw [if_pos e, if_pos e.symm]
    · rw [if_neg e, if_neg (fun q => e q.symm)]
  refine ⟨valid_mk (by rw [evL_len]; exact b1) (by rw [evL_len]; exact b2) ?_ ?_ (by omega), hcnt, ?_, ?_⟩
  · rw [hH, evL_len]
    have := Nat.mod_lt (k + 1) (show 0 < L.length by omega)
    omega
  · intro i hi
    have hi' : i < L.length := by rw [evL_len] at hi; exact hi
    rw [hget i hi']
    split
    · exact p1
    · exact okP_mark (valid_all hv i hi') (hM i hi')
  · intro i hi hs
    rw [hget i hi, if_neg (fun e => hs (by subst e; exact hst))]
  · intro i hi
    rw [hget i hi]
    split
    · rename_i e
      subst e
      rw [p2]; unfold content; rw [if_neg (by rw [hst]; decide)]
    · rfl
/-- A page of a valid pager touched: it is resident, every page holds what it held. -/
theorem touch_law {L : List Pg} {lim hand : Int} (hv : valid L lim hand = true) {p : Nat} (hp : p < L.length) :
    valid (touch L lim hand p).1 lim (touch L lim hand p).2.1 = true ∧ conts (touch L lim hand p).1 = conts L ∧ (∃ h : p < (touch L lim hand p).1.length, (touch L lim hand p).1[p].st = 1) ∧ (touch L lim hand p).2.2 = L[p].st ∧ L[p].st ≠ 0 := by
  obtain ⟨b1, b2, b3, _, b5⟩ := valid_bd hv
  have hgd : L.getD ((p : Int)).toNat dfl = L[p] := by rw [show ((p : Int)).toNat = p by omega, List.getD_eq_getElem?_getD, List.getElem?_eq_getElem hp]; rfl
  have hin : (valid L lim hand && (decide (0 ≤ (p : Int)) && decide ((p : Int) < L.length))) = true := by rw [hv]; simp; omega
  have hok := valid_all hv p hp
  have hs0 : L[p].st ≠ 0 := fun h => by unfold okP at hok; rw [h] at hok; simp at hok
  by_cases h1 : L[p].st = 1
  · rw [touch_res hin (by rw [hgd]; exact h1), hgd]
    have hsz : L[p].d.size = 128 := by
      have := okP_size hok
      unfold content at this
      rwa [if_neg (by rw [h1]; decide)] at this
    simp only [show ((p : Int)).toNat = p by omega]
    refine ⟨valid_mk (by rw [List.length_set]; exact b1) (by rw [List.length_set]; exact b2) (by rw [List.length_set]; exact b3) ?_ ?_, ?_, ⟨by rw [List.length_set]; exact hp, by rw [List.getElem_set_self]⟩, h1.symm, hs0⟩
    · intro i hi
      rw [List.getElem_set]
      split
      · simp [okP, hsz]
      · exact valid_all hv i (by simpa using hi)
    · have := count_set 1 L p hp ⟨1, L[p].d, true⟩
      rw [if_pos h1, if_pos rfl] at this
      omega
    · unfold conts
      apply List.ext_getElem (by simp)
      intro i hi hi'
      rw [List.getElem_map, List.getElem_map, List.getElem_set]
      split
      · rename_i e; subst e
        simp [content, h1]
      · rfl
  · rw [touch_put hin (by rw [hgd]; exact h1), hgd]
    simp only [show ((p : Int)).toNat = p by omega]
    have hT : valid (tch1 L lim hand).1 lim (tch1 L lim hand).2 = true ∧ (count 1 (tch1 L lim hand).1 : Int) + 1 ≤ lim ∧ ((tch1 L lim hand).1[p]'(by rw [tch1_len]; exact hp)).st ≠ 1 ∧ ∀ i (hi : i < L.length), content ((tch1 L lim hand).1[i]'(by rw [tch1_len]; exact hi)) = content L[i] := by
      unfold tch1
      by_cases hc : (count 1 L : Int) = lim
      · simp only [if_pos hc]
        obtain ⟨e1, e2, e3, e4⟩ := ev_valid hv (by omega)
        exact ⟨e1, by omega, by rw [e3 p hp h1]; exact h1, e4⟩
      · simp only [if_neg hc]
        exact ⟨hv, by omega, h1, fun i hi => by first | rfl | trivial⟩
    have hlen := tch1_len L lim hand
    obtain ⟨T, hMh⟩ : ∃ T, tch1 L lim hand = T := ⟨_, rfl⟩
    simp only [hMh] at hT hlen ⊢
    obtain ⟨M, h⟩ := T
    simp only at hT hlen ⊢
    obtain ⟨t1, t2, t3, t4⟩ := hT
    obtain ⟨c1, c2, c3, _, c5⟩ := valid_bd t1
    have hpM : p < M.length := by omega
    have hgM : M.getD p dfl = M[p] := by rw [List.getD_eq_getElem?_getD, List.getElem?_eq_getElem hpM]; rfl
    simp only [hgM]
    have hsz := okP_size (valid_all t1 p hpM)
    refine ⟨valid_mk (by rw [List.length_set]; exact c1) (by rw [List.length_set]; exact c2) (by rw [List.length_set]; exact c3) ?_ ?_, ?_, ⟨by rw [List.length_set]; exact hpM, by rw [List.getElem_set_self]⟩, by first | rfl | trivial, hs0⟩
    · intro i hi
      rw [List.getElem_set]
      split
      · simp [okP, hsz]
      · exact valid_all t1 i (by simpa using hi)
    · have := count_set 1 M p hpM ⟨1, content M[p], true⟩
      rw [if_neg t3, if_pos rfl] at this
      omega
    · unfold conts
      apply List.ext_getElem (by simp [hlen])
      intro i hi hi'
      rw [List.getElem_map, List.getElem_map, List.getElem_set]
      split
      · rename_i e; subst e
        rw [← t4 p hp]
        simp [content]
      · exact t4 i (by simpa using hi')
end Pg
end Go.Proofs.Ytgfbfmgdlbdlhaa
