/-
  Plain laws, no program in sight: create and write keep a tree valid; what the nodes see then (chapter 41).
-/
import Derived.Test.YtncgihbnfmpdbaaSnR
set_option linter.unusedVariables false
set_option linter.unusedSimpArgs false
namespace Go.Proofs.Ytncgihbnfmpdbaa.Sn
theorem ok_par_lt {T : Tr} (h : Ok T) {i : Nat} {x : Nd} (hx : T.nodes[i]? = some x) : -1 ≤ x.par ∧ x.par < i := by
  by_cases hd : x.nm.size = 0
  · have := ((h.node i x hx).dead hd).1; omega
  · have := (h.node i x hx).par hd; omega
/-- An old node after a creation. -/
def oldC (par : Int) (j : Nat) (x : Nd) : Nd := if par = j then { x with op := false } else x
theorem oldC_same (par : Int) (j : Nat) (x : Nd) : (oldC par j x).nm = x.nm ∧ (oldC par j x).par = x.par ∧ (oldC par j x).ds = x.ds := by unfold oldC; split <;> exact ⟨rfl, rfl, rfl⟩
theorem created_old {N : List Nd} {par : Int} {nm : ByteArray} {j : Nat} {x : Nd} (hx : N[j]? = some x) : (created N par nm)[j]? = some (oldC par j x) := by
  rw [created_at, if_pos (List.getElem?_eq_some_iff.1 hx).1, hx]; rfl
theorem created_new (N : List Nd) (par : Int) (nm : ByteArray) : (created N par nm)[N.length]? = some ⟨nm, par, true, []⟩ := by
  rw [created_at, if_neg (by omega), if_pos rfl]
theorem created_inv {N : List Nd} {par : Int} {nm : ByteArray} {j : Nat} {y : Nd} (hy : (created N par nm)[j]? = some y) : (∃ x, N[j]? = some x ∧ y = oldC par j x) ∨ (j = N.length ∧ y = ⟨nm, par, true, []⟩) := by
  rw [created_at] at hy
  split at hy
  · cases hx : N[j]? with
    | none => rw [hx] at hy; cases hy
    | some x => rw [hx] at hy; injection hy with hy; exact .inl ⟨x, rfl, hy.symm⟩
  · split at hy
    · rename_i h; injection hy with hy; exact .inr ⟨h, hy.symm⟩
    · cases hy
theorem create_ok {T : Tr} {par : Int} {nm : ByteArray} (h : Ok T) (h1 : par = -1 ∨ ex T.nodes par = true) (h2 : (find T.nodes nm).isSome = false) (h3 : T.nodes.length < 12) (h4 : ¬ nm.size = 0) (h5 : nm.size ≤ 12) : Ok ⟨T.base, created T.nodes par nm⟩ := by
  have hlen : (created T.nodes par nm).length = T.nodes.length + 1 := by
    unfold created; rw [List.length_append]; split <;> simp [upd_len]
  have hpar : -1 ≤ par ∧ par < T.nodes.length := by
    rcases h1 with rfl | h1
    · omega
    · obtain ⟨i, x, rfl, hx, _⟩ := ex_iff.1 h1
      have := (List.getElem?_eq_some_iff.1 hx).1; omega
  have hex : ∀ p, ex T.nodes p = true → ex (created T.nodes par nm) p = true := by
    intro p hp
    obtain ⟨i, x, rfl, hx, hl⟩ := ex_iff.1 hp
    refine ex_iff.2 ⟨i, _, rfl, created_old hx, ?_⟩
    rw [live_iff, (oldC_same par i x).1]; exact live_iff.1 hl
  have hfind := find_none.1 h2
  refine ⟨h.base1, h.base2, h.base3, by show (created T.nodes par nm).length ≤ 12; omega, fun i y hy => ?_⟩
  rcases created_inv hy with ⟨x, hx, rfl⟩ | ⟨rfl, rfl⟩
  · have hk := h.node i x hx
    have hi := (List.getElem?_eq_some_iff.1 hx).1
    obtain ⟨e1, e2, e3⟩ := oldC_same par i x
    refine ⟨fun hd => ?_, by rw [e1]; exact hk.name, fun hd => ?_, fun hd j z hj hz => ?_, by rw [e3]; exact hk.ds, fun hd => ?_⟩
    · rw [e1] at hd
      have := hk.dead hd
      have hpi : ¬ par = i := by
        rintro rfl
        rcases h1 with h1 | h1
        · omega
        · obtain ⟨i', x', hii, hx', hl⟩ := ex_iff.1 h1
          obtain rfl : i = i' := by omega
          rw [hx] at hx'; injection hx' with hx'; subst hx'
          exact live_iff.1 hl hd
      unfold oldC
      rw [if_neg hpi]; exact this
    · rw [e1] at hd; rw [e2]
      obtain ⟨g1, g2, g3⟩ := hk.par hd
      exact ⟨g1, g2, fun q => hex _ (g3 q)⟩
    · rw [e1] at hd ⊢
      rcases created_inv hz with ⟨z', hz', rfl⟩ | ⟨hjl, _⟩
      · rw [(oldC_same par j z').1]; exact hk.once hd j z' hj hz'
      · omega
    · rw [e1] at hd
      by_cases hpi : par = i
      · have ho : (oldC par i x).op = false := by unfold oldC; rw [if_pos hpi]
        rw [ho]
        symm
        rw [← Bool.not_eq_true, kids_none]
        intro q
        have := q T.nodes.length _ (created_new T.nodes par nm)
        unfold isKid at this
        rw [show live (⟨nm, par, true, []⟩ : Nd) = true from live_iff.2 h4] at this
        simp [hpi] at this
      · have ho : (oldC par i x).op = x.op := by unfold oldC; rw [if_neg hpi]
        rw [ho, hk.op hd]
        refine kids_same fun j => ?_
        constructor
        · rintro ⟨z, hz, hkz⟩
          refine ⟨_, created_old hz, ?_⟩
          obtain ⟨f1, f2, _⟩ := oldC_same par j z
          unfold isKid live at hkz ⊢
          rw [f1, f2]; exact hkz
        · rintro ⟨z, hz, hkz⟩
          rcases created_inv hz with ⟨z', hz', rfl⟩ | ⟨rfl, rfl⟩
          · refine ⟨z', hz', ?_⟩
            obtain ⟨f1, f2, _⟩ := oldC_same par j z'
            unfold isKid live at hkz ⊢
            rw [f1, f2] at hkz; exact hkz
          · unfold isKid at hkz
            simp at hkz
            exact absurd hkz.2 hpi
  · refine ⟨fun hd => absurd hd h4, h5, fun _ => ⟨hpar.1, hpar.2, fun q => ?_⟩, fun _ j z hj hz => ?_, ⟨List.Pairwise.nil, by simp⟩, fun _ => ?_⟩
    · rcases h1 with h1 | h1
      · simp only at q; omega
      · exact hex _ h1
    · rcases created_inv hz with ⟨z', hz', rfl⟩ | ⟨hjl, _⟩
      · rw [(oldC_same par j z').1]; exact hfind j z' hz'
      · omega
    · symm
      rw [kids_none]
      intro j z hz
      unfold isKid
      have hzp : ¬ z.par = (T.nodes.length : Int) := by
        rcases created_inv hz with ⟨z', hz', rfl⟩ | ⟨rfl, rfl⟩
        · rw [(oldC_same par j z').2.1]
          have := ok_par_lt h hz'
          have := (List.getElem?_eq_some_iff.1 hz').1
          omega
        · simp only; omega
      simp [hzp]
/-- What old nodes see does not change; the new one sees what its parent sees. -/
theorem create_sees {T : Tr} {par : Int} {nm : ByteArray} (h : Ok T) (h' : Ok ⟨T.base, created T.nodes par nm⟩) (hp : par < T.nodes.length) (hp0 : -1 ≤ par) (b : Int) : ∀ (n : Nat), n < T.nodes.length → sees ⟨T.base, created T.nodes par nm⟩ n b = sees T n b := by
  intro n
  induction n using Nat.strongRecOn with
  | ind n ih =>
    intro hn
    obtain ⟨x, hx⟩ : ∃ x, T.nodes[n]? = some x := ⟨_, List.getElem?_eq_getElem hn⟩
    rw [sees_at h hx, sees_at h' (i := n) (x := oldC par n x) (created_old hx)]
    obtain ⟨e1, e2, e3⟩ := oldC_same par n x
    rw [e2, e3]
    cases look x.ds b with
    | some s => rfl
    | none =>
      simp only
      have hq := ok_par_lt h hx
      by_cases hneg : x.par < 0
      · rw [sees_base _ _ hneg, sees_base _ _ hneg]; rfl
      · obtain ⟨p, hp⟩ := Int.eq_ofNat_of_zero_le (by omega : 0 ≤ x.par)
        rw [hp]
        exact ih p (by omega) (by omega)
theorem create_sees_new {T : Tr} {par : Int} {nm : ByteArray} (h : Ok T) (h' : Ok ⟨T.base, created T.nodes par nm⟩) (hp : par < T.nodes.length) (hp0 : -1 ≤ par) (b : Int) : sees ⟨T.base, created T.nodes par nm⟩ T.nodes.length b = sees T par b := by
  rw [sees_at h' (i := T.nodes.length) (x := ⟨nm, par, true, []⟩) (created_new _ _ _)]
  simp only [look, List.find?_nil, Option.map_none]
  by_cases hneg : par < 0
  · rw [sees_base _ _ hneg, sees_base _ _ hneg]; rfl
  · obtain ⟨p, rfl⟩ := Int.eq_ofNat_of_zero_le (by omega : 0 ≤ par)
    exact create_sees h h' hp hp0 b p (by omega)
end Go.Proofs.Ytncgihbnfmpdbaa.Sn
