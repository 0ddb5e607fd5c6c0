/-
  Plain laws, no program in sight: write keeps a tree valid; what the nodes see then (chapter 41).
-/
import Derived.Test.YtncgihbnfmpdbaaSnS
set_option linter.unusedVariables false
set_option linter.unusedSimpArgs false
namespace Go.Proofs.Ytncgihbnfmpdbaa.Sn
/-- Nodes of which one has other deltas. -/
def setDs (N : List Nd) (n : Nat) (ds : List Dl) : List Nd := upd N n fun x => { x with ds := ds }
theorem setDs_at {N : List Nd} {n : Nat} {ds : List Dl} {j : Nat} {x : Nd} (hx : N[j]? = some x) : (setDs N n ds)[j]? = some (if n = j then { x with ds := ds } else x) := by
  unfold setDs; rw [upd_at, hx]; split <;> rfl
theorem setDs_inv {N : List Nd} {n : Nat} {ds : List Dl} {j : Nat} {y : Nd} (hy : (setDs N n ds)[j]? = some y) : ∃ x, N[j]? = some x ∧ y = if n = j then { x with ds := ds } else x := by
  cases hx : N[j]? with
  | none => unfold setDs at hy; rw [upd_at, hx] at hy; split at hy <;> cases hy
  | some x => rw [setDs_at hx] at hy; injection hy with hy; exact ⟨x, rfl, hy.symm⟩
theorem setDs_len (N : List Nd) (n : Nat) (ds : List Dl) : (setDs N n ds).length = N.length := upd_len
theorem setDs_kid (N : List Nd) (n : Nat) (ds : List Dl) (p : Int) : (kids (setDs N n ds) p).isEmpty = (kids N p).isEmpty := by
  refine kids_same fun j => ?_
  constructor
  · rintro ⟨y, hy, hk⟩
    obtain ⟨x, hx, rfl⟩ := setDs_inv hy
    refine ⟨x, hx, ?_⟩
    split at hk <;> exact hk
  · rintro ⟨x, hx, hk⟩
    refine ⟨_, setDs_at hx, ?_⟩
    split <;> exact hk
theorem setDs_ex (N : List Nd) (n : Nat) (ds : List Dl) (p : Int) (h : ex N p = true) : ex (setDs N n ds) p = true := by
  obtain ⟨i, x, rfl, hx, hl⟩ := ex_iff.1 h
  refine ex_iff.2 ⟨i, _, rfl, setDs_at hx, ?_⟩
  split <;> exact hl
/-- Valid deltas in a node that exists leave the tree valid. -/
theorem setDs_ok {T : Tr} (h : Ok T) {n : Nat} {x : Nd} (hx : T.nodes[n]? = some x) (hl : live x = true) {ds : List Dl} (hd : DsOk ds T.base.length) : Ok ⟨T.base, setDs T.nodes n ds⟩ := by
  refine ⟨h.base1, h.base2, h.base3, by show (setDs T.nodes n ds).length ≤ 12; rw [setDs_len]; exact h.nods, fun i y hy => ?_⟩
  obtain ⟨z, hz, rfl⟩ := setDs_inv hy
  have hk := h.node i z hz
  have e1 : (if n = i then { z with ds := ds } else z).nm = z.nm := by split <;> rfl
  have e2 : (if n = i then { z with ds := ds } else z).par = z.par := by split <;> rfl
  have e3 : (if n = i then { z with ds := ds } else z).op = z.op := by split <;> rfl
  refine ⟨fun q => ?_, by rw [e1]; exact hk.name, fun q => ?_, fun q j w hj hw => ?_, ?_, fun q => ?_⟩
  · rw [e1] at q
    have hni : ¬ n = i := by
      rintro rfl
      rw [hx] at hz; injection hz with hz; subst hz
      exact live_iff.1 hl q
    rw [if_neg hni]; exact hk.dead q
  · rw [e1] at q; rw [e2]
    obtain ⟨g1, g2, g3⟩ := hk.par q
    exact ⟨g1, g2, fun r => setDs_ex _ _ _ _ (g3 r)⟩
  · rw [e1] at q ⊢
    obtain ⟨v, hv, rfl⟩ := setDs_inv hw
    have : (if n = j then { v with ds := ds } else v).nm = v.nm := by split <;> rfl
    rw [this]; exact hk.once q j v hj hv
  · by_cases e : n = i
    · rw [if_pos e]; exact hd
    · rw [if_neg e]; exact hk.ds
  · rw [e1] at q; rw [e3, hk.op q, setDs_kid]
theorem putD_ok {ds : List Dl} {N : Nat} (h : DsOk ds N) {b : Int} {s : ByteArray} (h0 : 0 ≤ b) (h1 : b < N) (hs : s.size = 128) (is : Bool) : DsOk (putD ds b s is) N := by
  refine ⟨putD_srt h.sorted b s is, fun d hd => ?_⟩
  unfold putD at hd
  rcases List.mem_append.1 hd with hd | hd
  · rcases List.mem_append.1 hd with hd | hd
    · exact h.all d (below_mem.1 hd).1
    · cases is
      · simp at hd
      · simp only [if_true, List.mem_singleton] at hd; subst hd; exact ⟨h0, h1, hs⟩
  · exact h.all d (above_mem.1 hd).1
/-- Nodes that do not hang on a node see nothing of what is written there. -/
theorem setDs_sees {T : Tr} (h : Ok T) {n : Nat} {ds : List Dl} (h' : Ok ⟨T.base, setDs T.nodes n ds⟩) (hno : ∀ (i : Nat) (x : Nd), T.nodes[i]? = some x → ¬ x.par = n) (c : Int) : ∀ (m : Nat), m < T.nodes.length → ¬ m = n → sees ⟨T.base, setDs T.nodes n ds⟩ m c = sees T m c := by
  intro m
  induction m using Nat.strongRecOn with
  | ind m ih =>
    intro hm hmn
    obtain ⟨x, hx⟩ : ∃ x, T.nodes[m]? = some x := ⟨_, List.getElem?_eq_getElem hm⟩
    have hx' := setDs_at (n := n) (ds := ds) hx
    rw [if_neg (fun e => hmn e.symm)] at hx'
    rw [sees_at h hx, sees_at h' (i := m) hx']
    cases look x.ds c with
    | some s => rfl
    | none =>
      simp only
      have hq := ok_par_lt h hx
      by_cases hneg : x.par < 0
      · rw [sees_base _ _ hneg, sees_base _ _ hneg]; rfl
      · obtain ⟨p, hp⟩ := Int.eq_ofNat_of_zero_le (by omega : 0 ≤ x.par)
        rw [hp]
        exact ih p (by omega) (by omega) (fun e => hno m x hx (by rw [hp, e]))
theorem open_no {T : Tr} (h : Ok T) {n : Nat} {x : Nd} (hx : T.nodes[n]? = some x) (hl : live x = true) (ho : x.op = true) : ∀ (i : Nat) (y : Nd), T.nodes[i]? = some y → ¬ y.par = n := by
  intro i y hy e
  have hk := (h.node n x hx).op (live_iff.1 hl)
  rw [ho] at hk
  have := kids_none.1 hk.symm i y hy
  unfold isKid at this
  by_cases hd : y.nm.size = 0
  · have := ((h.node i y hy).dead hd).1; omega
  · rw [live_iff.2 hd] at this; simp [e] at this
/-- What is seen after a write. -/
theorem write_sees {T : Tr} (h : Ok T) {n : Nat} {x : Nd} (hx : T.nodes[n]? = some x) (hl : live x = true) (ho : x.op = true) {b : Int} {s : ByteArray} (h0 : 0 ≤ b) (h1 : b < T.base.length) (hs : s.size = 128) (c : Int) :
    sees ⟨T.base, setDs T.nodes n (putD x.ds b s (decide (¬ s = sees T x.par b)))⟩ n c = if c = b then s else sees T n c := by
  have hd := (h.node n x hx).ds
  obtain ⟨is, his⟩ : ∃ is, decide (¬ s = sees T x.par b) = is := ⟨_, rfl⟩
  rw [his]
  have h' := setDs_ok h hx hl (putD_ok hd h0 h1 hs is)
  have hno := open_no h hx hl ho
  have hx' := setDs_at (n := n) (ds := putD x.ds b s is) hx
  rw [if_pos rfl] at hx'
  rw [sees_at h' (i := n) hx', sees_at h hx]
  simp only
  rw [putD_look hd.sorted]
  have hpar : sees ⟨T.base, setDs T.nodes n (putD x.ds b s is)⟩ x.par c = sees T x.par c := by
    have hq := ok_par_lt h hx
    by_cases hneg : x.par < 0
    · rw [sees_base _ _ hneg, sees_base _ _ hneg]; rfl
    · obtain ⟨p, hp⟩ := Int.eq_ofNat_of_zero_le (by omega : 0 ≤ x.par)
      have := (List.getElem?_eq_some_iff.1 hx).1
      rw [hp] at hq ⊢
      exact setDs_sees h h' hno c p (by omega) (by omega)
  by_cases e : c = b
  · subst e
    rw [if_pos rfl, if_pos rfl]
    cases is
    · simp only [Bool.false_eq_true, if_false]
      rw [hpar]
      simpa using (Decidable.not_not.1 (of_decide_eq_false his)).symm
    · rfl
  · rw [if_neg e, if_neg e]
    cases look x.ds c with
    | some s' => rfl
    | none => simp only; exact hpar
end Go.Proofs.Ytncgihbnfmpdbaa.Sn
