/-
  Plain laws, no program in sight: a node deleted (chapter 41).
-/
import Derived.Test.YtncgihbnfmpdbaaSnT
set_option linter.unusedVariables false
set_option linter.unusedSimpArgs false
namespace Go.Proofs.Ytncgihbnfmpdbaa.Sn
def dead : Nd := ⟨⟨#[]⟩, -1, false, []⟩
/-- Has n no child but, perhaps, one node that is left out. -/
def alone (N : List Nd) (but : Nat) (p : Int) : Bool := (kids N p).all fun j => decide (j = (but : Int))
/-- The deltas of the child of a deleted node. -/
def kept (T : Tr) (c p : List Dl) (up : Int) : List Dl := (merge c p).filter fun d => decide (¬ d.s = sees T up d.b)
/-- The child, if there is just one. -/
def child (N : List Nd) (n : Nat) : Option Nat := match kids N n with | [j] => some j.toNat | _ => none
/-- A node after the deletion of n, whose parent is up, whose child is ko (with these deltas). -/
def delF (N : List Nd) (n : Nat) (up : Int) (ko : Option (Nat × List Dl)) (i : Nat) (y : Nd) : Nd :=
  if i = n then dead else match ko with
    | some k => if i = k.1 then { y with par := up, ds := k.2 } else y
    | none => if (i : Int) = up ∧ alone N n up = true then { y with op := true } else y
def del (N : List Nd) (n : Nat) (up : Int) (ko : Option (Nat × List Dl)) : List Nd := N.mapIdx (delF N n up ko)
theorem del_at {N : List Nd} {n : Nat} {up : Int} {ko : Option (Nat × List Dl)} {i : Nat} {y : Nd} (hy : N[i]? = some y) : (del N n up ko)[i]? = some (delF N n up ko i y) := by
  unfold del; rw [List.getElem?_mapIdx, hy]; rfl
theorem del_inv {N : List Nd} {n : Nat} {up : Int} {ko : Option (Nat × List Dl)} {i : Nat} {z : Nd} (hz : (del N n up ko)[i]? = some z) : ∃ y, N[i]? = some y ∧ z = delF N n up ko i y := by
  unfold del at hz; rw [List.getElem?_mapIdx] at hz
  cases hy : N[i]? with
  | none => rw [hy] at hz; cases hz
  | some y => rw [hy] at hz; injection hz with hz; exact ⟨y, rfl, hz.symm⟩
theorem del_len (N : List Nd) (n : Nat) (up : Int) (ko : Option (Nat × List Dl)) : (del N n up ko).length = N.length := List.length_mapIdx
theorem delF_nm {N : List Nd} {n : Nat} {up : Int} {ko : Option (Nat × List Dl)} {i : Nat} {y : Nd} (h : ¬ i = n) : (delF N n up ko i y).nm = y.nm := by
  unfold delF; rw [if_neg h]
  split
  · split <;> rfl
  · split <;> rfl
theorem delF_par {N : List Nd} {n : Nat} {up : Int} {ko : Option (Nat × List Dl)} {i : Nat} {y : Nd} (h : ¬ i = n) (hk : ∀ k, ko = some k → ¬ i = k.1) : (delF N n up ko i y).par = y.par ∧ (delF N n up ko i y).ds = y.ds := by
  unfold delF; rw [if_neg h]
  split
  · rename_i k
    rw [if_neg (hk k rfl)]; exact ⟨rfl, rfl⟩
  · split <;> exact ⟨rfl, rfl⟩
theorem delF_kid {N : List Nd} {n : Nat} {up : Int} {k : Nat × List Dl} {y : Nd} (h : ¬ k.1 = n) : delF N n up (some k) k.1 y = { y with par := up, ds := k.2 } := by
  unfold delF; rw [if_neg h]; simp
/-- The child is the one child. -/
structure Kid (T : Tr) (n : Nat) (ko : Option (Nat × List Dl)) : Prop where
  only : ∀ (i : Nat) (y : Nd), T.nodes[i]? = some y → isKid n y = true → ∃ k, ko = some k ∧ i = k.1
  is : ∀ k, ko = some k → ∃ y, T.nodes[k.1]? = some y ∧ isKid n y = true ∧ DsOk k.2 T.base.length
theorem kid_gt {T : Tr} (h : Ok T) {n : Nat} {ko : Option (Nat × List Dl)} (hk : Kid T n ko) {k : Nat × List Dl} (e : ko = some k) : n < k.1 := by
  obtain ⟨y, hy, hi, _⟩ := hk.is k e
  unfold isKid at hi
  simp only [Bool.and_eq_true, decide_eq_true_eq] at hi
  have := ok_par_lt h hy
  omega
theorem del_ok {T : Tr} (h : Ok T) {n : Nat} {x : Nd} (hx : T.nodes[n]? = some x) (hl : live x = true) {ko : Option (Nat × List Dl)} (hk : Kid T n ko) : Ok ⟨T.base, del T.nodes n x.par ko⟩ := by
  have hxp := (h.node n x hx).par (live_iff.1 hl)
  have hgt := fun {k} e => kid_gt h hk (k := k) e
  have hup : ∀ p : Nat, x.par = p → ∃ z, T.nodes[p]? = some z ∧ live z = true := by
    intro p hp
    obtain ⟨i, z, e, hz, hlz⟩ := ex_iff.1 (hxp.2.2 (by omega))
    obtain rfl : i = p := by omega
    exact ⟨z, hz, hlz⟩
  -- the kids of another node
  have hkids : ∀ i : Nat, ¬ i = n → ¬ (i : Int) = x.par → (kids (del T.nodes n x.par ko) i).isEmpty = (kids T.nodes i).isEmpty := by
    intro i hin hiu
    refine kids_same fun j => ?_
    constructor
    · rintro ⟨z, hz, hkz⟩
      obtain ⟨y, hy, rfl⟩ := del_inv hz
      refine ⟨y, hy, ?_⟩
      by_cases e : j = n
      · subst e
        unfold delF at hkz; rw [if_pos rfl] at hkz
        unfold isKid live dead at hkz; simp at hkz
      · by_cases e2 : ∃ k, ko = some k ∧ j = k.1
        · obtain ⟨k, ek, rfl⟩ := e2
          subst ek
          rw [delF_kid e] at hkz
          unfold isKid at hkz
          simp only [Bool.and_eq_true, decide_eq_true_eq] at hkz
          exact absurd hkz.2.symm hiu
        · obtain ⟨f1, _⟩ := delF_par (N := T.nodes) (up := x.par) (ko := ko) (y := y) e (fun k ek eq => e2 ⟨k, ek, eq⟩)
          unfold isKid live at hkz ⊢
          rw [delF_nm e, f1] at hkz; exact hkz
    · rintro ⟨y, hy, hky⟩
      refine ⟨_, del_at hy, ?_⟩
      have e : ¬ j = n := by
        rintro rfl
        rw [hx] at hy; injection hy with hy; subst hy
        unfold isKid at hky
        simp only [Bool.and_eq_true, decide_eq_true_eq] at hky
        exact hiu hky.2.symm
      have e2 : ∀ k, ko = some k → ¬ j = k.1 := by
        rintro k ek rfl
        obtain ⟨y', hy', hi', _⟩ := hk.is k ek
        rw [hy] at hy'; injection hy' with hy'; subst hy'
        unfold isKid at hky hi'
        simp only [Bool.and_eq_true, decide_eq_true_eq] at hky hi'
        omega
      obtain ⟨f1, _⟩ := delF_par (N := T.nodes) (up := x.par) (ko := ko) (y := y) e e2
      unfold isKid live at hky ⊢
      rw [delF_nm e, f1]; exact hky
  have hex : ∀ p : Int, ¬ p = n → ex T.nodes p = true → ex (del T.nodes n x.par ko) p = true := by
    intro p hp he
    obtain ⟨i, z, rfl, hz, hlz⟩ := ex_iff.1 he
    refine ex_iff.2 ⟨i, _, rfl, del_at hz, ?_⟩
    rw [live_iff, delF_nm (by omega)]; exact live_iff.1 hlz
  refine ⟨h.base1, h.base2, h.base3, by show (del T.nodes n x.par ko).length ≤ 12; rw [del_len]; exact h.nods, fun i z hz => ?_⟩
  obtain ⟨y, hy, rfl⟩ := del_inv hz
  by_cases hin : i = n
  · subst hin
    have : delF T.nodes i x.par ko i y = dead := by unfold delF; rw [if_pos rfl]
    rw [this]
    exact ⟨fun _ => ⟨rfl, rfl, rfl⟩, Nat.zero_le _, fun q => absurd rfl q, fun q => absurd rfl q, ⟨List.Pairwise.nil, by simp [dead]⟩, fun q => absurd rfl q⟩
  · have hkn := h.node i y hy
    have enm := delF_nm (N := T.nodes) (up := x.par) (ko := ko) (y := y) hin
    refine ⟨fun q => ?_, by rw [enm]; exact hkn.name, fun q => ?_, fun q j w hj hw => ?_, ?_, fun q => ?_⟩
    · rw [enm] at q
      have hd := hkn.dead q
      have hnk : ∀ k, ko = some k → ¬ i = k.1 := by
        rintro k ek rfl
        obtain ⟨y', hy', hi', _⟩ := hk.is k ek
        rw [hy] at hy'; injection hy' with hy'; subst hy'
        unfold isKid at hi'
        simp only [Bool.and_eq_true] at hi'
        exact live_iff.1 hi'.1 q
      have hnu : ¬ (i : Int) = x.par := by
        intro e
        obtain ⟨z', hz', hlz⟩ := hup i e.symm
        rw [hy] at hz'; injection hz' with hz'; subst hz'
        exact live_iff.1 hlz q
      have : delF T.nodes n x.par ko i y = y := by
        unfold delF; rw [if_neg hin]
        split
        · rename_i k; rw [if_neg (hnk k rfl)]
        · rw [if_neg (fun e => hnu e.1)]
      rw [this]; exact hd
    · rw [enm] at q
      obtain ⟨g1, g2, g3⟩ := hkn.par q
      by_cases e2 : ∃ k, ko = some k ∧ i = k.1
      · obtain ⟨k, ek, rfl⟩ := e2
        have := hgt ek
        subst ek
        rw [delF_kid hin]
        simp only
        refine ⟨hxp.1, by omega, fun r => hex _ (by omega) (hxp.2.2 r)⟩
      · obtain ⟨f1, _⟩ := delF_par (N := T.nodes) (up := x.par) (ko := ko) (y := y) hin (fun k ek eq => e2 ⟨k, ek, eq⟩)
        rw [f1]
        refine ⟨g1, g2, fun r => hex _ (fun e => e2 ?_) (g3 r)⟩
        exact hk.only i y hy (by unfold isKid; rw [live_iff.2 q, e]; simp)
    · rw [enm] at q ⊢
      obtain ⟨v, hv, rfl⟩ := del_inv hw
      by_cases e : j = n
      · subst e
        have : delF T.nodes j x.par ko j v = dead := by unfold delF; rw [if_pos rfl]
        rw [this]
        intro e3
        apply q
        rw [← e3]; rfl
      · rw [delF_nm e]; exact hkn.once q j v hj hv
    · by_cases e2 : ∃ k, ko = some k ∧ i = k.1
      · obtain ⟨k, ek, rfl⟩ := e2
        obtain ⟨_, _, _, hds⟩ := hk.is k ek
        subst ek
        rw [delF_kid hin]; exact hds
      · rw [(delF_par (N := T.nodes) (up := x.par) (ko := ko) (y := y) hin (fun k ek eq => e2 ⟨k, ek, eq⟩)).2]; exact hkn.ds
    · rw [enm] at q
      by_cases hiu : (i : Int) = x.par
      · -- the parent
        have hnot : y.op = false := by
          rw [hkn.op q, ← Bool.not_eq_true, kids_none]
          intro g
          have := g n x hx
          unfold isKid at this
          rw [hl] at this
          simp [hiu] at this
        cases ko with
        | some k =>
          have hik : ¬ i = k.1 := by have := hgt rfl; omega
          have ho : (delF T.nodes n x.par (some k) i y).op = y.op := by unfold delF; rw [if_neg hin]; simp only; rw [if_neg hik]
          rw [ho, hnot]
          symm
          rw [← Bool.not_eq_true, kids_none]
          intro g
          obtain ⟨y', hy', hi', _⟩ := hk.is k rfl
          have := g k.1 _ (del_at hy')
          have hkn' : ¬ k.1 = n := by have := hgt rfl; omega
          rw [delF_kid hkn'] at this
          unfold isKid live at this hi'
          simp only [Bool.and_eq_true] at hi'
          simp [hiu] at this
          simp at hi'
          exact hi'.1 this
        | none =>
          have hkk : ∀ j : Nat, ¬ j = n → ∀ v, T.nodes[j]? = some v → isKid i (delF T.nodes n x.par none j v) = isKid i v := by
            intro j hj v hv
            obtain ⟨f1, _⟩ := delF_par (N := T.nodes) (up := x.par) (ko := none) (y := v) hj (fun k ek => by cases ek)
            unfold isKid live
            rw [delF_nm hj, f1]
          by_cases ha : alone T.nodes n x.par = true
          · have ho : (delF T.nodes n x.par none i y).op = true := by unfold delF; rw [if_neg hin]; simp only; rw [if_pos ⟨hiu, ha⟩]
            rw [ho]
            symm
            rw [kids_none]
            intro j z hz
            obtain ⟨v, hv, rfl⟩ := del_inv hz
            by_cases e : j = n
            · subst e
              unfold delF; rw [if_pos rfl]; rfl
            · rw [hkk j e v hv]
              cases hkv : isKid i v
              · rfl
              · have hm : (j : Int) ∈ kids T.nodes x.par := kids_mem.2 ⟨j, v, rfl, hv, by rw [← hiu]; exact hkv⟩
                have := List.all_eq_true.1 ha _ hm
                simp at this
                omega
          · have ho : (delF T.nodes n x.par none i y).op = y.op := by unfold delF; rw [if_neg hin]; simp only; rw [if_neg (fun e => ha e.2)]
            rw [ho, hnot]
            symm
            rw [← Bool.not_eq_true, kids_none]
            intro g
            apply ha
            unfold alone
            rw [List.all_eq_true]
            intro j hj
            obtain ⟨j', v, rfl, hv, hkv⟩ := kids_mem.1 hj
            by_cases e : j' = n
            · simp [e]
            · have := g j' _ (del_at hv)
              rw [hkk j' e v hv, hiu, hkv] at this
              cases this
      · have ho : (delF T.nodes n x.par ko i y).op = y.op := by
          unfold delF; rw [if_neg hin]
          split
          · split <;> rfl
          · rw [if_neg (fun e => hiu e.1)]
        rw [ho, hkn.op q, hkids i hin hiu]
/-- What the other nodes see does not change. -/
theorem del_sees {T : Tr} (h : Ok T) {n : Nat} {x : Nd} (hx : T.nodes[n]? = some x) (hl : live x = true) {ko : Option (Nat × List Dl)} (hk : Kid T n ko) (hd : ∀ k y, ko = some k → T.nodes[k.1]? = some y → k.2 = kept T y.ds x.ds x.par) (c : Int) :
    ∀ m : Nat, m < T.nodes.length → ¬ m = n → sees ⟨T.base, del T.nodes n x.par ko⟩ m c = sees T m c := by
  have h' := del_ok h hx hl hk
  have hxp := ok_par_lt h hx
  have hnl := (List.getElem?_eq_some_iff.1 hx).1
  intro m
  induction m using Nat.strongRecOn with
  | ind m ih =>
    intro hm hmn
    obtain ⟨y, hy⟩ : ∃ y, T.nodes[m]? = some y := ⟨_, List.getElem?_eq_getElem hm⟩
    have hyp := ok_par_lt h hy
    rw [sees_at h hy, sees_at h' (i := m) (del_at hy)]
    by_cases e2 : ∃ k, ko = some k ∧ m = k.1
    · obtain ⟨k, ek, rfl⟩ := e2
      have hgt := kid_gt h hk ek
      obtain ⟨y', hy', hi', _⟩ := hk.is k ek
      rw [hy] at hy'; injection hy' with hy'; subst hy'
      unfold isKid at hi'
      simp only [Bool.and_eq_true, decide_eq_true_eq] at hi'
      have hkd := hd k y ek hy
      subst ek
      rw [delF_kid hmn]
      simp only
      have hpar : sees ⟨T.base, del T.nodes n x.par (some k)⟩ x.par c = sees T x.par c := by
        by_cases hneg : x.par < 0
        · rw [sees_base _ _ hneg, sees_base _ _ hneg]; rfl
        · obtain ⟨p, hp⟩ := Int.eq_ofNat_of_zero_le (by omega : 0 ≤ x.par)
          rw [hp] at hxp ⊢
          have := ih p (by omega) (by omega) (by omega)
          rw [hp] at this; exact this
      have hs1 := (h.node k.1 y hy).ds.sorted
      have hs2 := (h.node n x hx).ds.sorted
      rw [hkd]
      unfold kept
      rw [look_filter (merge_srt _ _ hs1 hs2), merge_look _ _ _ hs1 hs2, hi'.2, sees_at h hx]
      cases look y.ds c with
      | some s =>
        simp only
        by_cases g : s = sees T x.par c
        · simp only [g, not_true, decide_false, Bool.false_eq_true, if_false]; exact hpar
        · simp [g]
      | none =>
        simp only
        cases look x.ds c with
        | some s =>
          simp only
          by_cases g : s = sees T x.par c
          · simp only [g, not_true, decide_false, Bool.false_eq_true, if_false]; exact hpar
          · simp [g]
        | none => exact hpar
    · obtain ⟨f1, f2⟩ := delF_par (N := T.nodes) (up := x.par) (ko := ko) (y := y) hmn (fun k ek eq => e2 ⟨k, ek, eq⟩)
      rw [f1, f2]
      cases look y.ds c with
      | some s => rfl
      | none =>
        simp only
        by_cases hneg : y.par < 0
        · rw [sees_base _ _ hneg, sees_base _ _ hneg]; rfl
        · obtain ⟨p, hp⟩ := Int.eq_ofNat_of_zero_le (by omega : 0 ≤ y.par)
          rw [hp]
          refine ih p (by omega) (by omega) (fun e => e2 ?_)
          have hld : live y = true := by
            rw [live_iff]; intro q
            have := ((h.node m y hy).dead q).1; omega
          exact hk.only m y hy (by unfold isKid; rw [hld, hp, e]; simp)
end Go.Proofs.Ytncgihbnfmpdbaa.Sn
