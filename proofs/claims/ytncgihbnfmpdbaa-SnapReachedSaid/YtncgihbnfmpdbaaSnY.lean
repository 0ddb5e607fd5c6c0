/-
  A node deleted: plain lists of nodes; a piece of memory in another's place (chapter 41).
-/
import Derived.Test.YtncgihbnfmpdbaaSnX
set_option linter.unusedVariables false
set_option linter.unusedSimpArgs false
set_option maxRecDepth 100000
namespace Go.Proofs.Ytncgihbnfmpdbaa
open Go.RowKit
/-- A new piece in the place of an old one. -/
theorem Mem.replace {W w : World} {H : List Ck} {a c : Ck} {i : Nat} (h : Mem W w (a :: H)) (hi : H[i]? = some c) : Mem W w (H.set i a) := by
  have hl := (List.getElem?_eq_some_iff.1 hi).1
  have h1 : Mem W w (a :: H.eraseIdx i) := h.sub (List.Sublist.cons_cons a (List.eraseIdx_sublist H i))
  refine h1.permut ?_
  rw [List.set_eq_take_append_cons_drop, if_pos hl, List.eraseIdx_eq_take_drop_succ]
  exact List.perm_middle.symm
namespace Sn
def deleteE (T : Tr) (n : Int) : Int := if ex T.nodes n = false then 4100 else if 1 < (kids T.nodes n).length then 4104 else 0
def delKo (T : Tr) (n : Nat) (x : Nd) : Option (Nat × List Dl) := match kids T.nodes n with
  | [j] => (match T.nodes[j.toNat]? with | some y => some (j.toNat, kept T y.ds x.ds x.par) | none => none)
  | _ => none
def delete (T : Tr) (n : Int) : Tr := if deleteE T n = 0 then (match T.nodes[n.toNat]? with | some x => ⟨T.base, del T.nodes n.toNat x.par (delKo T n.toNat x)⟩ | none => T) else T
theorem delete_at {T : Tr} {n : Nat} {x : Nd} (hx : T.nodes[n]? = some x) (h : deleteE T n = 0) : delete T n = ⟨T.base, del T.nodes n x.par (delKo T n x)⟩ := by
  unfold delete
  rw [if_pos h, show ((n : Int)).toNat = n by omega, hx]
theorem delKo_none {T : Tr} {n : Nat} {x : Nd} (h : kids T.nodes n = []) : delKo T n x = none := by unfold delKo; rw [h]
theorem delKo_some {T : Tr} {n j : Nat} {x y : Nd} (h : kids T.nodes n = [(j : Int)]) (hy : T.nodes[j]? = some y) : delKo T n x = some (j, kept T y.ds x.ds x.par) := by
  unfold delKo; rw [h]; simp only [Int.toNat_natCast, hy]
theorem del_all {N : List Nd} {n : Nat} {up : Int} {ko : Option (Nat × List Dl)} (i : Nat) : (del N n up ko)[i]? = (N[i]?).map (delF N n up ko i) := by
  unfold del; rw [List.getElem?_mapIdx]
def gone (N : List Nd) (n : Nat) : List Nd := upd N n fun _ => dead
theorem gone_at {N : List Nd} {n : Nat} (i : Nat) : (gone N n)[i]? = (N[i]?).map (fun y => if i = n then dead else y) := by
  unfold gone; rw [upd_at]
  by_cases e : n = i
  · subst e; rw [if_pos rfl]; cases N[n]? <;> simp
  · rw [if_neg e]
    have : ¬ i = n := fun q => e q.symm
    cases N[i]? <;> simp [this]
theorem del_shut {N : List Nd} {n : Nat} {up : Int} (h : up < 0 ∨ alone N n up = false) : gone N n = del N n up none := by
  refine List.ext_getElem? fun i => ?_
  rw [gone_at, del_all]
  cases N[i]? with
  | none => rfl
  | some y =>
    simp only [Option.map_some]
    congr 1
    unfold delF
    by_cases e : i = n
    · rw [if_pos e, if_pos e]
    · rw [if_neg e, if_neg e]
      simp only
      rw [if_neg]
      rintro ⟨h1, h2⟩
      rcases h with h | h
      · omega
      · rw [h] at h2; cases h2
theorem del_open {N : List Nd} {n up : Nat} (hne : ¬ up = n) (h : alone N n up = true) : upd (gone N n) up (fun x => { x with op := true }) = del N n up none := by
  refine List.ext_getElem? fun i => ?_
  rw [upd_at, gone_at, del_all]
  cases N[i]? with
  | none => simp
  | some y =>
    simp only [Option.map_some]
    unfold delF
    by_cases e : i = n
    · rw [if_pos e, if_pos e, if_neg (by omega)]
    · rw [if_neg e, if_neg e]
      simp only
      by_cases e2 : up = i
      · subst e2
        rw [if_pos rfl, if_pos ⟨rfl, h⟩]
      · rw [if_neg e2, if_neg (fun q => e2 (by omega))]
theorem del_kid {N : List Nd} {n j : Nat} {up : Int} {ds : List Dl} (hne : ¬ j = n) : gone (setDs (upd N j (fun x => { x with par := up })) j ds) n = del N n up (some (j, ds)) := by
  refine List.ext_getElem? fun i => ?_
  unfold setDs
  rw [gone_at, upd_at, upd_at, del_all]
  cases N[i]? with
  | none => simp
  | some y =>
    simp only [Option.map_some]
    unfold delF
    by_cases e : i = n
    · subst e
      rw [if_neg (fun q => hne q), if_neg (fun q => hne q)]
      simp
    · rw [if_neg e]
      simp only
      by_cases e2 : j = i
      · subst e2
        rw [if_pos rfl, if_pos rfl, if_pos rfl]
        simp [e]
      · rw [if_neg e2, if_neg e2, if_neg (fun q => e2 q.symm)]
        simp [e]
theorem dead_kid (p : Int) : isKid p dead = false := by unfold isKid live dead; rfl
theorem alone_iff {N : List Nd} {n : Nat} {p : Int} : alone N n p = true ↔ ∀ (i : Nat) (y : Nd), N[i]? = some y → isKid p y = true → i = n := by
  unfold alone
  rw [List.all_eq_true]
  constructor
  · intro h i y hy hk
    have := h i (kids_mem.2 ⟨i, y, rfl, hy, hk⟩)
    simp only [decide_eq_true_eq] at this
    omega
  · intro h j hj
    obtain ⟨i, y, rfl, hy, hk⟩ := kids_mem.1 hj
    have := h i y hy hk
    simp [this]
theorem gone_alone {N : List Nd} {n : Nat} {p : Int} : (kids (gone N n) p).isEmpty = alone N n p := by
  rw [Bool.eq_iff_iff, kids_none, alone_iff]
  constructor
  · intro h i y hy hk
    refine Decidable.byContradiction fun e => ?_
    have := h i y (by rw [gone_at, hy]; simp [e])
    rw [this] at hk; cases hk
  · intro h i z hz
    rw [gone_at] at hz
    cases hy : N[i]? with
    | none => rw [hy] at hz; cases hz
    | some y =>
      rw [hy] at hz
      injection hz with hz
      subst hz
      by_cases e : i = n
      · show isKid p (if i = n then dead else y) = false; rw [if_pos e]; exact dead_kid p
      · show isKid p (if i = n then dead else y) = false; rw [if_neg e]
        cases hk : isKid p y
        · rfl
        · exact absurd (h i y hy hk) e
/-- The child that was turned is a child. -/
theorem gone_kid {N : List Nd} {n j : Nat} {up : Int} {ds : List Dl} {y : Nd} (hy : N[j]? = some y) (hl : live y = true) (hne : ¬ j = n) : (kids (gone (setDs (upd N j (fun x => { x with par := up })) j ds) n) up).isEmpty = false := by
  rw [← Bool.not_eq_true, kids_none]
  intro h
  have := h j { y with par := up, ds := ds } (by
    rw [gone_at]
    unfold setDs
    rw [upd_at, upd_at, if_pos rfl, if_pos rfl, hy]
    simp [hne])
  unfold isKid live at this
  unfold live at hl
  simp only [hl, decide_true, Bool.and_self] at this
  cases this
theorem NrsE.gone {R : List Nr} {N : List Nd} {n : Nat} {x : Nd} (h : NrsE R N) (hx : N[n]? = some x) : NrsE (R.set n ⟨⟨#[]⟩, -1, false, none, 0, 0⟩) (gone N n) := h.set hx ⟨rfl, rfl, rfl, rfl⟩
theorem dRows_gone {W : World} {R : List Nr} {N : List Nd} {n : Nat} {y : Nr} {x : Nd} (hy : R[n]? = some y) (hx : N[n]? = some x) :
    (dRows W R N).set n (.row 38 2 dlC W.heap.size (.slice none 0 0) []) = dRows W (R.set n ⟨⟨#[]⟩, -1, false, none, 0, 0⟩) (gone N n) := by
  refine List.ext_getElem? fun j => ?_
  have hl : (dRows W R N).length = min R.length N.length := by unfold dRows; exact List.length_zipWith
  have h1 := (List.getElem?_eq_some_iff.1 hy).1
  have h2 := (List.getElem?_eq_some_iff.1 hx).1
  by_cases e : n = j
  · subst e
    rw [List.getElem?_set_self (by rw [hl]; omega)]
    unfold dRows
    rw [List.getElem?_zipWith, List.getElem?_set_self h1, gone_at, hx]
    simp only [Option.map_some, if_true]
    rfl
  · rw [List.getElem?_set_ne e]
    unfold dRows
    rw [List.getElem?_zipWith, List.getElem?_zipWith, List.getElem?_set_ne e, gone_at]
    have : ¬ j = n := fun q => e q.symm
    cases N[j]? <;> simp [this]
/-- The deltas kept of a part of the merged ones. -/
def keptTo (T : Tr) (M : List Dl) (up : Int) (k : Nat) : List Dl := (M.take k).filter fun d => decide (¬ d.s = sees T up d.b)
theorem keptTo_next {T : Tr} {M : List Dl} {up : Int} {k : Nat} {d : Dl} (h : M[k]? = some d) : keptTo T M up (k + 1) = keptTo T M up k ++ (if decide (¬ d.s = sees T up d.b) then [d] else []) := by
  unfold keptTo
  rw [take_snoc' h, List.filter_append, List.filter_cons, List.filter_nil]
theorem keptTo_len (T : Tr) (M : List Dl) (up : Int) (k : Nat) : (keptTo T M up k).length ≤ k := by
  unfold keptTo
  exact Nat.le_trans (List.length_filter_le _ _) (by rw [List.length_take]; omega)
theorem keptTo_all (T : Tr) (c p : List Dl) (up : Int) : keptTo T (merge c p) up (merge c p).length = kept T c p up := by
  unfold keptTo kept; rw [List.take_length]
theorem deleteE_no {T : Tr} {n : Int} (h : ex T.nodes n = false) : deleteE T n = 4100 := if_pos h
theorem deleteE_yes {T : Tr} {n : Int} (h : ex T.nodes n = true) : deleteE T n = if 1 < (kids T.nodes n).length then 4104 else 0 := by unfold deleteE; rw [if_neg (by rw [h]; simp)]
section
variable {W w : World} {a b c : Ck} {Ab : Option Addr} {nb cb : Nat} {g nn cn : Nat} {B : List ByteArray} {R : List Nr} {N : List Nd} {p : Nat} {y : Nr} {x : Nd}
/-- The nodes in memory, one turned. -/
theorem mem_field (h : Mem W w (a :: b :: c :: tRows W Ab nb cb (some ⟨g, 0, none⟩) nn cn B R N)) (hy : R[p]? = some y) (hx : N[p]? = some x) {j : Nat} (hj : j < 4) (u : Value) (y' : Nr) (f : Nd → Nd) (hu : nrC y' = (nrC y).set j u) (h1 : y'.A = y.A ∧ y'.n = y.n ∧ y'.cap = y.cap) (h2 : (f x).ds = x.ds) :
    Mem W (w.setCell ⟨g, p * 4 + j, none⟩ u) (a :: b :: c :: tRows W Ab nb cb (some ⟨g, 0, none⟩) nn cn B (R.set p y') (upd N p f)) := by
  have := h.putAt 4 rfl nrC_len hy hj u y' hu
  unfold tRows
  rw [dRows_set hy hx h1 h2]; exact this
/-- A node's deltas turned into a list that the call has made. -/
theorem mem_deltas {A : Option Addr} {n cap : Nat} {D : List Dl} (h : Mem W w (.row 38 2 dlC W.heap.size (.slice A n cap) D :: a :: b :: c :: tRows W Ab nb cb (some ⟨g, 0, none⟩) nn cn B R N)) (hy : R[p]? = some y) (hx : N[p]? = some x) :
    Mem W (w.setCell ⟨g, p * 4 + 3, none⟩ (.slice A n cap)) (a :: b :: c :: tRows W Ab nb cb (some ⟨g, 0, none⟩) nn cn B (R.set p { y with A := A, n := n, cap := cap }) (setDs N p D)) := by
  have h1 := h.replace (i := p + 5) (dRows_at hy hx)
  have := h1.putAt 4 rfl nrC_len hy (j := 3) (by decide) (.slice A n cap) { y with A := A, n := n, cap := cap } rfl
  unfold tRows
  rw [← dRows_put hy hx]; exact this
theorem mem_gone (h : Mem W w (a :: b :: c :: tRows W Ab nb cb (some ⟨g, 0, none⟩) nn cn B R N)) (hy : R[p]? = some y) (hx : N[p]? = some x) :
    Mem W ((((w.setCell ⟨g, p * 4, none⟩ (.string ⟨#[]⟩)).setCell ⟨g, p * 4 + 1, none⟩ (.int .i64 (-1))).setCell ⟨g, p * 4 + 2, none⟩ (.bool false)).setCell ⟨g, p * 4 + 3, none⟩ (.slice none 0 0)) (a :: b :: c :: tRows W Ab nb cb (some ⟨g, 0, none⟩) nn cn B (R.set p ⟨⟨#[]⟩, -1, false, none, 0, 0⟩) (gone N p)) := by
  have hl := (List.getElem?_eq_some_iff.1 hy).1
  have h1 := (h.nilRow (e := 38) (s := 2) (f := dlC)).toFront.replace (i := p + 5) (dRows_at hy hx)
  have k0 := h1.putAt 4 rfl nrC_len hy (j := 0) (by decide) (.string ⟨#[]⟩) { y with nm := ⟨#[]⟩ } rfl
  have k1 := k0.putAt 4 rfl nrC_len (List.getElem?_set_self hl) (j := 1) (by decide) (.int .i64 (-1)) { y with nm := ⟨#[]⟩, par := -1 } rfl
  have k2 := k1.putAt 4 rfl nrC_len (List.getElem?_set_self (by rw [List.length_set]; exact hl)) (j := 2) (by decide) (.bool false) { y with nm := ⟨#[]⟩, par := -1, op := false } rfl
  have k3 := k2.putAt 4 rfl nrC_len (List.getElem?_set_self (by rw [List.length_set, List.length_set]; exact hl)) (j := 3) (by decide) (.slice none 0 0) ⟨⟨#[]⟩, -1, false, none, 0, 0⟩ rfl
  simp only [List.set_set] at k3
  unfold tRows
  rw [← dRows_gone hy hx]; exact k3
end
end Sn
end Go.Proofs.Ytncgihbnfmpdbaa
