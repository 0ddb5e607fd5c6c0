/-
  Plain laws: what each node sees behind an act, as the law SnapKeeps holds it (chapter 41).
-/
import Derived.Test.YtncgihbnfmpdbaaSnAf
set_option linter.unusedVariables false
set_option linter.unusedSimpArgs false
namespace Go.Proofs.Ytncgihbnfmpdbaa.Sn
/-- The views that the law keeps. -/
structure Vw (B : List ByteArray) (T : Tr) (V : List (List ByteArray)) : Prop where
  base : T.base = B
  b4 : B.length = 4
  len : V.length = T.nodes.length
  four : ∀ L ∈ V, L.length = 4
  is : ∀ (k : Nat) (x : Nd) (L : List ByteArray), T.nodes[k]? = some x → live x = true → V[k]? = some L → L = viewTo T k 4
theorem viewTo_congr {T U : Tr} {n m : Int} {k : Nat} (h : ∀ c : Nat, sees T n c = sees U m c) : viewTo T n k = viewTo U m k := by
  unfold viewTo; exact List.map_congr_left fun b _ => h b
theorem viewTo_base {T : Tr} {n : Int} (hn : n < 0) (h4 : T.base.length = 4) : viewTo T n 4 = T.base := by
  refine List.ext_getElem? fun i => ?_
  unfold viewTo
  rw [List.getElem?_map]
  by_cases hi : i < 4
  · rw [List.getElem?_range hi, Option.map_some, sees_base _ _ hn]
    unfold base
    rw [show ((i : Int)).toNat = i by omega, List.getD_eq_getElem?_getD, List.getElem?_eq_getElem (by omega)]; rfl
  · rw [List.getElem?_eq_none (by simp; omega), List.getElem?_eq_none (by omega)]; rfl
theorem keep_create {B : List ByteArray} {T : Tr} {V : List (List ByteArray)} {par : Int} {nm : ByteArray} (h : Ok T) (hv : Vw B T V) (hn : nm.size = 1) (hE : createE T par nm = 0) :
    createN T par nm = T.nodes.length ∧ (create T par nm).nodes[T.nodes.length]? = some ⟨nm, par, true, []⟩ ∧ -1 ≤ par ∧ par < T.nodes.length ∧ (par < 0 → Vw B (create T par nm) (V ++ [B])) ∧ (∀ (p : Nat) (L : List ByteArray), par = p → V[p]? = some L → Vw B (create T par nm) (V ++ [L])) := by
  have h' := create_ok' (par := par) h hn
  obtain ⟨h1, h2, h3⟩ := createE_ok hE
  have hpr := par_range h1
  rw [create_yes hE] at h' ⊢
  have hlen : (created T.nodes par nm).length = T.nodes.length + 1 := by unfold created; rw [List.length_append]; split <;> simp [upd_len]
  have key : ∀ L : List ByteArray, L.length = 4 → L = viewTo T par 4 → Vw B ⟨T.base, created T.nodes par nm⟩ (V ++ [L]) := by
    intro L hL4 hL
    refine ⟨hv.base, hv.b4, by show (V ++ [L]).length = (created T.nodes par nm).length; rw [hlen, List.length_append, hv.len]; rfl, fun M hM => ?_, fun k x M hx hl hM => ?_⟩
    · rcases List.mem_append.1 hM with hM | hM
      · exact hv.four M hM
      · rw [List.mem_singleton] at hM; subst hM; exact hL4
    · rcases created_inv hx with ⟨z, hz, rfl⟩ | ⟨rfl, rfl⟩
      · have hk := (List.getElem?_eq_some_iff.1 hz).1
        rw [List.getElem?_append_left (by rw [hv.len]; exact hk)] at hM
        have hlz : live z = true := by unfold live at hl ⊢; rw [(oldC_same par k z).1] at hl; exact hl
        rw [hv.is k z M hz hlz hM]
        exact viewTo_congr fun c => (create_sees h h' hpr.2 hpr.1 c k hk).symm
      · rw [List.getElem?_append_right (by rw [hv.len]; exact Nat.le_refl _), hv.len, Nat.sub_self] at hM
        injection hM with hM
        rw [← hM, hL]
        exact viewTo_congr fun c => (create_sees_new h h' hpr.2 hpr.1 c).symm
  refine ⟨by unfold createN; rw [if_pos hE], created_new _ _ _, hpr.1, hpr.2, fun hneg => key B hv.b4 ?_, fun p L hp hL => key L (hv.four L (List.mem_of_getElem? hL)) ?_⟩
  · rw [viewTo_base hneg (by rw [hv.base]; exact hv.b4), hv.base]
  · subst hp
    rcases h1 with h1 | h1
    · omega
    · obtain ⟨i, x, e, hx, hl⟩ := ex_iff.1 h1
      obtain rfl : p = i := by omega
      exact hv.is p x L hx hl hL
theorem keep_write {B : List ByteArray} {T : Tr} {V : List (List ByteArray)} {n b : Int} {s : ByteArray} (h : Ok T) (hv : Vw B T V) (hs : s.size = 128) (hE : writeE T n b = 0) :
    ∃ (p c : Nat) (L : List ByteArray), n = p ∧ b = c ∧ c < 4 ∧ p < T.nodes.length ∧ V[p]? = some L ∧ Vw B (write T n b s) (V.set p (L.set c s)) := by
  obtain ⟨p, x, rfl, hx, hl, ho, h0, h1, hw⟩ := write_facts h s hE
  obtain ⟨c, rfl⟩ := Int.eq_ofNat_of_zero_le h0
  rw [hv.base, hv.b4] at h1
  have hp := (List.getElem?_eq_some_iff.1 hx).1
  have hpV : p < V.length := by rw [hv.len]; exact hp
  obtain ⟨L, hL⟩ : ∃ L, V[p]? = some L := ⟨_, List.getElem?_eq_getElem hpV⟩
  have hno := open_no h hx hl ho
  have h' := write_ok (n := (p : Int)) (b := (c : Int)) h hs
  rw [hw] at h'
  refine ⟨p, c, L, rfl, rfl, by omega, hp, hL, ?_⟩
  rw [hw]
  refine ⟨hv.base, hv.b4, by show (V.set p _).length = (setDs _ _ _).length; rw [List.length_set, setDs_len]; exact hv.len, fun M hM => ?_, fun k y M hy hly hM => ?_⟩
  · rcases List.mem_or_eq_of_mem_set hM with hM | rfl
    · exact hv.four M hM
    · rw [List.length_set]; exact hv.four L (List.mem_of_getElem? hL)
  · obtain ⟨z, hz, rfl⟩ := setDs_inv hy
    by_cases e : p = k
    · subst e
      rw [List.getElem?_set_self hpV] at hM
      injection hM with hM
      subst hM
      have hLv := hv.is p x L hx hl hL
      refine List.ext_getElem? fun i => ?_
      unfold viewTo
      rw [List.getElem?_map]
      by_cases hi : i < 4
      · rw [List.getElem?_range hi, Option.map_some, write_sees h hx hl ho (by omega) (by rw [hv.base, hv.b4]; omega) hs]
        by_cases hic : i = c
        · subst hic
          rw [if_pos rfl, List.getElem?_set_self (by rw [hv.four L (List.mem_of_getElem? hL)]; exact hi)]
        · rw [if_neg (by omega), List.getElem?_set_ne (fun q => hic q.symm), hLv]
          unfold viewTo
          rw [List.getElem?_map, List.getElem?_range hi]; rfl
      · rw [List.getElem?_eq_none (by rw [List.length_set, hv.four L (List.mem_of_getElem? hL)]; omega), List.getElem?_eq_none (by simp; omega)]; rfl
    · rw [List.getElem?_set_ne e] at hM
      rw [if_neg e] at hly
      rw [hv.is k z M hz hly hM]
      have hk := (List.getElem?_eq_some_iff.1 hz).1
      exact viewTo_congr fun c' => (setDs_sees h h' hno c' k hk (fun q => e q.symm)).symm
theorem keep_delete {B : List ByteArray} {T : Tr} {V : List (List ByteArray)} {n : Int} (h : Ok T) (hv : Vw B T V) : Vw B (delete T n) V := by
  by_cases hE : deleteE T n = 0
  · obtain ⟨p, x, ko, rfl, hx, hl, hd, hk, hkk⟩ := delete_facts h hE
    rw [hd]
    refine ⟨hv.base, hv.b4, by show V.length = (del _ _ _ _).length; rw [del_len]; exact hv.len, hv.four, fun k y M hy hly hM => ?_⟩
    obtain ⟨z, hz, rfl⟩ := del_inv hy
    have hkl := (List.getElem?_eq_some_iff.1 hz).1
    by_cases e : k = p
    · subst e
      unfold delF at hly; rw [if_pos rfl] at hly; cases hly
    · have hlz : live z = true := by unfold live at hly ⊢; rw [delF_nm e] at hly; exact hly
      rw [hv.is k z M hz hlz hM]
      exact viewTo_congr fun c => (del_sees h hx hl hk hkk c k hkl e).symm
  · rw [delete_no hE]; exact hv
theorem keep_no {B : List ByteArray} {T : Tr} {V : List (List ByteArray)} (hv : Vw B T V) {v : Nat} (hE : ¬ (actR T v).e = 0) : (actR T v).T = T := by
  unfold actR at hE ⊢
  split
  · rename_i c; rw [if_pos c] at hE; exact create_no hE
  · rename_i c
    rw [if_neg c] at hE
    split
    · rename_i c2; rw [if_pos c2] at hE; exact delete_no hE
    · rename_i c2; rw [if_neg c2] at hE; exact write_no hE
/-- What an act does, as the law looks at it. -/
inductive Acts (B : List ByteArray) (T : Tr) (V : List (List ByteArray)) : Op → Prop
  | bad (O : Op) (hT : Vw B O.T V) (he : ¬ O.e = 0) : Acts B T V O
  | base (O : Op) (x : Nd) (he : O.e = 0) (hk : O.kind = 0) (hn : O.node = (V.length : Nat)) (hx : O.T.nodes[V.length]? = some x) (hp : x.par < 0) (hT : Vw B O.T (V ++ [B])) : Acts B T V O
  | node (O : Op) (x : Nd) (p : Nat) (L : List ByteArray) (he : O.e = 0) (hk : O.kind = 0) (hn : O.node = (V.length : Nat)) (hx : O.T.nodes[V.length]? = some x) (hp : x.par = p) (hL : V[p]? = some L) (hT : Vw B O.T (V ++ [L])) : Acts B T V O
  | write (O : Op) (p c : Nat) (L : List ByteArray) (he : O.e = 0) (hk : O.kind = 1) (hn : O.node = (p : Nat)) (hb : O.block = (c : Nat)) (hc : c < 4) (hL : V[p]? = some L) (hT : Vw B O.T (V.set p (L.set c O.data))) : Acts B T V O
  | gone (O : Op) (he : O.e = 0) (hk : O.kind = 2) (hT : Vw B O.T V) : Acts B T V O
theorem acts {B : List ByteArray} {T : Tr} {V : List (List ByteArray)} (h : Ok T) (hv : Vw B T V) (v : Nat) : Acts B T V (actR T v) := by
  by_cases hE : (actR T v).e = 0
  · unfold actR at hE ⊢
    split
    · rename_i c
      rw [if_pos c] at hE
      obtain ⟨h1, h2, h3, h4, h5, h6⟩ := keep_create h hv rfl hE
      by_cases hp : aNode v < 0
      · exact .base _ _ hE rfl (by show createN T _ _ = _; rw [h1, hv.len]) (by rw [hv.len]; exact h2) hp (h5 hp)
      · obtain ⟨p, hpp⟩ := Int.eq_ofNat_of_zero_le (by omega : 0 ≤ aNode v)
        have hpl : p < V.length := by rw [hv.len]; omega
        have hL := List.getElem?_eq_getElem hpl
        exact .node _ _ p _ hE rfl (by show createN T _ _ = _; rw [h1, hv.len]) (by rw [hv.len]; exact h2) hpp hL (h6 p _ hpp hL)
    · rename_i c
      rw [if_neg c] at hE
      split
      · rename_i c2
        rw [if_pos c2] at hE
        exact .gone _ hE rfl (keep_delete h hv)
      · rename_i c2
        rw [if_neg c2] at hE
        obtain ⟨p, q, L, h1, h2, h3, h4, h5, h6⟩ := keep_write h hv (Pl.pageV_size _) hE
        exact .write _ p q L hE rfl h1 h2 h3 h5 h6
  · exact .bad _ (by rw [keep_no hv hE]; exact hv) hE
theorem vw_new {B : List ByteArray} (h : B.length = 4) : Vw B ⟨B, []⟩ [] := ⟨rfl, h, rfl, (fun L hL => by cases hL), (fun k x L hx => by simp at hx)⟩
end Go.Proofs.Ytncgihbnfmpdbaa.Sn
