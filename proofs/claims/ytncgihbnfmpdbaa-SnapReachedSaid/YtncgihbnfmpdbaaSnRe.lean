/-
  Contracts: fresh of the reference (chapter 41): the nodes in new memory, the base shared.
-/
import Derived.Test.YtncgihbnfmpdbaaSnRa
set_option linter.unusedVariables false
set_option linter.unusedSimpArgs false
set_option maxRecDepth 100000
namespace Go.Proofs.Ytncgihbnfmpdbaa
open Go.RowKit Go.BigFrame
namespace Sn
theorem drop_set {α : Type} {Rn R0 : List α} {k : Nat} (hl : Rn.length = k) (hk : k < R0.length) (r : α) : (Rn ++ R0.drop k).set k r = (Rn ++ [r]) ++ R0.drop (k + 1) := by
  subst hl
  rw [List.set_append_right _ _ (Nat.le_refl _), Nat.sub_self, List.drop_eq_getElem_cons hk, List.set_cons_zero]; simp
theorem drop_get {α : Type} {Rn R0 : List α} {k : Nat} {r : α} (hl : Rn.length = k) (hk : R0[k]? = some r) : (Rn ++ R0.drop k)[k]? = some r := by
  subst hl
  rw [List.getElem?_append_right (Nat.le_refl _), Nat.sub_self, List.getElem?_drop, Nat.add_zero]; exact hk
theorem fresh_step {W w : World} {rowD a b c : Ck} {D : List Ck} (h : Mem W w (rowD :: ([a, b, c] ++ D))) : Mem W w ([a, b, c] ++ (D ++ [rowD])) := by
  rw [← List.append_assoc]
  exact h.permut (List.perm_append_comm (l₁ := [rowD]))
/-- What fresh hands back. -/
def FrTo (Ab : Option Addr) (nb cb nn : Nat) (N : List Nd) (w : World) (e : Ending) (w' : World) : Prop := ∃ An cn R, e = .returned (.agg #[.slice Ab nb cb, .slice An nn cn]) ∧ TrM w w' none 0 0 An nn cn ⟨[], N⟩ R
set_option maxHeartbeats 4000000 in
theorem fresh_any (Ab : Option Addr) (nb cb : Nat) (An : Option Addr) (nn cn : Nat) (T : Tr) (w : World) (h : TrR w Ab nb An nn T) (hv : Ok T) :
    Calls Try.prog 46 #[.agg #[.slice Ab nb cb, .slice An nn cn]] w (FrTo Ab nb cb nn T.nodes w) := by
  have hnn := h.nn
  have hn12 := hv.nods
  rw [hnn] at hn12
  have HD := Lib.hid (ok_dl hv)
  obtain ⟨R0, hs0, hnil0, hl0, hok0⟩ := h.ns
  have HS := Lib.hid hs0
  have HR := Lib.hid hok0
  have HL0 : Hid (R0.length = nn) := hl0.trans hnn
  have HNN := Lib.hid hnn
  have M0 := Lib.hid ((((Mem.start w).alloc #[.slice Ab nb cb, .slice An nn cn] 27).alloc' (b := w.heap.size + 1) (by simp) #[.slice none 0 0, .slice none 0 0] 27).emptyRow (e := 36) (s := 4) (f := nrC) (b := w.heap.size + 2) (by simp))
  clear h hv hs0 hnil0 hl0 hok0 hnn
  go_enter Try.func46, Try.ntmps46
  go_wp2_with (first | (at_builtin; refine Mem.wp_cat M0.out 2 rfl rfl _ _ _ rfl _ 56 Try.underlying25 info_nd rfl (by decide) nrC_len nrC_one R0 An nn cn rfl rfl (HS.out.held M0.out.held) rfl (by omega) (by decide) ?_; intro A1 cp1 w1 M1 _; have M2 := Lib.hid M1; clear M1) | fail)
  rw [Nat.zero_add] at M2
  go_loopw [4] (fun i wr => ∃ (k : Nat) (Rn : List Nr), i = .int .i64 k ∧ k ≤ nn ∧ NrsE Rn (T.nodes.take k) ∧ Rn.length = k ∧ Mem w wr ([.box w.heap.size #[.slice Ab nb cb, .slice An nn cn] 27, .box (w.heap.size + 1) #[.slice none 0 0, .slice none 0 0] 27, .row 36 4 nrC w.heap.size (.slice A1 nn cp1) (Rn ++ R0.drop k)] ++ dRows w Rn (T.nodes.take k))) (fun i _ => nn - (intOf i).toNat)
  case atStart => exact ⟨0, [], rfl, Nat.zero_le _, ⟨rfl, fun i r x hr => by cases hr⟩, rfl, M2.out⟩
  case round =>
    obtain ⟨k, Rn, rfl, hk, hE, hl, M⟩ := hrel
    have M3 := Lib.hid M
    have HE := Lib.hid hE
    have HRn := Lib.hid hl
    clear M M2 hE hl
    by_cases hlt : (k : Int) < nn
    · have hkn : k < nn := by omega
      obtain ⟨r, hr⟩ : ∃ r, R0[k]? = some r := ⟨_, List.getElem?_eq_getElem (by rw [HL0.out]; exact hkn)⟩
      obtain ⟨x, hx⟩ : ∃ x, T.nodes[k]? = some x := ⟨_, List.getElem?_eq_getElem (by rw [HNN.out]; exact hkn)⟩
      have hro := HR.out k r x hr hx
      have HX := Lib.hid hx
      have HRO := Lib.hid hro
      have hdl := HD.out k x hx
      have hrn : r.n ≤ 64 := by rw [← hro.ds.1]; omega
      have hget := drop_get HRn.out hr
      obtain ⟨g, y, rfl, hge, hgl, hy, hcell⟩ := M3.out.slot 2 rfl nrC_len (by decide) (k := k) (by rw [List.length_append, List.length_drop, HRn.out, HL0.out]; omega)
      obtain rfl : r = y := by rw [hget] at hy; injection hy
      have z3 := (hcell 3 (by decide)).2 (.slice r.A r.n r.cap) rfl
      have z3f := (hcell 3 (by decide)).1
      have HG := Lib.hid hget
      have M4 := Lib.hid (M3.out.emptyRow (e := 38) (s := 2) (f := dlC) rfl).toFront
      have n1 : ¬ g = wr.heap.size := by omega
      have n2 : ¬ wr.heap.size = g := by omega
      have s0 : (0 : Int) ≤ k := by omega
      have HLT : Hid (k < R0.length) := show _ < _ by rw [HL0.out]; exact hkn
      clear hr hx hro hget hy hcell
      go_wp2_with (first | (at_builtin; refine Mem.wp_cat M4.out 0 rfl rfl _ _ _ rfl _ 24 Try.underlying34 SlcDl.info rfl (by decide) dlC_len dlC_one x.ds r.A r.n r.cap rfl rfl (HRO.out.ds.held M4.out.held) rfl (by omega) (by decide) ?_; intro A5 cp5 w5 M5 _; have M6 := Lib.hid M5; clear M5; rw [Nat.zero_add] at M6; have q3 := M6.out.cellAt 3 rfl nrC_len (by decide) HG.out (j := 3) (by decide); have y3 := q3.2 _ rfl; have y3f := q3.1; have hg5 := lt_of_cell y3) | fail)
      have M7 := Lib.hid (fresh_step (M6.out.putAt 3 rfl nrC_len HG.out (j := 3) (by decide) (.slice A5 r.n cp5) { r with A := A5, n := r.n, cap := cp5 } rfl))
      go_roundw
      case rel =>
        refine ⟨k + 1, Rn ++ [{ r with A := A5, n := r.n, cap := cp5 }], by go_num, by omega, ?_, by rw [List.length_append, HRn.out]; rfl, ?_⟩
        · rw [take_snoc' HX.out]; exact HE.out.snoc ⟨HRO.out.nm, HRO.out.par, HRO.out.op, by rw [HRO.out.ds.1]⟩
        · rw [take_snoc' HX.out, dRows_snoc w HE.out.1, ← drop_set HRn.out HLT.out]; exact M7.out
      case measure => (simp [intOf]) <;> omega
    · obtain rfl : nn = k := by omega
      have hT : T.nodes.take nn = T.nodes := List.take_of_length_le (by rw [HNN.out]; exact Nat.le_refl _)
      rw [hT, List.drop_of_length_le (by rw [HL0.out]; exact Nat.le_refl _), List.append_nil] at M3
      rw [hT] at HE
      clear hT
      obtain ⟨⟨q0, q1⟩, ⟨qf0, qf1⟩, qlt⟩ := M3.out.box2 0 rfl
      obtain ⟨⟨s0, s1⟩, ⟨sf0, sf1⟩, slt⟩ := M3.out.box2 1 rfl
      have M4 := Lib.hid ((M3.out.put 1 rfl 0 (.slice Ab nb cb)).put 1 rfl 1 (.slice A1 nn cp1))
      go_wp2
      refine bodyPost_ret (Bx.res_c Try.results46 rfl (TB.load (M4.out.blk 1 rfl) rfl rfl)) rfl ⟨A1, cp1, Rn, rfl, ?_, HE.out⟩
      exact (M4.out.rest.rest.nilRow (e := 9) (s := 1) (f := stC)).toFront
end Sn
end Go.Proofs.Ytncgihbnfmpdbaa
