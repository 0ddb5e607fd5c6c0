/-
  Contracts: a tree of the call's own; clone (chapter 41), of the program.
-/
import Derived.Test.YtncgihbnfmpdbaaSnI
import Derived.Test.YtncgihbnfmpdbaaMem6
import Derived.Test.YtncgihbnfmpdbaaSlcDl
import Derived.Test.YtncgihbnfmpdbaaSlcSt
set_option linter.unusedVariables false
set_option linter.unusedSimpArgs false
set_option maxRecDepth 100000
namespace Go.Proofs.Ytncgihbnfmpdbaa
open Go.RowKit
namespace Sn
theorem info_nd : (Try.prog.info? 36).map (fun i => (i.zero, i.size, i.bytes)) = some (some (.agg #[.string ⟨#[]⟩, .int .i64 0, .bool false, .slice none 0 0]), 4, 56) := by kernel_rfl
/-- A node in memory has the node's fields. -/
structure NrE (r : Nr) (x : Nd) : Prop where
  nm : r.nm = x.nm
  par : r.par = x.par
  op : r.op = x.op
  n : r.n = x.ds.length
def NrsE (R : List Nr) (N : List Nd) : Prop := R.length = N.length ∧ ∀ (i : Nat) (r : Nr) (x : Nd), R[i]? = some r → N[i]? = some x → NrE r x
theorem NrsE.snoc {R : List Nr} {N : List Nd} {r : Nr} {x : Nd} (h : NrsE R N) (hr : NrE r x) : NrsE (R ++ [r]) (N ++ [x]) := by
  refine ⟨by rw [List.length_append, List.length_append, h.1]; rfl, fun i r' x' hr' hx' => ?_⟩
  by_cases hi : i < R.length
  · rw [List.getElem?_append_left hi] at hr'
    rw [List.getElem?_append_left (by rw [← h.1]; exact hi)] at hx'
    exact h.2 i r' x' hr' hx'
  · rw [List.getElem?_append_right (by omega)] at hr'
    rw [List.getElem?_append_right (by rw [← h.1]; omega)] at hx'
    have h1 := (List.getElem?_eq_some_iff.1 hr').1
    have h0 : i - R.length = 0 := by simp at h1; omega
    rw [h0] at hr'
    rw [← h.1, h0] at hx'
    injection hr' with hr'; injection hx' with hx'
    subst hr' hx'; exact hr
/-- The deltas of a node in memory of the call's own. -/
def dRow (W : World) (r : Nr) (x : Nd) : Ck := .row 38 2 dlC W.heap.size (.slice r.A r.n r.cap) x.ds
def dRows (W : World) (R : List Nr) (N : List Nd) : List Ck := List.zipWith (dRow W) R N
theorem dRows_snoc (W : World) {R : List Nr} {N : List Nd} (h : R.length = N.length) (r : Nr) (x : Nd) : dRows W (R ++ [r]) (N ++ [x]) = dRows W R N ++ [dRow W r x] := by
  unfold dRows; rw [List.zipWith_append h]; rfl
theorem dRows_at {W : World} {R : List Nr} {N : List Nd} {i : Nat} {r : Nr} {x : Nd} (hr : R[i]? = some r) (hx : N[i]? = some x) : (dRows W R N)[i]? = some (dRow W r x) := by
  unfold dRows; rw [List.getElem?_zipWith, hr, hx]
/-- A tree of the call's own. -/
structure TrM (W w : World) (Ab : Option Addr) (nb cb : Nat) (An : Option Addr) (nn cn : Nat) (T : Tr) (R : List Nr) : Prop where
  mem : Mem W w (.row 9 1 stC W.heap.size (.slice Ab nb cb) T.base :: .row 36 4 nrC W.heap.size (.slice An nn cn) R :: dRows W R T.nodes)
  eq : NrsE R T.nodes
theorem TrM.keep {W w a : World} {Ab : Option Addr} {nb cb : Nat} {An : Option Addr} {nn cn : Nat} {T : Tr} {R : List Nr} (h : TrM W w Ab nb cb An nn cn T R) (q : Held w a) : TrM W a Ab nb cb An nn cn T R := ⟨h.mem.keep q, h.eq⟩
theorem TrM.held {W w : World} {Ab : Option Addr} {nb cb : Nat} {An : Option Addr} {nn cn : Nat} {T : Tr} {R : List Nr} (h : TrM W w Ab nb cb An nn cn T R) : Held W w := h.mem.held
theorem TrM.tr {W w : World} {Ab : Option Addr} {nb cb : Nat} {An : Option Addr} {nn cn : Nat} {T : Tr} {R : List Nr} (h : TrM W w Ab nb cb An nn cn T R) : TrR w Ab nb An nn T := by
  have h0 := h.mem.row 0 rfl
  have h1 := h.mem.row 1 rfl
  refine ⟨(Own.reads stC_len h0).1, fun e => own_nil (e ▸ h0), R, (Own.reads nrC_len h1).1, fun e => own_nil (e ▸ h1), h.eq.1, fun i r x hr hx => ?_⟩
  have he := h.eq.2 i r x hr hx
  have hd := h.mem.row (i + 2) (L := x.ds) (v := .slice r.A r.n r.cap) (f := dlC) (e := 38) (s := 2) (base := W.heap.size) (by
    rw [List.getElem?_cons_succ, List.getElem?_cons_succ, dRows_at hr hx]; rfl)
  exact ⟨he.nm, he.par, he.op, (Own.reads dlC_len hd).1, fun e => own_nil (e ▸ hd)⟩
/-- What a function hands back that makes a tree. -/
def RetT (nb : Nat) (nn : Nat) (T : Tr) (w : World) (e : Ending) (w' : World) : Prop := ∃ Ab cb An cn R, e = .returned (.agg #[.slice Ab nb cb, .slice An nn cn]) ∧ TrM w w' Ab nb cb An nn cn T R
theorem RetT.mk {nb nn : Nat} {T : Tr} {w w' : World} {Ab : Option Addr} {cb : Nat} {An : Option Addr} {cn : Nat} {R : List Nr} (h : TrM w w' Ab nb cb An nn cn T R) : RetT nb nn T w (.returned (.agg #[.slice Ab nb cb, .slice An nn cn])) w' := ⟨Ab, cb, An, cn, R, rfl, h⟩
theorem clone_step {W w : World} {a b c d e rowD bx : Ck} {D : List Ck} (h : Mem W w (rowD :: bx :: ([a, b, c, d, e] ++ D))) : Mem W w ([a, b, c, d, e] ++ (D ++ [rowD])) := by
  have h1 : Mem W w (rowD :: ([a, b, c, d, e] ++ D)) := h.sub (List.Sublist.cons_cons _ (List.sublist_cons_self _ _))
  rw [← List.append_assoc]
  exact h1.permut (List.perm_append_comm (l₁ := [rowD]))
/-- A box that holds a tree. -/
theorem TB.load {w : World} {b : Nat} {v u : Value} (h : w.heap[b]? = some (.cells #[v, u] 27 (0, 0))) (hv : v.oneCell' = true) (hu : u.oneCell' = true) : (loadVar 27 ⟨b, 0, none⟩).run Try.prog w = .ok (.agg #[v, u]) w := by
  have c0 := Bx.cell h 0 rfl
  have c1 := Bx.cell h 1 rfl
  simp [go_sem, c0, c1]
set_option maxHeartbeats 4000000 in
theorem clone_any (Ab : Option Addr) (nb cb : Nat) (An : Option Addr) (nn cn : Nat) (T : Tr) (w : World) (h : TrR w Ab nb An nn T) (hv : Ok T) :
    Calls Try.prog 38 #[.agg #[.slice Ab nb cb, .slice An nn cn]] w (RetT nb nn T w) := by
  have HT := Lib.hid h
  have hnn := h.nn
  have hbl : T.base.length = nb := h.bs.1
  have hb2 := hv.base2
  have hn12 := hv.nods
  have HV := Lib.hid hv
  rw [hbl] at hb2
  rw [hnn] at hn12
  have HC := Lib.hid (fun w' (q : Held w w') => SlcSt.clone_any stC_len stC_one Ab nb cb T.base w' (HT.out.bs.held q) HT.out.bnil (by omega))
  have M0 := Lib.hid ((((Mem.start w).alloc #[.slice Ab nb cb, .slice An nn cn] 27).alloc' (b := w.heap.size + 1) (by simp) #[.slice none 0 0, .slice none 0 0] 27).alloc' (b := w.heap.size + 2) (by simp) #[.slice none 0 0, .slice none 0 0] 27)
  clear h hv
  go_enter Try.func38, Try.ntmps38
  go_wp2_with fail
  refine (HC.out _ M0.out.held).mono ?_
  rintro e w1 ⟨v, rfl, ho, h1⟩
  have M1 := Lib.hid (M0.out.own h1 ho)
  obtain ⟨Ab', cb', rfl, _⟩ := ho.shape
  rw [hbl] at M1 ⊢
  obtain ⟨⟨u0, u1⟩, ⟨f0, f1⟩, ult⟩ := M1.out.box2 0 rfl
  obtain ⟨⟨p0, p1⟩, ⟨g0, g1⟩, plt⟩ := M1.out.box2 2 rfl
  clear ho h1 M0 f0 f1
  go_wp2
  have M2 : Hid (Mem w (w1.setCell ⟨w.heap.size + 2, 0, none⟩ (.slice Ab' nb cb')) [.box w.heap.size #[.slice Ab nb cb, .slice An nn cn] 27, .box (w.heap.size + 1) #[.slice none 0 0, .slice none 0 0] 27, .box (w.heap.size + 2) #[.slice Ab' nb cb', .slice none 0 0] 27, .row 9 1 stC w.heap.size (.slice Ab' nb cb') T.base, .row 36 4 nrC w.heap.size (.slice none 0 0) []]) := (M1.out.put 2 rfl 0 _).nilRow
  clear u0 u1 ult p0 p1 g0 g1 plt M1
  go_loopw [13] (fun i wr => ∃ (k : Nat) (R : List Nr) (A' : Option Addr) (c' : Nat), i = .int .i64 k ∧ k ≤ nn ∧ NrsE R (T.nodes.take k) ∧ Mem w wr ([.box w.heap.size #[.slice Ab nb cb, .slice An nn cn] 27, .box (w.heap.size + 1) #[.slice none 0 0, .slice none 0 0] 27, .box (w.heap.size + 2) #[.slice Ab' nb cb', .slice A' k c'] 27, .row 9 1 stC w.heap.size (.slice Ab' nb cb') T.base, .row 36 4 nrC w.heap.size (.slice A' k c') R] ++ dRows w R (T.nodes.take k))) (fun i _ => nn - (intOf i).toNat)
  case atStart => exact ⟨0, [], none, 0, rfl, Nat.zero_le _, ⟨rfl, fun i r x hr => by cases hr⟩, M2.out⟩
  case round =>
    obtain ⟨k, R, A', c', rfl, hk, hE, M⟩ := hrel
    have M3 := Lib.hid M
    have HE := Lib.hid hE
    clear M M2 hE
    by_cases hlt : (k : Int) < nn
    · obtain ⟨b, off, x, A, dn, dcap, rfl, lb, hx, x0, x1, x2, x3, hds, hnil⟩ := HT.out.at_ M3.out.held (k := k) (by omega)
      have HX := Lib.hid hx
      have hlb := lt_of_cell x0
      simp only at hlb
      have hdl := ds_len (HV.out.node k x hx).ds
      rw [hbl, hds.1] at hdl
      have hxn := hds.1
      have HCD := Lib.hid (fun w' (q : Held w w') => SlcDl.clone_any dlC_len dlC_one A dn dcap x.ds w' (hds.held q) hnil (by omega))
      have M4 := Lib.hid (M3.out.allocF rfl #[.string x.nm, .int .i64 x.par, .bool x.op, .slice A dn dcap] 36)
      clear hx hds hnil
      go_wp2_with fail
      refine (HCD.out _ M4.out.held).mono ?_
      rintro e w5 ⟨v, rfl, ho, h5⟩
      have M5 := Lib.hid (M4.out.ownF h5 ho)
      obtain ⟨A5, cap5, rfl, _⟩ := ho.shape
      rw [hxn] at M5 ⊢
      obtain ⟨⟨t0, t1, t2, t3⟩, ⟨_, _, _, tf⟩, tlt⟩ := M5.out.box4 1 rfl
      have M6 : Hid (Mem w (w5.setCell ⟨wr.heap.size, 3, none⟩ (.slice A5 dn cap5)) _) := M5.out.put 1 rfl 3 (.slice A5 dn cap5)
      obtain ⟨⟨q0, q1⟩, ⟨qf0, qf1⟩, qlt⟩ := M5.out.box2 4 rfl
      have hne : ¬ w.heap.size + 2 = wr.heap.size := fun e => M5.out.ne 4 1 rfl rfl (by decide) e
      have hRl : R.length = k := by rw [HE.out.1, List.length_take, hnn]; omega
      have HRL := Lib.hid hRl
      clear h5 ho hRl M4
      go_wp2_with (at_builtin; refine Mem.wp_app (M6.out.skip _) 6 rfl rfl _ _ _ rfl _ 56 Try.underlying25 info_nd rfl (by decide) nrC_len nrC_one ⟨x.nm, x.par, x.op, A5, dn, cap5⟩ ⟨w5.heap.size, 0, none⟩ 1 rfl rfl (cells_new _ (by simp) _ _) k HRL.out (by omega) (by decide) ?_; intro g7 cp7 w7 M7; have M8 := Lib.hid M7; clear M7; obtain ⟨⟨s0, s1⟩, ⟨sf0, sf1⟩, slt⟩ := M8.out.box2 4 rfl)
      have M9 := Lib.hid (clone_step (M8.out.put 4 rfl 1 (.slice (some ⟨g7, 0, none⟩) (k + 1) cp7)))
      go_roundw
      case rel =>
        refine ⟨k + 1, R ++ [⟨x.nm, x.par, x.op, A5, dn, cap5⟩], some ⟨g7, 0, none⟩, cp7, by go_num, by omega, ?_, ?_⟩
        · rw [take_snoc' HX.out]; exact HE.out.snoc ⟨rfl, rfl, rfl, hxn.symm⟩
        · rw [take_snoc' HX.out, dRows_snoc w HE.out.1]; exact M9.out
      case measure => (simp [intOf]) <;> omega
    · obtain rfl : nn = k := by omega
      have hT : T.nodes.take nn = T.nodes := List.take_of_length_le (by omega)
      rw [hT] at HE M3
      obtain ⟨⟨q0, q1⟩, ⟨qf0, qf1⟩, qlt⟩ := M3.out.box2 2 rfl
      obtain ⟨⟨s0, s1⟩, ⟨sf0, sf1⟩, slt⟩ := M3.out.box2 1 rfl
      have M4 := Lib.hid ((M3.out.put 1 rfl 0 (.slice Ab' nb cb')).put 1 rfl 1 (.slice A' nn c'))
      go_wp2
      refine bodyPost_ret (Bx.res_c Try.results38 rfl (TB.load (M4.out.blk 1 rfl) rfl rfl)) rfl (RetT.mk ⟨?_, HE.out⟩)
      exact M4.out.rest.rest.rest
end Sn
end Go.Proofs.Ytncgihbnfmpdbaa
