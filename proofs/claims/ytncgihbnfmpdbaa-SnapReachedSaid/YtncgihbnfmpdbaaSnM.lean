/-
  Contracts: a tree that a callee has made, among the call's own pieces; nodes turned (chapter 41).
-/
import Derived.Test.YtncgihbnfmpdbaaSnL
set_option linter.unusedVariables false
set_option linter.unusedSimpArgs false
set_option maxRecDepth 100000
namespace Go.Proofs.Ytncgihbnfmpdbaa
open Go.RowKit
/-- What a callee has made joins what the call has. -/
theorem Mem.joinW {W w w' : World} {H H' H'' : List Ck} (h : Mem W w H) (k : Mem w w' H') (hb : H''.map Ck.bs = H'.map Ck.bs) (hp : ∀ d ∈ H'', d.P w') : Mem W w' (H ++ H'') := by
  have hk := h.keep k.held
  have hge : ∀ d ∈ H'', ∀ b ∈ d.bs, w.heap.size ≤ b := fun d hd b hbd => by
    have h1 : d.bs ∈ H''.map Ck.bs := List.mem_map_of_mem hd
    rw [hb, List.mem_map] at h1
    obtain ⟨c, hc, e⟩ := h1
    exact (k.ok c hc).2 b (by rw [e]; exact hbd)
  refine ⟨hk.held, fun c hc => ?_, List.pairwise_append.2 ⟨hk.sep, ?_, fun c hc d hd b hb1 hb2 => ?_⟩⟩
  · rcases List.mem_append.1 hc with hc | hc
    · exact hk.ok c hc
    · exact ⟨hp c hc, fun b hb' => Nat.le_trans h.le (hge c hc b hb')⟩
  · have h1 := k.sep
    have e : ∀ l : List Ck, (l.Pairwise fun c d => ∀ b ∈ c.bs, b ∉ d.bs) ↔ ((l.map Ck.bs).Pairwise fun c d => ∀ b ∈ c, b ∉ d) := fun l => (List.pairwise_map (l := l) (f := Ck.bs) (R := fun c d => ∀ b ∈ c, b ∉ d)).symm
    rw [e] at h1 ⊢
    rw [hb]; exact h1
  · have := c.lt (h.ok c hc).1 b hb1
    have := hge d hd b hb2
    omega
namespace Sn
theorem dRows_mem {W : World} {R : List Nr} {N : List Nd} {d : Ck} (h : d ∈ dRows W R N) : ∃ (i : Nat) (r : Nr) (x : Nd), R[i]? = some r ∧ N[i]? = some x ∧ d = dRow W r x := by
  obtain ⟨i, hi⟩ := List.mem_iff_getElem?.1 h
  unfold dRows at hi
  rw [List.getElem?_zipWith] at hi
  cases hr : R[i]? with
  | none => rw [hr] at hi; cases hi
  | some r =>
    cases hx : N[i]? with
    | none => rw [hr, hx] at hi; cases hi
    | some x => rw [hr, hx] at hi; injection hi with hi; exact ⟨i, r, x, hr, hx, hi.symm⟩
theorem dRows_bs (W V : World) (R : List Nr) (N : List Nd) : (dRows W R N).map Ck.bs = (dRows V R N).map Ck.bs := by
  unfold dRows; rw [List.map_zipWith, List.map_zipWith]; rfl
/-- The pieces of a tree. -/
def tRows (W : World) (Ab : Option Addr) (nb cb : Nat) (An : Option Addr) (nn cn : Nat) (B : List ByteArray) (R : List Nr) (N : List Nd) : List Ck :=
  .row 9 1 stC W.heap.size (.slice Ab nb cb) B :: .row 36 4 nrC W.heap.size (.slice An nn cn) R :: dRows W R N
theorem TrM.join {W w w' : World} {H : List Ck} {Ab : Option Addr} {nb cb : Nat} {An : Option Addr} {nn cn : Nat} {T : Tr} {R : List Nr} (h : Mem W w H) (k : TrM w w' Ab nb cb An nn cn T R) : Mem W w' (H ++ tRows W Ab nb cb An nn cn T.base R T.nodes) := by
  refine h.joinW k.mem ?_ ?_
  · unfold tRows; rw [List.map_cons, List.map_cons, List.map_cons, List.map_cons, dRows_bs W w]; rfl
  · intro d hd
    unfold tRows at hd
    rcases List.mem_cons.1 hd with rfl | hd
    · exact Own.mono (k.mem.row 0 rfl) h.le
    · rcases List.mem_cons.1 hd with rfl | hd
      · exact Own.mono (k.mem.row 1 rfl) h.le
      · obtain ⟨i, r, x, hr, hx, rfl⟩ := dRows_mem hd
        have := k.mem.get (i := i + 2) (c := dRow w r x) (by rw [List.getElem?_cons_succ, List.getElem?_cons_succ]; exact dRows_at hr hx)
        exact Own.mono this h.le
/-- One node in memory turned, but not its deltas. -/
theorem dRows_set {W : World} {R : List Nr} {N : List Nd} {i : Nat} {r r' : Nr} {x : Nd} {f : Nd → Nd} (hr : R[i]? = some r) (hx : N[i]? = some x) (h1 : r'.A = r.A ∧ r'.n = r.n ∧ r'.cap = r.cap) (h2 : (f x).ds = x.ds) : dRows W (R.set i r') (upd N i f) = dRows W R N := by
  unfold upd
  rw [hx]
  simp only
  refine List.ext_getElem? fun j => ?_
  unfold dRows
  rw [List.getElem?_zipWith, List.getElem?_zipWith]
  by_cases e : i = j
  · subst e
    rw [List.getElem?_set_self (List.getElem?_eq_some_iff.1 hr).1, List.getElem?_set_self (List.getElem?_eq_some_iff.1 hx).1, hr, hx]
    simp only
    congr 1
    unfold dRow
    rw [h1.1, h1.2.1, h1.2.2, h2]
  · rw [List.getElem?_set_ne e, List.getElem?_set_ne e]
theorem NrsE.set {R : List Nr} {N : List Nd} {i : Nat} {x : Nd} {r' : Nr} {f : Nd → Nd} (h : NrsE R N) (hx : N[i]? = some x) (hr : NrE r' (f x)) : NrsE (R.set i r') (upd N i f) := by
  refine ⟨by rw [List.length_set, upd_len, h.1], fun j r y hj hy => ?_⟩
  rw [upd_at] at hy
  by_cases e : i = j
  · subst e
    rw [if_pos rfl, hx] at hy
    have hl : i < R.length := by rw [h.1]; exact (List.getElem?_eq_some_iff.1 hx).1
    rw [List.getElem?_set_self hl] at hj
    injection hj with hj
    injection hy with hy
    subst hj hy; exact hr
  · rw [if_neg e] at hy
    rw [List.getElem?_set_ne e] at hj
    exact h.2 j r y hj hy
theorem NrsE.at {R : List Nr} {N : List Nd} (h : NrsE R N) {i : Nat} {x : Nd} (hx : N[i]? = some x) : ∃ r, R[i]? = some r ∧ NrE r x := by
  have hl : i < R.length := by rw [h.1]; exact (List.getElem?_eq_some_iff.1 hx).1
  exact ⟨R[i], List.getElem?_eq_getElem hl, h.2 i _ x (List.getElem?_eq_getElem hl) hx⟩
end Sn
end Go.Proofs.Ytncgihbnfmpdbaa
