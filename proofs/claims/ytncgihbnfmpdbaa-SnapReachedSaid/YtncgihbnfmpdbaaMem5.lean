/-
  Pieces of memory: append of whatever slice, nil and empty ones too (over any program).
-/
import Derived.Test.YtncgihbnfmpdbaaMem4
import Derived.Deep.Upon
set_option linter.unusedVariables false
namespace Go.Proofs.Ytncgihbnfmpdbaa
open Go.RowKit
namespace Mem
variable {W w w' : World} {H : List Ck} {α : Type} {e : TypeId} {s : Nat} {f : α → List Value}
/-- Append of a list, wherever it lies. -/
theorem cat_run (h : Mem W w H) (i : Nat) {A0 : Option Addr} {n cap0 : Nat} {L : List α} (hi : H[i]? = some (.row e s f W.heap.size (.slice A0 n cap0) L)) {P : Program} (ty t : TypeId) (z : Value) (bytes : Nat) (ht : P.underlying t = some (.slice e)) (hinfo : (P.info? e).map (fun i => (i.zero, i.size, i.bytes)) = some (some z, s, bytes))
    (hzs : z.cells.size = s) (hs0 : 0 < s) (hf : ∀ x, (f x).length = s) (hf1 : ∀ x, ∀ u ∈ f x, u.oneCell' = true) (M : List α) (A : Option Addr) (m c : Nat) (hsl : Sl s f w A m M) (hn : L.length = n) (hb : (n + m) * bytes ≤ 140737488355328) (hb1 : 1 ≤ bytes) :
    ∃ A' cap' w', (Builtin.append_ #[t, t] ty #[.slice A0 n cap0, .slice A m c]).run P w = .ok (.slice A' (n + m) cap') w' ∧ Mem W w' (H.set i (.row e s f W.heap.size (.slice A' (n + m) cap') (L ++ M))) ∧ (A' = none → A0 = none) := by
  by_cases hm : m = 0
  · subst hm
    obtain ⟨i0, hi0, hz0, hz1, hz2⟩ := info_parts hinfo
    have hM : M = [] := List.eq_nil_of_length_eq_zero hsl.1
    subst hM
    have hsrc : Src P i0.size t (.slice A 0 c) 0 [] w := by
      cases A with
      | none => exact Src.ofNil w ht c
      | some ad => exact Src.ofSlice w ht ad 0 c [] (by simp) (by simp) (by simp)
    refine ⟨A0, cap0, w, run_append_nothing w t t ty e i0 ht hi0 A0 n cap0 (Own.cap (h.row i hi)) _ hsrc, ?_, id⟩
    rw [List.append_nil]
    obtain ⟨li, hli⟩ := List.getElem?_eq_some_iff.1 hi
    have : H.set i (.row e s f W.heap.size (.slice A0 (n + 0) cap0) L) = H := by
      rw [Nat.add_zero, ← hli]; exact List.set_getElem_self li
    rw [this]; exact h
  · rcases hsl.2 with h0 | ⟨b, off, rfl, hlt, hc⟩
    · exact absurd h0 hm
    · obtain ⟨g, cap, w', hr, hM⟩ := h.app_run i hi (P := P) ty t z bytes ht hinfo hzs hs0 hf hf1 M ⟨b, off, none⟩ m c hsl.1 (by omega) (Sl.flat hf hs0 hsl) n hn hb hb1
      exact ⟨_, cap, w', hr, hM, fun h => by cases h⟩
theorem wp_cat (h : Mem W w H) (i : Nat) {A0 : Option Addr} {n cap0 : Nat} {L : List α} (hi : H[i]? = some (.row e s f W.heap.size (.slice A0 n cap0) L)) {P : Program} {ops : Array Oper} {rest : List Oper} {o : Oper} {a : Act} {Q : Exit → Act → World → Prop} (hgd : o.guard = none) (sl x : Operand) (t : TypeId)
    (ho : o.op = .call { callee := .builtin .append, args := #[sl, x], argTypes := #[t, t] }) (z : Value) (bytes : Nat) (ht : P.underlying t = some (.slice e)) (hinfo : (P.info? e).map (fun i => (i.zero, i.size, i.bytes)) = some (some z, s, bytes))
    (hzs : z.cells.size = s) (hs0 : 0 < s) (hf : ∀ x, (f x).length = s) (hf1 : ∀ x, ∀ u ∈ f x, u.oneCell' = true) (M : List α) (A : Option Addr) (m c : Nat)
    (hs : a.eval sl = .slice A0 n cap0) (hx : a.eval x = .slice A m c) (hsl : Sl s f w A m M) (hn : L.length = n) (hb : (n + m) * bytes ≤ 140737488355328) (hb1 : 1 ≤ bytes)
    (k : ∀ A' cap' w', Mem W w' (H.set i (.row e s f W.heap.size (.slice A' (n + m) cap') (L ++ M))) → (A' = none → A0 = none) → wpList P ops Q rest (a.put o.dst (.slice A' (n + m) cap')) w') :
    wpList P ops Q (o :: rest) a w := by
  refine wpList_plain hgd fun K hK => ?_
  obtain ⟨A', cap', w', hr, hM, hA⟩ := h.cat_run i hi (P := P) o.type t z bytes ht hinfo hzs hs0 hf hf1 M A m c hsl hn hb hb1
  unfold Oper.wp execOp
  simp only [ho, resolve, invoke, builtin, Sem.run_bind, Sem.run_pure, Result.andThen_ok, List.map_toArray, List.map_cons, List.map_nil, hs, hx, hr]
  exact hK _ _ (k A' cap' w' hM hA)
/-- At a step of a region that draws its order. -/
theorem step_cat (h : Mem W w H) (i : Nat) {A0 : Option Addr} {n cap0 : Nat} {L : List α} (hi : H[i]? = some (.row e s f W.heap.size (.slice A0 n cap0) L)) {P : Program} {ops : Array Oper} {o : Oper} {a : Act} {K : Act → World → Prop} {Q : Exit → Act → World → Prop} {E : Prop} (hgd : o.guard = none) (sl x : Operand) (t : TypeId)
    (ho : o.op = .call { callee := .builtin .append, args := #[sl, x], argTypes := #[t, t] }) (z : Value) (bytes : Nat) (ht : P.underlying t = some (.slice e)) (hinfo : (P.info? e).map (fun i => (i.zero, i.size, i.bytes)) = some (some z, s, bytes))
    (hzs : z.cells.size = s) (hs0 : 0 < s) (hf : ∀ x, (f x).length = s) (hf1 : ∀ x, ∀ u ∈ f x, u.oneCell' = true) (M : List α) (A : Option Addr) (m c : Nat)
    (hs : a.eval sl = .slice A0 n cap0) (hx : a.eval x = .slice A m c) (hsl : Sl s f w A m M) (hn : L.length = n) (hb : (n + m) * bytes ≤ 140737488355328) (hb1 : 1 ≤ bytes)
    (k : ∀ A' cap' w', Mem W w' (H.set i (.row e s f W.heap.size (.slice A' (n + m) cap') (L ++ M))) → (A' = none → A0 = none) → K (a.put o.dst (.slice A' (n + m) cap')) w') :
    if Region.wanted o (yielded ops a.tmps) = true then Oper.wp P o a w K Q else E := by
  have hw : Region.wanted o (yielded ops a.tmps) = true := by simp [Region.wanted, hgd]
  rw [if_pos hw]
  obtain ⟨A', cap', w', hr, hM, hA⟩ := h.cat_run i hi (P := P) o.type t z bytes ht hinfo hzs hs0 hf hf1 M A m c hsl hn hb hb1
  unfold Oper.wp execOp
  simp only [ho, resolve, invoke, builtin, Sem.run_bind, Sem.run_pure, Result.andThen_ok, List.map_toArray, List.map_cons, List.map_nil, hs, hx, hr]
  exact k A' cap' w' hM hA
end Mem
end Go.Proofs.Ytncgihbnfmpdbaa
