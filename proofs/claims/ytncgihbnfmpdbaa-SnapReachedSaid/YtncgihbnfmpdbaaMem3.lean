/-
  Pieces of memory: an empty slice; append of a list, in a walk and at a step of a region that draws its order (over any program).
-/
import Derived.Test.YtncgihbnfmpdbaaMem2
import Derived.Deep.AppendLies
set_option linter.unusedVariables false
namespace Go.Proofs.Ytncgihbnfmpdbaa
open Go.RowKit
namespace Mem
variable {W w w' : World} {H : List Ck}
section
variable {α : Type} {e : TypeId} {s : Nat} {f : α → List Value}
theorem emptyRow (h : Mem W w H) {b : Nat} (hb : w.heap.size = b) : Mem W (w.alloc (.cells #[] e)) (H ++ [.row e s f W.heap.size (.slice (some ⟨b, 0, none⟩) 0 0) ([] : List α)]) := by
  subst hb
  exact h.own ((Held.refl w).alloc _) (Own.empty (Nat.le_refl _))
theorem app_run (h : Mem W w H) (i : Nat) {v : Value} {L : List α} (hi : H[i]? = some (.row e s f W.heap.size v L)) {P : Program} (ty t : TypeId) (z : Value) (bytes : Nat) (ht : P.underlying t = some (.slice e)) (hinfo : (P.info? e).map (fun i => (i.zero, i.size, i.bytes)) = some (some z, s, bytes))
    (hzs : z.cells.size = s) (hs0 : 0 < s) (hf : ∀ x, (f x).length = s) (hf1 : ∀ x, ∀ u ∈ f x, u.oneCell' = true) (M : List α) (ad : Addr) (m c : Nat)
    (hm : M.length = m) (hm0 : 0 < m) (hnews : ∀ j u, (M.flatMap f)[j]? = some u → w.cell? (ad.add j) = some u)
    (n : Nat) (hn : L.length = n) (hb : (n + m) * bytes ≤ 140737488355328) (hb1 : 1 ≤ bytes) :
    ∃ g cap w', (Builtin.append_ #[t, t] ty #[v, .slice (some ad) m c]).run P w = .ok (.slice (some ⟨g, 0, none⟩) (n + m) cap) w' ∧ Mem W w' (H.set i (.row e s f W.heap.size (.slice (some ⟨g, 0, none⟩) (n + m) cap) (L ++ M))) := by
  subst hn hm
  obtain ⟨i0, hi0, hz0, hz1, hz2⟩ := info_parts hinfo
  have hlen : L.length + M.length ≤ 140737488355328 := Nat.le_trans (Nat.le_mul_of_pos_right _ hb1) hb
  obtain ⟨g, cap, w', hr, h2, h3, h4, h5⟩ := run_append_lies (P := P) w t ty W.heap.size e i0 z s bytes ht hi0 hz0 hz1 hz2 hzs hs0 v L.length (L.flatMap f) (h.row i hi) ad M.length c (M.flatMap f) (flat_len hf M) hnews (fun u hu => by
    rw [List.mem_flatMap] at hu
    obtain ⟨y, _, hy⟩ := hu
    exact hf1 y u hy) hm0 (by unfold maxLen; omega) hb h.le w.heap.size rfl
  refine ⟨g, cap, w', hr, h.app i hi h3 ?_ (fun b hb' => ?_)⟩
  · unfold Own
    rw [List.flatMap_append, List.length_append]
    exact h2
  · simp only [Value.ownBlock] at hb'
    injection hb' with hb'
    subst hb'
    exact h4.imp id (fun h => by omega)
/-- Append of a list, at a step of a region that draws its order. -/
theorem step_apps (h : Mem W w H) (i : Nat) {v : Value} {L : List α} (hi : H[i]? = some (.row e s f W.heap.size v L)) {P : Program} {ops : Array Oper} {o : Oper} {a : Act} {K : Act → World → Prop} {Q : Exit → Act → World → Prop} {E : Prop} (hgd : o.guard = none) (sl x : Operand) (t : TypeId)
    (ho : o.op = .call { callee := .builtin .append, args := #[sl, x], argTypes := #[t, t] }) (z : Value) (bytes : Nat) (ht : P.underlying t = some (.slice e)) (hinfo : (P.info? e).map (fun i => (i.zero, i.size, i.bytes)) = some (some z, s, bytes))
    (hzs : z.cells.size = s) (hs0 : 0 < s) (hf : ∀ x, (f x).length = s) (hf1 : ∀ x, ∀ u ∈ f x, u.oneCell' = true) (M : List α) (ad : Addr) (m c : Nat)
    (hs : a.eval sl = v) (hx : a.eval x = .slice (some ad) m c) (hm : M.length = m) (hm0 : 0 < m) (hnews : ∀ j u, (M.flatMap f)[j]? = some u → w.cell? (ad.add j) = some u)
    (n : Nat) (hn : L.length = n) (hb : (n + m) * bytes ≤ 140737488355328) (hb1 : 1 ≤ bytes)
    (k : ∀ g cap w', Mem W w' (H.set i (.row e s f W.heap.size (.slice (some ⟨g, 0, none⟩) (n + m) cap) (L ++ M))) → K (a.put o.dst (.slice (some ⟨g, 0, none⟩) (n + m) cap)) w') :
    if Region.wanted o (yielded ops a.tmps) = true then Oper.wp P o a w K Q else E := by
  have hw : Region.wanted o (yielded ops a.tmps) = true := by simp [Region.wanted, hgd]
  rw [if_pos hw]
  obtain ⟨g, cap, w', hr, hM⟩ := h.app_run i hi (P := P) o.type t z bytes ht hinfo hzs hs0 hf hf1 M ad m c hm hm0 hnews n hn hb hb1
  unfold Oper.wp execOp
  simp only [ho, resolve, invoke, builtin, Sem.run_bind, Sem.run_pure, Result.andThen_ok, List.map_toArray, List.map_cons, List.map_nil, hs, hx, hr]
  exact k g cap w' hM
/-- Append of a list. -/
theorem wp_apps (h : Mem W w H) (i : Nat) {v : Value} {L : List α} (hi : H[i]? = some (.row e s f W.heap.size v L)) {P : Program} {ops : Array Oper} {rest : List Oper} {o : Oper} {a : Act} {Q : Exit → Act → World → Prop} (hgd : o.guard = none) (sl x : Operand) (t : TypeId)
    (ho : o.op = .call { callee := .builtin .append, args := #[sl, x], argTypes := #[t, t] }) (z : Value) (bytes : Nat) (ht : P.underlying t = some (.slice e)) (hinfo : (P.info? e).map (fun i => (i.zero, i.size, i.bytes)) = some (some z, s, bytes))
    (hzs : z.cells.size = s) (hs0 : 0 < s) (hf : ∀ x, (f x).length = s) (hf1 : ∀ x, ∀ u ∈ f x, u.oneCell' = true) (M : List α) (ad : Addr) (m c : Nat)
    (hs : a.eval sl = v) (hx : a.eval x = .slice (some ad) m c) (hm : M.length = m) (hm0 : 0 < m) (hnews : ∀ j u, (M.flatMap f)[j]? = some u → w.cell? (ad.add j) = some u)
    (n : Nat) (hn : L.length = n) (hb : (n + m) * bytes ≤ 140737488355328) (hb1 : 1 ≤ bytes)
    (k : ∀ g cap w', Mem W w' (H.set i (.row e s f W.heap.size (.slice (some ⟨g, 0, none⟩) (n + m) cap) (L ++ M))) → wpList P ops Q rest (a.put o.dst (.slice (some ⟨g, 0, none⟩) (n + m) cap)) w') :
    wpList P ops Q (o :: rest) a w := by
  refine wpList_plain hgd fun K hK => ?_
  obtain ⟨g, cap, w', hr, hM⟩ := h.app_run i hi (P := P) o.type t z bytes ht hinfo hzs hs0 hf hf1 M ad m c hm hm0 hnews n hn hb hb1
  unfold Oper.wp execOp
  simp only [ho, resolve, invoke, builtin, Sem.run_bind, Sem.run_pure, Result.andThen_ok, List.map_toArray, List.map_cons, List.map_nil, hs, hx, hr]
  exact hK _ _ (k g cap w' hM)
end
end Mem
end Go.Proofs.Ytncgihbnfmpdbaa
