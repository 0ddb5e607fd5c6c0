/-
  Pieces of memory: an empty slice; append of a list, in a walk and at a step of a region that draws its order (over any program).
  Pieces of memory: append in place, where there is room; the row without its last element (over any program).
  Pieces of memory: append of whatever slice, nil and empty ones too (over any program).
  Slices of structs that the call itself made: deleted from, inserted into: laws of no program.
  Pieces of memory: new pieces in front; what Delete and Insert leave; nil slices (over any program).
  Boxes: a block known whole; a function's results that lie in boxes.
  Contracts: Decode of the program (chapter 42).
-/
import Derived.Test.YtmmnanmegdflgaaZ4
import Derived.Deep.AppendLies
import Derived.Deep.Upon
import Derived.Test.YtmmnanmegdflgaaZ1
import Derived.Laws.CopyRow
import Derived.Lib.AppendZerosOnto
import Derived.Lib.Overlaps
import Derived.Laws.Externs
import Derived.Test.YtmmnanmegdflgaaProg
import Derived.WalkSpells
import Derived.BigQuiet
import Derived.Deep.DeepCutAuto
import Derived.Outline
import Derived.Deep.QuietTactic
set_option linter.unusedVariables false
namespace Go.Proofs.Ytmmnanmegdflgaa
open Go.RowKit
namespace Mem
variable {W w w' : World} {H : List Ck}
section
variable {α : Type} {e : TypeId} {s : Nat} {f : α → List Value}
theorem emptyRow (h : Mem W w H) {b : Nat} (hb : w.heap.size = b) : Mem W (w.alloc (.cells #[] e)) (H ++ [.row e s f W.heap.size (.slice (some ⟨b, 0, none⟩) 0 0) ([] : List α)]) := by
  subst hb
  exact h.own ((Held.refl w).alloc _) (Own.empty (Nat.le_refl _))
theorem app_run (h : Mem W w H) (i : Nat) {v : Value} {L : List α} (hi : H[i]? = some (.row e s f W.heap.size v L)) {P : Program} (ty t : TypeId) (z : Value) (bytes : Nat) (ht : P.underlying t = some (.slice e)) (hinfo : (P.info? e).map (fun i => (i.zero, i.size, i.bytes)) = some (some z, s, bytes))
    (hzs : z.cells.size = s) (hs0 : 0 < s) (hf : ∀ x, (f x).length = s) (hf1 : ∀ x, ∀ u ∈ f x, u.oneCell' = true) (M : List α) (ad : Addr) (m c : Nat)
    (hm : M.length = m) (hm0 : 0 < m) (hnews : ∀ j u, (M.flatMap f)[j]? = some u → w.cell? (ad.add j) = some u)
    (n : Nat) (hn : L.length = n) (hb : (n + m) * bytes ≤ 140737488355328) (hb1 : 1 ≤ bytes) :
    ∃ g cap w', (Builtin.append_ #[t, t] ty #[v, .slice (some ad) m c]).run P w = .ok (.slice (some ⟨g, 0, none⟩) (n + m) cap) w' ∧ Mem W w' (H.set i (.row e s f W.heap.size (.slice (some ⟨g, 0, none⟩) (n + m) cap) (L ++ M))) := by
  subst hn hm
  obtain ⟨i0, hi0, hz0, hz1, hz2⟩ := info_parts hinfo
  have hlen : L.length + M.length ≤ 140737488355328 := Nat.le_trans (Nat.le_mul_of_pos_right _ hb1) hb
  obtain ⟨g, cap, w', hr, h2, h3, h4, h5⟩ := run_append_lies (P := P) w t ty W.heap.size e i0 z s bytes ht hi0 hz0 hz1 hz2 hzs hs0 v L.length (L.flatMap f) (h.row i hi) ad M.length c (M.flatMap f) (flat_len hf M) hnews (fun u hu => by
    rw [List.mem_flatMap] at hu
    obtain ⟨y, _, hy⟩ := hu
    exact hf1 y u hy) hm0 (by unfold maxLen; omega) hb h.le w.heap.size rfl
  refine ⟨g, cap, w', hr, h.app i hi h3 ?_ (fun b hb' => ?_)⟩
  · unfold Own
    rw [List.flatMap_append, List.length_append]
    exact h2
  · simp only [Value.ownBlock] at hb'
    injection hb' with hb'
    subst hb'
    exact h4.imp id (fun h => by omega)
/-- Append of a list, at a step of a region that draws its order. -/
theorem step_apps (h : Mem W w H) (i : Nat) {v : Value} {L : List α} (hi : H[i]? = some (.row e s f W.heap.size v L)) {P : Program} {ops : Array Oper} {o : Oper} {a : Act} {K : Act → World → Prop} {Q : Exit → Act → World → Prop} {E : Prop} (hgd : o.guard = none) (sl x : Operand) (t : TypeId)
    (ho : o.op = .call { callee := .builtin .append, args := #[sl, x], argTypes := #[t, t] }) (z : Value) (bytes : Nat) (ht : P.underlying t = some (.slice e)) (hinfo : (P.info? e).map (fun i => (i.zero, i.size, i.bytes)) = some (some z, s, bytes))
    (hzs : z.cells.size = s) (hs0 : 0 < s) (hf : ∀ x, (f x).length = s) (hf1 : ∀ x, ∀ u ∈ f x, u.oneCell' = true) (M : List α) (ad : Addr) (m c : Nat)
    (hs : a.eval sl = v) (hx : a.eval x = .slice (some ad) m c) (hm : M.length = m) (hm0 : 0 < m) (hnews : ∀ j u, (M.flatMap f)[j]? = some u → w.cell? (ad.add j) = some u)
    (n : Nat) (hn : L.length = n) (hb : (n + m) * bytes ≤ 140737488355328) (hb1 : 1 ≤ bytes)
    (k : ∀ g cap w', Mem W w' (H.set i (.row e s f W.heap.size (.slice (some ⟨g, 0, none⟩) (n + m) cap) (L ++ M))) → K (a.put o.dst (.slice (some ⟨g, 0, none⟩) (n + m) cap)) w') :
    if Region.wanted o (yielded ops a.tmps) = true then Oper.wp P o a w K Q else E := by
  have hw : Region.wanted o (yielded ops a.tmps) = true := by simp [Region.wanted, hgd]
  rw [if_pos hw]
  obtain ⟨g, cap, w', hr, hM⟩ := h.app_run i hi (P := P) o.type t z bytes ht hinfo hzs hs0 hf hf1 M ad m c hm hm0 hnews n hn hb hb1
  unfold Oper.wp execOp
  simp only [ho, resolve, invoke, builtin, Sem.run_bind, Sem.run_pure, Result.andThen_ok, List.map_toArray, List.map_cons, List.map_nil, hs, hx, hr]
  exact k g cap w' hM
/-- Append of a list. -/
theorem wp_apps (h : Mem W w H) (i : Nat) {v : Value} {L : List α} (hi : H[i]? = some (.row e s f W.heap.size v L)) {P : Program} {ops : Array Oper} {rest : List Oper} {o : Oper} {a : Act} {Q : Exit → Act → World → Prop} (hgd : o.guard = none) (sl x : Operand) (t : TypeId)
    (ho : o.op = .call { callee := .builtin .append, args := #[sl, x], argTypes := #[t, t] }) (z : Value) (bytes : Nat) (ht : P.underlying t = some (.slice e)) (hinfo : (P.info? e).map (fun i => (i.zero, i.size, i.bytes)) = some (some z, s, bytes))
    (hzs : z.cells.size = s) (hs0 : 0 < s) (hf : ∀ x, (f x).length = s) (hf1 : ∀ x, ∀ u ∈ f x, u.oneCell' = true) (M : List α) (ad : Addr) (m c : Nat)
    (hs : a.eval sl = v) (hx : a.eval x = .slice (some ad) m c) (hm : M.length = m) (hm0 : 0 < m) (hnews : ∀ j u, (M.flatMap f)[j]? = some u → w.cell? (ad.add j) = some u)
    (n : Nat) (hn : L.length = n) (hb : (n + m) * bytes ≤ 140737488355328) (hb1 : 1 ≤ bytes)
    (k : ∀ g cap w', Mem W w' (H.set i (.row e s f W.heap.size (.slice (some ⟨g, 0, none⟩) (n + m) cap) (L ++ M))) → wpList P ops Q rest (a.put o.dst (.slice (some ⟨g, 0, none⟩) (n + m) cap)) w') :
    wpList P ops Q (o :: rest) a w := by
  refine wpList_plain hgd fun K hK => ?_
  obtain ⟨g, cap, w', hr, hM⟩ := h.app_run i hi (P := P) o.type t z bytes ht hinfo hzs hs0 hf hf1 M ad m c hm hm0 hnews n hn hb hb1
  unfold Oper.wp execOp
  simp only [ho, resolve, invoke, builtin, Sem.run_bind, Sem.run_pure, Result.andThen_ok, List.map_toArray, List.map_cons, List.map_nil, hs, hx, hr]
  exact hK _ _ (k g cap w' hM)
end
end Mem
end Go.Proofs.Ytmmnanmegdflgaa

set_option linter.unusedVariables false
namespace Go.Proofs.Ytmmnanmegdflgaa
open Go.RowKit
namespace Mem
variable {W w w' : World} {H : List Ck} {α : Type} {e : TypeId} {s : Nat} {f : α → List Value}
/-- A row without its last element, in the same block. -/
theorem shrink (h : Mem W w H) (i : Nat) {g n cap : Nat} {L : List α} {d : α} {base : Nat} (hf : ∀ x, (f x).length = s) (hn : L.length = n) (hi : H[i]? = some (.row e s f base (.slice (some ⟨g, 0, none⟩) (n + 1) cap) (L ++ [d]))) :
    Mem W w (H.set i (.row e s f base (.slice (some ⟨g, 0, none⟩) n cap) L)) := by
  subst hn
  refine h.upd hi _ (Below.refl 0 w) (fun b _ _ => rfl) ?_ (fun b hb => .inl hb)
  have ho := h.row i hi
  refine ⟨flat_len hf L, .inr ?_⟩
  rcases ho.2 with ⟨he, h0⟩ | ⟨g', cp, cur, he, q1, q2, q3, q4, q5, q6⟩
  · cases he
  · injection he with e1 e2 e3
    injection e1 with e1
    injection e1 with e1
    subst e1 e3
    refine ⟨g, cap, cur, rfl, q1, q2, by rw [List.length_append] at q3; omega, q4, q5, ?_⟩
    have q7 := congrArg (List.take (L.length * s)) q6
    have e4 : (List.flatMap f L).take (L.length * s) = List.flatMap f L := List.take_of_length_le (by rw [flat_len hf]; exact Nat.le_refl _)
    have e5 : min (L.length * s) ((L ++ [d]).length * s) = L.length * s := Nat.min_eq_left (Nat.mul_le_mul_right s (by rw [List.length_append]; omega))
    rw [List.take_take, e5, List.flatMap_append, List.take_append_of_le_length (by rw [flat_len hf]; exact Nat.le_refl _), e4] at q7
    exact q7
/-- An append of one element where there is room: in the same block. -/
theorem wp_app_in (h : Mem W w H) (i : Nat) {g n cap : Nat} {L : List α} (hi : H[i]? = some (.row e s f W.heap.size (.slice (some ⟨g, 0, none⟩) n cap) L)) {P : Program} {ops : Array Oper} {rest : List Oper} {o : Oper} {a : Act} {Q : Exit → Act → World → Prop} (hgd : o.guard = none) (sl x : Operand) (t : TypeId)
    (ho : o.op = .call { callee := .builtin .append, args := #[sl, x], argTypes := #[t, t] }) (z : Value) (bytes : Nat) (ht : P.underlying t = some (.slice e)) (hinfo : (P.info? e).map (fun i => (i.zero, i.size, i.bytes)) = some (some z, s, bytes))
    (hzs : z.cells.size = s) (hs0 : 0 < s) (hf : ∀ x, (f x).length = s) (hf1 : ∀ x, ∀ u ∈ f x, u.oneCell' = true) (d : α) (ad : Addr) (c : Nat)
    (hs : a.eval sl = .slice (some ⟨g, 0, none⟩) n cap) (hx : a.eval x = .slice (some ad) 1 c) (hnews : ∀ j u, (f d)[j]? = some u → w.cell? (ad.add j) = some u)
    (hn : L.length = n) (hroom : n + 1 ≤ cap) (hb : (n + 1) * bytes ≤ 140737488355328) (hb1 : 1 ≤ bytes)
    (k : ∀ w', Mem W w' (H.set i (.row e s f W.heap.size (.slice (some ⟨g, 0, none⟩) (n + 1) cap) (L ++ [d]))) → wpList P ops Q rest (a.put o.dst (.slice (some ⟨g, 0, none⟩) (n + 1) cap)) w') :
    wpList P ops Q (o :: rest) a w := by
  subst hn
  have hnews' : ∀ j u, ([d].flatMap f)[j]? = some u → w.cell? (ad.add j) = some u := by
    rw [List.flatMap_singleton]; exact hnews
  obtain ⟨g', cap', w', hr, hM⟩ := h.app_run i hi (P := P) o.type t z bytes ht hinfo hzs hs0 hf hf1 [d] ad 1 c rfl (by decide) hnews' L.length rfl hb hb1
  have hsame : g' = g ∧ cap' = cap := by
    obtain ⟨i0, hi0, hz0, hz1, hz2⟩ := info_parts hinfo
    rcases (h.row i hi).2 with ⟨he, h0⟩ | ⟨g1, cp, cur, he, q1, q2, q3, q4, q5, q6⟩
    · cases he
    · injection he with e1 e2 e3
      injection e1 with e1
      injection e1 with e1
      subst e1 e3
      have := run_append_room (P := P) w t o.type e i0 ht hi0 g L.length cap cur q2 ad 1 c (f d) (by rw [hf, hz1, Nat.one_mul]) hnews (hf1 d) hroom (by
        rw [hf, hz1, q5]
        have := Nat.mul_le_mul_right s hroom
        rw [Nat.add_mul] at this; omega)
      rw [this] at hr
      injection hr with hr _
      injection hr with r1 r2 r3
      injection r1 with r1
      injection r1 with r1
      exact ⟨r1.symm, r3.symm⟩
  obtain ⟨rfl, rfl⟩ := hsame
  refine wpList_plain hgd fun K hK => ?_
  unfold Oper.wp execOp
  simp only [ho, resolve, invoke, builtin, Sem.run_bind, Sem.run_pure, Result.andThen_ok, List.map_toArray, List.map_cons, List.map_nil, hs, hx, hr]
  exact hK _ _ (k w' hM)
/-- A slice that make lays, of no elements, with room for some. -/
theorem wp_make0 (h : Mem W w H) {P : Program} {ops : Array Oper} {rest : List Oper} {o : Oper} {a : Act} {Q : Exit → Act → World → Prop} (hgd : o.guard = none) (l c : Operand) (t : TypeId) (hop : o.op = Op.makeSlice t l c)
    (z : Value) (bytes : Nat) (ht : P.underlying t = some (.slice e)) (hinfo : (P.info? e).map (fun i => (i.zero, i.size, i.bytes)) = some (some z, s, bytes))
    (kl kc : IntKind) (C : Int) (n : Nat) (hl : a.eval l = .int kl 0) (hc : a.eval c = .int kc C) (hC : C = (n : Int)) (hb : bytes * n ≤ 281474976710656) (hm : n ≤ maxLen)
    (k : ∀ w', Mem W w' (H ++ [.row e s f W.heap.size (.slice (some ⟨w.heap.size, 0, none⟩) 0 n) ([] : List α)]) → Held w w' → wpList P ops Q rest (a.put o.dst (.slice (some ⟨w.heap.size, 0, none⟩) 0 n)) w') :
    wpList P ops Q (o :: rest) a w := by
  obtain ⟨i0, hi, hz0, hz1, hz2⟩ := info_parts hinfo
  refine wpList_make_own w hgd l c t hop w.heap.size e i0 z s ht hi hz0 hz1 kl kc C n hl hc hC (by rw [hz2]; exact hb) hm (Nat.le_refl _) ?_
  intro w' h1 h2
  have hh : Held w w' := ⟨h2.os, h2.tape, h2.output, h2.size, fun k hk => h2.block k hk (by simp)⟩
  exact k w' (h.own hh h1) hh
end Mem
/-- A row that is not empty lies in a block. -/
theorem own_blk {α : Type} {e : TypeId} {s : Nat} {f : α → List Value} {base : Nat} {w : World} {v : Value} {L : List α} (h : Own e s f base w v L) (hL : 0 < L.length) : ∃ g cap, v = .slice (some ⟨g, 0, none⟩) L.length cap ∧ L.length ≤ cap := by
  rcases h.2 with ⟨_, h0⟩ | ⟨g, cp, cur, he, q1, q2, q3, _⟩
  · omega
  · exact ⟨g, cp, he, q3⟩
end Go.Proofs.Ytmmnanmegdflgaa

set_option linter.unusedVariables false
namespace Go.Proofs.Ytmmnanmegdflgaa
open Go.RowKit
namespace Mem
variable {W w w' : World} {H : List Ck} {α : Type} {e : TypeId} {s : Nat} {f : α → List Value}
/-- Append of a list, wherever it lies. -/
theorem cat_run (h : Mem W w H) (i : Nat) {A0 : Option Addr} {n cap0 : Nat} {L : List α} (hi : H[i]? = some (.row e s f W.heap.size (.slice A0 n cap0) L)) {P : Program} (ty t : TypeId) (z : Value) (bytes : Nat) (ht : P.underlying t = some (.slice e)) (hinfo : (P.info? e).map (fun i => (i.zero, i.size, i.bytes)) = some (some z, s, bytes))
    (hzs : z.cells.size = s) (hs0 : 0 < s) (hf : ∀ x, (f x).length = s) (hf1 : ∀ x, ∀ u ∈ f x, u.oneCell' = true) (M : List α) (A : Option Addr) (m c : Nat) (hsl : Sl s f w A m M) (hn : L.length = n) (hb : (n + m) * bytes ≤ 140737488355328) (hb1 : 1 ≤ bytes) :
    ∃ A' cap' w', (Builtin.append_ #[t, t] ty #[.slice A0 n cap0, .slice A m c]).run P w = .ok (.slice A' (n + m) cap') w' ∧ Mem W w' (H.set i (.row e s f W.heap.size (.slice A' (n + m) cap') (L ++ M))) ∧ (A' = none → A0 = none) := by
  by_cases hm : m = 0
  · subst hm
    obtain ⟨i0, hi0, hz0, hz1, hz2⟩ := info_parts hinfo
    have hM : M = [] := List.eq_nil_of_length_eq_zero hsl.1
    subst hM
    have hsrc : Src P i0.size t (.slice A 0 c) 0 [] w := by
      cases A with
      | none => exact Src.ofNil w ht c
      | some ad => exact Src.ofSlice w ht ad 0 c [] (by simp) (by simp) (by simp)
    refine ⟨A0, cap0, w, run_append_nothing w t t ty e i0 ht hi0 A0 n cap0 (Own.cap (h.row i hi)) _ hsrc, ?_, id⟩
    rw [List.append_nil]
    obtain ⟨li, hli⟩ := List.getElem?_eq_some_iff.1 hi
    have : H.set i (.row e s f W.heap.size (.slice A0 (n + 0) cap0) L) = H := by
      rw [Nat.add_zero, ← hli]; exact List.set_getElem_self li
    rw [this]; exact h
  · rcases hsl.2 with h0 | ⟨b, off, rfl, hlt, hc⟩
    · exact absurd h0 hm
    · obtain ⟨g, cap, w', hr, hM⟩ := h.app_run i hi (P := P) ty t z bytes ht hinfo hzs hs0 hf hf1 M ⟨b, off, none⟩ m c hsl.1 (by omega) (Sl.flat hf hs0 hsl) n hn hb hb1
      exact ⟨_, cap, w', hr, hM, fun h => by cases h⟩
theorem wp_cat (h : Mem W w H) (i : Nat) {A0 : Option Addr} {n cap0 : Nat} {L : List α} (hi : H[i]? = some (.row e s f W.heap.size (.slice A0 n cap0) L)) {P : Program} {ops : Array Oper} {rest : List Oper} {o : Oper} {a : Act} {Q : Exit → Act → World → Prop} (hgd : o.guard = none) (sl x : Operand) (t : TypeId)
    (ho : o.op = .call { callee := .builtin .append, args := #[sl, x], argTypes := #[t, t] }) (z : Value) (bytes : Nat) (ht : P.underlying t = some (.slice e)) (hinfo : (P.info? e).map (fun i => (i.zero, i.size, i.bytes)) = some (some z, s, bytes))
    (hzs : z.cells.size = s) (hs0 : 0 < s) (hf : ∀ x, (f x).length = s) (hf1 : ∀ x, ∀ u ∈ f x, u.oneCell' = true) (M : List α) (A : Option Addr) (m c : Nat)
    (hs : a.eval sl = .slice A0 n cap0) (hx : a.eval x = .slice A m c) (hsl : Sl s f w A m M) (hn : L.length = n) (hb : (n + m) * bytes ≤ 140737488355328) (hb1 : 1 ≤ bytes)
    (k : ∀ A' cap' w', Mem W w' (H.set i (.row e s f W.heap.size (.slice A' (n + m) cap') (L ++ M))) → (A' = none → A0 = none) → wpList P ops Q rest (a.put o.dst (.slice A' (n + m) cap')) w') :
    wpList P ops Q (o :: rest) a w := by
  refine wpList_plain hgd fun K hK => ?_
  obtain ⟨A', cap', w', hr, hM, hA⟩ := h.cat_run i hi (P := P) o.type t z bytes ht hinfo hzs hs0 hf hf1 M A m c hsl hn hb hb1
  unfold Oper.wp execOp
  simp only [ho, resolve, invoke, builtin, Sem.run_bind, Sem.run_pure, Result.andThen_ok, List.map_toArray, List.map_cons, List.map_nil, hs, hx, hr]
  exact hK _ _ (k A' cap' w' hM hA)
/-- At a step of a region that draws its order. -/
theorem step_cat (h : Mem W w H) (i : Nat) {A0 : Option Addr} {n cap0 : Nat} {L : List α} (hi : H[i]? = some (.row e s f W.heap.size (.slice A0 n cap0) L)) {P : Program} {ops : Array Oper} {o : Oper} {a : Act} {K : Act → World → Prop} {Q : Exit → Act → World → Prop} {E : Prop} (hgd : o.guard = none) (sl x : Operand) (t : TypeId)
    (ho : o.op = .call { callee := .builtin .append, args := #[sl, x], argTypes := #[t, t] }) (z : Value) (bytes : Nat) (ht : P.underlying t = some (.slice e)) (hinfo : (P.info? e).map (fun i => (i.zero, i.size, i.bytes)) = some (some z, s, bytes))
    (hzs : z.cells.size = s) (hs0 : 0 < s) (hf : ∀ x, (f x).length = s) (hf1 : ∀ x, ∀ u ∈ f x, u.oneCell' = true) (M : List α) (A : Option Addr) (m c : Nat)
    (hs : a.eval sl = .slice A0 n cap0) (hx : a.eval x = .slice A m c) (hsl : Sl s f w A m M) (hn : L.length = n) (hb : (n + m) * bytes ≤ 140737488355328) (hb1 : 1 ≤ bytes)
    (k : ∀ A' cap' w', Mem W w' (H.set i (.row e s f W.heap.size (.slice A' (n + m) cap') (L ++ M))) → (A' = none → A0 = none) → K (a.put o.dst (.slice A' (n + m) cap')) w') :
    if Region.wanted o (yielded ops a.tmps) = true then Oper.wp P o a w K Q else E := by
  have hw : Region.wanted o (yielded ops a.tmps) = true := by simp [Region.wanted, hgd]
  rw [if_pos hw]
  obtain ⟨A', cap', w', hr, hM, hA⟩ := h.cat_run i hi (P := P) o.type t z bytes ht hinfo hzs hs0 hf hf1 M A m c hsl hn hb hb1
  unfold Oper.wp execOp
  simp only [ho, resolve, invoke, builtin, Sem.run_bind, Sem.run_pure, Result.andThen_ok, List.map_toArray, List.map_cons, List.map_nil, hs, hx, hr]
  exact k A' cap' w' hM hA
end Mem
end Go.Proofs.Ytmmnanmegdflgaa

namespace Go.Proofs.Ytmmnanmegdflgaa.Sg
open Go Go.RowKit
set_option linter.unusedVariables false
/-- What a list of cells is with news laid from o on. -/
def lay (C : List Value) (o : Nat) (news : List Value) : List Value := C.take o ++ news ++ C.drop (o + news.length)
theorem lay_len {C news : List Value} {o : Nat} (h : o + news.length ≤ C.length) : (lay C o news).length = C.length := by
  unfold lay; simp only [List.length_append, List.length_take, List.length_drop]; omega
theorem lay_take {C news : List Value} {o : Nat} (h : o ≤ C.length) : (lay C o news).take (o + news.length) = C.take o ++ news := by
  unfold lay
  have hl : (C.take o ++ news).length = o + news.length := by rw [List.length_append, List.length_take]; omega
  rw [← hl]; exact List.take_left
theorem lay_low {C news : List Value} {o k : Nat} (h : o ≤ C.length) (hk : k ≤ o) : (lay C o news).take k = C.take k := by
  unfold lay
  rw [List.append_assoc, List.take_append_of_le_length (by rw [List.length_take]; omega), List.take_take, Nat.min_eq_left hk]
theorem lay_high {C news : List Value} {o : Nat} (h : o + news.length ≤ C.length) : (lay C o news).drop (o + news.length) = C.drop (o + news.length) := by
  unfold lay
  have hl : (C.take o ++ news).length = o + news.length := by rw [List.length_append, List.length_take]; omega
  rw [List.drop_append_of_le_length (by omega), List.drop_of_length_le (by omega), List.nil_append]
/-- Block g holds the cells C, all of them; nothing else has turned since w0. -/
structure Row (e : TypeId) (w0 : World) (g : Nat) (C : List Value) (w : World) : Prop where
  blk : w.heap[g]? = some (.cells C.toArray e (0, 0))
  os : w.os = w0.os
  tape : w.tape = w0.tape
  output : w.output = w0.output
  size : w0.heap.size ≤ w.heap.size
  rest : ∀ k, k < w0.heap.size → k ≠ g → w.heap[k]? = w0.heap[k]?
theorem Row.start {e : TypeId} {w : World} {g : Nat} {cur : Array Value} (h : w.heap[g]? = some (.cells cur e (0, 0))) : Row e w g cur.toList w :=
  ⟨by simpa using h, rfl, rfl, rfl, Nat.le_refl _, fun _ _ _ => rfl⟩
theorem Row.drew {e : TypeId} {w0 w : World} {g : Nat} {C : List Value} (h : Row e w0 g C w) : Row e w0 g C w.drew := ⟨h.blk, h.os, h.tape, h.output, h.size, h.rest⟩
theorem Row.drewN {e : TypeId} {w0 w : World} {g : Nat} {C : List Value} (h : Row e w0 g C w) (n : Nat) : Row e w0 g C (w.drewN n) := by
  cases n with
  | zero => exact h
  | succ n => exact ⟨h.blk, h.os, h.tape, h.output, h.size, h.rest⟩
theorem Row.put {e : TypeId} {w0 w : World} {g : Nat} {C : List Value} (h : Row e w0 g C w) (C' : List Value) : Row e w0 g C' (w.setRow g C'.toArray) :=
  ⟨setRow_heap w g _ _ e _ h.blk, h.os, h.tape, h.output, by have := h.size; simp [World.setRow]; exact this, fun k hk hne => (setRow_other w g k _ hne).trans (h.rest k hk hne)⟩
theorem Row.cell {e : TypeId} {w0 w : World} {g : Nat} {C : List Value} (h : Row e w0 g C w) (j : Nat) : w.cell? ⟨g, j, none⟩ = C[j]? := by
  simp [World.cell?, h.blk]
section
variable {P : Program}
theorem addr_at (g o j : Nat) : (⟨g, o, none⟩ : Addr).add j = ⟨g, o + j, none⟩ := addr_add g o j
/-- The cells of a row from o on, as a slice's first cells. -/
theorem news_at {e : TypeId} {w0 w : World} {g : Nat} {C : List Value} (h : Row e w0 g C w) (o k : Nat) : ∀ j u, ((C.drop o).take k)[j]? = some u → w.cell? ((⟨g, o, none⟩ : Addr).add j) = some u := by
  intro j u hu
  rw [addr_at, h.cell]
  rw [List.getElem?_take] at hu
  split at hu
  · rwa [List.getElem?_drop] at hu
  · cases hu
/-- append(s[:i], s[j:]...), room there. -/
theorem app_room {t ty e : TypeId} {i0 : TypeInfo} {w0 w : World} {g : Nat} {C : List Value} (ht : P.underlying t = some (.slice e)) (hi : P.info? e = some i0) {s : Nat} (hs : i0.size = s)
    (h : Row e w0 g C w) (n cap : Nat) (a : Addr) (m c : Nat) (news : List Value) (hl : news.length = m * s) (hnews : ∀ j u, news[j]? = some u → w.cell? (a.add j) = some u) (h1 : ∀ u ∈ news, u.oneCell' = true)
    (hroom : n + m ≤ cap) (hfit : n * s + news.length ≤ C.length) :
    ∃ w1, (Builtin.append_ #[t, t] ty #[.slice (some ⟨g, 0, none⟩) n cap, .slice (some a) m c]).run P w = .ok (.slice (some ⟨g, 0, none⟩) (n + m) cap) w1 ∧ Row e w0 g (lay C (n * s) news) w1 := by
  subst hs
  have hr := run_append_room (P := P) (ty := ty) w t e i0 ht hi g n cap C.toArray h.blk a m c news hl hnews h1 hroom (by simpa using hfit)
  exact ⟨_, hr, h.put _⟩
/-- copy into a row. -/
theorem copy_row {t t' ty e : TypeId} {i0 : TypeInfo} {w0 w : World} {g : Nat} {C : List Value} (ht : P.underlying t = some (.slice e)) (hi : P.info? e = some i0) {s : Nat} (hs : i0.size = s)
    (h : Row e w0 g C w) (o dl dc : Nat) (a : Addr) (m c : Nat) (k : Nat) (hk : k = min m dl) (news : List Value) (hl : news.length = k * s) (hnews : ∀ j u, news[j]? = some u → w.cell? (a.add j) = some u) (h1 : ∀ u ∈ news, u.oneCell' = true)
    (hfit : o + news.length ≤ C.length) :
    ∃ w1, (Builtin.copy_ #[t, t'] ty #[.slice (some ⟨g, o, none⟩) dl dc, .slice (some a) m c]).run P w = .ok (goInt k) w1 ∧ Row e w0 g (lay C o news) w1 := by
  subst hs
  have hf := run_firstCells_some (P := P) w i0.size k a m c news hl hnews
  have hst := run_storeCells_at P g o e news 0 C.toArray w h.blk (by simpa using hfit) h1
  simp only [Nat.add_zero] at hst
  have hk' : Nat.min m dl = k := hk.symm
  refine ⟨_, ?_, h.put (lay C o news)⟩
  simp [Builtin.copy_, run_underlying ht, sizeOf, typeInfo, hi, Builtin.lenOf, hk', hf, hst, lay]
/-- clear a part of a row. -/
theorem clear_row {t ty e : TypeId} {w0 w : World} {g : Nat} {C : List Value} {z : Value} (ht : P.underlying t = some (.slice e)) (hz : ∀ w, (zeroValue e).run P w = .ok z w) (hz1 : ∀ u ∈ (Builtin.zeroCells z.cells 1).toList, u.oneCell' = true)
    (h : Row e w0 g C w) (o n c : Nat) (hn : 0 < n) (hz2 : ∀ u ∈ (Builtin.zeroCells z.cells n).toList, u.oneCell' = true) (hfit : o + n * z.cells.size ≤ C.length) :
    ∃ w1, (Builtin.clear_ #[t] ty #[.slice (some ⟨g, o, none⟩) n c]).run P w = .ok (.tuple #[]) w1 ∧ Row e w0 g (lay C o (Builtin.zeroCells z.cells n).toList) w1 := by
  have hsz : (Builtin.zeroCells z.cells n).toList.length = n * z.cells.size := by simp [Builtin.zeroCells]
  have hst := run_storeCells_at P g o e (Builtin.zeroCells z.cells n).toList 0 C.toArray w h.blk (by rw [hsz]; simpa using hfit) hz2
  simp only [Nat.add_zero] at hst
  obtain ⟨k, rfl⟩ : ∃ k, n = k + 1 := ⟨n - 1, by omega⟩
  refine ⟨_, ?_, h.put (lay C o (Builtin.zeroCells z.cells (k + 1)).toList)⟩
  simp [Builtin.clear_, run_underlying ht, hz, hst, lay]
end
theorem Row.lt {e : TypeId} {w0 w : World} {g : Nat} {C : List Value} (h : Row e w0 g C w) : g < w.heap.size := (Array.getElem?_eq_some_iff.1 h.blk).1
/-- What is shifted up, and the new cells before it. -/
theorem shift_take {C X news : List Value} {o p q : Nat} (ho : o ≤ C.length) (hp : p = o + X.length) (hp2 : p ≤ C.length) (hq : q = p + news.length) : (lay (lay C p news) o X).take q = C.take o ++ X ++ news := by
  have h1 : (lay C p news).take q = C.take p ++ news := by rw [hq]; exact lay_take hp2
  have hq2 : q = (C.take o ++ X ++ news).length := by
    simp only [List.length_append, List.length_take]; omega
  have e1 : (lay C p news).take o = C.take o := lay_low hp2 (by omega)
  have e2 : (lay C p news).drop p = news ++ C.drop (p + news.length) := by
    unfold lay
    rw [List.append_assoc, List.drop_append_of_le_length (by rw [List.length_take]; omega), List.drop_of_length_le (by rw [List.length_take]; omega), List.nil_append]
  have e3 : lay (lay C p news) o X = (C.take o ++ X ++ news) ++ C.drop (p + news.length) := by
    conv => lhs; unfold lay
    rw [show (C.take p ++ news ++ C.drop (p + news.length)) = lay C p news from rfl, e1, ← hp, e2]
    simp only [List.append_assoc]
  rw [e3, hq2]
  exact List.take_left
/-- New cells, and what stood behind them. -/
theorem fill_take {C X news : List Value} {o p q : Nat} (ho : o ≤ C.length) (hp : p = o + X.length) (hp2 : o + X.length ≤ C.length) (hq : q = p + news.length) : (lay (lay C o X) p news).take q = C.take o ++ X ++ news := by
  rw [hq, lay_take (by rw [lay_len hp2]; omega), hp, lay_take ho]
theorem Row.grown {e : TypeId} {w0 w : World} {g : Nat} {C : List Value} (h : Row e w0 g C w) : w0.grownBy w (some g) :=
  ⟨h.os, h.tape, h.output, h.size, fun k hk hne => h.rest k hk (fun e => hne (by rw [e]))⟩
section
variable {P : Program} {ops : Array Oper} {rest : List Oper} {o : Oper} {a : Act} {w : World} {K : Act → World → Prop} {Q : Exit → Act → World → Prop} {E : Prop}
/-- An append of which the run is known: at a step of a drawn region; in a list. -/
theorem step_append (hgd : o.guard = none) (s x : Operand) (t u ty : TypeId) (ho : o.op = .call { callee := .builtin .append, args := #[s, x], argTypes := #[t, u] }) (hty : o.type = ty) {v y v' : Value} {w' : World} (hs : a.eval s = v) (hx : a.eval x = y)
    (hr : (Builtin.append_ #[t, u] ty #[v, y]).run P w = .ok v' w') (h : K (a.put o.dst v') w') : if Region.wanted o (yielded ops a.tmps) = true then Oper.wp P o a w K Q else E := by
  have hw : Region.wanted o (yielded ops a.tmps) = true := by simp [Region.wanted, hgd]
  subst hty
  rw [if_pos hw]
  unfold Oper.wp execOp
  simp only [ho, resolve, invoke, builtin, Sem.run_bind, Sem.run_pure, Result.andThen_ok, List.map_toArray, List.map_cons, List.map_nil, hs, hx, hr]
  exact h
theorem list_append (hgd : o.guard = none) (s x : Operand) (t u ty : TypeId) (ho : o.op = .call { callee := .builtin .append, args := #[s, x], argTypes := #[t, u] }) (hty : o.type = ty) {v y v' : Value} {w' : World} (hs : a.eval s = v) (hx : a.eval x = y)
    (hr : (Builtin.append_ #[t, u] ty #[v, y]).run P w = .ok v' w') (h : wpList P ops Q rest (a.put o.dst v') w') : wpList P ops Q (o :: rest) a w := by
  refine wpList_plain hgd fun K hK => ?_
  subst hty
  unfold Oper.wp execOp
  simp only [ho, resolve, invoke, builtin, Sem.run_bind, Sem.run_pure, Result.andThen_ok, List.map_toArray, List.map_cons, List.map_nil, hs, hx, hr]
  exact hK _ _ h
theorem step_copy (hgd : o.guard = none) (s x : Operand) (t u ty : TypeId) (ho : o.op = .call { callee := .builtin .copy, args := #[s, x], argTypes := #[t, u] }) (hty : o.type = ty) {v y v' : Value} {w' : World} (hs : a.eval s = v) (hx : a.eval x = y)
    (hr : (Builtin.copy_ #[t, u] ty #[v, y]).run P w = .ok v' w') (h : K (a.put o.dst v') w') : if Region.wanted o (yielded ops a.tmps) = true then Oper.wp P o a w K Q else E := by
  have hw : Region.wanted o (yielded ops a.tmps) = true := by simp [Region.wanted, hgd]
  subst hty
  rw [if_pos hw]
  unfold Oper.wp execOp
  simp only [ho, resolve, invoke, builtin, Sem.run_bind, Sem.run_pure, Result.andThen_ok, List.map_toArray, List.map_cons, List.map_nil, hs, hx, hr]
  exact h
theorem list_copy (hgd : o.guard = none) (s x : Operand) (t u ty : TypeId) (ho : o.op = .call { callee := .builtin .copy, args := #[s, x], argTypes := #[t, u] }) (hty : o.type = ty) {v y v' : Value} {w' : World} (hs : a.eval s = v) (hx : a.eval x = y)
    (hr : (Builtin.copy_ #[t, u] ty #[v, y]).run P w = .ok v' w') (h : wpList P ops Q rest (a.put o.dst v') w') : wpList P ops Q (o :: rest) a w := by
  refine wpList_plain hgd fun K hK => ?_
  subst hty
  unfold Oper.wp execOp
  simp only [ho, resolve, invoke, builtin, Sem.run_bind, Sem.run_pure, Result.andThen_ok, List.map_toArray, List.map_cons, List.map_nil, hs, hx, hr]
  exact hK _ _ h
theorem list_clear (hgd : o.guard = none) (s : Operand) (t ty : TypeId) (ho : o.op = .call { callee := .builtin .clear, args := #[s], argTypes := #[t] }) (hty : o.type = ty) {v v' : Value} {w' : World} (hs : a.eval s = v)
    (hr : (Builtin.clear_ #[t] ty #[v]).run P w = .ok v' w') (h : wpList P ops Q rest (a.put o.dst v') w') : wpList P ops Q (o :: rest) a w := by
  refine wpList_plain hgd fun K hK => ?_
  subst hty
  unfold Oper.wp execOp
  simp only [ho, resolve, invoke, builtin, Sem.run_bind, Sem.run_pure, Result.andThen_ok, List.map_toArray, List.map_cons, List.map_nil, hs, hr]
  exact hK _ _ h
/-- 's[j:]', whatever the capacity. -/
theorem slice_from {P : Program} {t e : TypeId} {i0 : TypeInfo} (ht : P.underlying t = some (.slice e)) (hi : P.info? e = some i0) {s : Nat} (hs : i0.size = s) (g o n cap j : Nat) (hj : j ≤ n) (hn : n ≤ cap) (w : World) :
    (Instr.slice t (.slice (some ⟨g, o, none⟩) n cap) (some (.int .i64 j)) none none).run P w = .ok (.slice (some (if cap = j then (⟨g, o, none⟩ : Addr) else ⟨g, o + j * s, none⟩)) (n - j) (cap - j)) w := by
  subst hs
  have h1 : (j : Int) ≤ n := by omega
  by_cases hc : cap = j
  · simp [Instr.slice, run_underlying ht, Instr.sliceBounds, Instr.sliceBound, asIntOf, sizeOf, typeInfo, hi, hc]
    intro h9; omega
  · simp [Instr.slice, run_underlying ht, Instr.sliceBounds, Instr.sliceBound, asIntOf, sizeOf, typeInfo, hi, hc, addr_add]
    intro h9; omega
end
section
variable {α : Type} {e : TypeId} {s : Nat} {f : α → List Value} {base : Nat} {w : World} {L : List α}
/-- What is owned, as a row. -/
theorem own_row {A : Option Addr} {n cap : Nat} (hf : ∀ x, (f x).length = s) (h : Own e s f base w (.slice A n cap) L) (hn : 0 < n) :
    ∃ g C, A = some ⟨g, 0, none⟩ ∧ base ≤ g ∧ Row e w g C w ∧ C.length = cap * s ∧ C.take (n * s) = L.flatMap f ∧ n = L.length ∧ n ≤ cap ∧ cap ≤ maxLen := by
  rcases h.2 with ⟨he, h0⟩ | ⟨g, cp, cur, he, hb, hh, hc, hm, hs, ht⟩
  · injection he with e1 e2 e3; omega
  · injection he with e1 e2 e3
    subst e1 e2 e3
    exact ⟨g, cur.toList, rfl, hb, Row.start hh, by simpa using hs, ht, rfl, hc, hm⟩
theorem row_own {w0 w1 : World} {g cap k : Nat} {C : List Value} {M : List α} (hf : ∀ x, (f x).length = s) (hr : Row e w0 g C w1) (hb : base ≤ g) (hl : C.length = cap * s) (hk : k = M.length) (hc : k ≤ cap) (hm : cap ≤ maxLen) (ht : C.take (k * s) = M.flatMap f) :
    Own e s f base w1 (.slice (some ⟨g, 0, none⟩) k cap) M := by
  subst hk
  exact ⟨flat_len hf M, .inr ⟨g, cap, C.toArray, rfl, hb, hr.blk, hc, hm, by simpa using hl, by simpa using ht⟩⟩
theorem flat_take (hf : ∀ x, (f x).length = s) (L : List α) (i : Nat) (hi : i ≤ L.length) : (L.take i).flatMap f = (L.flatMap f).take (i * s) := by
  have h1 : L.flatMap f = (L.take i).flatMap f ++ (L.drop i).flatMap f := by rw [← List.flatMap_append, List.take_append_drop]
  have h2 : ((L.take i).flatMap f).length = i * s := by rw [flat_len hf, List.length_take, Nat.min_eq_left hi]
  rw [h1, ← h2, List.take_left']
  rfl
theorem flat_drop (hf : ∀ x, (f x).length = s) (L : List α) (i : Nat) (hi : i ≤ L.length) : (L.drop i).flatMap f = (L.flatMap f).drop (i * s) := by
  have h1 : L.flatMap f = (L.take i).flatMap f ++ (L.drop i).flatMap f := by rw [← List.flatMap_append, List.take_append_drop]
  have h2 : ((L.take i).flatMap f).length = i * s := by rw [flat_len hf, List.length_take, Nat.min_eq_left hi]
  rw [h1, ← h2, List.drop_left']
  rfl
/-- What a function leaves that turns a slice of the call's own. -/
def Got (e : TypeId) (s : Nat) (f : α → List Value) (base : Nat) (v : Value) (M : List α) (w : World) (r : Ending) (w' : World) : Prop :=
  ∃ v', r = .returned v' ∧ Own e s f base w' v' M ∧ w.grownBy w' v.ownBlock ∧ (v'.ownBlock = v.ownBlock ∨ ∃ g, v'.ownBlock = some g ∧ w.heap.size ≤ g)
theorem Got.mk {v v' : Value} {M : List α} {w' : World} (h : Own e s f base w' v' M) (hg : w.grownBy w' v.ownBlock) (hb : v'.ownBlock = v.ownBlock ∨ ∃ g, v'.ownBlock = some g ∧ w.heap.size ≤ g) : Got e s f base v M w (.returned v') w' := ⟨v', rfl, h, hg, hb⟩
/-- From w to w' only the block of the slice v was written; v' lies there or in a new block. -/
structure Kp (w : World) (v : Value) (w' : World) (v' : Value) : Prop where
  os : w'.os = w.os
  tape : w'.tape = w.tape
  output : w'.output = w.output
  size : w.heap.size ≤ w'.heap.size
  rest : ∀ b, b < w.heap.size → some b ≠ v.ownBlock → w'.heap[b]? = w.heap[b]?
  moved : ∀ g, v'.ownBlock = some g → v.ownBlock = some g ∨ w.heap.size ≤ g
theorem Kp.held {w w' : World} (v : Value) (h : Held w w') : Kp w v w' v := ⟨h.os, h.tape, h.output, h.size, fun b hb _ => h.block b hb, fun g hg => .inl hg⟩
theorem Kp.trans {a b c : World} {u v x : Value} (h : Kp a u b v) (k : Kp b v c x) : Kp a u c x := by
  refine ⟨k.os.trans h.os, k.tape.trans h.tape, k.output.trans h.output, Nat.le_trans h.size k.size, fun q hq hne => ?_, fun g hg => ?_⟩
  · rw [k.rest q (Nat.lt_of_lt_of_le hq h.size) (fun e => ?_), h.rest q hq hne]
    rcases h.moved q e.symm with h1 | h1
    · exact hne h1.symm
    · omega
  · rcases k.moved g hg with h1 | h1
    · exact h.moved g h1
    · exact .inr (Nat.le_trans h.size h1)
theorem Kp.grown {w w' : World} {v v' : Value} (hg : w.grownBy w' v.ownBlock) (hb : v'.ownBlock = v.ownBlock ∨ ∃ g, v'.ownBlock = some g ∧ w.heap.size ≤ g) : Kp w v w' v' := by
  refine ⟨hg.os, hg.tape, hg.output, hg.size, fun b hb hne => hg.block b hb hne, fun g hg' => ?_⟩
  rcases hb with h1 | ⟨g2, h1, h2⟩
  · exact .inl (h1 ▸ hg')
  · rw [h1] at hg'; injection hg' with hg'; exact .inr (hg' ▸ h2)
/-- What a function leaves that makes a slice. -/
def New (e : TypeId) (s : Nat) (f : α → List Value) (M : List α) (w : World) (r : Ending) (w' : World) : Prop := ∃ v', r = .returned v' ∧ Own e s f w.heap.size w' v' M ∧ Held w w'
theorem New.mk {v' : Value} {M : List α} {w' : World} (h : Own e s f w.heap.size w' v' M) (hg : Held w w') : New e s f M w (.returned v') w' := ⟨v', rfl, h, hg⟩
theorem sl_news (hf : ∀ x, (f x).length = s) (hs : 0 < s) {ad : Addr} {n : Nat} (h : Sl s f w (some ad) n L) : ∀ j u, (L.flatMap f)[j]? = some u → w.cell? (ad.add j) = some u := by
  intro j u hu
  rcases h.2 with h0 | ⟨b, off, e1, _⟩
  · have : L = [] := List.eq_nil_of_length_eq_zero (by rw [h.1, h0])
    subst this
    cases hu
  · injection e1 with e1
    subst e1
    exact h.flat hf hs j u hu
end
end Go.Proofs.Ytmmnanmegdflgaa.Sg

set_option linter.unusedVariables false
namespace Go.Proofs.Ytmmnanmegdflgaa
open Go.RowKit
namespace Mem
variable {W w w' : World} {H : List Ck}
theorem permut {H' : List Ck} (h : Mem W w H) (p : H.Perm H') : Mem W w H' :=
  ⟨h.held, fun c hc => h.ok c (p.mem_iff.2 hc), (p.pairwise_iff (fun {x y} hxy b hb hb' => hxy b hb' hb)).1 h.sep⟩
theorem toFront {c : Ck} (h : Mem W w (H ++ [c])) : Mem W w (c :: H) := h.permut (List.perm_append_comm (l₁ := H) (l₂ := [c]))
theorem rest {c : Ck} (h : Mem W w (c :: H)) : Mem W w H := h.sub (List.sublist_cons_self c H)
/-- A new box, in front. -/
theorem allocF (h : Mem W w H) {b : Nat} (hb : w.heap.size = b) (cs : Array Value) (t : TypeId) : Mem W (w.alloc (.cells cs t)) (.box b cs t :: H) := (h.alloc' hb cs t).toFront
/-- A row that a call has handed back, in front. -/
theorem ownF {α : Type} {e : TypeId} {s : Nat} {f : α → List Value} (h : Mem W w H) (k : Held w w') {v : Value} {L : List α} (o : Own e s f w.heap.size w' v L) : Mem W w' (.row e s f W.heap.size v L :: H) := (h.own k o).toFront
/-- What Delete, Insert leave of a row. -/
theorem gotten {α : Type} {e : TypeId} {s : Nat} {f : α → List Value} {base : Nat} (h : Mem W w H) (i : Nat) {v : Value} {L M : List α} {r : Ending} (hi : H[i]? = some (.row e s f base v L)) (g : Sg.Got e s f base v M w r w') :
    ∃ A cap, r = .returned (.slice A M.length cap) ∧ M.length ≤ cap ∧ Mem W w' (H.set i (.row e s f base (.slice A M.length cap) M)) := by
  obtain ⟨v', rfl, ho, hg, hb⟩ := g
  obtain ⟨A, cap, rfl, hc, _⟩ := ho.shape
  refine ⟨A, cap, rfl, hc, h.app i hi hg ho fun b hb' => ?_⟩
  rcases hb with hb | ⟨g, h1, h2⟩
  · exact .inl (by rw [← hb]; exact hb')
  · rw [h1] at hb'; injection hb' with hb'; subst hb'; exact .inr h2
end Mem
theorem own_nil {α : Type} {e : TypeId} {s : Nat} {f : α → List Value} {base : Nat} {w : World} {n cap : Nat} {L : List α} (h : Own e s f base w (.slice none n cap) L) : n = 0 := by
  rcases h.2 with ⟨he, h0⟩ | ⟨g, cp, cur, he, _⟩
  · injection he
  · injection he with e1; cases e1
end Go.Proofs.Ytmmnanmegdflgaa

set_option linter.unusedVariables false
set_option linter.unusedSimpArgs false
set_option maxRecDepth 100000
namespace Go.Proofs.Ytmmnanmegdflgaa
open Go.RowKit
namespace Bx
theorem cell {w : World} {q : Nat} {cs : Array Value} {t : TypeId} (h : w.heap[q]? = some (.cells cs t (0, 0))) (j : Nat) {v : Value} (hv : cs[j]? = some v) : w.cell? ⟨q, j, none⟩ = some v := by simp [World.cell?, h, hv]
theorem free {w : World} {q : Nat} {cs : Array Value} {t : TypeId} (h : w.heap[q]? = some (.cells cs t (0, 0))) (j : Nat) : w.frozen? ⟨q, j, none⟩ = false := by simp [World.frozen?, h]
theorem set {w : World} {q : Nat} {cs : Array Value} {t : TypeId} (h : w.heap[q]? = some (.cells cs t (0, 0))) (j : Nat) (v : Value) : (w.setCell ⟨q, j, none⟩ v).heap[q]? = some (.cells (cs.setIfInBounds j v) t (0, 0)) := by
  simp only [World.setCell]
  rw [Array.getElem?_modify, if_pos rfl, h]; rfl
theorem far {w : World} {q c j : Nat} {v : Value} (hc : q ≠ c) : (w.setCell ⟨c, j, none⟩ v).heap[q]? = w.heap[q]? := by
  simp only [World.setCell]
  rw [Array.getElem?_modify, if_neg (fun e => hc e.symm)]
theorem new (w : World) (o : Obj) : (w.alloc o).heap[w.heap.size]? = some o := heap_alloc_new w o
theorem lt {w : World} {q : Nat} {o : Obj} (h : w.heap[q]? = some o) : q < w.heap.size := (Array.getElem?_eq_some_iff.1 h).1
theorem held {w a : World} {q : Nat} {o : Obj} (h : w.heap[q]? = some o) (k : Held w a) : a.heap[q]? = some o := (k.block q (lt h)).trans h
theorem res_c {fn : Func} {tmps : Array Value} {w : World} {a b : Nat} {t : TypeId} {v : Value} (hr : fn.results = #[.cell a t]) (ha : tmps.getD a undef = .pointer (some ⟨b, 0, none⟩)) (hl : (loadVar t ⟨b, 0, none⟩).run Try.prog w = .ok v w) : (results fn tmps).run Try.prog w = .ok v w := by
  unfold results
  rw [hr]
  simp only [List.mapM_toArray, List.mapM_cons, List.mapM_nil, ha, asAddr, pure_bind, Sem.run_bind, Sem.run_map, hl, Result.andThen_ok, Sem.run_pure, map_pure]
  rfl
theorem res_ct {fn : Func} {tmps : Array Value} {w : World} {a b k : Nat} {t : TypeId} {v : Value} (hr : fn.results = #[.cell a t, .tmp k]) (ha : tmps.getD a undef = .pointer (some ⟨b, 0, none⟩)) (hl : (loadVar t ⟨b, 0, none⟩).run Try.prog w = .ok v w) : (results fn tmps).run Try.prog w = .ok (.tuple #[v, tmps.getD k undef]) w := by
  unfold results
  rw [hr]
  simp only [List.mapM_toArray, List.mapM_cons, List.mapM_nil, ha, asAddr, pure_bind, Sem.run_bind, Sem.run_map, hl, Result.andThen_ok, Sem.run_pure, map_pure]
  rfl
theorem held3 {W w : World} {b : Nat} (h : Held W w) (hb : W.heap.size ≤ b) (x y z : Value) : Held W (((w.setCell ⟨b, 0, none⟩ x).setCell ⟨b, 1, none⟩ y).setCell ⟨b, 2, none⟩ z) := ((h.set hb _).set hb _).set hb _
theorem res_ctt {fn : Func} {tmps : Array Value} {w : World} {a b k l : Nat} {t : TypeId} {v : Value} (hr : fn.results = #[.cell a t, .tmp k, .tmp l]) (ha : tmps.getD a undef = .pointer (some ⟨b, 0, none⟩)) (hl : (loadVar t ⟨b, 0, none⟩).run Try.prog w = .ok v w) : (results fn tmps).run Try.prog w = .ok (.tuple #[v, tmps.getD k undef, tmps.getD l undef]) w := by
  unfold results
  rw [hr]
  simp only [List.mapM_toArray, List.mapM_cons, List.mapM_nil, ha, asAddr, pure_bind, Sem.run_bind, Sem.run_map, hl, Result.andThen_ok, Sem.run_pure, map_pure]
  rfl
end Bx
end Go.Proofs.Ytmmnanmegdflgaa

set_option linter.unusedVariables false
set_option linter.unusedSimpArgs false
set_option maxRecDepth 100000
namespace Go.Proofs.Ytmmnanmegdflgaa
open Go.RowKit Go.Lib
/-- A call that turns one box alone. -/
theorem Mem.callBox {W w w' : World} {H : List Ck} (h : Mem W w H) (i : Nat) {b : Nat} {cs cs' : Array Value} {t : TypeId} (hi : H[i]? = some (.box b cs t)) (hg : w.grownBy w' (some b)) (hb : w'.heap[b]? = some (.cells cs' t (0, 0))) : Mem W w' (H.set i (.box b cs' t)) := by
  refine h.upd hi _ ⟨hg.os, hg.tape, hg.output, hg.size, fun k hk => by omega⟩ (fun b' hl hb' => hg.block b' hl (fun e => hb' (by simp [Ck.box] at e ⊢; exact e))) hb (fun b' hb' => .inl hb')
section
variable {W w : World} {H : List Ck} {b : Nat} {t : TypeId} {y0 y1 y2 y3 y4 y5 y6 y7 y8 y9 y10 : Value}
/-- The cells of a box of eleven. -/
theorem Mem.box11 (h : Mem W w H) (i : Nat) (hi : H[i]? = some (.box b #[y0, y1, y2, y3, y4, y5, y6, y7, y8, y9, y10] t)) :
    (w.cell? ⟨b, 0, none⟩ = some y0 ∧ w.cell? ⟨b, 1, none⟩ = some y1 ∧ w.cell? ⟨b, 2, none⟩ = some y2 ∧ w.cell? ⟨b, 3, none⟩ = some y3 ∧ w.cell? ⟨b, 4, none⟩ = some y4 ∧ w.cell? ⟨b, 5, none⟩ = some y5 ∧ w.cell? ⟨b, 6, none⟩ = some y6 ∧ w.cell? ⟨b, 7, none⟩ = some y7 ∧ w.cell? ⟨b, 8, none⟩ = some y8 ∧ w.cell? ⟨b, 9, none⟩ = some y9 ∧ w.cell? ⟨b, 10, none⟩ = some y10) ∧ (w.frozen? ⟨b, 0, none⟩ = false ∧ w.frozen? ⟨b, 1, none⟩ = false ∧ w.frozen? ⟨b, 2, none⟩ = false ∧ w.frozen? ⟨b, 3, none⟩ = false ∧ w.frozen? ⟨b, 4, none⟩ = false ∧ w.frozen? ⟨b, 5, none⟩ = false ∧ w.frozen? ⟨b, 6, none⟩ = false ∧ w.frozen? ⟨b, 7, none⟩ = false ∧ w.frozen? ⟨b, 8, none⟩ = false ∧ w.frozen? ⟨b, 9, none⟩ = false ∧ w.frozen? ⟨b, 10, none⟩ = false) ∧ b < w.heap.size :=
  ⟨⟨h.cell i hi 0 rfl, h.cell i hi 1 rfl, h.cell i hi 2 rfl, h.cell i hi 3 rfl, h.cell i hi 4 rfl, h.cell i hi 5 rfl, h.cell i hi 6 rfl, h.cell i hi 7 rfl, h.cell i hi 8 rfl, h.cell i hi 9 rfl, h.cell i hi 10 rfl⟩, ⟨h.free i hi 0, h.free i hi 1, h.free i hi 2, h.free i hi 3, h.free i hi 4, h.free i hi 5, h.free i hi 6, h.free i hi 7, h.free i hi 8, h.free i hi 9, h.free i hi 10⟩, h.lt i hi⟩
/-- A box of eleven, stored whole. -/
theorem Mem.put11 (h : Mem W w H) (i : Nat) (hi : H[i]? = some (.box b #[y0, y1, y2, y3, y4, y5, y6, y7, y8, y9, y10] t)) (x0 x1 x2 x3 x4 x5 x6 x7 x8 x9 x10 : Value) :
    Mem W (((((((((((w.setCell ⟨b, 0, none⟩ x0).setCell ⟨b, 1, none⟩ x1).setCell ⟨b, 2, none⟩ x2).setCell ⟨b, 3, none⟩ x3).setCell ⟨b, 4, none⟩ x4).setCell ⟨b, 5, none⟩ x5).setCell ⟨b, 6, none⟩ x6).setCell ⟨b, 7, none⟩ x7).setCell ⟨b, 8, none⟩ x8).setCell ⟨b, 9, none⟩ x9).setCell ⟨b, 10, none⟩ x10) (H.set i (.box b #[x0, x1, x2, x3, x4, x5, x6, x7, x8, x9, x10] t)) := by
  have li := (List.getElem?_eq_some_iff.1 hi).1
  have h0 := h.put i hi 0 x0
  have h1 := h0.put (b := b) (cs := #[x0, y1, y2, y3, y4, y5, y6, y7, y8, y9, y10]) (t := t) i (by rw [List.getElem?_set_self li]; rfl) 1 x1
  rw [List.set_set] at h1
  have h2 := h1.put (b := b) (cs := #[x0, x1, y2, y3, y4, y5, y6, y7, y8, y9, y10]) (t := t) i (by rw [List.getElem?_set_self li]; rfl) 2 x2
  rw [List.set_set] at h2
  have h3 := h2.put (b := b) (cs := #[x0, x1, x2, y3, y4, y5, y6, y7, y8, y9, y10]) (t := t) i (by rw [List.getElem?_set_self li]; rfl) 3 x3
  rw [List.set_set] at h3
  have h4 := h3.put (b := b) (cs := #[x0, x1, x2, x3, y4, y5, y6, y7, y8, y9, y10]) (t := t) i (by rw [List.getElem?_set_self li]; rfl) 4 x4
  rw [List.set_set] at h4
  have h5 := h4.put (b := b) (cs := #[x0, x1, x2, x3, x4, y5, y6, y7, y8, y9, y10]) (t := t) i (by rw [List.getElem?_set_self li]; rfl) 5 x5
  rw [List.set_set] at h5
  have h6 := h5.put (b := b) (cs := #[x0, x1, x2, x3, x4, x5, y6, y7, y8, y9, y10]) (t := t) i (by rw [List.getElem?_set_self li]; rfl) 6 x6
  rw [List.set_set] at h6
  have h7 := h6.put (b := b) (cs := #[x0, x1, x2, x3, x4, x5, x6, y7, y8, y9, y10]) (t := t) i (by rw [List.getElem?_set_self li]; rfl) 7 x7
  rw [List.set_set] at h7
  have h8 := h7.put (b := b) (cs := #[x0, x1, x2, x3, x4, x5, x6, x7, y8, y9, y10]) (t := t) i (by rw [List.getElem?_set_self li]; rfl) 8 x8
  rw [List.set_set] at h8
  have h9 := h8.put (b := b) (cs := #[x0, x1, x2, x3, x4, x5, x6, x7, x8, y9, y10]) (t := t) i (by rw [List.getElem?_set_self li]; rfl) 9 x9
  rw [List.set_set] at h9
  have h10 := h9.put (b := b) (cs := #[x0, x1, x2, x3, x4, x5, x6, x7, x8, x9, y10]) (t := t) i (by rw [List.getElem?_set_self li]; rfl) 10 x10
  rw [List.set_set] at h10
  exact h10
end
namespace Jn
open Ad Lgc Strs Lg
theorem man_load {w : World} {b : Nat} {o : Man} (h : w.heap[b]? = some (.cells (manC o) 27 (0, 0))) : (loadVar 27 ⟨b, 0, none⟩).run Try.prog w = .ok (.agg (manC o)) w := by
  have c0 := Bx.cell h 0 rfl
  have c1 := Bx.cell h 1 rfl
  have c2 := Bx.cell h 2 rfl
  have c3 := Bx.cell h 3 rfl
  have c4 := Bx.cell h 4 rfl
  have c5 := Bx.cell h 5 rfl
  have c6 := Bx.cell h 6 rfl
  have c7 := Bx.cell h 7 rfl
  have c8 := Bx.cell h 8 rfl
  have c9 := Bx.cell h 9 rfl
  have c10 := Bx.cell h 10 rfl
  simp [go_sem, manC, c0, c1, c2, c3, c4, c5, c6, c7, c8, c9, c10]
def DecTo (l : List UInt8) (w : World) (e : Ending) (w' : World) : Prop := e = .returned (.tuple #[.agg (manC (dec l)), .bool (decOk l)]) ∧ Held w w'
/-- The operation as it is read, number by number. -/
def mArr (k : Int) (nm : ByteArray) (F : Nat → Int) (j : Nat) : Array Value :=
  #[.int .i64 k, .string nm, .int .i64 (if 0 < j then F 0 else 0), .int .i64 (if 1 < j then F 1 else 0), .int .i64 (if 2 < j then F 2 else 0), .int .i64 (if 3 < j then F 3 else 0), .int .i64 (if 4 < j then F 4 else 0),
    .int .i64 (if 5 < j then F 5 else 0), .int .i64 (if 6 < j then F 6 else 0), .int .i64 (if 7 < j then F 7 else 0), .bool false]
theorem mArr_step (k : Int) (nm : ByteArray) (F : Nat → Int) (j : Nat) (hj : j < 8) : (mArr k nm F j).setIfInBounds (2 + j) (.int .i64 (F j)) = mArr k nm F (j + 1) := by
  rcases j with _ | _ | _ | _ | _ | _ | _ | _ | j
  all_goals first | rfl | omega
theorem mArr_free (k : Int) (nm : ByteArray) (F : Nat → Int) (j : Nat) (hj : j < 8) : ∃ v, (mArr k nm F j)[2 + j]? = some v := by
  rcases j with _ | _ | _ | _ | _ | _ | _ | _ | j
  all_goals first | exact ⟨_, rfl⟩ | omega
structure Is {α : Type} (a b : α) : Prop where
  out : a = b
theorem wrap_i64 (n : Nat) : wrap64 (n : Int) = i64 n := by rw [i64, IntKind.wrap_i64, wrap64]
theorem sz_of {t : ByteArray} {l : List UInt8} (h : t.data.toList = l) : t.size = l.length := by rw [← h, len_eq]
set_option maxHeartbeats 600000 in
theorem decode_any (s : ByteArray) (hs : (s.size : Int) ≤ 1000000000000) (w : World) : Calls Try.prog 10 #[.string s] w (DecTo s.data.toList w) := by
  obtain ⟨l, hl⟩ : ∃ l, s.data.toList = l := ⟨_, rfl⟩
  have HS := Lib.hid hl
  have hsl := sz_of hl
  have q1 := numR_len l false
  have q2 := numR_len (dK l).2.1 (dK l).2.2
  have q3 := (bytesR_len (numR (dK l).2.1 (dK l).2.2).1 (numR (dK l).2.1 (dK l).2.2).2.1 (numR (dK l).2.1 (dK l).2.2).2.2).2
  have e3 : bytesR (numR (dK l).2.1 (dK l).2.2).1 (numR (dK l).2.1 (dK l).2.2).2.1 (numR (dK l).2.1 (dK l).2.2).2.2 = dS l := rfl
  have e1 : numR l false = dK l := rfl
  rw [e1] at q1
  rw [e3] at q3
  have E1 := Lib.hid e1
  have E3 := Lib.hid e3
  rw [hl]
  clear e1 e3 hl
  go_enter Try.func10, Try.ntmps10
  go_wp2_with fail
  have M0 := Lib.hid ((((Mem.start w).alloc' (b := w.heap.size) rfl #[.int .i64 0, .string ⟨#[]⟩, .int .i64 0, .int .i64 0, .int .i64 0, .int .i64 0, .int .i64 0, .int .i64 0, .int .i64 0, .int .i64 0, .bool false] 27).alloc' (b := w.heap.size + 1) (by simp) #[.string s, .bool false] 60).alloc' (b := w.heap.size + 1 + 1) (by simp) #[.int .i64 0, .string ⟨#[]⟩, .int .i64 0, .int .i64 0, .int .i64 0, .int .i64 0, .int .i64 0, .int .i64 0, .int .i64 0, .int .i64 0, .bool false] 27)
  refine (jnumber_any (w.heap.size + 1) s false (by omega) _ (M0.out.blk 1 rfl)).mono ?_
  rw [HS.out]
  rintro e w1 ⟨rfl, s1, hs1, hb1, hg1⟩
  have M1 := Lib.hid (M0.out.callBox 1 rfl hg1 hb1)
  have z1 := sz_of hs1
  have HS1 := Lib.hid hs1
  clear M0 hg1 hb1 hs1
  rw [E1.out] at HS1 z1 M1 ⊢
  have c2 := M1.out.cell 2 rfl 0 rfl
  have f2 := M1.out.free 2 rfl 0
  go_wp2_with fail
  rw [wrap_i64]
  have M2 := Lib.hid (M1.out.put 2 rfl 0 (.int .i64 (i64 (dK l).1)))
  clear M1 c2 f2
  refine (jnumber_any (w.heap.size + 1) s1 (dK l).2.2 (by omega) _ (M2.out.blk 1 rfl)).mono ?_
  rw [HS1.out]
  rintro e w2 ⟨rfl, s2, hs2, hb2, hg2⟩
  have M3 := Lib.hid (M2.out.callBox 1 rfl hg2 hb2)
  have z2 := sz_of hs2
  have HS2 := Lib.hid hs2
  clear M2 hg2 hb2 hs2
  go_wp2_with fail
  refine (jbytes_any (w.heap.size + 1) s2 (numR (dK l).2.1 (dK l).2.2).2.2 _ (by omega) (by have := numR_lt (dK l).2.1 (dK l).2.2; omega) (by omega) _ (M3.out.blk 1 rfl)).mono ?_
  rw [HS2.out, Int.toNat_natCast, E3.out]
  rintro e w3 ⟨nm, rfl, hnm, s3, hs3, hb3, hg3⟩
  have M4 := Lib.hid (M3.out.callBox 1 rfl hg3 hb3)
  have z3 := sz_of hs3
  have HS3 := Lib.hid hs3
  have HNM := Lib.hid hnm
  clear M3 hg3 hb3 hs3 hnm
  have c2 := M4.out.cell 2 rfl 1 rfl
  have f2 := M4.out.free 2 rfl 1
  go_wp2_with fail
  obtain ⟨w4, hw4⟩ : ∃ w4, w3.setCell ⟨w.heap.size + 1 + 1, 1, none⟩ (.string nm) = w4 := ⟨_, rfl⟩
  have M5 := Lib.hid (M4.out.put 2 rfl 1 (.string nm))
  rw [hw4] at M5 ⊢
  clear M4 c2 f2 hw4
  go_quiet (fail)
  have M6 := Lib.hid (M5.out.keep ((Held.refl w4).drewN nq))
  have hix : ∀ j : Nat, j < 8 → ∀ w' : World, (Instr.index 67 (.agg #[.pointer (some ⟨w.heap.size + 1 + 1, 2, none⟩), .pointer (some ⟨w.heap.size + 1 + 1, 3, none⟩), .pointer (some ⟨w.heap.size + 1 + 1, 4, none⟩), .pointer (some ⟨w.heap.size + 1 + 1, 5, none⟩), .pointer (some ⟨w.heap.size + 1 + 1, 6, none⟩), .pointer (some ⟨w.heap.size + 1 + 1, 7, none⟩), .pointer (some ⟨w.heap.size + 1 + 1, 8, none⟩), .pointer (some ⟨w.heap.size + 1 + 1, 9, none⟩)]) (.int .i64 j)).run Try.prog w' = .ok (.pointer (some ⟨w.heap.size + 1 + 1, 2 + j, none⟩)) w' := by
    intro j hj w'
    rcases j with _ | _ | _ | _ | _ | _ | _ | _ | j
    all_goals first | omega | kernel_rfl
  have HIX := Lib.hid hix
  clear M5 hix
  generalize w4.drewN nq = w5 at *
  obtain ⟨F, hF⟩ : ∃ F : Nat → Int, F = fun j => i64 (dN l j) := ⟨_, rfl⟩
  have HF := Lib.hid hF
  clear hF
  have q4 : (dR l).length ≤ 1000000000000 := by show (dS l).2.1.length ≤ _; omega
  go_wp2
  go_loopw [9, 42] (fun v i wr => ∃ (j : Nat) (sr : ByteArray), j ≤ 8 ∧ i = .int .i64 j ∧ sr.data.toList = (st (dR l) (dB l) j).1 ∧ Mem w wr [.box w.heap.size #[.int .i64 0, .string ⟨#[]⟩, .int .i64 0, .int .i64 0, .int .i64 0, .int .i64 0, .int .i64 0, .int .i64 0, .int .i64 0, .int .i64 0, .bool false] 27, .box (w.heap.size + 1) #[.string sr, .bool (st (dR l) (dB l) j).2] 60, .box (w.heap.size + 1 + 1) (mArr (i64 (dK l).1) nm F j) 27]) (fun _ i _ => 8 - (intOf i).toNat)
  case atStart => exact ⟨0, s3, by omega, rfl, HS3.out, M6.out⟩
  case round =>
    obtain ⟨j, sr, hj, rfl, hsr, hM⟩ := hrel
    have M7 := Lib.hid hM
    have HSR := Lib.hid hsr
    have zr := sz_of hsr
    have q5 := st_len (dR l) (dB l) j
    clear hM hsr
    by_cases hlt : j < 8
    · have ix := HIX.out j hlt
      go_wp2_with fail
      refine (jnumber_any (w.heap.size + 1) sr (st (dR l) (dB l) j).2 (by omega) _ (M7.out.blk 1 rfl)).mono ?_
      rw [HSR.out]
      rintro e w6 ⟨rfl, s6, hs6, hb6, hg6⟩
      have M8 := Lib.hid (M7.out.callBox 1 rfl hg6 hb6)
      have HS6 := Lib.hid hs6
      clear M7 hg6 hb6 hs6
      obtain ⟨v0, hv0⟩ := mArr_free (i64 (dK l).1) nm F j hlt
      have c2 := M8.out.cell 2 rfl (2 + j) hv0
      have f2 := M8.out.free 2 rfl (2 + j)
      clear hv0
      go_wp2
      have M9 := Lib.hid (M8.out.put 2 rfl (2 + j) (.int .i64 (F j)))
      go_roundw
      case rel =>
        refine ⟨j + 1, s6, by omega, by go_num, HS6.out, ?_⟩
        have h := M9.out
        rw [mArr_step _ _ _ _ hlt] at h
        rw [wrap_i64, show i64 (numR (st (dR l) (dB l) j).1 (st (dR l) (dB l) j).2).1 = F j by rw [HF.out]; rfl]
        exact h
      case measure => simp [intOf]; omega
    · have HJ := Lib.hid (show j = 8 by omega)
      have hj0 : ¬ (j : Int) < 8 := by omega
      go_wp2_with fail
      refine (jnumber_any (w.heap.size + 1) sr (st (dR l) (dB l) j).2 (by omega) _ (M7.out.blk 1 rfl)).mono ?_
      rw [HSR.out]
      rintro e w6 ⟨rfl, s6, hs6, hb6, hg6⟩
      have M8 := Lib.hid (M7.out.callBox 1 rfl hg6 hb6)
      have HS6 := Lib.hid hs6
      clear M7 hg6 hb6 hs6
      have h9 : ∀ k, k = j + 1 → st (dR l) (dB l) k = (numR (st (dR l) (dB l) j).1 (st (dR l) (dB l) j).2).2 := fun k hk => by subst hk; exact st_succ _ _ _
      have h8 : ∀ k, k = j → dN l k = (numR (st (dR l) (dB l) j).1 (st (dR l) (dB l) j).2).1 := fun k hk => by subst hk; rfl
      have H9a := Lib.hid (congrArg Prod.fst (h9 9 (by have := HJ.out; omega)))
      have H9b := Lib.hid (congrArg Prod.snd (h9 9 (by have := HJ.out; omega)))
      have HV := Lib.hid (h8 8 HJ.out.symm)
      clear h8 h9
      clear HSR zr q5
      generalize (numR (st (dR l) (dB l) j).1 (st (dR l) (dB l) j).2).1 = v9 at *
      generalize (numR (st (dR l) (dB l) j).1 (st (dR l) (dB l) j).2).2.1 = l9 at *
      generalize (numR (st (dR l) (dB l) j).1 (st (dR l) (dB l) j).2).2.2 = b9 at *
      clear z1 z2 z3 hsl hs q1 q2 q3 q4 E1 E3 HS1 HS2 HS3 HIX M6 HS
      dsimp only [List.set] at M8
      have hdl : decOk l = (!b9 && (decide (v9 ≤ 1) && decide (l9 = []))) := by unfold decOk reads done; rw [HV.out, H9a.out, H9b.out]
      obtain ⟨⟨d0, d1⟩, _, _⟩ := M8.out.box2 1 rfl
      obtain ⟨⟨a0, a1, a2, a3, a4, a5, a6, a7, a8, a9, a10⟩, ⟨g0, g1, g2, g3, g4, g5, g6, g7, g8, g9, g10⟩, lt0⟩ := M8.out.box11 0 rfl
      by_cases hv : (1 : Int) < (v9 : Int)
      · have hno := Lib.hid (show decOk l = false by rw [hdl]; simp; omega)
        clear hdl
        cases b9
        all_goals
          go_wp2
          have MF := M8.out.put11 0 rfl (.int .i64 0) (.string ⟨#[]⟩) (.int .i64 0) (.int .i64 0) (.int .i64 0) (.int .i64 0) (.int .i64 0) (.int .i64 0) (.int .i64 0) (.int .i64 0) (.bool false)
          refine bodyPost_ret (Bx.res_ct Try.results10 rfl (man_load (o := zeroM) (MF.blk 0 rfl))) rfl ⟨?_, MF.held⟩
          unfold dec; rw [hno.out]; rfl
      cases b9
      · have hlz := Lib.hid (show s6.toList = l9 by rw [ByteArray.toList_eq]; exact HS6.out)
        cases l9 with
        | cons c l9 =>
          have hno := Lib.hid (show decOk l = false by rw [hdl]; simp)
          clear hdl
          have ne1 : ¬ s6.toList = [] := by rw [hlz.out]; simp
          have ne2 : (!s6.toList.isEmpty) = true := by rw [hlz.out]; rfl
          have ne3 : s6.toList.isEmpty = false := by rw [hlz.out]; rfl
          go_wp2
          have MF := M8.out.put11 0 rfl (.int .i64 0) (.string ⟨#[]⟩) (.int .i64 0) (.int .i64 0) (.int .i64 0) (.int .i64 0) (.int .i64 0) (.int .i64 0) (.int .i64 0) (.int .i64 0) (.bool false)
          refine bodyPost_ret (Bx.res_ct Try.results10 rfl (man_load (o := zeroM) (MF.blk 0 rfl))) rfl ⟨?_, MF.held⟩
          unfold dec; rw [hno.out]; rfl
        | nil =>
          have hyes : Is (decOk l) true := ⟨by rw [hdl]; simp; omega⟩
          clear hdl H9b H9a
          obtain rfl : s6 = ⟨#[]⟩ := by
            have h := HS6.out
            obtain ⟨⟨q⟩⟩ := s6
            simp at h
            subst h; rfl
          clear hlz
          have e11 : ∃ k0 f0 f1 f2 f3 f4 f5 f6 f7, mArr (i64 (dK l).1) nm F j = #[.int .i64 k0, .string nm, .int .i64 f0, .int .i64 f1, .int .i64 f2, .int .i64 f3, .int .i64 f4, .int .i64 f5, .int .i64 f6, .int .i64 f7, .bool false] ∧
              (decoded l).k = k0 ∧ nums (decoded l) = [f0, f1, f2, f3, f4, f5, f6, f7, upZ (decide (v9 = 1))] := by
            refine ⟨_, _, _, _, _, _, _, _, _, rfl, rfl, ?_⟩
            rw [HJ.out, HF.out, ← HV.out]
            simp only [nums, decoded, Nat.reduceLT, if_true, ite_true]
          obtain ⟨k0, f0, f1, f2, f3, f4, f5, f6, f7, em, ek, en⟩ := e11
          have HEK : Is (decoded l).k k0 := ⟨ek⟩
          have HEN : Is (nums (decoded l)) _ := ⟨en⟩
          have HNM2 : Is nm.data.toList (dS l).1 := ⟨HNM.out⟩
          rw [em] at M8
          clear em ek en HV HF HNM HJ HS6
          obtain ⟨⟨e0, e1, e2, e3, e4, e5, e6, e7, e8, e9, e10⟩, ⟨i0, i1, i2, i3, i4, i5, i6, i7, i8, i9, i10⟩, lt2⟩ := M8.out.box11 2 rfl
          go_wp2
          have MF := (M8.out.put 2 rfl 10 (.bool (decide ((v9 : Int) = 1)))).put11 0 rfl (.int .i64 k0) (.string nm) (.int .i64 f0) (.int .i64 f1) (.int .i64 f2) (.int .i64 f3) (.int .i64 f4) (.int .i64 f5) (.int .i64 f6) (.int .i64 f7) (.bool (decide ((v9 : Int) = 1)))
          refine bodyPost_ret (Bx.res_ct Try.results10 rfl (man_load (o := ⟨k0, nm, f0, f1, ⟨f2, f3, f4, f5⟩, ⟨f6, f7, decide ((v9 : Int) = 1)⟩⟩) (MF.blk 0 rfl))) rfl ⟨?_, MF.held⟩
          have hd : dec l = ⟨k0, nm, f0, f1, ⟨f2, f3, f4, f5⟩, ⟨f6, f7, decide ((v9 : Int) = 1)⟩⟩ := by
            unfold dec
            rw [if_pos hyes.out]
            refine man_ext HEK.out ?_ ?_
            · show (⟨(dS l).1.toArray⟩ : ByteArray) = nm
              rw [← HNM2.out]
            · rw [HEN.out]
              have : decide ((v9 : Int) = 1) = decide (v9 = 1) := by rw [decide_eq_decide]; omega
              simp only [nums, this]
          rw [hd, hyes.out]; rfl
      · have hno := Lib.hid (show decOk l = false by rw [hdl]; simp)
        clear hdl
        go_wp2
        have MF := M8.out.put11 0 rfl (.int .i64 0) (.string ⟨#[]⟩) (.int .i64 0) (.int .i64 0) (.int .i64 0) (.int .i64 0) (.int .i64 0) (.int .i64 0) (.int .i64 0) (.int .i64 0) (.bool false)
        refine bodyPost_ret (Bx.res_ct Try.results10 rfl (man_load (o := zeroM) (MF.blk 0 rfl))) rfl ⟨?_, MF.held⟩
        unfold dec; rw [hno.out]; rfl
end Jn
end Go.Proofs.Ytmmnanmegdflgaa
