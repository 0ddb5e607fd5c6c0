/-
  Pieces of memory: append in place, where there is room; the row without its last element (over any program).
-/
import Derived.Test.YtncgihbnfmpdbaaMem3
set_option linter.unusedVariables false
namespace Go.Proofs.Ytncgihbnfmpdbaa
open Go.RowKit
namespace Mem
variable {W w w' : World} {H : List Ck} {α : Type} {e : TypeId} {s : Nat} {f : α → List Value}
/-- A row without its last element, in the same block. -/
theorem shrink (h : Mem W w H) (i : Nat) {g n cap : Nat} {L : List α} {d : α} {base : Nat} (hf : ∀ x, (f x).length = s) (hn : L.length = n) (hi : H[i]? = some (.row e s f base (.slice (some ⟨g, 0, none⟩) (n + 1) cap) (L ++ [d]))) :
    Mem W w (H.set i (.row e s f base (.slice (some ⟨g, 0, none⟩) n cap) L)) := by
  subst hn
  refine h.upd hi _ (Below.refl 0 w) (fun b _ _ => rfl) ?_ (fun b hb => .inl hb)
  have ho := h.row i hi
  refine ⟨flat_len hf L, .inr ?_⟩
  rcases ho.2 with ⟨he, h0⟩ | ⟨g', cp, cur, he, q1, q2, q3, q4, q5, q6⟩
  · cases he
  · injection he with e1 e2 e3
    injection e1 with e1
    injection e1 with e1
    subst e1 e3
    refine ⟨g, cap, cur, rfl, q1, q2, by rw [List.length_append] at q3; omega, q4, q5, ?_⟩
    have q7 := congrArg (List.take (L.length * s)) q6
    have e4 : (List.flatMap f L).take (L.length * s) = List.flatMap f L := List.take_of_length_le (by rw [flat_len hf]; exact Nat.le_refl _)
    have e5 : min (L.length * s) ((L ++ [d]).length * s) = L.length * s := Nat.min_eq_left (Nat.mul_le_mul_right s (by rw [List.length_append]; omega))
    rw [List.take_take, e5, List.flatMap_append, List.take_append_of_le_length (by rw [flat_len hf]; exact Nat.le_refl _), e4] at q7
    exact q7
/-- An append of one element where there is room: in the same block. -/
theorem wp_app_in (h : Mem W w H) (i : Nat) {g n cap : Nat} {L : List α} (hi : H[i]? = some (.row e s f W.heap.size (.slice (some ⟨g, 0, none⟩) n cap) L)) {P : Program} {ops : Array Oper} {rest : List Oper} {o : Oper} {a : Act} {Q : Exit → Act → World → Prop} (hgd : o.guard = none) (sl x : Operand) (t : TypeId)
    (ho : o.op = .call { callee := .builtin .append, args := #[sl, x], argTypes := #[t, t] }) (z : Value) (bytes : Nat) (ht : P.underlying t = some (.slice e)) (hinfo : (P.info? e).map (fun i => (i.zero, i.size, i.bytes)) = some (some z, s, bytes))
    (hzs : z.cells.size = s) (hs0 : 0 < s) (hf : ∀ x, (f x).length = s) (hf1 : ∀ x, ∀ u ∈ f x, u.oneCell' = true) (d : α) (ad : Addr) (c : Nat)
    (hs : a.eval sl = .slice (some ⟨g, 0, none⟩) n cap) (hx : a.eval x = .slice (some ad) 1 c) (hnews : ∀ j u, (f d)[j]? = some u → w.cell? (ad.add j) = some u)
    (hn : L.length = n) (hroom : n + 1 ≤ cap) (hb : (n + 1) * bytes ≤ 140737488355328) (hb1 : 1 ≤ bytes)
    (k : ∀ w', Mem W w' (H.set i (.row e s f W.heap.size (.slice (some ⟨g, 0, none⟩) (n + 1) cap) (L ++ [d]))) → wpList P ops Q rest (a.put o.dst (.slice (some ⟨g, 0, none⟩) (n + 1) cap)) w') :
    wpList P ops Q (o :: rest) a w := by
  subst hn
  have hnews' : ∀ j u, ([d].flatMap f)[j]? = some u → w.cell? (ad.add j) = some u := by
    rw [List.flatMap_singleton]; exact hnews
  obtain ⟨g', cap', w', hr, hM⟩ := h.app_run i hi (P := P) o.type t z bytes ht hinfo hzs hs0 hf hf1 [d] ad 1 c rfl (by decide) hnews' L.length rfl hb hb1
  have hsame : g' = g ∧ cap' = cap := by
    obtain ⟨i0, hi0, hz0, hz1, hz2⟩ := info_parts hinfo
    rcases (h.row i hi).2 with ⟨he, h0⟩ | ⟨g1, cp, cur, he, q1, q2, q3, q4, q5, q6⟩
    · cases he
    · injection he with e1 e2 e3
      injection e1 with e1
      injection e1 with e1
      subst e1 e3
      have := run_append_room (P := P) w t o.type e i0 ht hi0 g L.length cap cur q2 ad 1 c (f d) (by rw [hf, hz1, Nat.one_mul]) hnews (hf1 d) hroom (by
        rw [hf, hz1, q5]
        have := Nat.mul_le_mul_right s hroom
        rw [Nat.add_mul] at this; omega)
      rw [this] at hr
      injection hr with hr _
      injection hr with r1 r2 r3
      injection r1 with r1
      injection r1 with r1
      exact ⟨r1.symm, r3.symm⟩
  obtain ⟨rfl, rfl⟩ := hsame
  refine wpList_plain hgd fun K hK => ?_
  unfold Oper.wp execOp
  simp only [ho, resolve, invoke, builtin, Sem.run_bind, Sem.run_pure, Result.andThen_ok, List.map_toArray, List.map_cons, List.map_nil, hs, hx, hr]
  exact hK _ _ (k w' hM)
/-- A slice that make lays, of no elements, with room for some. -/
theorem wp_make0 (h : Mem W w H) {P : Program} {ops : Array Oper} {rest : List Oper} {o : Oper} {a : Act} {Q : Exit → Act → World → Prop} (hgd : o.guard = none) (l c : Operand) (t : TypeId) (hop : o.op = Op.makeSlice t l c)
    (z : Value) (bytes : Nat) (ht : P.underlying t = some (.slice e)) (hinfo : (P.info? e).map (fun i => (i.zero, i.size, i.bytes)) = some (some z, s, bytes))
    (kl kc : IntKind) (C : Int) (n : Nat) (hl : a.eval l = .int kl 0) (hc : a.eval c = .int kc C) (hC : C = (n : Int)) (hb : bytes * n ≤ 281474976710656) (hm : n ≤ maxLen)
    (k : ∀ w', Mem W w' (H ++ [.row e s f W.heap.size (.slice (some ⟨w.heap.size, 0, none⟩) 0 n) ([] : List α)]) → Held w w' → wpList P ops Q rest (a.put o.dst (.slice (some ⟨w.heap.size, 0, none⟩) 0 n)) w') :
    wpList P ops Q (o :: rest) a w := by
  obtain ⟨i0, hi, hz0, hz1, hz2⟩ := info_parts hinfo
  refine wpList_make_own w hgd l c t hop w.heap.size e i0 z s ht hi hz0 hz1 kl kc C n hl hc hC (by rw [hz2]; exact hb) hm (Nat.le_refl _) ?_
  intro w' h1 h2
  have hh : Held w w' := ⟨h2.os, h2.tape, h2.output, h2.size, fun k hk => h2.block k hk (by simp)⟩
  exact k w' (h.own hh h1) hh
end Mem
/-- A row that is not empty lies in a block. -/
theorem own_blk {α : Type} {e : TypeId} {s : Nat} {f : α → List Value} {base : Nat} {w : World} {v : Value} {L : List α} (h : Own e s f base w v L) (hL : 0 < L.length) : ∃ g cap, v = .slice (some ⟨g, 0, none⟩) L.length cap ∧ L.length ≤ cap := by
  rcases h.2 with ⟨_, h0⟩ | ⟨g, cp, cur, he, q1, q2, q3, _⟩
  · omega
  · exact ⟨g, cp, he, q3⟩
end Go.Proofs.Ytncgihbnfmpdbaa
