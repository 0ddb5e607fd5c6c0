/-
  Slices of structs that the call itself made: deleted from, inserted into: laws of no program.
-/
import Derived.Test.YtncgihbnfmpdbaaSl
import Derived.Laws.CopyRow
import Derived.Lib.AppendZerosOnto
import Derived.Lib.Overlaps
import Derived.Laws.Externs
namespace Go.Proofs.Ytncgihbnfmpdbaa.Sg
open Go Go.RowKit
set_option linter.unusedVariables false
/-- What a list of cells is with news laid from o on. -/
def lay (C : List Value) (o : Nat) (news : List Value) : List Value := C.take o ++ news ++ C.drop (o + news.length)
theorem lay_len {C news : List Value} {o : Nat} (h : o + news.length ≤ C.length) : (lay C o news).length = C.length := by
  unfold lay; simp only [List.length_append, List.length_take, List.length_drop]; omega
theorem lay_take {C news : List Value} {o : Nat} (h : o ≤ C.length) : (lay C o news).take (o + news.length) = C.take o ++ news := by
  unfold lay
  have hl : (C.take o ++ news).length = o + news.length := by rw [List.length_append, List.length_take]; omega
  rw [← hl]; exact List.take_left
theorem lay_low {C news : List Value} {o k : Nat} (h : o ≤ C.length) (hk : k ≤ o) : (lay C o news).take k = C.take k := by
  unfold lay
  rw [List.append_assoc, List.take_append_of_le_length (by rw [List.length_take]; omega), List.take_take, Nat.min_eq_left hk]
theorem lay_high {C news : List Value} {o : Nat} (h : o + news.length ≤ C.length) : (lay C o news).drop (o + news.length) = C.drop (o + news.length) := by
  unfold lay
  have hl : (C.take o ++ news).length = o + news.length := by rw [List.length_append, List.length_take]; omega
  rw [List.drop_append_of_le_length (by omega), List.drop_of_length_le (by omega), List.nil_append]
/-- Block g holds the cells C, all of them; nothing else has turned since w0. -/
structure Row (e : TypeId) (w0 : World) (g : Nat) (C : List Value) (w : World) : Prop where
  blk : w.heap[g]? = some (.cells C.toArray e (0, 0))
  os : w.os = w0.os
  tape : w.tape = w0.tape
  output : w.output = w0.output
  size : w0.heap.size ≤ w.heap.size
  rest : ∀ k, k < w0.heap.size → k ≠ g → w.heap[k]? = w0.heap[k]?
theorem Row.start {e : TypeId} {w : World} {g : Nat} {cur : Array Value} (h : w.heap[g]? = some (.cells cur e (0, 0))) : Row e w g cur.toList w :=
  ⟨by simpa using h, rfl, rfl, rfl, Nat.le_refl _, fun _ _ _ => rfl⟩
theorem Row.drew {e : TypeId} {w0 w : World} {g : Nat} {C : List Value} (h : Row e w0 g C w) : Row e w0 g C w.drew := ⟨h.blk, h.os, h.tape, h.output, h.size, h.rest⟩
theorem Row.drewN {e : TypeId} {w0 w : World} {g : Nat} {C : List Value} (h : Row e w0 g C w) (n : Nat) : Row e w0 g C (w.drewN n) := by
  cases n with
  | zero => exact h
  | succ n => exact ⟨h.blk, h.os, h.tape, h.output, h.size, h.rest⟩
theorem Row.put {e : TypeId} {w0 w : World} {g : Nat} {C : List Value} (h : Row e w0 g C w) (C' : List Value) : Row e w0 g C' (w.setRow g C'.toArray) :=
  ⟨setRow_heap w g _ _ e _ h.blk, h.os, h.tape, h.output, by have := h.size; simp [World.setRow]; exact this, fun k hk hne => (setRow_other w g k _ hne).trans (h.rest k hk hne)⟩
theorem Row.cell {e : TypeId} {w0 w : World} {g : Nat} {C : List Value} (h : Row e w0 g C w) (j : Nat) : w.cell? ⟨g, j, none⟩ = C[j]? := by
  simp [World.cell?, h.blk]
section
variable {P : Program}
theorem addr_at (g o j : Nat) : (⟨g, o, none⟩ : Addr).add j = ⟨g, o + j, none⟩ := addr_add g o j
/-- The cells of a row from o on, as a slice's first cells. -/
theorem news_at {e : TypeId} {w0 w : World} {g : Nat} {C : List Value} (h : Row e w0 g C w) (o k : Nat) : ∀ j u, ((C.drop o).take k)[j]? = some u → w.cell? ((⟨g, o, none⟩ : Addr).add j) = some u := by
  intro j u hu
  rw [addr_at, h.cell]
  rw [List.getElem?_take] at hu
  split at hu
  · rwa [List.getElem?_drop] at hu
  · cases hu
/-- append(s[:i], s[j:]...), room there. -/
theorem app_room {t ty e : TypeId} {i0 : TypeInfo} {w0 w : World} {g : Nat} {C : List Value} (ht : P.underlying t = some (.slice e)) (hi : P.info? e = some i0) {s : Nat} (hs : i0.size = s)
    (h : Row e w0 g C w) (n cap : Nat) (a : Addr) (m c : Nat) (news : List Value) (hl : news.length = m * s) (hnews : ∀ j u, news[j]? = some u → w.cell? (a.add j) = some u) (h1 : ∀ u ∈ news, u.oneCell' = true)
    (hroom : n + m ≤ cap) (hfit : n * s + news.length ≤ C.length) :
    ∃ w1, (Builtin.append_ #[t, t] ty #[.slice (some ⟨g, 0, none⟩) n cap, .slice (some a) m c]).run P w = .ok (.slice (some ⟨g, 0, none⟩) (n + m) cap) w1 ∧ Row e w0 g (lay C (n * s) news) w1 := by
  subst hs
  have hr := run_append_room (P := P) (ty := ty) w t e i0 ht hi g n cap C.toArray h.blk a m c news hl hnews h1 hroom (by simpa using hfit)
  exact ⟨_, hr, h.put _⟩
/-- copy into a row. -/
theorem copy_row {t t' ty e : TypeId} {i0 : TypeInfo} {w0 w : World} {g : Nat} {C : List Value} (ht : P.underlying t = some (.slice e)) (hi : P.info? e = some i0) {s : Nat} (hs : i0.size = s)
    (h : Row e w0 g C w) (o dl dc : Nat) (a : Addr) (m c : Nat) (k : Nat) (hk : k = min m dl) (news : List Value) (hl : news.length = k * s) (hnews : ∀ j u, news[j]? = some u → w.cell? (a.add j) = some u) (h1 : ∀ u ∈ news, u.oneCell' = true)
    (hfit : o + news.length ≤ C.length) :
    ∃ w1, (Builtin.copy_ #[t, t'] ty #[.slice (some ⟨g, o, none⟩) dl dc, .slice (some a) m c]).run P w = .ok (goInt k) w1 ∧ Row e w0 g (lay C o news) w1 := by
  subst hs
  have hf := run_firstCells_some (P := P) w i0.size k a m c news hl hnews
  have hst := run_storeCells_at P g o e news 0 C.toArray w h.blk (by simpa using hfit) h1
  simp only [Nat.add_zero] at hst
  have hk' : Nat.min m dl = k := hk.symm
  refine ⟨_, ?_, h.put (lay C o news)⟩
  simp [Builtin.copy_, run_underlying ht, sizeOf, typeInfo, hi, Builtin.lenOf, hk', hf, hst, lay]
/-- clear a part of a row. -/
theorem clear_row {t ty e : TypeId} {w0 w : World} {g : Nat} {C : List Value} {z : Value} (ht : P.underlying t = some (.slice e)) (hz : ∀ w, (zeroValue e).run P w = .ok z w) (hz1 : ∀ u ∈ (Builtin.zeroCells z.cells 1).toList, u.oneCell' = true)
    (h : Row e w0 g C w) (o n c : Nat) (hn : 0 < n) (hz2 : ∀ u ∈ (Builtin.zeroCells z.cells n).toList, u.oneCell' = true) (hfit : o + n * z.cells.size ≤ C.length) :
    ∃ w1, (Builtin.clear_ #[t] ty #[.slice (some ⟨g, o, none⟩) n c]).run P w = .ok (.tuple #[]) w1 ∧ Row e w0 g (lay C o (Builtin.zeroCells z.cells n).toList) w1 := by
  have hsz : (Builtin.zeroCells z.cells n).toList.length = n * z.cells.size := by simp [Builtin.zeroCells]
  have hst := run_storeCells_at P g o e (Builtin.zeroCells z.cells n).toList 0 C.toArray w h.blk (by rw [hsz]; simpa using hfit) hz2
  simp only [Nat.add_zero] at hst
  obtain ⟨k, rfl⟩ : ∃ k, n = k + 1 := ⟨n - 1, by omega⟩
  refine ⟨_, ?_, h.put (lay C o (Builtin.zeroCells z.cells (k + 1)).toList)⟩
  simp [Builtin.clear_, run_underlying ht, hz, hst, lay]
end
theorem Row.lt {e : TypeId} {w0 w : World} {g : Nat} {C : List Value} (h : Row e w0 g C w) : g < w.heap.size := (Array.getElem?_eq_some_iff.1 h.blk).1
/-- What is shifted up, and the new cells before it. -/
theorem shift_take {C X news : List Value} {o p q : Nat} (ho : o ≤ C.length) (hp : p = o + X.length) (hp2 : p ≤ C.length) (hq : q = p + news.length) : (lay (lay C p news) o X).take q = C.take o ++ X ++ news := by
  have h1 : (lay C p news).take q = C.take p ++ news := by rw [hq]; exact lay_take hp2
  have hq2 : q = (C.take o ++ X ++ news).length := by
    simp only [List.length_append, List.length_take]; omega
  have e1 : (lay C p news).take o = C.take o := lay_low hp2 (by omega)
  have e2 : (lay C p news).drop p = news ++ C.drop (p + news.length) := by
    unfold lay
    rw [List.append_assoc, List.drop_append_of_le_length (by rw [List.length_take]; omega), List.drop_of_length_le (by rw [List.length_take]; omega), List.nil_append]
  have e3 : lay (lay C p news) o X = (C.take o ++ X ++ news) ++ C.drop (p + news.length) := by
    conv => lhs; unfold lay
    rw [show (C.take p ++ news ++ C.drop (p + news.length)) = lay C p news from rfl, e1, ← hp, e2]
    simp only [List.append_assoc]
  rw [e3, hq2]
  exact List.take_left
/-- New cells, and what stood behind them. -/
theorem fill_take {C X news : List Value} {o p q : Nat} (ho : o ≤ C.length) (hp : p = o + X.length) (hp2 : o + X.length ≤ C.length) (hq : q = p + news.length) : (lay (lay C o X) p news).take q = C.take o ++ X ++ news := by
  rw [hq, lay_take (by rw [lay_len hp2]; omega), hp, lay_take ho]
theorem Row.grown {e : TypeId} {w0 w : World} {g : Nat} {C : List Value} (h : Row e w0 g C w) : w0.grownBy w (some g) :=
  ⟨h.os, h.tape, h.output, h.size, fun k hk hne => h.rest k hk (fun e => hne (by rw [e]))⟩
section
variable {P : Program} {ops : Array Oper} {rest : List Oper} {o : Oper} {a : Act} {w : World} {K : Act → World → Prop} {Q : Exit → Act → World → Prop} {E : Prop}
/-- An append of which the run is known: at a step of a drawn region; in a list. -/
theorem step_append (hgd : o.guard = none) (s x : Operand) (t u ty : TypeId) (ho : o.op = .call { callee := .builtin .append, args := #[s, x], argTypes := #[t, u] }) (hty : o.type = ty) {v y v' : Value} {w' : World} (hs : a.eval s = v) (hx : a.eval x = y)
    (hr : (Builtin.append_ #[t, u] ty #[v, y]).run P w = .ok v' w') (h : K (a.put o.dst v') w') : if Region.wanted o (yielded ops a.tmps) = true then Oper.wp P o a w K Q else E := by
  have hw : Region.wanted o (yielded ops a.tmps) = true := by simp [Region.wanted, hgd]
  subst hty
  rw [if_pos hw]
  unfold Oper.wp execOp
  simp only [ho, resolve, invoke, builtin, Sem.run_bind, Sem.run_pure, Result.andThen_ok, List.map_toArray, List.map_cons, List.map_nil, hs, hx, hr]
  exact h
theorem list_append (hgd : o.guard = none) (s x : Operand) (t u ty : TypeId) (ho : o.op = .call { callee := .builtin .append, args := #[s, x], argTypes := #[t, u] }) (hty : o.type = ty) {v y v' : Value} {w' : World} (hs : a.eval s = v) (hx : a.eval x = y)
    (hr : (Builtin.append_ #[t, u] ty #[v, y]).run P w = .ok v' w') (h : wpList P ops Q rest (a.put o.dst v') w') : wpList P ops Q (o :: rest) a w := by
  refine wpList_plain hgd fun K hK => ?_
  subst hty
  unfold Oper.wp execOp
  simp only [ho, resolve, invoke, builtin, Sem.run_bind, Sem.run_pure, Result.andThen_ok, List.map_toArray, List.map_cons, List.map_nil, hs, hx, hr]
  exact hK _ _ h
theorem step_copy (hgd : o.guard = none) (s x : Operand) (t u ty : TypeId) (ho : o.op = .call { callee := .builtin .copy, args := #[s, x], argTypes := #[t, u] }) (hty : o.type = ty) {v y v' : Value} {w' : World} (hs : a.eval s = v) (hx : a.eval x = y)
    (hr : (Builtin.copy_ #[t, u] ty #[v, y]).run P w = .ok v' w') (h : K (a.put o.dst v') w') : if Region.wanted o (yielded ops a.tmps) = true then Oper.wp P o a w K Q else E := by
  have hw : Region.wanted o (yielded ops a.tmps) = true := by simp [Region.wanted, hgd]
  subst hty
  rw [if_pos hw]
  unfold Oper.wp execOp
  simp only [ho, resolve, invoke, builtin, Sem.run_bind, Sem.run_pure, Result.andThen_ok, List.map_toArray, List.map_cons, List.map_nil, hs, hx, hr]
  exact h
theorem list_copy (hgd : o.guard = none) (s x : Operand) (t u ty : TypeId) (ho : o.op = .call { callee := .builtin .copy, args := #[s, x], argTypes := #[t, u] }) (hty : o.type = ty) {v y v' : Value} {w' : World} (hs : a.eval s = v) (hx : a.eval x = y)
    (hr : (Builtin.copy_ #[t, u] ty #[v, y]).run P w = .ok v' w') (h : wpList P ops Q rest (a.put o.dst v') w') : wpList P ops Q (o :: rest) a w := by
  refine wpList_plain hgd fun K hK => ?_
  subst hty
  unfold Oper.wp execOp
  simp only [ho, resolve, invoke, builtin, Sem.run_bind, Sem.run_pure, Result.andThen_ok, List.map_toArray, List.map_cons, List.map_nil, hs, hx, hr]
  exact hK _ _ h
theorem list_clear (hgd : o.guard = none) (s : Operand) (t ty : TypeId) (ho : o.op = .call { callee := .builtin .clear, args := #[s], argTypes := #[t] }) (hty : o.type = ty) {v v' : Value} {w' : World} (hs : a.eval s = v)
    (hr : (Builtin.clear_ #[t] ty #[v]).run P w = .ok v' w') (h : wpList P ops Q rest (a.put o.dst v') w') : wpList P ops Q (o :: rest) a w := by
  refine wpList_plain hgd fun K hK => ?_
  subst hty
  unfold Oper.wp execOp
  simp only [ho, resolve, invoke, builtin, Sem.run_bind, Sem.run_pure, Result.andThen_ok, List.map_toArray, List.map_cons, List.map_nil, hs, hr]
  exact hK _ _ h
/-- 's[j:]', whatever the capacity. -/
theorem slice_from {P : Program} {t e : TypeId} {i0 : TypeInfo} (ht : P.underlying t = some (.slice e)) (hi : P.info? e = some i0) {s : Nat} (hs : i0.size = s) (g o n cap j : Nat) (hj : j ≤ n) (hn : n ≤ cap) (w : World) :
    (Instr.slice t (.slice (some ⟨g, o, none⟩) n cap) (some (.int .i64 j)) none none).run P w = .ok (.slice (some (if cap = j then (⟨g, o, none⟩ : Addr) else ⟨g, o + j * s, none⟩)) (n - j) (cap - j)) w := by
  subst hs
  have h1 : (j : Int) ≤ n := by omega
  by_cases hc : cap = j
  · simp [Instr.slice, run_underlying ht, Instr.sliceBounds, Instr.sliceBound, asIntOf, sizeOf, typeInfo, hi, hc]
    intro h9; omega
  · simp [Instr.slice, run_underlying ht, Instr.sliceBounds, Instr.sliceBound, asIntOf, sizeOf, typeInfo, hi, hc, addr_add]
    intro h9; omega
end
section
variable {α : Type} {e : TypeId} {s : Nat} {f : α → List Value} {base : Nat} {w : World} {L : List α}
/-- What is owned, as a row. -/
theorem own_row {A : Option Addr} {n cap : Nat} (hf : ∀ x, (f x).length = s) (h : Own e s f base w (.slice A n cap) L) (hn : 0 < n) :
    ∃ g C, A = some ⟨g, 0, none⟩ ∧ base ≤ g ∧ Row e w g C w ∧ C.length = cap * s ∧ C.take (n * s) = L.flatMap f ∧ n = L.length ∧ n ≤ cap ∧ cap ≤ maxLen := by
  rcases h.2 with ⟨he, h0⟩ | ⟨g, cp, cur, he, hb, hh, hc, hm, hs, ht⟩
  · injection he with e1 e2 e3; omega
  · injection he with e1 e2 e3
    subst e1 e2 e3
    exact ⟨g, cur.toList, rfl, hb, Row.start hh, by simpa using hs, ht, rfl, hc, hm⟩
theorem row_own {w0 w1 : World} {g cap k : Nat} {C : List Value} {M : List α} (hf : ∀ x, (f x).length = s) (hr : Row e w0 g C w1) (hb : base ≤ g) (hl : C.length = cap * s) (hk : k = M.length) (hc : k ≤ cap) (hm : cap ≤ maxLen) (ht : C.take (k * s) = M.flatMap f) :
    Own e s f base w1 (.slice (some ⟨g, 0, none⟩) k cap) M := by
  subst hk
  exact ⟨flat_len hf M, .inr ⟨g, cap, C.toArray, rfl, hb, hr.blk, hc, hm, by simpa using hl, by simpa using ht⟩⟩
theorem flat_take (hf : ∀ x, (f x).length = s) (L : List α) (i : Nat) (hi : i ≤ L.length) : (L.take i).flatMap f = (L.flatMap f).take (i * s) := by
  have h1 : L.flatMap f = (L.take i).flatMap f ++ (L.drop i).flatMap f := by rw [← List.flatMap_append, List.take_append_drop]
  have h2 : ((L.take i).flatMap f).length = i * s := by rw [flat_len hf, List.length_take, Nat.min_eq_left hi]
  rw [h1, ← h2, List.take_left']
  rfl
theorem flat_drop (hf : ∀ x, (f x).length = s) (L : List α) (i : Nat) (hi : i ≤ L.length) : (L.drop i).flatMap f = (L.flatMap f).drop (i * s) := by
  have h1 : L.flatMap f = (L.take i).flatMap f ++ (L.drop i).flatMap f := by rw [← List.flatMap_append, List.take_append_drop]
  have h2 : ((L.take i).flatMap f).length = i * s := by rw [flat_len hf, List.length_take, Nat.min_eq_left hi]
  rw [h1, ← h2, List.drop_left']
  rfl
/-- What a function leaves that turns a slice of the call's own. -/
def Got (e : TypeId) (s : Nat) (f : α → List Value) (base : Nat) (v : Value) (M : List α) (w : World) (r : Ending) (w' : World) : Prop :=
  ∃ v', r = .returned v' ∧ Own e s f base w' v' M ∧ w.grownBy w' v.ownBlock ∧ (v'.ownBlock = v.ownBlock ∨ ∃ g, v'.ownBlock = some g ∧ w.heap.size ≤ g)
theorem Got.mk {v v' : Value} {M : List α} {w' : World} (h : Own e s f base w' v' M) (hg : w.grownBy w' v.ownBlock) (hb : v'.ownBlock = v.ownBlock ∨ ∃ g, v'.ownBlock = some g ∧ w.heap.size ≤ g) : Got e s f base v M w (.returned v') w' := ⟨v', rfl, h, hg, hb⟩
/-- From w to w' only the block of the slice v was written; v' lies there or in a new block. -/
structure Kp (w : World) (v : Value) (w' : World) (v' : Value) : Prop where
  os : w'.os = w.os
  tape : w'.tape = w.tape
  output : w'.output = w.output
  size : w.heap.size ≤ w'.heap.size
  rest : ∀ b, b < w.heap.size → some b ≠ v.ownBlock → w'.heap[b]? = w.heap[b]?
  moved : ∀ g, v'.ownBlock = some g → v.ownBlock = some g ∨ w.heap.size ≤ g
theorem Kp.held {w w' : World} (v : Value) (h : Held w w') : Kp w v w' v := ⟨h.os, h.tape, h.output, h.size, fun b hb _ => h.block b hb, fun g hg => .inl hg⟩
theorem Kp.trans {a b c : World} {u v x : Value} (h : Kp a u b v) (k : Kp b v c x) : Kp a u c x := by
  refine ⟨k.os.trans h.os, k.tape.trans h.tape, k.output.trans h.output, Nat.le_trans h.size k.size, fun q hq hne => ?_, fun g hg => ?_⟩
  · rw [k.rest q (Nat.lt_of_lt_of_le hq h.size) (fun e => ?_), h.rest q hq hne]
    rcases h.moved q e.symm with h1 | h1
    · exact hne h1.symm
    · omega
  · rcases k.moved g hg with h1 | h1
    · exact h.moved g h1
    · exact .inr (Nat.le_trans h.size h1)
theorem Kp.grown {w w' : World} {v v' : Value} (hg : w.grownBy w' v.ownBlock) (hb : v'.ownBlock = v.ownBlock ∨ ∃ g, v'.ownBlock = some g ∧ w.heap.size ≤ g) : Kp w v w' v' := by
  refine ⟨hg.os, hg.tape, hg.output, hg.size, fun b hb hne => hg.block b hb hne, fun g hg' => ?_⟩
  rcases hb with h1 | ⟨g2, h1, h2⟩
  · exact .inl (h1 ▸ hg')
  · rw [h1] at hg'; injection hg' with hg'; exact .inr (hg' ▸ h2)
/-- What a function leaves that makes a slice. -/
def New (e : TypeId) (s : Nat) (f : α → List Value) (M : List α) (w : World) (r : Ending) (w' : World) : Prop := ∃ v', r = .returned v' ∧ Own e s f w.heap.size w' v' M ∧ Held w w'
theorem New.mk {v' : Value} {M : List α} {w' : World} (h : Own e s f w.heap.size w' v' M) (hg : Held w w') : New e s f M w (.returned v') w' := ⟨v', rfl, h, hg⟩
theorem sl_news (hf : ∀ x, (f x).length = s) (hs : 0 < s) {ad : Addr} {n : Nat} (h : Sl s f w (some ad) n L) : ∀ j u, (L.flatMap f)[j]? = some u → w.cell? (ad.add j) = some u := by
  intro j u hu
  rcases h.2 with h0 | ⟨b, off, e1, _⟩
  · have : L = [] := List.eq_nil_of_length_eq_zero (by rw [h.1, h0])
    subst this
    cases hu
  · injection e1 with e1
    subst e1
    exact h.flat hf hs j u hu
end
end Go.Proofs.Ytncgihbnfmpdbaa.Sg
