/-
  Slices of structs that the call itself made: deleted from, inserted into: laws of no program.
  Pieces of memory: new pieces in front; what Delete and Insert leave; nil slices (over any program).
  Boxes: a block known whole; a function's results that lie in boxes.
  Words for memory: segments, whose entries lie in blocks of their own type or are older (chapter 24).
  Plain laws, no program in sight: bodies are decoded; the stream's two sides (chapter 24).
-/
import Derived.Test.YthpjbffhdaaibaaGreatZ2
import Derived.Laws.CopyRow
import Derived.Lib.AppendZerosOnto
import Derived.Lib.Overlaps
import Derived.Laws.Externs
import Derived.Test.YthpjbffhdaaibaaGreatZ7
import Derived.Test.YthpjbffhdaaibaaGreatProg
import Derived.WalkSpells
import Derived.Test.YthpjbffhdaaibaaGreatZ6
namespace Go.Proofs.YthpjbffhdaaibaaGreat.Sg
open Go Go.RowKit
set_option linter.unusedVariables false
/-- What a list of cells is with news laid from o on. -/
def lay (C : List Value) (o : Nat) (news : List Value) : List Value := C.take o ++ news ++ C.drop (o + news.length)
theorem lay_len {C news : List Value} {o : Nat} (h : o + news.length ≤ C.length) : (lay C o news).length = C.length := by
  unfold lay; simp only [List.length_append, List.length_take, List.length_drop]; omega
theorem lay_take {C news : List Value} {o : Nat} (h : o ≤ C.length) : (lay C o news).take (o + news.length) = C.take o ++ news := by
  unfold lay
  have hl : (C.take o ++ news).length = o + news.length := by rw [List.length_append, List.length_take]; omega
  rw [← hl]; exact List.take_left
theorem lay_low {C news : List Value} {o k : Nat} (h : o ≤ C.length) (hk : k ≤ o) : (lay C o news).take k = C.take k := by
  unfold lay
  rw [List.append_assoc, List.take_append_of_le_length (by rw [List.length_take]; omega), List.take_take, Nat.min_eq_left hk]
theorem lay_high {C news : List Value} {o : Nat} (h : o + news.length ≤ C.length) : (lay C o news).drop (o + news.length) = C.drop (o + news.length) := by
  unfold lay
  have hl : (C.take o ++ news).length = o + news.length := by rw [List.length_append, List.length_take]; omega
  rw [List.drop_append_of_le_length (by omega), List.drop_of_length_le (by omega), List.nil_append]
/-- Block g holds the cells C, all of them; nothing else has turned since w0. -/
structure Row (e : TypeId) (w0 : World) (g : Nat) (C : List Value) (w : World) : Prop where
  blk : w.heap[g]? = some (.cells C.toArray e (0, 0))
  os : w.os = w0.os
  tape : w.tape = w0.tape
  output : w.output = w0.output
  size : w0.heap.size ≤ w.heap.size
  rest : ∀ k, k < w0.heap.size → k ≠ g → w.heap[k]? = w0.heap[k]?
theorem Row.start {e : TypeId} {w : World} {g : Nat} {cur : Array Value} (h : w.heap[g]? = some (.cells cur e (0, 0))) : Row e w g cur.toList w :=
  ⟨by simpa using h, rfl, rfl, rfl, Nat.le_refl _, fun _ _ _ => rfl⟩
theorem Row.drew {e : TypeId} {w0 w : World} {g : Nat} {C : List Value} (h : Row e w0 g C w) : Row e w0 g C w.drew := ⟨h.blk, h.os, h.tape, h.output, h.size, h.rest⟩
theorem Row.drewN {e : TypeId} {w0 w : World} {g : Nat} {C : List Value} (h : Row e w0 g C w) (n : Nat) : Row e w0 g C (w.drewN n) := by
  cases n with
  | zero => exact h
  | succ n => exact ⟨h.blk, h.os, h.tape, h.output, h.size, h.rest⟩
theorem Row.put {e : TypeId} {w0 w : World} {g : Nat} {C : List Value} (h : Row e w0 g C w) (C' : List Value) : Row e w0 g C' (w.setRow g C'.toArray) :=
  ⟨setRow_heap w g _ _ e _ h.blk, h.os, h.tape, h.output, by have := h.size; simp [World.setRow]; exact this, fun k hk hne => (setRow_other w g k _ hne).trans (h.rest k hk hne)⟩
theorem Row.cell {e : TypeId} {w0 w : World} {g : Nat} {C : List Value} (h : Row e w0 g C w) (j : Nat) : w.cell? ⟨g, j, none⟩ = C[j]? := by
  simp [World.cell?, h.blk]
section
variable {P : Program}
theorem addr_at (g o j : Nat) : (⟨g, o, none⟩ : Addr).add j = ⟨g, o + j, none⟩ := addr_add g o j
/-- The cells of a row from o on, as a slice's first cells. -/
theorem news_at {e : TypeId} {w0 w : World} {g : Nat} {C : List Value} (h : Row e w0 g C w) (o k : Nat) : ∀ j u, ((C.drop o).take k)[j]? = some u → w.cell? ((⟨g, o, none⟩ : Addr).add j) = some u := by
  intro j u hu
  rw [addr_at, h.cell]
  rw [List.getElem?_take] at hu
  split at hu
  · rwa [List.getElem?_drop] at hu
  · cases hu
/-- append(s[:i], s[j:]...), room there. -/
theorem app_room {t ty e : TypeId} {i0 : TypeInfo} {w0 w : World} {g : Nat} {C : List Value} (ht : P.underlying t = some (.slice e)) (hi : P.info? e = some i0) {s : Nat} (hs : i0.size = s)
    (h : Row e w0 g C w) (n cap : Nat) (a : Addr) (m c : Nat) (news : List Value) (hl : news.length = m * s) (hnews : ∀ j u, news[j]? = some u → w.cell? (a.add j) = some u) (h1 : ∀ u ∈ news, u.oneCell' = true)
    (hroom : n + m ≤ cap) (hfit : n * s + news.length ≤ C.length) :
    ∃ w1, (Builtin.append_ #[t, t] ty #[.slice (some ⟨g, 0, none⟩) n cap, .slice (some a) m c]).run P w = .ok (.slice (some ⟨g, 0, none⟩) (n + m) cap) w1 ∧ Row e w0 g (lay C (n * s) news) w1 := by
  subst hs
  have hr := run_append_room (P := P) (ty := ty) w t e i0 ht hi g n cap C.toArray h.blk a m c news hl hnews h1 hroom (by simpa using hfit)
  exact ⟨_, hr, h.put _⟩
/-- copy into a row. -/
theorem copy_row {t t' ty e : TypeId} {i0 : TypeInfo} {w0 w : World} {g : Nat} {C : List Value} (ht : P.underlying t = some (.slice e)) (hi : P.info? e = some i0) {s : Nat} (hs : i0.size = s)
    (h : Row e w0 g C w) (o dl dc : Nat) (a : Addr) (m c : Nat) (k : Nat) (hk : k = min m dl) (news : List Value) (hl : news.length = k * s) (hnews : ∀ j u, news[j]? = some u → w.cell? (a.add j) = some u) (h1 : ∀ u ∈ news, u.oneCell' = true)
    (hfit : o + news.length ≤ C.length) :
    ∃ w1, (Builtin.copy_ #[t, t'] ty #[.slice (some ⟨g, o, none⟩) dl dc, .slice (some a) m c]).run P w = .ok (goInt k) w1 ∧ Row e w0 g (lay C o news) w1 := by
  subst hs
  have hf := run_firstCells_some (P := P) w i0.size k a m c news hl hnews
  have hst := run_storeCells_at P g o e news 0 C.toArray w h.blk (by simpa using hfit) h1
  simp only [Nat.add_zero] at hst
  have hk' : Nat.min m dl = k := hk.symm
  refine ⟨_, ?_, h.put (lay C o news)⟩
  simp [Builtin.copy_, run_underlying ht, sizeOf, typeInfo, hi, Builtin.lenOf, hk', hf, hst, lay]
/-- clear a part of a row. -/
theorem clear_row {t ty e : TypeId} {w0 w : World} {g : Nat} {C : List Value} {z : Value} (ht : P.underlying t = some (.slice e)) (hz : ∀ w, (zeroValue e).run P w = .ok z w) (hz1 : ∀ u ∈ (Builtin.zeroCells z.cells 1).toList, u.oneCell' = true)
    (h : Row e w0 g C w) (o n c : Nat) (hn : 0 < n) (hz2 : ∀ u ∈ (Builtin.zeroCells z.cells n).toList, u.oneCell' = true) (hfit : o + n * z.cells.size ≤ C.length) :
    ∃ w1, (Builtin.clear_ #[t] ty #[.slice (some ⟨g, o, none⟩) n c]).run P w = .ok (.tuple #[]) w1 ∧ Row e w0 g (lay C o (Builtin.zeroCells z.cells n).toList) w1 := by
  have hsz : (Builtin.zeroCells z.cells n).toList.length = n * z.cells.size := by simp [Builtin.zeroCells]
  have hst := run_storeCells_at P g o e (Builtin.zeroCells z.cells n).toList 0 C.toArray w h.blk (by rw [hsz]; simpa using hfit) hz2
  simp only [Nat.add_zero] at hst
  obtain ⟨k, rfl⟩ : ∃ k, n = k + 1 := ⟨n - 1, by omega⟩
  refine ⟨_, ?_, h.put (lay C o (Builtin.zeroCells z.cells (k + 1)).toList)⟩
  simp [Builtin.clear_, run_underlying ht, hz, hst, lay]
end
theorem Row.lt {e : TypeId} {w0 w : World} {g : Nat} {C : List Value} (h : Row e w0 g C w) : g < w.heap.size := (Array.getElem?_eq_some_iff.1 h.blk).1
/-- What is shifted up, and the new cells before it. -/
theorem shift_take {C X news : List Value} {o p q : Nat} (ho : o ≤ C.length) (hp : p = o + X.length) (hp2 : p ≤ C.length) (hq : q = p + news.length) : (lay (lay C p news) o X).take q = C.take o ++ X ++ news := by
  have h1 : (lay C p news).take q = C.take p ++ news := by rw [hq]; exact lay_take hp2
  have hq2 : q = (C.take o ++ X ++ news).length := by
    simp only [List.length_append, List.length_take]; omega
  have e1 : (lay C p news).take o = C.take o := lay_low hp2 (by omega)
  have e2 : (lay C p news).drop p = news ++ C.drop (p + news.length) := by
    unfold lay
    rw [List.append_assoc, List.drop_append_of_le_length (by rw [List.length_take]; omega), List.drop_of_length_le (by rw [List.length_take]; omega), List.nil_append]
  have e3 : lay (lay C p news) o X = (C.take o ++ X ++ news) ++ C.drop (p + news.length) := by
    conv => lhs; unfold lay
    rw [show (C.take p ++ news ++ C.drop (p + news.length)) = lay C p news from rfl, e1, ← hp, e2]
    simp only [List.append_assoc]
  rw [e3, hq2]
  exact List.take_left
/-- New cells, and what stood behind them. -/
theorem fill_take {C X news : List Value} {o p q : Nat} (ho : o ≤ C.length) (hp : p = o + X.length) (hp2 : o + X.length ≤ C.length) (hq : q = p + news.length) : (lay (lay C o X) p news).take q = C.take o ++ X ++ news := by
  rw [hq, lay_take (by rw [lay_len hp2]; omega), hp, lay_take ho]
theorem Row.grown {e : TypeId} {w0 w : World} {g : Nat} {C : List Value} (h : Row e w0 g C w) : w0.grownBy w (some g) :=
  ⟨h.os, h.tape, h.output, h.size, fun k hk hne => h.rest k hk (fun e => hne (by rw [e]))⟩
section
variable {P : Program} {ops : Array Oper} {rest : List Oper} {o : Oper} {a : Act} {w : World} {K : Act → World → Prop} {Q : Exit → Act → World → Prop} {E : Prop}
/-- An append of which the run is known: at a step of a drawn region; in a list. -/
theorem step_append (hgd : o.guard = none) (s x : Operand) (t u ty : TypeId) (ho : o.op = .call { callee := .builtin .append, args := #[s, x], argTypes := #[t, u] }) (hty : o.type = ty) {v y v' : Value} {w' : World} (hs : a.eval s = v) (hx : a.eval x = y)
    (hr : (Builtin.append_ #[t, u] ty #[v, y]).run P w = .ok v' w') (h : K (a.put o.dst v') w') : if Region.wanted o (yielded ops a.tmps) = true then Oper.wp P o a w K Q else E := by
  have hw : Region.wanted o (yielded ops a.tmps) = true := by simp [Region.wanted, hgd]
  subst hty
  rw [if_pos hw]
  unfold Oper.wp execOp
  simp only [ho, resolve, invoke, builtin, Sem.run_bind, Sem.run_pure, Result.andThen_ok, List.map_toArray, List.map_cons, List.map_nil, hs, hx, hr]
  exact h
theorem list_append (hgd : o.guard = none) (s x : Operand) (t u ty : TypeId) (ho : o.op = .call { callee := .builtin .append, args := #[s, x], argTypes := #[t, u] }) (hty : o.type = ty) {v y v' : Value} {w' : World} (hs : a.eval s = v) (hx : a.eval x = y)
    (hr : (Builtin.append_ #[t, u] ty #[v, y]).run P w = .ok v' w') (h : wpList P ops Q rest (a.put o.dst v') w') : wpList P ops Q (o :: rest) a w := by
  refine wpList_plain hgd fun K hK => ?_
  subst hty
  unfold Oper.wp execOp
  simp only [ho, resolve, invoke, builtin, Sem.run_bind, Sem.run_pure, Result.andThen_ok, List.map_toArray, List.map_cons, List.map_nil, hs, hx, hr]
  exact hK _ _ h
theorem step_copy (hgd : o.guard = none) (s x : Operand) (t u ty : TypeId) (ho : o.op = .call { callee := .builtin .copy, args := #[s, x], argTypes := #[t, u] }) (hty : o.type = ty) {v y v' : Value} {w' : World} (hs : a.eval s = v) (hx : a.eval x = y)
    (hr : (Builtin.copy_ #[t, u] ty #[v, y]).run P w = .ok v' w') (h : K (a.put o.dst v') w') : if Region.wanted o (yielded ops a.tmps) = true then Oper.wp P o a w K Q else E := by
  have hw : Region.wanted o (yielded ops a.tmps) = true := by simp [Region.wanted, hgd]
  subst hty
  rw [if_pos hw]
  unfold Oper.wp execOp
  simp only [ho, resolve, invoke, builtin, Sem.run_bind, Sem.run_pure, Result.andThen_ok, List.map_toArray, List.map_cons, List.map_nil, hs, hx, hr]
  exact h
theorem list_copy (hgd : o.guard = none) (s x : Operand) (t u ty : TypeId) (ho : o.op = .call { callee := .builtin .copy, args := #[s, x], argTypes := #[t, u] }) (hty : o.type = ty) {v y v' : Value} {w' : World} (hs : a.eval s = v) (hx : a.eval x = y)
    (hr : (Builtin.copy_ #[t, u] ty #[v, y]).run P w = .ok v' w') (h : wpList P ops Q rest (a.put o.dst v') w') : wpList P ops Q (o :: rest) a w := by
  refine wpList_plain hgd fun K hK => ?_
  subst hty
  unfold Oper.wp execOp
  simp only [ho, resolve, invoke, builtin, Sem.run_bind, Sem.run_pure, Result.andThen_ok, List.map_toArray, List.map_cons, List.map_nil, hs, hx, hr]
  exact hK _ _ h
theorem list_clear (hgd : o.guard = none) (s : Operand) (t ty : TypeId) (ho : o.op = .call { callee := .builtin .clear, args := #[s], argTypes := #[t] }) (hty : o.type = ty) {v v' : Value} {w' : World} (hs : a.eval s = v)
    (hr : (Builtin.clear_ #[t] ty #[v]).run P w = .ok v' w') (h : wpList P ops Q rest (a.put o.dst v') w') : wpList P ops Q (o :: rest) a w := by
  refine wpList_plain hgd fun K hK => ?_
  subst hty
  unfold Oper.wp execOp
  simp only [ho, resolve, invoke, builtin, Sem.run_bind, Sem.run_pure, Result.andThen_ok, List.map_toArray, List.map_cons, List.map_nil, hs, hr]
  exact hK _ _ h
/-- 's[j:]', whatever the capacity. -/
theorem slice_from {P : Program} {t e : TypeId} {i0 : TypeInfo} (ht : P.underlying t = some (.slice e)) (hi : P.info? e = some i0) {s : Nat} (hs : i0.size = s) (g o n cap j : Nat) (hj : j ≤ n) (hn : n ≤ cap) (w : World) :
    (Instr.slice t (.slice (some ⟨g, o, none⟩) n cap) (some (.int .i64 j)) none none).run P w = .ok (.slice (some (if cap = j then (⟨g, o, none⟩ : Addr) else ⟨g, o + j * s, none⟩)) (n - j) (cap - j)) w := by
  subst hs
  have h1 : (j : Int) ≤ n := by omega
  by_cases hc : cap = j
  · simp [Instr.slice, run_underlying ht, Instr.sliceBounds, Instr.sliceBound, asIntOf, sizeOf, typeInfo, hi, hc]
    intro h9; omega
  · simp [Instr.slice, run_underlying ht, Instr.sliceBounds, Instr.sliceBound, asIntOf, sizeOf, typeInfo, hi, hc, addr_add]
    intro h9; omega
end
section
variable {α : Type} {e : TypeId} {s : Nat} {f : α → List Value} {base : Nat} {w : World} {L : List α}
/-- What is owned, as a row. -/
theorem own_row {A : Option Addr} {n cap : Nat} (hf : ∀ x, (f x).length = s) (h : Own e s f base w (.slice A n cap) L) (hn : 0 < n) :
    ∃ g C, A = some ⟨g, 0, none⟩ ∧ base ≤ g ∧ Row e w g C w ∧ C.length = cap * s ∧ C.take (n * s) = L.flatMap f ∧ n = L.length ∧ n ≤ cap ∧ cap ≤ maxLen := by
  rcases h.2 with ⟨he, h0⟩ | ⟨g, cp, cur, he, hb, hh, hc, hm, hs, ht⟩
  · injection he with e1 e2 e3; omega
  · injection he with e1 e2 e3
    subst e1 e2 e3
    exact ⟨g, cur.toList, rfl, hb, Row.start hh, by simpa using hs, ht, rfl, hc, hm⟩
theorem row_own {w0 w1 : World} {g cap k : Nat} {C : List Value} {M : List α} (hf : ∀ x, (f x).length = s) (hr : Row e w0 g C w1) (hb : base ≤ g) (hl : C.length = cap * s) (hk : k = M.length) (hc : k ≤ cap) (hm : cap ≤ maxLen) (ht : C.take (k * s) = M.flatMap f) :
    Own e s f base w1 (.slice (some ⟨g, 0, none⟩) k cap) M := by
  subst hk
  exact ⟨flat_len hf M, .inr ⟨g, cap, C.toArray, rfl, hb, hr.blk, hc, hm, by simpa using hl, by simpa using ht⟩⟩
theorem flat_take (hf : ∀ x, (f x).length = s) (L : List α) (i : Nat) (hi : i ≤ L.length) : (L.take i).flatMap f = (L.flatMap f).take (i * s) := by
  have h1 : L.flatMap f = (L.take i).flatMap f ++ (L.drop i).flatMap f := by rw [← List.flatMap_append, List.take_append_drop]
  have h2 : ((L.take i).flatMap f).length = i * s := by rw [flat_len hf, List.length_take, Nat.min_eq_left hi]
  rw [h1, ← h2, List.take_left']
  rfl
theorem flat_drop (hf : ∀ x, (f x).length = s) (L : List α) (i : Nat) (hi : i ≤ L.length) : (L.drop i).flatMap f = (L.flatMap f).drop (i * s) := by
  have h1 : L.flatMap f = (L.take i).flatMap f ++ (L.drop i).flatMap f := by rw [← List.flatMap_append, List.take_append_drop]
  have h2 : ((L.take i).flatMap f).length = i * s := by rw [flat_len hf, List.length_take, Nat.min_eq_left hi]
  rw [h1, ← h2, List.drop_left']
  rfl
/-- What a function leaves that turns a slice of the call's own. -/
def Got (e : TypeId) (s : Nat) (f : α → List Value) (base : Nat) (v : Value) (M : List α) (w : World) (r : Ending) (w' : World) : Prop :=
  ∃ v', r = .returned v' ∧ Own e s f base w' v' M ∧ w.grownBy w' v.ownBlock ∧ (v'.ownBlock = v.ownBlock ∨ ∃ g, v'.ownBlock = some g ∧ w.heap.size ≤ g)
theorem Got.mk {v v' : Value} {M : List α} {w' : World} (h : Own e s f base w' v' M) (hg : w.grownBy w' v.ownBlock) (hb : v'.ownBlock = v.ownBlock ∨ ∃ g, v'.ownBlock = some g ∧ w.heap.size ≤ g) : Got e s f base v M w (.returned v') w' := ⟨v', rfl, h, hg, hb⟩
/-- From w to w' only the block of the slice v was written; v' lies there or in a new block. -/
structure Kp (w : World) (v : Value) (w' : World) (v' : Value) : Prop where
  os : w'.os = w.os
  tape : w'.tape = w.tape
  output : w'.output = w.output
  size : w.heap.size ≤ w'.heap.size
  rest : ∀ b, b < w.heap.size → some b ≠ v.ownBlock → w'.heap[b]? = w.heap[b]?
  moved : ∀ g, v'.ownBlock = some g → v.ownBlock = some g ∨ w.heap.size ≤ g
theorem Kp.held {w w' : World} (v : Value) (h : Held w w') : Kp w v w' v := ⟨h.os, h.tape, h.output, h.size, fun b hb _ => h.block b hb, fun g hg => .inl hg⟩
theorem Kp.trans {a b c : World} {u v x : Value} (h : Kp a u b v) (k : Kp b v c x) : Kp a u c x := by
  refine ⟨k.os.trans h.os, k.tape.trans h.tape, k.output.trans h.output, Nat.le_trans h.size k.size, fun q hq hne => ?_, fun g hg => ?_⟩
  · rw [k.rest q (Nat.lt_of_lt_of_le hq h.size) (fun e => ?_), h.rest q hq hne]
    rcases h.moved q e.symm with h1 | h1
    · exact hne h1.symm
    · omega
  · rcases k.moved g hg with h1 | h1
    · exact h.moved g h1
    · exact .inr (Nat.le_trans h.size h1)
theorem Kp.grown {w w' : World} {v v' : Value} (hg : w.grownBy w' v.ownBlock) (hb : v'.ownBlock = v.ownBlock ∨ ∃ g, v'.ownBlock = some g ∧ w.heap.size ≤ g) : Kp w v w' v' := by
  refine ⟨hg.os, hg.tape, hg.output, hg.size, fun b hb hne => hg.block b hb hne, fun g hg' => ?_⟩
  rcases hb with h1 | ⟨g2, h1, h2⟩
  · exact .inl (h1 ▸ hg')
  · rw [h1] at hg'; injection hg' with hg'; exact .inr (hg' ▸ h2)
/-- What a function leaves that makes a slice. -/
def New (e : TypeId) (s : Nat) (f : α → List Value) (M : List α) (w : World) (r : Ending) (w' : World) : Prop := ∃ v', r = .returned v' ∧ Own e s f w.heap.size w' v' M ∧ Held w w'
theorem New.mk {v' : Value} {M : List α} {w' : World} (h : Own e s f w.heap.size w' v' M) (hg : Held w w') : New e s f M w (.returned v') w' := ⟨v', rfl, h, hg⟩
theorem sl_news (hf : ∀ x, (f x).length = s) (hs : 0 < s) {ad : Addr} {n : Nat} (h : Sl s f w (some ad) n L) : ∀ j u, (L.flatMap f)[j]? = some u → w.cell? (ad.add j) = some u := by
  intro j u hu
  rcases h.2 with h0 | ⟨b, off, e1, _⟩
  · have : L = [] := List.eq_nil_of_length_eq_zero (by rw [h.1, h0])
    subst this
    cases hu
  · injection e1 with e1
    subst e1
    exact h.flat hf hs j u hu
end
end Go.Proofs.YthpjbffhdaaibaaGreat.Sg

set_option linter.unusedVariables false
namespace Go.Proofs.YthpjbffhdaaibaaGreat
open Go.RowKit
namespace Mem
variable {W w w' : World} {H : List Ck}
theorem permut {H' : List Ck} (h : Mem W w H) (p : H.Perm H') : Mem W w H' :=
  ⟨h.held, fun c hc => h.ok c (p.mem_iff.2 hc), (p.pairwise_iff (fun {x y} hxy b hb hb' => hxy b hb' hb)).1 h.sep⟩
theorem toFront {c : Ck} (h : Mem W w (H ++ [c])) : Mem W w (c :: H) := h.permut (List.perm_append_comm (l₁ := H) (l₂ := [c]))
theorem rest {c : Ck} (h : Mem W w (c :: H)) : Mem W w H := h.sub (List.sublist_cons_self c H)
/-- A new box, in front. -/
theorem allocF (h : Mem W w H) {b : Nat} (hb : w.heap.size = b) (cs : Array Value) (t : TypeId) : Mem W (w.alloc (.cells cs t)) (.box b cs t :: H) := (h.alloc' hb cs t).toFront
/-- A row that a call has handed back, in front. -/
theorem ownF {α : Type} {e : TypeId} {s : Nat} {f : α → List Value} (h : Mem W w H) (k : Held w w') {v : Value} {L : List α} (o : Own e s f w.heap.size w' v L) : Mem W w' (.row e s f W.heap.size v L :: H) := (h.own k o).toFront
/-- What Delete, Insert leave of a row. -/
theorem gotten {α : Type} {e : TypeId} {s : Nat} {f : α → List Value} {base : Nat} (h : Mem W w H) (i : Nat) {v : Value} {L M : List α} {r : Ending} (hi : H[i]? = some (.row e s f base v L)) (g : Sg.Got e s f base v M w r w') :
    ∃ A cap, r = .returned (.slice A M.length cap) ∧ M.length ≤ cap ∧ Mem W w' (H.set i (.row e s f base (.slice A M.length cap) M)) := by
  obtain ⟨v', rfl, ho, hg, hb⟩ := g
  obtain ⟨A, cap, rfl, hc, _⟩ := ho.shape
  refine ⟨A, cap, rfl, hc, h.app i hi hg ho fun b hb' => ?_⟩
  rcases hb with hb | ⟨g, h1, h2⟩
  · exact .inl (by rw [← hb]; exact hb')
  · rw [h1] at hb'; injection hb' with hb'; subst hb'; exact .inr h2
end Mem
theorem own_nil {α : Type} {e : TypeId} {s : Nat} {f : α → List Value} {base : Nat} {w : World} {n cap : Nat} {L : List α} (h : Own e s f base w (.slice none n cap) L) : n = 0 := by
  rcases h.2 with ⟨he, h0⟩ | ⟨g, cp, cur, he, _⟩
  · injection he
  · injection he with e1; cases e1
end Go.Proofs.YthpjbffhdaaibaaGreat

set_option linter.unusedVariables false
set_option linter.unusedSimpArgs false
set_option maxRecDepth 100000
namespace Go.Proofs.YthpjbffhdaaibaaGreat
open Go.RowKit
namespace Bx
theorem cell {w : World} {q : Nat} {cs : Array Value} {t : TypeId} (h : w.heap[q]? = some (.cells cs t (0, 0))) (j : Nat) {v : Value} (hv : cs[j]? = some v) : w.cell? ⟨q, j, none⟩ = some v := by simp [World.cell?, h, hv]
theorem free {w : World} {q : Nat} {cs : Array Value} {t : TypeId} (h : w.heap[q]? = some (.cells cs t (0, 0))) (j : Nat) : w.frozen? ⟨q, j, none⟩ = false := by simp [World.frozen?, h]
theorem set {w : World} {q : Nat} {cs : Array Value} {t : TypeId} (h : w.heap[q]? = some (.cells cs t (0, 0))) (j : Nat) (v : Value) : (w.setCell ⟨q, j, none⟩ v).heap[q]? = some (.cells (cs.setIfInBounds j v) t (0, 0)) := by
  simp only [World.setCell]
  rw [Array.getElem?_modify, if_pos rfl, h]; rfl
theorem far {w : World} {q c j : Nat} {v : Value} (hc : q ≠ c) : (w.setCell ⟨c, j, none⟩ v).heap[q]? = w.heap[q]? := by
  simp only [World.setCell]
  rw [Array.getElem?_modify, if_neg (fun e => hc e.symm)]
theorem new (w : World) (o : Obj) : (w.alloc o).heap[w.heap.size]? = some o := heap_alloc_new w o
theorem lt {w : World} {q : Nat} {o : Obj} (h : w.heap[q]? = some o) : q < w.heap.size := (Array.getElem?_eq_some_iff.1 h).1
theorem held {w a : World} {q : Nat} {o : Obj} (h : w.heap[q]? = some o) (k : Held w a) : a.heap[q]? = some o := (k.block q (lt h)).trans h
theorem res_c {fn : Func} {tmps : Array Value} {w : World} {a b : Nat} {t : TypeId} {v : Value} (hr : fn.results = #[.cell a t]) (ha : tmps.getD a undef = .pointer (some ⟨b, 0, none⟩)) (hl : (loadVar t ⟨b, 0, none⟩).run Tryz.prog w = .ok v w) : (results fn tmps).run Tryz.prog w = .ok v w := by
  unfold results
  rw [hr]
  simp only [List.mapM_toArray, List.mapM_cons, List.mapM_nil, ha, asAddr, pure_bind, Sem.run_bind, Sem.run_map, hl, Result.andThen_ok, Sem.run_pure, map_pure]
  rfl
theorem res_ct {fn : Func} {tmps : Array Value} {w : World} {a b k : Nat} {t : TypeId} {v : Value} (hr : fn.results = #[.cell a t, .tmp k]) (ha : tmps.getD a undef = .pointer (some ⟨b, 0, none⟩)) (hl : (loadVar t ⟨b, 0, none⟩).run Tryz.prog w = .ok v w) : (results fn tmps).run Tryz.prog w = .ok (.tuple #[v, tmps.getD k undef]) w := by
  unfold results
  rw [hr]
  simp only [List.mapM_toArray, List.mapM_cons, List.mapM_nil, ha, asAddr, pure_bind, Sem.run_bind, Sem.run_map, hl, Result.andThen_ok, Sem.run_pure, map_pure]
  rfl
theorem held3 {W w : World} {b : Nat} (h : Held W w) (hb : W.heap.size ≤ b) (x y z : Value) : Held W (((w.setCell ⟨b, 0, none⟩ x).setCell ⟨b, 1, none⟩ y).setCell ⟨b, 2, none⟩ z) := ((h.set hb _).set hb _).set hb _
theorem res_ctt {fn : Func} {tmps : Array Value} {w : World} {a b k l : Nat} {t : TypeId} {v : Value} (hr : fn.results = #[.cell a t, .tmp k, .tmp l]) (ha : tmps.getD a undef = .pointer (some ⟨b, 0, none⟩)) (hl : (loadVar t ⟨b, 0, none⟩).run Tryz.prog w = .ok v w) : (results fn tmps).run Tryz.prog w = .ok (.tuple #[v, tmps.getD k undef, tmps.getD l undef]) w := by
  unfold results
  rw [hr]
  simp only [List.mapM_toArray, List.mapM_cons, List.mapM_nil, ha, asAddr, pure_bind, Sem.run_bind, Sem.run_map, hl, Result.andThen_ok, Sem.run_pure, map_pure]
  rfl
end Bx
end Go.Proofs.YthpjbffhdaaibaaGreat

set_option linter.unusedVariables false
set_option linter.unusedSimpArgs false
set_option maxRecDepth 100000
namespace Go.Proofs.YthpjbffhdaaibaaGreat
open Go.RowKit Go.Lib
/-- What an append, a store leaves: what block may have changed, of what type it was. -/
def Chg (T : TypeId) (B : Nat) (w w' : World) (g : Option Nat) : Prop := w.grownBy w' g ∧ ∀ c, g = some c → B ≤ c ∧ ∃ cs T' z, w.heap[c]? = some (.cells cs T' z) ∧ T' ≠ T
theorem Own.blk {α : Type} {e : TypeId} {s : Nat} {f : α → List Value} {base : Nat} {w : World} {v : Value} {L : List α} (h : Own e s f base w v L) {g : Nat} (hg : v.ownBlock = some g) : base ≤ g ∧ ∃ cs, w.heap[g]? = some (.cells cs e (0, 0)) := by
  rcases h.2 with ⟨rfl, h0⟩ | ⟨g', cp, cur, rfl, q1, q2, _⟩
  · simp [Value.ownBlock] at hg
  · simp only [Value.ownBlock] at hg
    injection hg with hg
    subst hg
    exact ⟨q1, _, q2⟩
theorem Chg.own {α : Type} {T e : TypeId} {s : Nat} {f : α → List Value} {base B : Nat} {w w' : World} {v : Value} {L : List α} (h : Own e s f base w v L) (hT : e ≠ T) (hB : B ≤ base) (hg : w.grownBy w' v.ownBlock) : Chg T B w w' v.ownBlock :=
  ⟨hg, fun c hc => ⟨Nat.le_trans hB (h.blk hc).1, let ⟨cs, q⟩ := (h.blk hc).2; ⟨cs, e, (0, 0), q, hT⟩⟩⟩
theorem Chg.put {T T' : TypeId} {B c : Nat} {w : World} {cs : Array Value} {z : Nat × Nat} (h : w.heap[c]? = some (.cells cs T' z)) (hT : T' ≠ T) (hB : B ≤ c) (j : Nat) (v : Value) : Chg T B w (w.setCell ⟨c, j, none⟩ v) (some c) :=
  ⟨Lgc.grown_set _ _ _ _, fun c' hc => by injection hc with hc; subst hc; exact ⟨hB, cs, T', z, h, hT⟩⟩
/-- What a slice reads lies in a block older than B, or in one of type T. -/
def Ty (T : TypeId) (B : Nat) (w : World) (A : Option Addr) (n : Nat) : Prop := n = 0 ∨ ∀ a, A = some a → a.block < B ∨ ∃ cs z, w.heap[a.block]? = some (.cells cs T z)
theorem Ty.held {T : TypeId} {B : Nat} {w w' : World} {A : Option Addr} {n : Nat} (h : Ty T B w A n) (k : Held w w') : Ty T B w' A n :=
  h.imp id fun h a ha => (h a ha).imp id fun ⟨cs, z, q⟩ => ⟨cs, z, (k.block _ (Array.getElem?_eq_some_iff.1 q).1).trans q⟩
theorem Ty.own {α : Type} {T : TypeId} {s : Nat} {f : α → List Value} {base B : Nat} {w : World} {A : Option Addr} {n cap : Nat} {L : List α} (h : Own T s f base w (.slice A n cap) L) : Ty T B w A n := by
  rcases h.2 with ⟨he, h0⟩ | ⟨g', cp, cur, he, q1, q2, _⟩
  · injection he with _ he; exact .inl he
  · injection he with he
    refine .inr fun a ha => .inr ?_
    rw [he] at ha
    injection ha with ha
    subst ha
    exact ⟨_, _, q2⟩
theorem Ty.old {T : TypeId} {B : Nat} {w : World} {A : Option Addr} {n : Nat} (h : ∀ a, A = some a → a.block < B) : Ty T B w A n := .inr fun a ha => .inl (h a ha)
theorem Ty.chg {T : TypeId} {B : Nat} {w w' : World} {A : Option Addr} {n : Nat} {g : Option Nat} (h : Ty T B w A n) (k : Chg T B w w' g) : Ty T B w' A n := by
  refine h.imp id fun h a ha => (h a ha).imp id ?_
  rintro ⟨cs, z, q⟩
  refine ⟨cs, z, ?_⟩
  rw [k.1.block _ (Array.getElem?_eq_some_iff.1 q).1 ?_]; exact q
  intro e
  obtain ⟨_, cs', T', z', q', hT⟩ := k.2 _ (by first | exact e | exact e.symm)
  rw [q] at q'
  injection q' with q'
  injection q' with _ q' _
  exact hT q'.symm
theorem Sl.chg {α : Type} {s : Nat} {f : α → List Value} {T : TypeId} {B : Nat} {w w' : World} {A : Option Addr} {n : Nat} {L : List α} (h : Sl s f w A n L) (ht : Ty T B w A n) {g : Option Nat} (k : Chg T B w w' g) : Sl s f w' A n L := by
  refine ⟨h.1, ?_⟩
  rcases h.2 with h0 | ⟨b, off, rfl, hb, hc⟩
  · exact .inl h0
  · rcases ht with h0 | ht
    · exact .inl h0
    · refine .inr ⟨b, off, rfl, Nat.lt_of_lt_of_le hb k.1.size, fun i hi j v hv => ?_⟩
      have hne : w'.heap[b]? = w.heap[b]? := by
        refine k.1.block b hb fun e => ?_
        obtain ⟨hB, cs', T', z', q', hT⟩ := k.2 b (by first | exact e | exact e.symm)
        rcases ht _ rfl with h1 | ⟨cs, z, q⟩
        · simp only at h1; omega
        · simp only at q
          rw [q] at q'
          injection q' with q'
          injection q' with _ q' _
          exact hT q'.symm
      have h2 := hc i hi j v hv
      simp only [World.cell?, hne] at h2 ⊢
      exact h2
namespace Mem
variable {W w : World} {H : List Ck} {α : Type} {e : TypeId} {s : Nat} {f : α → List Value}
/-- An append of one element; it tells what grew. -/
theorem wp_appC (h : Mem W w H) (i : Nat) {v : Value} {L : List α} (hi : H[i]? = some (.row e s f W.heap.size v L)) {P : Program} {ops : Array Oper} {rest : List Oper} {o : Oper} {a : Act} {Q : Exit → Act → World → Prop} (hgd : o.guard = none) (sl x : Operand) (t : TypeId)
    (ho : o.op = .call { callee := .builtin .append, args := #[sl, x], argTypes := #[t, t] }) (z : Value) (bytes : Nat) (ht : P.underlying t = some (.slice e)) (hinfo : (P.info? e).map (fun i => (i.zero, i.size, i.bytes)) = some (some z, s, bytes))
    (hzs : z.cells.size = s) (hs0 : 0 < s) (hf : ∀ x, (f x).length = s) (hf1 : ∀ x, ∀ u ∈ f x, u.oneCell' = true) (d : α) (ad : Addr) (c : Nat)
    (hs : a.eval sl = v) (hx : a.eval x = .slice (some ad) 1 c) (hnews : ∀ j u, (f d)[j]? = some u → w.cell? (ad.add j) = some u)
    (n : Nat) (hn : L.length = n) (hb : (n + 1) * bytes ≤ 140737488355328) (hb1 : 1 ≤ bytes)
    (k : ∀ g cap w', Mem W w' (H.set i (.row e s f W.heap.size (.slice (some ⟨g, 0, none⟩) (n + 1) cap) (L ++ [d]))) → (∀ T B, e ≠ T → B ≤ W.heap.size → Chg T B w w' v.ownBlock) → wpList P ops Q rest (a.put o.dst (.slice (some ⟨g, 0, none⟩) (n + 1) cap)) w') :
    wpList P ops Q (o :: rest) a w := by
  subst hn
  refine Own.app w hgd sl x t ho z bytes ht hinfo hzs hs0 hf hf1 W.heap.size v L d ad c hs (h.row i hi) hx hnews hb hb1 h.le ?_
  intro g cap w' h1 h2 h3 h4
  refine k g cap w' (h.app i hi h2 h1 (fun b hb' => ?_)) fun T B hT hB => Chg.own (h.row i hi) hT hB h2
  have hb' : g = b := by simpa [Value.ownBlock] using hb'
  subst hb'
  exact h3.imp id (fun e => by omega)
/-- The same at a step of a region that draws its order. -/
theorem step_appC (h : Mem W w H) (i : Nat) {v : Value} {L : List α} (hi : H[i]? = some (.row e s f W.heap.size v L)) {P : Program} {ops : Array Oper} {o : Oper} {a : Act} {K : Act → World → Prop} {Q : Exit → Act → World → Prop} {E : Prop} (hgd : o.guard = none) (sl x : Operand) (t : TypeId)
    (ho : o.op = .call { callee := .builtin .append, args := #[sl, x], argTypes := #[t, t] }) (z : Value) (bytes : Nat) (ht : P.underlying t = some (.slice e)) (hinfo : (P.info? e).map (fun i => (i.zero, i.size, i.bytes)) = some (some z, s, bytes))
    (hzs : z.cells.size = s) (hs0 : 0 < s) (hf : ∀ x, (f x).length = s) (hf1 : ∀ x, ∀ u ∈ f x, u.oneCell' = true) (d : α) (ad : Addr) (c : Nat)
    (hs : a.eval sl = v) (hx : a.eval x = .slice (some ad) 1 c) (hnews : ∀ j u, (f d)[j]? = some u → w.cell? (ad.add j) = some u)
    (n : Nat) (hn : L.length = n) (hb : (n + 1) * bytes ≤ 140737488355328) (hb1 : 1 ≤ bytes)
    (k : ∀ g cap w', Mem W w' (H.set i (.row e s f W.heap.size (.slice (some ⟨g, 0, none⟩) (n + 1) cap) (L ++ [d]))) → (∀ T B, e ≠ T → B ≤ W.heap.size → Chg T B w w' v.ownBlock) → K (a.put o.dst (.slice (some ⟨g, 0, none⟩) (n + 1) cap)) w') :
    if Region.wanted o (yielded ops a.tmps) = true then Oper.wp P o a w K Q else E := by
  subst hn
  refine Own.step_app w hgd sl x t ho z bytes ht hinfo hzs hs0 hf hf1 W.heap.size v L d ad c hs (h.row i hi) hx hnews hb hb1 h.le ?_
  intro g cap w' h1 _ h2 h3 h4
  refine k g cap w' (h.app i hi h2 h1 (fun b hb' => ?_)) fun T B hT hB => Chg.own (h.row i hi) hT hB h2
  have hb' : g = b := by simpa [Value.ownBlock] using hb'
  subst hb'
  exact h3.imp id (fun e => by omega)
/-- A store into a box. -/
theorem chgPut (h : Mem W w H) (i : Nat) {b : Nat} {cs : Array Value} {t : TypeId} (hi : H[i]? = some (.box b cs t)) (j : Nat) (v : Value) {T : TypeId} {B : Nat} (hT : t ≠ T) (hB : B ≤ W.heap.size) : Chg T B w (w.setCell ⟨b, j, none⟩ v) (some b) :=
  Chg.put (h.blk i hi) hT (Nat.le_trans hB (h.geb i hi)) j v
end Mem
namespace St
open Enc
/-- A segment as it stands in memory: its entries' slice. -/
structure SR where
  f : Nat
  kn : Nat
  A : Option Addr
  n : Nat
  cap : Nat
  es : List Ent
def SR.g (x : SR) : Seg := ⟨x.f, x.kn, x.es⟩
def segC (x : SR) : List Value := [.int .u64 x.f, .int .u64 x.kn, .slice x.A x.n x.cap]
abbrev SR.v (x : SR) : Value := .agg #[.int .u64 x.f, .int .u64 x.kn, .slice x.A x.n x.cap]
theorem segC_len (x : SR) : (segC x).length = 3 := rfl
theorem segC_one (x : SR) : ∀ u ∈ segC x, u.oneCell' = true := by intro u hu; simp [segC] at hu; rcases hu with rfl | rfl | rfl <;> rfl
structure ErR where
  s : Nat
  x : SR
def ErR.e (x : ErR) : Er := ⟨x.s, x.x.g⟩
def erC (x : ErR) : List Value := [.int .u64 x.s, .int .u64 x.x.f, .int .u64 x.x.kn, .slice x.x.A x.x.n x.x.cap]
theorem erC_len (x : ErR) : (erC x).length = 4 := rfl
theorem erC_one (x : ErR) : ∀ u ∈ erC x, u.oneCell' = true := by intro u hu; simp [erC] at hu; rcases hu with rfl | rfl | rfl | rfl <;> rfl
/-- A segment's entries can be read. -/
structure Sg (B : Nat) (w : World) (x : SR) : Prop where
  sl : Sl 4 entC w x.A x.n x.es
  ty : Ty 70 B w x.A x.n
  n : x.n ≤ 100000
  f : x.f < 18446744073709551616
  kn : x.kn < 18446744073709551616
  ok : ∀ e ∈ x.es, EntOK e
theorem Sg.held {B : Nat} {w w' : World} {x : SR} (h : Sg B w x) (k : Held w w') : Sg B w' x := ⟨h.sl.held k, h.ty.held k, h.n, h.f, h.kn, h.ok⟩
theorem Sg.chg {B : Nat} {w w' : World} {x : SR} (h : Sg B w x) {g : Option Nat} (k : Chg 70 B w w' g) : Sg B w' x := ⟨h.sl.chg h.ty k, h.ty.chg k, h.n, h.f, h.kn, h.ok⟩
theorem Sg.none {B : Nat} {w : World} {x : SR} (h : Sg B w x) : x.A = .none → x.n = 0 := fun e => by
  rcases h.sl.2 with h0 | ⟨b, off, e', _⟩
  · exact h0
  · rw [e] at e'; cases e'
theorem Sg.zero (B : Nat) (w : World) : Sg B w ⟨0, 0, .none, 0, 0, []⟩ := ⟨Sl.nil _ _, .inl rfl, Nat.zero_le _, by decide, by decide, fun e h => by simp at h⟩
def Sgs (B : Nat) (w : World) (R : List SR) : Prop := ∀ x ∈ R, Sg B w x
theorem Sgs.held {B : Nat} {w w' : World} {R : List SR} (h : Sgs B w R) (k : Held w w') : Sgs B w' R := fun x hx => (h x hx).held k
theorem Sgs.chg {B : Nat} {w w' : World} {R : List SR} (h : Sgs B w R) {g : Option Nat} (k : Chg 70 B w w' g) : Sgs B w' R := fun x hx => (h x hx).chg k
theorem Sgs.nil (B : Nat) (w : World) : Sgs B w [] := fun x h => by simp at h
theorem Sgs.snoc {B : Nat} {w : World} {R : List SR} (h : Sgs B w R) {x : SR} (hx : Sg B w x) : Sgs B w (R ++ [x]) := fun y hy => by
  rcases List.mem_append.1 hy with hy | hy
  · exact h y hy
  · rw [List.mem_singleton] at hy; subst hy; exact hx
theorem Sgs.cat {B : Nat} {w : World} {R R' : List SR} (h : Sgs B w R) (h' : Sgs B w R') : Sgs B w (R ++ R') := fun y hy => (List.mem_append.1 hy).elim (h y) (h' y)
theorem Sgs.drop {B : Nat} {w : World} {R : List SR} (h : Sgs B w R) (k : Nat) : Sgs B w (R.drop k) := fun y hy => h y (List.mem_of_mem_drop hy)
theorem Sgs.take {B : Nat} {w : World} {R : List SR} (h : Sgs B w R) (k : Nat) : Sgs B w (R.take k) := fun y hy => h y (List.mem_of_mem_take hy)
theorem Sgs.at_ {B : Nat} {w : World} {R : List SR} (h : Sgs B w R) {k : Nat} {x : SR} (hx : R[k]? = some x) : Sg B w x := h x (List.mem_of_getElem? hx)
def gs (R : List SR) : List Seg := R.map SR.g
def Ers (B : Nat) (w : World) (R : List ErR) : Prop := ∀ x ∈ R, Sg B w x.x ∧ x.s < 18446744073709551616
theorem Ers.held {B : Nat} {w w' : World} {R : List ErR} (h : Ers B w R) (k : Held w w') : Ers B w' R := fun x hx => ⟨(h x hx).1.held k, (h x hx).2⟩
theorem Ers.chg {B : Nat} {w w' : World} {R : List ErR} (h : Ers B w R) {g : Option Nat} (k : Chg 70 B w w' g) : Ers B w' R := fun x hx => ⟨(h x hx).1.chg k, (h x hx).2⟩
theorem Ers.nil (B : Nat) (w : World) : Ers B w [] := fun x h => by simp at h
theorem Ers.snoc {B : Nat} {w : World} {R : List ErR} (h : Ers B w R) {x : ErR} (hx : Sg B w x.x ∧ x.s < 18446744073709551616) : Ers B w (R ++ [x]) := fun y hy => by
  rcases List.mem_append.1 hy with hy | hy
  · exact h y hy
  · rw [List.mem_singleton] at hy; subst hy; exact hx
theorem Ers.at_ {B : Nat} {w : World} {R : List ErR} (h : Ers B w R) {k : Nat} {x : ErR} (hx : R[k]? = some x) : Sg B w x.x ∧ x.s < 18446744073709551616 := h x (List.mem_of_getElem? hx)
def ers (R : List ErR) : List Er := R.map ErR.e
/-- Elements in memory. -/
theorem segAt {w a : World} {A : Option Addr} {n : Nat} {L : List SR} (h : Sl 3 segC w A n L) (ha : Held w a) {k : Nat} (hk : k < n) :
    ∃ b off f kn A' n' c' es, A = some ⟨b, off, none⟩ ∧ b < w.heap.size ∧ L[k]? = some ⟨f, kn, A', n', c', es⟩ ∧ a.cell? ⟨b, off + k * 3, none⟩ = some (.int .u64 f) ∧ a.cell? ⟨b, off + k * 3 + 1, none⟩ = some (.int .u64 kn) ∧ a.cell? ⟨b, off + k * 3 + 2, none⟩ = some (.slice A' n' c') := by
  obtain ⟨b, off, x, e, hb, hx, hc⟩ := Sl.at_ h ha hk
  exact ⟨b, off, x.f, x.kn, x.A, x.n, x.cap, x.es, e, hb, hx, hc 0 _ rfl, hc 1 _ rfl, hc 2 _ rfl⟩
theorem erAt {w a : World} {A : Option Addr} {n : Nat} {L : List ErR} (h : Sl 4 erC w A n L) (ha : Held w a) {k : Nat} (hk : k < n) :
    ∃ b off s f kn A' n' c' es, A = some ⟨b, off, none⟩ ∧ b < w.heap.size ∧ L[k]? = some ⟨s, f, kn, A', n', c', es⟩ ∧ a.cell? ⟨b, off + k * 4, none⟩ = some (.int .u64 s) ∧ a.cell? ⟨b, off + k * 4 + 1, none⟩ = some (.int .u64 f) ∧ a.cell? ⟨b, off + k * 4 + 2, none⟩ = some (.int .u64 kn) ∧ a.cell? ⟨b, off + k * 4 + 3, none⟩ = some (.slice A' n' c') := by
  obtain ⟨b, off, x, e, hb, hx, hc⟩ := Sl.at_ h ha hk
  exact ⟨b, off, x.s, x.x.f, x.x.kn, x.x.A, x.x.n, x.x.cap, x.x.es, e, hb, hx, hc 0 _ rfl, hc 1 _ rfl, hc 2 _ rfl, hc 3 _ rfl⟩
theorem entAt {w a : World} {A : Option Addr} {n : Nat} {L : List Ent} (h : Sl 4 entC w A n L) (ha : Held w a) {k : Nat} (hk : k < n) :
    ∃ b off t kk nn d, A = some ⟨b, off, none⟩ ∧ b < w.heap.size ∧ L[k]? = some ⟨t, kk, nn, d⟩ ∧ a.cell? ⟨b, off + k * 4, none⟩ = some (.int .u64 (t : Int)) ∧ a.cell? ⟨b, off + k * 4 + 1, none⟩ = some (.int .i64 kk) ∧ a.cell? ⟨b, off + k * 4 + 2, none⟩ = some (.int .u32 nn) ∧ a.cell? ⟨b, off + k * 4 + 3, none⟩ = some (.string d) := by
  obtain ⟨b, off, x, e, hb, hx, hc⟩ := Sl.at_ h ha hk
  exact ⟨b, off, x.t, x.k, x.n, x.d, e, hb, hx, hc 0 _ rfl, hc 1 _ rfl, hc 2 _ rfl, hc 3 _ rfl⟩
theorem info_ent : (Tryz.prog.info? 70).map (fun i => (i.zero, i.size, i.bytes)) = some (some (.agg #[.int .u64 0, .int .i64 0, .int .u32 0, .string ⟨#[]⟩]), 4, 40) := by kernel_rfl
theorem info_seg : (Tryz.prog.info? 25).map (fun i => (i.zero, i.size, i.bytes)) = some (some (.agg #[.int .u64 0, .int .u64 0, .slice none 0 0]), 3, 40) := by kernel_rfl
theorem info_er : (Tryz.prog.info? 72).map (fun i => (i.zero, i.size, i.bytes)) = some (some (.agg #[.int .u64 0, .int .u64 0, .int .u64 0, .slice none 0 0]), 4, 48) := by kernel_rfl
theorem ne_se : 25 ≠ 70 := by decide
end St
end Go.Proofs.YthpjbffhdaaibaaGreat

set_option linter.unusedVariables false
namespace Go.Proofs.YthpjbffhdaaibaaGreat.St
open Enc Uv Lg
/-- The fields lie in their types. -/
structure SegIn (g : Seg) : Prop where
  f : g.f < 18446744073709551616
  kn : g.kn < 18446744073709551616
  ok : ∀ e ∈ g.es, EntOK e
theorem logOf_ok {g : Seg} {s : List UInt8} (h : logOf g = (s, 0)) : g.f ≤ g.kn ∧ late g.es g.kn = false ∧ encode g.es g.f = (s, 0) := by
  unfold logOf at h
  split at h
  · injection h with _ h; cases h
  · rename_i h1
    simp only [Bool.or_eq_true, decide_eq_true_eq, not_or, Bool.not_eq_true] at h1
    exact ⟨by omega, h1.2, h⟩
theorem logOf_mk {g : Seg} {s : List UInt8} {c : Int} (h1 : g.f ≤ g.kn) (h2 : late g.es g.kn = false) (h3 : encode g.es g.f = (s, c)) : logOf g = (s, c) := by
  unfold logOf
  rw [if_neg (by simp [h2]; omega)]; exact h3
theorem encode_no {L : List Ent} {f : Nat} (h : (encode L f).2 ≠ 0) : (encode L f).1 = [] := by
  unfold encode at h ⊢
  split
  · rfl
  · split
    · rfl
    · split
      · rfl
      · split
        · rfl
        · rename_i h1 h2 h3 h4
          rw [if_neg h1, if_neg h2, if_neg h3, if_neg h4] at h
          exact absurd rfl h
theorem logOf_no {g : Seg} (h : (logOf g).2 ≠ 0) : (logOf g).1 = [] := by
  unfold logOf at h ⊢
  split
  · rfl
  · rename_i h1
    rw [if_neg h1] at h
    exact encode_no h
theorem logOf_len {g : Seg} : (logOf g).1.length ≤ 65536 := by
  by_cases h : (logOf g).2 = 0
  · obtain ⟨s, hs⟩ : ∃ s, logOf g = (s, 0) := ⟨(logOf g).1, by rw [← h]⟩
    rw [hs]
    exact (encode_ok (logOf_ok hs).2.2).le
  · rw [logOf_no h]; exact Nat.zero_le _
theorem body_len (g : Seg) (h : SegIn g) : (body g).1.length ≤ 70000 := by
  have h1 := logOf_len (g := g)
  have h2 := Cp.compress_len (logOf g).1
  have h3 := put_len g.f h.f
  have h4 := put_len g.kn h.kn
  have h5 : ((logOf g).1.length + 127) / 128 ≤ 513 := by omega
  unfold body bodyOf
  split
  · simp only [List.length_append]; omega
  · simp
/-- A segment is decoded from its body. -/
theorem unbody_body {g : Seg} {s b : List UInt8} (hg : SegIn g) (h : logOf g = (s, 0)) : body g = (put g.f ++ put g.kn ++ Cp.compress s, 0) ∧ unbody (put g.f ++ put g.kn ++ Cp.compress s) = (g, 0) := by
  obtain ⟨h1, h2, h3⟩ := logOf_ok h
  refine ⟨by unfold body bodyOf; rw [h]; rfl, ?_⟩
  have u1 := uv_some (rd_put g.f hg.f (put g.kn ++ Cp.compress s))
  have u2 := uv_some (rd_put g.kn hg.kn (Cp.compress s))
  rw [List.append_assoc]
  unfold unbody
  rw [u1.2.2, if_neg (by simp), u1.1, u1.2.1, List.drop_left]
  unfold unbody2
  rw [u2.2.2, u2.1, if_neg (by simp; omega), u2.2.1, List.drop_left, Cp.back, if_pos (encode_ok h3).le]
  unfold unpack
  rw [if_neg (by simp), decL_of ⟨hg.ok, h3⟩]
  unfold unlog
  rw [if_neg (by simp), if_neg (by rw [h2]; simp)]
theorem unlog_no {f kn : Nat} {p : List Ent × Int} (h : (unlog f kn p).2 ≠ 0) : (unlog f kn p).1 = noSeg := by
  unfold unlog at h ⊢
  split
  · rfl
  · split
    · rfl
    · rename_i h1 h2
      rw [if_neg h1, if_neg h2] at h
      exact absurd rfl h
theorem unpack_no {f kn : Nat} {d : Nat × List UInt8} (h : (unpack f kn d).2 ≠ 0) : (unpack f kn d).1 = noSeg := by
  unfold unpack at h ⊢
  split
  · rfl
  · rename_i h1
    rw [if_neg h1] at h
    exact unlog_no h
theorem unbody_no {s : List UInt8} (h : (unbody s).2 ≠ 0) : (unbody s).1 = noSeg := by
  unfold unbody unbody2 at h ⊢
  split
  · rfl
  · rename_i h1
    rw [if_neg h1] at h
    split
    · rfl
    · rename_i h2
      rw [if_neg h2] at h
      exact unpack_no h
/-- Whatever is decoded can be encoded. -/
theorem unbody_ok {s : List UInt8} {g : Seg} (h : unbody s = (g, 0)) : SegIn g ∧ ∃ t, logOf g = (t, 0) := by
  unfold unbody at h
  split at h
  · injection h with _ h; cases h
  · unfold unbody2 at h
    split at h
    · injection h with _ h; cases h
    · rename_i h2
      unfold unpack at h
      split at h
      · rename_i h3
        injection h with _ h
        have : (Cp.dec 65536 ((s.drop (uvN s)).drop (uvN (s.drop (uvN s)))) []).1 = 0 := by exact_mod_cast h
        exact absurd this h3
      · unfold unlog at h
        split at h
        · rename_i h4
          injection h with _ h
          exact absurd h h4
        · rename_i h4
          split at h
          · injection h with _ h; cases h
          · rename_i h5
            injection h with h _
            subst h
            have h4' : (decL (Cp.dec 65536 ((s.drop (uvN s)).drop (uvN (s.drop (uvN s)))) []).2 (uvX s)).2 = 0 := by
              exact Decidable.byContradiction h4
            have hd := decL_ok h4'
            simp only [Bool.or_eq_true, Bool.not_eq_true', decide_eq_true_eq, not_or] at h2
            exact ⟨⟨uvX_lt _, uvX_lt _, hd.1⟩, _, logOf_mk (by simp only; omega) (by simpa using h5) hd.2⟩
/-! ### the two sides -/
theorem chain_cons {a : Nat} {g : Seg} {l : List Seg} {t : Nat} (h : chain a (g :: l) = some t) : g.f = a ∧ segOk g = true ∧ chain g.kn l = some t := by
  unfold chain at h
  split at h
  · rename_i h1
    simp only [Bool.and_eq_true, decide_eq_true_eq] at h1
    exact ⟨h1.1, h1.2, h⟩
  · cases h
theorem chain_mk {a : Nat} {g : Seg} {l : List Seg} (h1 : g.f = a) (h2 : segOk g = true) : chain a (g :: l) = chain g.kn l := by
  rw [chain, if_pos (by simp [h1, h2])]
/-- Where so many segments end. -/
def pos (at_ : Nat) (G : List Seg) (i : Nat) : Nat := match (G.take i).getLast? with | some g => g.kn | none => at_
theorem pos_zero (a : Nat) (G : List Seg) : pos a G 0 = a := rfl
theorem pos_succ (a : Nat) (G : List Seg) {i : Nat} (h : i < G.length) : pos a G (i + 1) = G[i].kn := by
  unfold pos
  rw [List.take_succ_eq_append_getElem h, List.getLast?_concat]
/-- All segments follow each other from a position on. -/
structure Ch (a : Nat) (G : List Seg) : Prop where
  f : ∀ i (h : i < G.length), G[i].f = pos a G i
  ok : ∀ i (h : i < G.length), segOk G[i] = true
  inn : ∀ i (h : i < G.length), SegIn G[i]
theorem segOk_le {g : Seg} (h : segOk g = true) : g.f ≤ g.kn := by
  unfold segOk at h
  have h : (logOf g).2 = 0 := of_decide_eq_true h
  exact (logOf_ok (g := g) (s := (logOf g).1) (by rw [← h])).1
theorem Ch.mono {a : Nat} {G : List Seg} (h : Ch a G) {i j : Nat} (hij : i ≤ j) (hj : j ≤ G.length) : pos a G i ≤ pos a G j := by
  induction j with
  | zero => obtain rfl : i = 0 := by omega
            exact Nat.le_refl _
  | succ j ih =>
    by_cases e : i = j + 1
    · subst e; exact Nat.le_refl _
    · have h1 := ih (by omega) (by omega)
      have h2 := h.f j (by omega)
      have h3 := segOk_le (h.ok j (by omega))
      rw [pos_succ a G (by omega)]
      omega
theorem Ch.lt {a : Nat} {G : List Seg} (h : Ch a G) (ha : a < 18446744073709551616) {i : Nat} (hi : i ≤ G.length) : pos a G i < 18446744073709551616 := by
  cases i with
  | zero => exact ha
  | succ i => rw [pos_succ a G (by omega)]; exact (h.inn i (by omega)).kn
theorem Ch.chain {a : Nat} {G : List Seg} (h : Ch a G) : ∀ (n i : Nat), i + n ≤ G.length → St.chain (pos a G i) ((G.drop i).take n) = some (pos a G (i + n))
  | 0, i, hi => by simp [St.chain]
  | n + 1, i, hi => by
    rw [List.drop_eq_getElem_cons (by omega), List.take_succ_cons, chain_mk (h.f i (by omega)) (h.ok i (by omega)), ← pos_succ a G (by omega), Ch.chain h n (i + 1) (by omega)]
    congr 2; omega
/-- The sender: the segments up to p are pushed, those up to a are acknowledged. -/
def sndAt (at_ : Nat) (G : List Seg) (a p : Nat) : Snd := ⟨a + 1, pos at_ G p, pos at_ G a, (G.drop a).take (p - a)⟩
theorem sending_at {at_ : Nat} {G : List Seg} (h : Ch at_ G) {a p : Nat} (hap : a ≤ p) (hp : p ≤ G.length) (h8 : p - a ≤ 8) (hb : a ≤ 1000000) : sending (sndAt at_ G a p) = true := by
  have hc := h.chain (p - a) a (by omega)
  rw [show a + (p - a) = p by omega] at hc
  unfold sending sndAt
  have h1 : ((G.drop a).take (p - a)).length ≤ 8 := by rw [List.length_take]; omega
  rw [decide_eq_true (show 1 ≤ a + 1 by omega), decide_eq_true (show a + 1 ≤ 4611686018427387904 by omega), decide_eq_true h1]
  simp only [Bool.true_and]
  unfold sendQ
  split
  · simp only; exact decide_eq_true (h.mono hap hp)
  · rename_i g l he
    simp only at he ⊢
    obtain ⟨hlt, hpa⟩ : a < G.length ∧ 0 < p - a := by
      have := congrArg List.length he
      rw [List.length_take, List.length_drop, List.length_cons] at this; omega
    have hg : g = G[a]'hlt := by
      rw [List.drop_eq_getElem_cons hlt, show p - a = (p - a - 1) + 1 by omega, List.take_succ_cons] at he
      injection he with he _
      exact he.symm
    have hf := h.f a hlt
    rw [← hg] at hf
    rw [hf, decide_eq_true (Nat.le_refl _), hc]
    simp
theorem drop_take_drop {α : Type} (G : List α) (a p k : Nat) (h : a ≤ k) : ((G.drop a).take (p - a)).drop (k - a) = (G.drop k).take (p - k) := by
  rw [List.drop_take, List.drop_drop]
  congr 1
  · omega
  · congr 1; omega
theorem push_at {at_ : Nat} {G : List Seg} (h : Ch at_ G) {a p : Nat} (hap : a ≤ p) (hp : p < G.length) (hb : a ≤ 1000000) (h8 : p - a ≤ 8) :
    push (sndAt at_ G a p) G[p] = if p - a < 8 then (sndAt at_ G a (p + 1), 0) else (sndAt at_ G a p, 2401) := by
  have h1 := sending_at h hap (Nat.le_of_lt hp) h8 hb
  have hl : ((G.drop a).take (p - a)).length = p - a := by rw [List.length_take, List.length_drop]; omega
  have h2 : (logOf G[p]).2 = 0 := of_decide_eq_true (h.ok p hp)
  unfold push
  rw [if_neg (by rw [h1]; simp [sndAt, h.f p hp]), if_neg (by simp [h2])]
  by_cases hlt : p - a < 8
  · rw [if_pos hlt, if_neg (by simp only [sndAt, hl]; omega)]
    unfold sndAt
    rw [pos_succ _ _ hp]
    congr 2
    have : p < G.length := hp
    rw [show p + 1 - a = (p - a) + 1 by omega, List.take_succ_eq_append_getElem (by rw [List.length_drop]; omega), List.getElem_drop]
    congr 3; omega
  · rw [if_neg hlt, if_pos (by simp only [sndAt, hl]; omega)]
theorem ackP_open {n kn : Nat} (hn : n < 18446744073709551616) (hk : kn < 18446744073709551616) : opened (ackP n kn) 65 = (n, put kn, true) := by
  have hl := put_len kn hk
  unfold opened ackP
  rw [opens_packed n _ hn (by rw [List.length_cons]; omega)]
  unfold opened1
  rw [if_neg (by simp)]
  simp
theorem dataP_open {n : Nat} {g : Seg} (hn : n < 18446744073709551616) (hg : SegIn g) : opened (dataP n g) 68 = (n, (body g).1, true) := by
  have hl := body_len g hg
  unfold opened dataP
  rw [opens_packed n _ hn (by rw [List.length_cons]; omega)]
  unfold opened1
  rw [if_neg (by simp)]
  simp
theorem opened_bad {p : List UInt8} (m : UInt8) (h : (opens p).2.2 ≠ 0) : opened p m = (0, [], false) := by
  unfold opened opened1; rw [if_pos h]
theorem opened_other {n : Nat} {b : List UInt8} {c m : UInt8} (hn : n < 18446744073709551616) (hb : b.length < 18446744073709551610) (hc : c ≠ m) : opened (packed n (c :: b)) m = (0, [], false) := by
  unfold opened
  rw [opens_packed n _ hn (by rw [List.length_cons]; omega)]
  unfold opened1
  rw [if_neg (by simp)]
  simp [hc]
/-- An acknowledgement of j segments. -/
theorem acked_at {at_ : Nat} {G : List Seg} (h : Ch at_ G) (hat : at_ < 18446744073709551616) {a p j : Nat} (hap : a ≤ p) (hp : p ≤ G.length) (h8 : p - a ≤ 8) (hb : p ≤ 1000000) (hj : j ≤ p) :
    acked (sndAt at_ G a p) (ackP (j + 1) (pos at_ G j)) = if a < j then (sndAt at_ G j p, true) else (sndAt at_ G a p, false) := by
  have h1 := sending_at h hap hp h8 (by omega)
  have hpl := h.lt hat (i := j) (by omega)
  have hl : ((G.drop a).take (p - a)).length = p - a := by rw [List.length_take, List.length_drop]; omega
  have u := uv_some (rd_put (pos at_ G j) hpl [])
  rw [List.append_nil] at u
  unfold acked
  rw [ackP_open (by omega) hpl]
  unfold acked1
  simp only
  rw [if_neg (by rw [h1]; simp), if_neg (by rw [u.2.2, u.2.1]; simp)]
  by_cases hlt : a < j
  · rw [if_pos hlt, if_neg (by simp only [sndAt, hl]; simp; omega)]
    have e : ackAt (sndAt at_ G a p) (j + 1) = some (pos at_ G j) := by
      unfold ackAt sndAt
      simp only
      rw [List.getElem?_take, if_pos (by omega), List.getElem?_drop, show a + (j + 1 - (a + 1) - 1) = j - 1 by omega, List.getElem?_eq_getElem (by omega)]
      have := pos_succ at_ G (i := j - 1) (by omega)
      rw [show j - 1 + 1 = j by omega] at this
      rw [this]; rfl
    rw [u.1, e, if_neg (by simp)]
    unfold sndAt
    simp only
    rw [show j + 1 - (a + 1) = j - a by omega, drop_take_drop G a p j (by omega)]
  · rw [if_neg hlt, if_pos (by simp only [sndAt]; simp; omega)]
/-- What has arrived early. -/
structure EI (at_ : Nat) (G : List Seg) (k m : Nat) (E : List Er) : Prop where
  mem : ∀ x ∈ E, ∃ i, ∃ h : i < G.length, i < m ∧ k < i ∧ x = ⟨i + 1, G[i]⟩
  asc : E.Pairwise fun x y => x.s < y.s
def rcvAt (at_ : Nat) (G : List Seg) (k : Nat) (E : List Er) : Rcv := ⟨k + 1, pos at_ G k, E⟩
theorem asc_len {α : Type} (s : α → Nat) : ∀ (l : List α) (lo hi : Nat), l.Pairwise (fun x y => s x < s y) → (∀ x ∈ l, lo < s x ∧ s x ≤ hi) → l.length ≤ hi - lo
  | [], _, _, _, _ => Nat.zero_le _
  | x :: l, lo, hi, hp, hb => by
    obtain ⟨h1, h2⟩ := List.pairwise_cons.1 hp
    have hx := hb x (by simp)
    have := asc_len s l (s x) hi h2 fun y hy => ⟨h1 y hy, (hb y (by simp [hy])).2⟩
    rw [List.length_cons]; omega
theorem asc_of {n : Nat} : ∀ (l : List Er) (a : Nat), l.Pairwise (fun x y => x.s < y.s) → (∀ x ∈ l, a < x.s ∧ x.s < n + 8 ∧ segOk x.g = true) → asc n a l = true
  | [], _, _, _ => rfl
  | x :: l, a, hp, hb => by
    obtain ⟨h1, h2⟩ := List.pairwise_cons.1 hp
    obtain ⟨b1, b2, b3⟩ := hb x (by simp)
    unfold asc
    rw [decide_eq_true b1, decide_eq_true b2, b3, asc_of l x.s h2 fun y hy => ⟨h1 y hy, (hb y (by simp [hy])).2⟩]; rfl
theorem EI.receiving {at_ : Nat} {G : List Seg} (h : Ch at_ G) {k m : Nat} {E : List Er} (e : EI at_ G k m E) (hm : m ≤ 8) (hk : k ≤ 1000000) : receiving (rcvAt at_ G k E) = true := by
  have hl := asc_len Er.s E (k + 1) m e.asc fun x hx => by obtain ⟨i, hi, h1, h2, rfl⟩ := e.mem x hx; exact ⟨by simp only; omega, by simp only; omega⟩
  have ha := asc_of (n := k + 1) E (k + 1) e.asc fun x hx => by obtain ⟨i, hi, h1, h2, rfl⟩ := e.mem x hx; exact ⟨by simp only; omega, by simp only; omega, h.ok i hi⟩
  unfold St.receiving rcvAt
  simp only
  rw [decide_eq_true (show 1 ≤ k + 1 by omega), decide_eq_true (show k + 1 ≤ 4611686018427387904 by omega), decide_eq_true (show E.length ≤ 7 by omega), ha]; rfl
/-- Delivery in order. -/
theorem drain_at {at_ : Nat} {G : List Seg} (h : Ch at_ G) (m : Nat) : ∀ (E : List Er) (k : Nat), k ≤ G.length → (∀ x ∈ E, ∃ i, ∃ h : i < G.length, i < m ∧ k ≤ i ∧ x = ⟨i + 1, G[i]⟩) → E.Pairwise (fun x y => x.s < y.s) →
    ∃ k' E', k ≤ k' ∧ k' ≤ G.length ∧ EI at_ G k' m E' ∧ drain (k + 1) (pos at_ G k) E = (rcvAt at_ G k' E', (G.drop k).take (k' - k)) ∧ (∀ x ∈ E, x.s < k' + 1 ∨ x ∈ E') ∧ (k ≤ m → k' ≤ m)
  | [], k, hk, _, _ => ⟨k, [], Nat.le_refl _, hk, ⟨fun x hx => by simp at hx, List.Pairwise.nil⟩, by simp [drain, rcvAt], fun x hx => by simp at hx, id⟩
  | x :: E, k, hk, hm, hp => by
    obtain ⟨h1, h2⟩ := List.pairwise_cons.1 hp
    obtain ⟨i, hi, him, hki, rfl⟩ := hm x (by simp)
    by_cases he : i = k
    · subst he
      obtain ⟨k', E', q1, q2, q3, q4, q5, q6⟩ := drain_at h m E (i + 1) (by omega) (fun y hy => by
        obtain ⟨j, hj, hjm, hkj, rfl⟩ := hm y (by simp [hy])
        have := h1 _ hy
        simp only at this
        exact ⟨j, hj, hjm, by omega, rfl⟩) h2
      refine ⟨k', E', by omega, q2, q3, ?_, fun y hy => ?_, fun _ => q6 (by omega)⟩
      · rw [drain, if_pos rfl, if_pos (h.f i hi), ← pos_succ at_ G hi, q4]
        simp only
        congr 1
        rw [List.drop_eq_getElem_cons hi, show k' - i = (k' - (i + 1)) + 1 by omega, List.take_succ_cons]
      · rcases List.mem_cons.1 hy with rfl | hy
        · exact .inl (by simp only; omega)
        · exact q5 y hy
    · refine ⟨k, ⟨i + 1, G[i]⟩ :: E, Nat.le_refl _, hk, ⟨fun y hy => ?_, hp⟩, ?_, fun y hy => .inr hy, id⟩
      · obtain ⟨j, hj, hjm, hkj, rfl⟩ := hm y hy
        refine ⟨j, hj, hjm, ?_, rfl⟩
        rcases List.mem_cons.1 hy with h3 | h3
        · injection h3 with h3 _; omega
        · have := h1 _ h3; simp only at this; omega
      · rw [drain, if_neg (by simp only; omega)]
        simp [rcvAt]
theorem before_le (n : Nat) (l : List Er) : before n l ≤ l.length := by unfold before; exact List.IsPrefix.length_le (List.takeWhile_prefix _)
theorem mem_ins {x y : Er} {l : List Er} : y ∈ ins x l ↔ y = x ∨ y ∈ l := by
  unfold ins
  have e : l.take (before x.s l) ++ l.drop (before x.s l) = l := List.take_append_drop _ _
  constructor
  · intro h
    rcases List.mem_append.1 h with h | h
    · exact .inr (List.mem_of_mem_take h)
    · rcases List.mem_cons.1 h with h | h
      · exact .inl h
      · exact .inr (List.mem_of_mem_drop h)
  · rintro (rfl | h)
    · simp
    · rw [← e] at h
      rcases List.mem_append.1 h with h | h
      · exact List.mem_append.2 (.inl h)
      · exact List.mem_append.2 (.inr (List.mem_cons_of_mem _ h))
theorem before_cons (n : Nat) (y : Er) (l : List Er) : before n (y :: l) = if y.s < n then before n l + 1 else 0 := by
  unfold before
  rw [List.takeWhile_cons]
  by_cases h : y.s < n
  · simp [h]
  · simp [h]
theorem ins_cons (x y : Er) (l : List Er) : ins x (y :: l) = if y.s < x.s then y :: ins x l else x :: y :: l := by
  unfold ins
  rw [before_cons]
  by_cases h : y.s < x.s
  · simp [h]
  · simp [h]
theorem ins_asc (x : Er) : ∀ l : List Er, l.Pairwise (fun x y => x.s < y.s) → (∀ y ∈ l, y.s ≠ x.s) → (ins x l).Pairwise fun x y => x.s < y.s
  | [], _, _ => by simp [ins, before]
  | y :: l, hp, hn => by
    obtain ⟨h1, h2⟩ := List.pairwise_cons.1 hp
    rw [ins_cons]
    have hy := hn y (by simp)
    split
    · rename_i hlt
      refine List.pairwise_cons.2 ⟨fun z hz => ?_, ins_asc x l h2 fun z hz => hn z (by simp [hz])⟩
      rcases mem_ins.1 hz with rfl | hz
      · exact hlt
      · exact h1 z hz
    · rename_i hlt
      refine List.pairwise_cons.2 ⟨fun z hz => ?_, hp⟩
      rcases List.mem_cons.1 hz with rfl | hz
      · omega
      · have := h1 z hz; omega
/-- A packet of the stream arrives. -/
theorem take_at {at_ : Nat} {G : List Seg} (h : Ch at_ G) {k m : Nat} {E : List Er} (e : EI at_ G k m E) (hm : m ≤ 8) (hmg : m ≤ G.length) (hk : k ≤ m) {i : Nat} (hi : i < m) :
    ∃ k' E', k ≤ k' ∧ k' ≤ m ∧ EI at_ G k' m E' ∧ take (rcvAt at_ G k E) (dataP (i + 1) (G[i]'(by omega))) = (rcvAt at_ G k' E', (G.drop k).take (k' - k), true) ∧ (∀ x ∈ E, x.s < k' + 1 ∨ x ∈ E') ∧ (i < k' ∨ ∃ x ∈ E', x.s = i + 1) ∧ (i < k → k' = k ∧ E' = E) := by
  have hig : i < G.length := by omega
  have h1 := e.receiving h hm (by omega)
  have hin := h.inn i hig
  have hok : (logOf (G[i]'hig)).2 = 0 := of_decide_eq_true (h.ok i hig)
  obtain ⟨s, hs⟩ : ∃ s, logOf (G[i]'hig) = (s, 0) := ⟨(logOf (G[i]'hig)).1, by rw [← hok]⟩
  obtain ⟨hb, hu⟩ := unbody_body (b := []) hin hs
  unfold take
  rw [dataP_open (by omega) hin]
  unfold take1
  simp only
  rw [if_neg (by rw [h1]; simp [rcvAt]; omega), hb, hu]
  unfold take3
  rw [if_neg (by simp)]
  by_cases hold : (decide (i + 1 < (rcvAt at_ G k E).n) || has (i + 1) (rcvAt at_ G k E).e) = true
  · rw [if_pos hold]
    refine ⟨k, E, Nat.le_refl _, hk, e, by simp, fun x hx => .inr hx, ?_, fun _ => ⟨rfl, rfl⟩⟩
    rw [Bool.or_eq_true] at hold
    rcases hold with hold | hold
    · have hold := of_decide_eq_true hold
      simp only [rcvAt] at hold
      exact .inl (by omega)
    · unfold has at hold
      rw [List.any_eq_true] at hold
      obtain ⟨x, hx, hxs⟩ := hold
      exact .inr ⟨x, hx, of_decide_eq_true hxs⟩
  · rw [if_neg hold]
    rw [Bool.or_eq_true, not_or] at hold
    obtain ⟨o1, o2⟩ := hold
    have hki : k ≤ i := by
      rw [decide_eq_true_iff] at o1
      simp only [rcvAt] at o1
      omega
    have hne : ∀ y ∈ E, y.s ≠ i + 1 := fun y hy hq => o2 (by unfold has; rw [List.any_eq_true]; exact ⟨y, hy, decide_eq_true hq⟩)
    obtain ⟨k', E', q1, q2, q3, q4, q5, q6⟩ := drain_at h m (ins ⟨i + 1, G[i]'hig⟩ E) k (by omega) (fun y hy => by
      rcases mem_ins.1 hy with rfl | hy
      · exact ⟨i, hig, hi, hki, rfl⟩
      · obtain ⟨j, hj, hjm, hkj, rfl⟩ := e.mem y hy
        exact ⟨j, hj, hjm, by omega, rfl⟩) (ins_asc _ E e.asc hne)
    refine ⟨k', E', q1, q6 hk, q3, ?_, fun x hx => q5 x (mem_ins.2 (.inr hx)), ?_, fun hik => by omega⟩
    · show ((drain (k + 1) (pos at_ G k) (ins ⟨i + 1, G[i]⟩ E)).1, (drain (k + 1) (pos at_ G k) (ins ⟨i + 1, G[i]⟩ E)).2, true) = _
      rw [q4]
    · rcases q5 ⟨i + 1, G[i]'hig⟩ (mem_ins.2 (.inl rfl)) with q | q
      · simp only at q; exact .inl (by omega)
      · exact .inr ⟨_, q, rfl⟩
theorem EI.nil (at_ : Nat) (G : List Seg) (k m : Nat) : EI at_ G k m [] := ⟨fun x hx => by simp at hx, List.Pairwise.nil⟩
/-- The next packet arrives, nothing is early. -/
theorem take_next {at_ : Nat} {G : List Seg} (h : Ch at_ G) {k m : Nat} (hm : m ≤ 8) (hmg : m ≤ G.length) (hk : k < m) :
    take (rcvAt at_ G k []) (dataP (k + 1) (G[k]'(by omega))) = (rcvAt at_ G (k + 1) [], [G[k]'(by omega)], true) := by
  have hig : k < G.length := by omega
  have h1 := (EI.nil at_ G k m).receiving h hm (by omega)
  have hin := h.inn k hig
  have hok : (logOf (G[k]'hig)).2 = 0 := of_decide_eq_true (h.ok k hig)
  obtain ⟨s, hs⟩ : ∃ s, logOf (G[k]'hig) = (s, 0) := ⟨(logOf (G[k]'hig)).1, by rw [← hok]⟩
  obtain ⟨hb, hu⟩ := unbody_body (b := []) hin hs
  unfold take
  rw [dataP_open (by omega) hin]
  unfold take1
  simp only
  rw [if_neg (by rw [h1]; simp [rcvAt]), hb, hu]
  unfold take3
  rw [if_neg (by simp), if_neg (by simp [rcvAt, has])]
  simp only [rcvAt]
  have e : ins ⟨k + 1, G[k]⟩ [] = [⟨k + 1, G[k]⟩] := by simp [ins, before]
  rw [e, drain, if_pos rfl, if_pos (h.f k hig)]
  simp only [drain]
  rw [pos_succ at_ G hig]
/-- A packet that cannot be opened changes nothing. -/
theorem take_bad {R : Rcv} {p : List UInt8} (h : (opens p).2.2 ≠ 0) : take R p = (R, [], false) := by
  unfold take take1
  rw [opened_bad _ h, if_pos (by simp)]
theorem packs_at {G : List Seg} : ∀ (n a : Nat), a + n ≤ G.length → packs (a + 1) ((G.drop a).take n) = (List.range n).map fun i => dataP (a + i + 1) (G.getD (a + i) noSeg)
  | 0, a, h => by simp [packs]
  | n + 1, a, h => by
    rw [List.drop_eq_getElem_cons (by omega), List.take_succ_cons, packs, packs_at n (a + 1) (by omega), List.range_succ_eq_map, List.map_cons, List.map_map]
    congr 1
    · rw [Nat.add_zero, List.getD_eq_getElem?_getD, List.getElem?_eq_getElem (by omega)]; rfl
    · refine List.map_congr_left fun i _ => ?_
      simp only [Function.comp]
      rw [show a + 1 + i = a + (i + 1) by omega]
theorem packets_at {at_ : Nat} {G : List Seg} (h : Ch at_ G) {a p : Nat} (hap : a ≤ p) (hp : p ≤ G.length) (h8 : p - a ≤ 8) (hb : a ≤ 1000000) : packets (sndAt at_ G a p) = (List.range (p - a)).map fun i => dataP (a + i + 1) (G.getD (a + i) noSeg) := by
  unfold packets
  rw [if_pos (sending_at h hap hp h8 hb)]
  exact packs_at (p - a) a (by omega)
theorem reply_at {at_ : Nat} {G : List Seg} (h : Ch at_ G) {k m : Nat} {E : List Er} (e : EI at_ G k m E) (hm : m ≤ 8) (hk : k ≤ 1000000) : reply (rcvAt at_ G k E) = ackP (k + 1) (pos at_ G k) := by
  unfold reply
  rw [if_pos (e.receiving h hm hk)]; rfl
end Go.Proofs.YthpjbffhdaaibaaGreat.St
