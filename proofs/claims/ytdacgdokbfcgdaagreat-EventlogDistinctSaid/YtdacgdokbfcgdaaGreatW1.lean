/-
  Words for memory: a slice value that reads as a list of cells; what a world keeps.
  Words for memory: slices of structs: a slice value that holds a list, each element as its cells; appending to one that the call itself made.
  Rows of the call's own, written in place: over any program.
  What a call has in memory of its own, as a list of pieces (boxes, rows): over any program.
  Pieces of memory: some of them, in another order (over any program).
  Pieces of memory: an empty slice; append of a list, in a walk and at a step of a region that draws its order (over any program).
  Pieces of memory: append in place, where there is room; the row without its last element (over any program).
  Pieces of memory: append of whatever slice, nil and empty ones too (over any program).
  Slices of structs that the call itself made: deleted from, inserted into: laws of no program.
  Pieces of memory: new pieces in front; what Delete and Insert leave; nil slices (over any program).
  Words for memory: what lies in blocks of one type, or is older, is kept by an append or a store elsewhere (over any program).
  Structs of many cells, by value, out of and into a block: the cells are whatever (laws of no program).
  Boxes: a block known whole; a function's results that lie in boxes.
  What a walk is told of a slice of integers that came in; small laws on worlds.
-/
import Derived.WalkKit
import Derived.Deep.Draws
import Derived.Lib.Hide
import Derived.Deep.AppendLies
import Derived.OwnWalk
import Derived.Deep.Upon
import Derived.Laws.CopyRow
import Derived.Lib.AppendZerosOnto
import Derived.Lib.Overlaps
import Derived.Laws.Externs
import Derived.Laws.Rows
import Derived.Laws.Tables
import Derived.Test.YtdacgdokbfcgdaaGreatProg
import Derived.WalkSpells
set_option linter.unusedVariables false
set_option linter.unusedSimpArgs false
set_option maxRecDepth 100000
namespace Go.Proofs.YtdacgdokbfcgdaaGreat
open Go.RowKit
set_option linter.unusedVariables false
/-- What all worlds on the way of a call keep: what was there when it began. -/
def Held (w w' : World) : Prop := Below w.heap.size w w'
namespace Held
theorem refl (w : World) : Held w w := Below.refl _ _
theorem drew {w a : World} (h : Held w a) : Held w a.drew := Below.drew h
theorem drewN {w a : World} (h : Held w a) : ∀ n, Held w (a.drewN n)
  | 0 => h
  | n + 1 => ⟨h.os, h.tape, h.output, h.size, h.block⟩
theorem alloc {w a : World} (h : Held w a) (o : Obj) : Held w (a.alloc o) := Below.alloc h h.size o
theorem step {w a b : World} (h : Held w a) (hb : Held a b) : Held w b := Below.trans h (Below.mono hb h.size)
theorem set {w a : World} (h : Held w a) {p : Addr} (hp : w.heap.size ≤ p.block) (u : Value) : Held w (a.setCell p u) := Below.setCell h hp u
theorem le {w a : World} (h : Held w a) : w.heap.size ≤ a.heap.size := h.size
theorem cell {w a : World} (h : Held w a) {p : Addr} {v : Value} (hp : w.cell? p = some v) : a.cell? p = some v := by
  rw [Below.cell h ?_, hp]
  rcases Nat.lt_or_ge p.block w.heap.size with hl | hl
  · exact hl
  · simp [World.cell?, Array.getElem?_eq_none hl] at hp
end Held
/-- The slice value '.slice A n _' holds the cells xs, 'size' cells an element. -/
def Rd (w : World) (size : Nat) (A : Option Addr) (n : Nat) (xs : List Value) : Prop :=
  xs.length = n * size ∧ (n = 0 ∨ ∃ b off, A = some ⟨b, off, none⟩ ∧ ∀ j (h : j < xs.length), w.cell? ⟨b, off + j, none⟩ = some xs[j])
namespace Rd
theorem held {w a : World} {size : Nat} {A : Option Addr} {n : Nat} {xs : List Value} (h : Rd w size A n xs) (ha : Held w a) : Rd a size A n xs :=
  ⟨h.1, h.2.imp id fun ⟨b, off, e, hc⟩ => ⟨b, off, e, fun j hj => ha.cell (hc j hj)⟩⟩
theorem zero (w : World) (size : Nat) (A : Option Addr) : Rd w size A 0 [] := ⟨by simp, .inl rfl⟩
end Rd
end Go.Proofs.YtdacgdokbfcgdaaGreat

namespace Go.Proofs.YtdacgdokbfcgdaaGreat
open Go.RowKit
set_option linter.unusedVariables false
/-- The slice value '.slice A n _' holds the list L, each element as the cells 'f x', 's' of them. -/
def Sl {α : Type} (s : Nat) (f : α → List Value) (w : World) (A : Option Addr) (n : Nat) (L : List α) : Prop :=
  L.length = n ∧ (n = 0 ∨ ∃ b off, A = some ⟨b, off, none⟩ ∧ b < w.heap.size ∧ ∀ k (h : k < L.length) j v, (f L[k])[j]? = some v → w.cell? ⟨b, off + k * s + j, none⟩ = some v)
namespace Sl
variable {α : Type} {s : Nat} {f : α → List Value}
theorem nil (w : World) (A : Option Addr) : Sl s f w A 0 [] := ⟨rfl, .inl rfl⟩
theorem held {w a : World} {A : Option Addr} {n : Nat} {L : List α} (h : Sl s f w A n L) (ha : Held w a) : Sl s f a A n L :=
  ⟨h.1, h.2.imp id fun ⟨b, off, e, hb, hc⟩ => ⟨b, off, e, Nat.lt_of_lt_of_le hb ha.le, fun k hk j v hv => ha.cell (hc k hk j v hv)⟩⟩
theorem take {w : World} {A : Option Addr} {n : Nat} {L : List α} (h : Sl s f w A n L) {k : Nat} (hk : k ≤ n) : Sl s f w A k (L.take k) := by
  refine ⟨by rw [List.length_take, h.1]; omega, ?_⟩
  rcases h.2 with h0 | ⟨b, off, e, hb, hc⟩
  · exact .inl (by omega)
  · refine .inr ⟨b, off, e, hb, fun j hj => ?_⟩
    simp only [List.length_take] at hj
    simp only [List.getElem_take]
    exact hc j (by omega)
/-- An element, in whatever later world: all its cells. -/
theorem at_ {w a : World} {A : Option Addr} {n : Nat} {L : List α} (h : Sl s f w A n L) (ha : Held w a) {k : Nat} (hk : k < n) :
    ∃ b off x, A = some ⟨b, off, none⟩ ∧ b < w.heap.size ∧ L[k]? = some x ∧ ∀ j v, (f x)[j]? = some v → a.cell? ⟨b, off + k * s + j, none⟩ = some v := by
  rcases h.2 with h0 | ⟨b, off, e, hb, hc⟩
  · omega
  · have hl : k < L.length := by rw [h.1]; exact hk
    exact ⟨b, off, L[k], e, hb, List.getElem?_eq_getElem hl, fun j v hv => ha.cell (hc k hl j v hv)⟩
end Sl
theorem flat_len {α : Type} {s : Nat} {f : α → List Value} (hf : ∀ x, (f x).length = s) (L : List α) : (L.flatMap f).length = L.length * s := by
  induction L with
  | nil => simp
  | cons x L ih => rw [List.flatMap_cons, List.length_append, ih, hf, List.length_cons, Nat.succ_mul]; omega
theorem flat_at {α : Type} {s : Nat} {f : α → List Value} (hf : ∀ x, (f x).length = s) (L : List α) (k : Nat) (hk : k < L.length) (j : Nat) (hj : j < s) : (L.flatMap f)[k * s + j]? = (f L[k])[j]? := by
  have e : L.flatMap f = (L.take k).flatMap f ++ (f L[k] ++ (L.drop (k + 1)).flatMap f) := by
    have h1 : L = L.take k ++ ([L[k]] ++ L.drop (k + 1)) := by simp
    exact (congrArg (List.flatMap f) h1).trans (by rw [List.flatMap_append, List.flatMap_append, List.flatMap_singleton])
  have hlk : ((L.take k).flatMap f).length = k * s := by rw [flat_len hf, List.length_take, Nat.min_eq_left (by omega)]
  rw [e, List.getElem?_append_right (by omega), hlk, Nat.add_sub_cancel_left, List.getElem?_append_left (by rw [hf]; exact hj)]
theorem addr_add (b off j : Nat) : (⟨b, off, none⟩ : Addr).add j = ⟨b, off + j, none⟩ := by
  unfold Addr.add; split
  · rename_i h; subst h; rfl
  · rfl
/-- The cells of a slice in one row. -/
theorem Sl.flat {α : Type} {s : Nat} {f : α → List Value} (hf : ∀ x, (f x).length = s) (hs : 0 < s) {w : World} {b off n : Nat} {L : List α} (h : Sl s f w (some ⟨b, off, none⟩) n L) :
    ∀ j u, (L.flatMap f)[j]? = some u → w.cell? ((⟨b, off, none⟩ : Addr).add j) = some u := by
  intro j u hu
  have hj := (List.getElem?_eq_some_iff.1 hu).1
  rw [flat_len hf] at hj
  have hq : j / s < L.length := Nat.div_lt_of_lt_mul (by rw [Nat.mul_comm]; exact hj)
  have e : j / s * s + j % s = j := by rw [Nat.mul_comm]; exact Nat.div_add_mod j s
  rcases h.2 with h0 | ⟨b', off', e1, hb, hc⟩
  · rw [h.1, h0] at hq; exact absurd hq (Nat.not_lt_zero _)
  · injection e1 with e1
    injection e1 with e1 e2
    subst e1 e2
    have h2 := flat_at hf L (j / s) hq (j % s) (Nat.mod_lt _ hs)
    rw [e, hu] at h2
    have h3 := hc (j / s) hq (j % s) u h2.symm
    rw [Nat.add_assoc, e] at h3
    rw [addr_add]; exact h3
theorem Sl.drop {α : Type} {s : Nat} {f : α → List Value} {w : World} {b off n : Nat} {L : List α} (h : Sl s f w (some ⟨b, off, none⟩) n L) {k : Nat} (hk : k ≤ n) : Sl s f w (some ⟨b, off + k * s, none⟩) (n - k) (L.drop k) := by
  refine ⟨by rw [List.length_drop, h.1], ?_⟩
  rcases h.2 with h0 | ⟨b', off', e1, hb, hc⟩
  · exact .inl (by omega)
  · injection e1 with e1
    injection e1 with e1 e2
    subst e1 e2
    refine .inr ⟨b, off + k * s, rfl, hb, fun j hj i v hv => ?_⟩
    rw [List.length_drop] at hj
    rw [List.getElem_drop] at hv
    have := hc (k + j) (by omega) i v hv
    rw [Nat.add_mul] at this
    rw [show off + k * s + j * s + i = off + (k * s + j * s) + i by omega]; exact this
/-- A slice value that the call itself made holds the list L. -/
def Own {α : Type} (e : TypeId) (s : Nat) (f : α → List Value) (base : Nat) (w : World) (v : Value) (L : List α) : Prop := w.ownsRow base e s v L.length (L.flatMap f)
namespace Own
variable {α : Type} {e : TypeId} {s : Nat} {f : α → List Value} {base : Nat}
theorem nil (w : World) : Own e s f base w (.slice none 0 0) ([] : List α) := World.ownsRow_nil _ _ _ _
theorem shape {w : World} {v : Value} {L : List α} (h : Own e s f base w v L) : ∃ A cap, v = .slice A L.length cap ∧ L.length ≤ cap ∧ cap ≤ maxLen := by
  rcases h.2 with ⟨rfl, h0⟩ | ⟨g, cap, cur, rfl, _, _, hc, hm, _⟩
  · exact ⟨_, 0, by rw [h0], by rw [h0]; exact Nat.le_refl _, Nat.zero_le _⟩
  · exact ⟨_, _, rfl, hc, hm⟩
theorem cap {w : World} {A : Option Addr} {n cp : Nat} {L : List α} (h : Own e s f base w (.slice A n cp) L) : n ≤ cp := by
  obtain ⟨A', cp', e1, h1, _⟩ := h.shape
  injection e1 with e1 e2 e3
  subst e2 e3
  exact h1
theorem held {W w w1 : World} {v : Value} {L : List α} (h : Own e s f W.heap.size w v L) (hw : Held w w1) : Own e s f W.heap.size w1 v L := by
  refine ⟨h.1, ?_⟩
  rcases h.2 with h2 | ⟨g, cap, cur, hv, hb, hh, r⟩
  · exact .inl h2
  · refine .inr ⟨g, cap, cur, hv, hb, ?_, r⟩
    rw [hw.block g ?_]; exact hh
    rcases Nat.lt_or_ge g w.heap.size with hl | hl
    · exact hl
    · rw [Array.getElem?_eq_none hl] at hh; cases hh
theorem mono {base' : Nat} {w : World} {v : Value} {L : List α} (h : Own e s f base w v L) (hb : base' ≤ base) : Own e s f base' w v L :=
  ⟨h.1, h.2.imp id fun ⟨g, cap, cur, hv, h1, r⟩ => ⟨g, cap, cur, hv, Nat.le_trans hb h1, r⟩⟩
/-- It reads as the list. -/
theorem reads {w : World} (hf : ∀ x, (f x).length = s) {A : Option Addr} {n cap : Nat} {L : List α} (h : Own e s f base w (.slice A n cap) L) : Sl s f w A n L ∧ n = L.length ∧ n ≤ cap := by
  obtain ⟨hl, h⟩ := h
  rcases h with ⟨he, h0⟩ | ⟨g, cp, cur, he, hb, hh, hn, hm, hc, ht⟩
  · injection he with e1 e2 e3
    subst e2
    exact ⟨⟨h0, .inl rfl⟩, h0.symm, by omega⟩
  · injection he with e1 e2 e3
    subst e1 e2 e3
    have hg : g < w.heap.size := by
      rcases Nat.lt_or_ge g w.heap.size with hl | hl
      · exact hl
      · rw [Array.getElem?_eq_none hl] at hh; cases hh
    refine ⟨⟨rfl, .inr ⟨g, 0, rfl, hg, fun k hk j v hv => ?_⟩⟩, rfl, hn⟩
    have hj : j < s := by
      have := (List.getElem?_eq_some_iff.1 hv).1
      rw [hf] at this; exact this
    have hlt : k * s + j < L.length * s := by
      have : (k + 1) * s ≤ L.length * s := Nat.mul_le_mul_right _ hk
      rw [Nat.succ_mul] at this; omega
    have h1 : (cur.toList.take (L.length * s))[k * s + j]? = some v := by rw [ht, flat_at hf L k hk j hj]; exact hv
    rw [List.getElem?_take, if_pos hlt] at h1
    simp only [World.cell?, hh, Nat.zero_add]
    simpa using h1
end Own
theorem held_grown {W w w1 : World} {e : TypeId} {s n : Nat} {v : Value} {xs : List Value} (hb : Held W w) (hown : w.ownsRow W.heap.size e s v n xs) (hg : w.grownBy w1 v.ownBlock) : Held W w1 := by
  refine Below.grown hb hg hb.size ?_
  intro k hk
  obtain ⟨_, h⟩ := hown
  rcases h with ⟨rfl, _⟩ | ⟨g, cap, cur, rfl, hg', _⟩
  · simp [Value.ownBlock] at hk
  · simp [Value.ownBlock] at hk; omega
/-- At a step of a region that draws its order: append of a list. -/
theorem Own.step_apps {α : Type} {e : TypeId} {s : Nat} {f : α → List Value} {P : Program} (w : World) {ops : Array Oper} {o : Oper} {a : Act} {K : Act → World → Prop} {Q : Exit → Act → World → Prop} {E : Prop} (hgd : o.guard = none) (sl x : Operand) (t : TypeId)
    (ho : o.op = .call { callee := .builtin .append, args := #[sl, x], argTypes := #[t, t] }) (z : Value) (bytes : Nat) (ht : P.underlying t = some (.slice e)) (hinfo : (P.info? e).map (fun i => (i.zero, i.size, i.bytes)) = some (some z, s, bytes))
    (hzs : z.cells.size = s) (hs0 : 0 < s) (hf : ∀ x, (f x).length = s) (hf1 : ∀ x, ∀ u ∈ f x, u.oneCell' = true) (W : World) (hW : Held W w) (v : Value) (L M : List α) (ad : Addr) (m c : Nat)
    (hs : a.eval sl = v) (hown : Own e s f W.heap.size w v L) (hx : a.eval x = .slice (some ad) m c) (hm : M.length = m)
    (hnews : ∀ j u, (M.flatMap f)[j]? = some u → w.cell? (ad.add j) = some u)
    (hb : (L.length + m) * bytes ≤ 140737488355328) (hb1 : 1 ≤ bytes)
    (h : ∀ v' w', Own e s f W.heap.size w' v' (L ++ M) → Held W w' → w.grownBy w' v.ownBlock → K (a.put o.dst v') w') :
    if Region.wanted o (yielded ops a.tmps) = true then Oper.wp P o a w K Q else E := by
  obtain ⟨i0, hi, hz0, hz1, hz2⟩ := info_parts hinfo
  have hlen : L.length + m ≤ 140737488355328 := Nat.le_trans (Nat.le_mul_of_pos_right _ hb1) hb
  have hw : Region.wanted o (yielded ops a.tmps) = true := by simp [Region.wanted, hgd]
  subst hm
  rw [if_pos hw]
  refine wp_append_own w sl x t ho W.heap.size e i0 z s bytes ht hi hz0 hz1 hz2 hzs hs0 v L.length (L.flatMap f) hs hown ad M.length c (M.flatMap f) hx (flat_len hf M) hnews ?_ (by unfold maxLen; omega) hb hW.le ?_
  · intro u hu
    rw [List.mem_flatMap] at hu
    obtain ⟨y, _, hy⟩ := hu
    exact hf1 y u hy
  · intro v' w' g1 g2 _
    refine h v' w' ?_ (held_grown hW hown g2) g2
    unfold Own
    rw [List.flatMap_append, List.length_append]
    exact g1
/-- An empty slice that is not nil. -/
theorem Own.empty {α : Type} {e : TypeId} {s : Nat} {f : α → List Value} {w : World} {base : Nat} (hb : base ≤ w.heap.size) : Own e s f base (w.alloc (.cells #[] e)) (.slice (some ⟨w.heap.size, 0, none⟩) 0 0) ([] : List α) :=
  ⟨by simp, .inr ⟨w.heap.size, 0, #[], rfl, hb, heap_alloc_new w _, Nat.le_refl _, Nat.zero_le _, by simp, by simp⟩⟩
/-- Append of one element. -/
theorem Own.app {α : Type} {e : TypeId} {s : Nat} {f : α → List Value} {P : Program} (w : World) {ops : Array Oper} {rest : List Oper} {o : Oper} {a : Act} {Q : Exit → Act → World → Prop} (hgd : o.guard = none) (sl x : Operand) (t : TypeId)
    (ho : o.op = .call { callee := .builtin .append, args := #[sl, x], argTypes := #[t, t] }) (z : Value) (bytes : Nat) (ht : P.underlying t = some (.slice e)) (hinfo : (P.info? e).map (fun i => (i.zero, i.size, i.bytes)) = some (some z, s, bytes))
    (hzs : z.cells.size = s) (hs0 : 0 < s) (hf : ∀ x, (f x).length = s) (hf1 : ∀ x, ∀ u ∈ f x, u.oneCell' = true) (base : Nat) (v : Value) (L : List α) (d : α) (ad : Addr) (c : Nat)
    (hs : a.eval sl = v) (hown : Own e s f base w v L) (hx : a.eval x = .slice (some ad) 1 c)
    (hnews : ∀ j u, (f d)[j]? = some u → w.cell? (ad.add j) = some u)
    (hb : (L.length + 1) * bytes ≤ 140737488355328) (hb1 : 1 ≤ bytes) (hbase : base ≤ w.heap.size)
    (h : ∀ g cap w', Own e s f base w' (.slice (some ⟨g, 0, none⟩) (L.length + 1) cap) (L ++ [d]) → w.grownBy w' v.ownBlock → (v.ownBlock = some g ∨ g = w.heap.size) → g < w'.heap.size → wpList P ops Q rest (a.put o.dst (.slice (some ⟨g, 0, none⟩) (L.length + 1) cap)) w') :
    wpList P ops Q (o :: rest) a w := by
  obtain ⟨i0, hi, hz0, hz1, hz2⟩ := info_parts hinfo
  have hlen : L.length + 1 ≤ 140737488355328 := Nat.le_trans (Nat.le_mul_of_pos_right _ hb1) hb
  refine wpList_append_lies w hgd sl x t ho base e i0 z s bytes ht hi hz0 hz1 hz2 hzs hs0 v L.length (L.flatMap f) hs hown ad 1 c (f d) hx (by rw [hf, Nat.one_mul]) hnews (hf1 d) (by decide) (by unfold maxLen; omega) hb hbase w.heap.size rfl ?_
  intro g cap w' g1 g2 g3 g4
  refine h g cap w' ?_ g2 g3 g4
  unfold Own
  rw [List.flatMap_append, List.flatMap_singleton, List.length_append, List.length_singleton]
  exact g1
/-- A store into one element of a slice that the call itself made. -/
theorem Own.stored {α : Type} {e : TypeId} {s : Nat} {f : α → List Value} (hf : ∀ x, (f x).length = s) {base : Nat} {w : World} {g n cap : Nat} {L : List α} (h : Own e s f base w (.slice (some ⟨g, 0, none⟩) n cap) L) (k : Nat) (hk : k < L.length) (i : Nat) (u : Value) (x : α)
    (hx : f x = (f L[k]).set i u) (hi : i < s) : Sl s f (w.setCell ⟨g, k * s + i, none⟩ u) (some ⟨g, 0, none⟩) n (L.set k x) := by
  obtain ⟨hr, hn, hc⟩ := h.reads hf
  refine ⟨by rw [List.length_set, hn], .inr ⟨g, 0, rfl, ?_, fun j hj q v hv => ?_⟩⟩
  · rcases hr.2 with h0 | ⟨b, off, e1, hb, _⟩
    · omega
    · injection e1 with e1
      injection e1 with e1 e2
      subst e1
      simpa [World.setCell] using hb
  · rw [List.length_set] at hj
    rcases hr.2 with h0 | ⟨b, off, e1, hb, hcell⟩
    · omega
    · injection e1 with e1
      injection e1 with e1 e2
      subst e1 e2
      have hq : q < s := by
        have := (List.getElem?_eq_some_iff.1 hv).1
        rw [hf] at this; exact this
      have hci := hcell k hk i
      by_cases ejk : j = k
      · subst ejk
        rw [List.getElem_set_self, hx] at hv
        by_cases eq : q = i
        · subst eq
          rw [List.getElem?_set_self (by rw [hf]; exact hi)] at hv
          injection hv with hv
          subst hv
          have hqf : q < (f L[j]).length := by rw [hf]; exact hi
          have hold := hcell j hk q (f L[j])[q] (List.getElem?_eq_getElem hqf)
          simp only [Nat.zero_add] at hold ⊢
          exact World.cell?_setCell_same _ _ _ hold
        · rw [List.getElem?_set_ne (by omega)] at hv
          have hold := hcell j hk q v hv
          simp only [Nat.zero_add] at hold ⊢
          rw [World.cell?_setCell_other _ _ _ _ (by intro e; injection e with _ e; omega)]
          exact hold
      · rw [List.getElem_set_ne (by omega)] at hv
        have hold := hcell j hj q v hv
        simp only [Nat.zero_add] at hold ⊢
        rw [World.cell?_setCell_other _ _ _ _ ?_]
        · exact hold
        · intro e
          injection e with _ e
          have hne : j < k ∨ k < j := by omega
          rcases hne with h1 | h1
          · have := Nat.mul_le_mul_right s h1; rw [Nat.succ_mul] at this; omega
          · have := Nat.mul_le_mul_right s h1; rw [Nat.succ_mul] at this; omega
end Go.Proofs.YtdacgdokbfcgdaaGreat

namespace Go.Proofs.YtdacgdokbfcgdaaGreat
open Go.RowKit
theorem flat_set {α : Type} {s : Nat} {f : α → List Value} (hf : ∀ x, (f x).length = s) : ∀ (L : List α) (k : Nat) (hk : k < L.length) (i : Nat) (u : Value) (x : α), i < s → f x = (f L[k]).set i u → (L.set k x).flatMap f = (L.flatMap f).set (k * s + i) u
  | [], k, hk, _, _, _, _, _ => by simp at hk
  | y :: L, 0, hk, i, u, x, hi, hx => by
    simp only [List.set_cons_zero, List.flatMap_cons, Nat.zero_mul, Nat.zero_add]
    rw [List.set_append, if_pos (by rw [hf]; exact hi)]
    congr 1
  | y :: L, k + 1, hk, i, u, x, hi, hx => by
    have hk' : k < L.length := by simpa using hk
    simp only [List.set_cons_succ, List.flatMap_cons]
    rw [flat_set hf L k hk' i u x hi (by simpa using hx), List.set_append, if_neg (by rw [hf, Nat.add_mul]; omega), hf]
    congr 2
    rw [Nat.add_mul]; omega
/-- The block of a row of the call's own that is not empty, and each of its cells. -/
theorem Own.slot {α : Type} {e : TypeId} {s : Nat} {f : α → List Value} (hf : ∀ x, (f x).length = s) {base : Nat} {w : World} {A : Option Addr} {n cap : Nat} {L : List α} (h : Own e s f base w (.slice A n cap) L) (hs : 0 < s) {k : Nat} (hk : k < L.length) :
    ∃ g, A = some ⟨g, 0, none⟩ ∧ base ≤ g ∧ g < w.heap.size ∧ ∀ i, i < s → w.frozen? ⟨g, k * s + i, none⟩ = false ∧ ∀ v, (f L[k])[i]? = some v → w.cell? ⟨g, k * s + i, none⟩ = some v := by
  have hfl : (L.flatMap f).length = L.length * s := flat_len hf L
  rcases h.2 with ⟨he, h0⟩ | ⟨g, cp, cur, he, q1, q2, q3, q4, q5, q6⟩
  · omega
  · injection he with e1 e2 e3
    subst e1
    refine ⟨g, rfl, q1, (Array.getElem?_eq_some_iff.1 q2).1, fun i hi => ⟨by simp [World.frozen?, q2], fun v hv => ?_⟩⟩
    have hfa := flat_at hf L k hk i hi
    rw [hv] at hfa
    have hlt : k * s + i < L.length * s := by
      have := (List.getElem?_eq_some_iff.1 hfa).1
      omega
    rw [← q6, List.getElem?_take, if_pos (by exact hlt)] at hfa
    simp only [World.cell?, q2]
    simpa using hfa
/-- A cell of such a row, stored. -/
theorem Own.put {α : Type} {e : TypeId} {s : Nat} {f : α → List Value} (hf : ∀ x, (f x).length = s) {base : Nat} {w : World} {g n cap : Nat} {L : List α} (h : Own e s f base w (.slice (some ⟨g, 0, none⟩) n cap) L) {k : Nat} (hk : k < L.length) {i : Nat} (hi : i < s) (u : Value) (x : α)
    (hx : f x = (f L[k]).set i u) : Own e s f base (w.setCell ⟨g, k * s + i, none⟩ u) (.slice (some ⟨g, 0, none⟩) n cap) (L.set k x) := by
  have hfl : (L.flatMap f).length = L.length * s := flat_len hf L
  refine ⟨by rw [List.length_set]; exact flat_len hf _ |>.trans (by rw [List.length_set]), .inr ?_⟩
  rcases h.2 with ⟨he, h0⟩ | ⟨g', cp, cur, he, q1, q2, q3, q4, q5, q6⟩
  · cases he
  · injection he with e1 e2 e3
    injection e1 with e1
    injection e1 with e1
    subst e1 e2 e3
    refine ⟨g, cap, cur.setIfInBounds (k * s + i) u, ?_, q1, ?_, ?_, q4, ?_, ?_⟩
    · rw [List.length_set]
    · simp only [World.setCell]
      rw [Array.getElem?_modify, if_pos rfl, q2]; rfl
    · rw [List.length_set]; exact q3
    · rw [Array.size_setIfInBounds]; exact q5
    · rw [flat_set hf L k hk i u x hi hx, ← q6, List.length_set, Array.toList_setIfInBounds, List.take_set]
/-- A row is not touched by a store elsewhere. -/
theorem Own.far {α : Type} {e : TypeId} {s : Nat} {f : α → List Value} {base : Nat} {w : World} {v : Value} {L : List α} (h : Own e s f base w v L) {c j : Nat} {u : Value} (hc : v.ownBlock ≠ some c) : Own e s f base (w.setCell ⟨c, j, none⟩ u) v L := by
  refine ⟨h.1, h.2.imp id ?_⟩
  rintro ⟨g, cp, cur, rfl, q1, q2, q3⟩
  refine ⟨g, cp, cur, rfl, q1, ?_, q3⟩
  simp only [World.setCell]
  rw [Array.getElem?_modify, if_neg (fun e => hc (by rw [e]; rfl))]
  exact q2
end Go.Proofs.YtdacgdokbfcgdaaGreat

namespace Go.Proofs.YtdacgdokbfcgdaaGreat
open Go.RowKit
/-- A piece of memory: its blocks, and what holds of them. -/
structure Ck where
  bs : List Nat
  P : World → Prop
  loc : ∀ {w w' : World}, (∀ b ∈ bs, w'.heap[b]? = w.heap[b]?) → P w → P w'
  lt : ∀ {w : World}, P w → ∀ b ∈ bs, b < w.heap.size
theorem lt_of_heap {w : World} {b : Nat} {o : Obj} (h : w.heap[b]? = some o) : b < w.heap.size := (Array.getElem?_eq_some_iff.1 h).1
/-- A box: a block known whole. -/
def Ck.box (b : Nat) (cs : Array Value) (t : TypeId) : Ck :=
  ⟨[b], fun w => w.heap[b]? = some (.cells cs t (0, 0)), fun h p => (h b (by simp)).trans p, fun p b' hb => by simp at hb; subst hb; exact lt_of_heap p⟩
theorem Own.loc {α : Type} {e : TypeId} {s : Nat} {f : α → List Value} {base : Nat} {w w' : World} {v : Value} {L : List α} (h : Own e s f base w v L) (hk : ∀ b ∈ v.ownBlock.toList, w'.heap[b]? = w.heap[b]?) : Own e s f base w' v L := by
  refine ⟨h.1, h.2.imp id ?_⟩
  rintro ⟨g, cp, cur, rfl, q1, q2, q3⟩
  exact ⟨g, cp, cur, rfl, q1, (hk g (by simp [Value.ownBlock])).trans q2, q3⟩
/-- A row of the call's own. -/
def Ck.row {α : Type} (e : TypeId) (s : Nat) (f : α → List Value) (base : Nat) (v : Value) (L : List α) : Ck :=
  ⟨v.ownBlock.toList, fun w => Own e s f base w v L, fun h p => Own.loc p h, fun p b hb => (World.ownsRow.lt p b (by simpa using hb)).2⟩
/-- A piece of any kind in one block. -/
def Ck.one (b : Nat) (Q : Obj → Prop) : Ck := ⟨[b], fun w => ∃ o, w.heap[b]? = some o ∧ Q o, fun h p => by obtain ⟨o, ho, hq⟩ := p; exact ⟨o, (h b (by simp)).trans ho, hq⟩, fun p b' hb => by obtain ⟨o, ho, _⟩ := p; simp at hb; subst hb; exact lt_of_heap ho⟩
/-- The cells of a block that was just made. -/
theorem cells_new (w : World) {b : Nat} (hb : w.heap.size = b) (cs : Array Value) (t : TypeId) : ∀ j u, cs.toList[j]? = some u → (w.alloc (.cells cs t)).cell? ((⟨b, 0, none⟩ : Addr).add j) = some u := by
  intro j u hu
  subst hb
  have hn := heap_alloc_new w (.cells cs t)
  rw [addr_add]
  simp only [World.cell?, hn, Nat.zero_add]
  simpa using hu
/-- The cells that make lays. -/
theorem made_flat {α : Type} {s : Nat} {f : α → List Value} (hf : ∀ x, (f x).length = s) (hs : 0 < s) (x0 : α) (z : Value) (hz : z.cells.toList = f x0) (n : Nat) : (madeCells z.cells (n * s)).toList = (List.replicate n x0).flatMap f := by
  have hzs : z.cells.size = s := by rw [← hf x0, ← hz]; simp
  refine List.ext_getElem? fun j => ?_
  by_cases hj : j < n * s
  · have hk : j / s < n := Nat.div_lt_of_lt_mul (by rw [Nat.mul_comm]; exact hj)
    have hr : j % s < s := Nat.mod_lt _ hs
    have e : (j / s) * s + j % s = j := by rw [Nat.mul_comm]; exact Nat.div_add_mod j s
    have h1 := flat_at hf (List.replicate n x0) (j / s) (by simpa using hk) (j % s) hr
    rw [e] at h1
    rw [h1, List.getElem_replicate, ← hz, madeCells]
    simp only [Array.toList_map, Array.toList_range, hzs, List.getElem?_map]
    rw [List.getElem?_range hj]
    simp [getElem!_pos, hzs, hr]
  · rw [List.getElem?_eq_none (by simp [size_madeCells]; omega), List.getElem?_eq_none (by rw [flat_len hf, List.length_replicate]; omega)]
/-- What the call has: the world in which it began is kept; the pieces, apart from each other. -/
structure Mem (W w : World) (H : List Ck) : Prop where
  held : Held W w
  ok : ∀ c ∈ H, c.P w ∧ ∀ b ∈ c.bs, W.heap.size ≤ b
  sep : H.Pairwise fun c d => ∀ b ∈ c.bs, b ∉ d.bs
namespace Mem
variable {W w w' : World} {H : List Ck}
theorem start (W : World) : Mem W W [] := ⟨Held.refl W, fun c h => by simp at h, List.Pairwise.nil⟩
theorem of (h : Held W w) : Mem W w [] := ⟨h, fun c h => by simp at h, List.Pairwise.nil⟩
theorem le (h : Mem W w H) : W.heap.size ≤ w.heap.size := h.held.le
theorem keep (h : Mem W w H) (k : Held w w') : Mem W w' H :=
  ⟨h.held.step k, fun c hc => ⟨c.loc (fun b hb => k.block b (c.lt (h.ok c hc).1 b hb)) (h.ok c hc).1, (h.ok c hc).2⟩, h.sep⟩
theorem get (h : Mem W w H) {i : Nat} {c : Ck} (hi : H[i]? = some c) : c.P w := (h.ok c (List.mem_of_getElem? hi)).1
theorem ge (h : Mem W w H) {i : Nat} {c : Ck} (hi : H[i]? = some c) : ∀ b ∈ c.bs, W.heap.size ≤ b := (h.ok c (List.mem_of_getElem? hi)).2
theorem apart (h : Mem W w H) {i j : Nat} {c d : Ck} (hi : H[i]? = some c) (hj : H[j]? = some d) (hij : i ≠ j) : ∀ b ∈ c.bs, b ∉ d.bs := by
  obtain ⟨li, rfl⟩ := List.getElem?_eq_some_iff.1 hi
  obtain ⟨lj, rfl⟩ := List.getElem?_eq_some_iff.1 hj
  rcases Nat.lt_or_ge i j with hl | hl
  · exact List.pairwise_iff_getElem.1 h.sep i j li lj hl
  · intro b hb hb'
    exact List.pairwise_iff_getElem.1 h.sep j i lj li (by omega) b hb' hb
/-- A new piece. -/
theorem new (h : Mem W w H) (k : Held w w') (c : Ck) (hp : c.P w') (hb : ∀ b ∈ c.bs, w.heap.size ≤ b) : Mem W w' (H ++ [c]) := by
  have hk := h.keep k
  refine ⟨hk.held, fun d hd => ?_, ?_⟩
  · rcases List.mem_append.1 hd with hd | hd
    · exact hk.ok d hd
    · rw [List.mem_singleton] at hd
      subst hd
      exact ⟨hp, fun b hb' => Nat.le_trans h.le (hb b hb')⟩
  · refine List.pairwise_append.2 ⟨h.sep, List.pairwise_singleton _ _, fun d hd d' hd' b hb1 hb2 => ?_⟩
    rw [List.mem_singleton] at hd'
    subst hd'
    have := d.lt (h.ok d hd).1 b hb1
    have := hb b hb2
    omega
/-- One piece has turned into another, in its own blocks or in new ones; nothing else has turned. -/
theorem upd (h : Mem W w H) {i : Nat} {c : Ck} (hi : H[i]? = some c) (c' : Ck) (h0 : Below 0 w w') (hk : ∀ b, b < w.heap.size → b ∉ c.bs → w'.heap[b]? = w.heap[b]?) (hp : c'.P w') (hb : ∀ b ∈ c'.bs, b ∈ c.bs ∨ w.heap.size ≤ b) : Mem W w' (H.set i c') := by
  obtain ⟨li, rfl⟩ := List.getElem?_eq_some_iff.1 hi
  have hge := h.ge hi
  refine ⟨h.held.trans ⟨h0.os, h0.tape, h0.output, h0.size, fun k hkk => hk k (Nat.lt_of_lt_of_le hkk h.le) (fun hm => by have := hge k hm; omega)⟩, fun d hd => ?_, ?_⟩
  · obtain ⟨j, hj, rfl⟩ := List.mem_iff_getElem.1 hd
    rw [List.getElem_set]
    have hj' : j < H.length := by simpa using hj
    by_cases hij : i = j
    · rw [if_pos hij]
      refine ⟨hp, fun b hb' => ?_⟩
      rcases hb b hb' with hm | hm
      · exact hge b hm
      · exact Nat.le_trans h.le hm
    · rw [if_neg hij]
      have hd' := h.ok H[j] (List.getElem_mem hj')
      refine ⟨H[j].loc (fun b hb' => hk b (H[j].lt hd'.1 b hb') (h.apart (i := j) (j := i) (List.getElem?_eq_getElem hj') hi (fun e => hij e.symm) b hb')) hd'.1, hd'.2⟩
  · rw [List.pairwise_iff_getElem]
    intro p q hp1 hq1 hpq b hb1 hb2
    rw [List.getElem_set] at hb1 hb2
    have hp2 : p < H.length := by simpa using hp1
    have hq2 : q < H.length := by simpa using hq1
    have hlt : ∀ (m : Nat) (hm : m < H.length), b ∈ H[m].bs → b < w.heap.size := fun m hm => H[m].lt (h.ok H[m] (List.getElem_mem hm)).1 b
    by_cases h1 : i = p
    · rw [if_pos h1] at hb1
      rw [if_neg (by omega)] at hb2
      rcases hb b hb1 with hm | hm
      · exact h.apart hi (List.getElem?_eq_getElem hq2) (by omega) b hm hb2
      · have := hlt q hq2 hb2; omega
    · rw [if_neg h1] at hb1
      by_cases h2 : i = q
      · rw [if_pos h2] at hb2
        rcases hb b hb2 with hm | hm
        · exact h.apart (List.getElem?_eq_getElem hp2) hi (by omega) b hb1 hm
        · have := hlt p hp2 hb1; omega
      · rw [if_neg h2] at hb2
        exact h.apart (List.getElem?_eq_getElem hp2) (List.getElem?_eq_getElem hq2) (by omega) b hb1 hb2
/-- A list of pieces that are all among these. -/
theorem sub (h : Mem W w H) {H' : List Ck} (hs : H'.Sublist H) : Mem W w H' := ⟨h.held, fun c hc => h.ok c (hs.subset hc), h.sep.sublist hs⟩
theorem take (h : Mem W w H) (n : Nat) : Mem W w (H.take n) := h.sub (List.take_sublist n H)
-- boxes
theorem alloc (h : Mem W w H) (cs : Array Value) (t : TypeId) : Mem W (w.alloc (.cells cs t)) (H ++ [.box w.heap.size cs t]) :=
  h.new ((Held.refl w).alloc _) _ (heap_alloc_new w _) (fun b hb => by simp [Ck.box] at hb; omega)
theorem alloc' (h : Mem W w H) {b : Nat} (hb : w.heap.size = b) (cs : Array Value) (t : TypeId) : Mem W (w.alloc (.cells cs t)) (H ++ [.box b cs t]) := hb ▸ h.alloc cs t
theorem skip (h : Mem W w H) (o : Obj) : Mem W (w.alloc o) H := h.keep ((Held.refl w).alloc o)
theorem drew (h : Mem W w H) : Mem W w.drew H := h.keep (Held.refl w).drew
theorem put (h : Mem W w H) (i : Nat) {b : Nat} {cs : Array Value} {t : TypeId} (hi : H[i]? = some (.box b cs t)) (j : Nat) (v : Value) : Mem W (w.setCell ⟨b, j, none⟩ v) (H.set i (.box b (cs.setIfInBounds j v) t)) := by
  refine h.upd hi _ ((Below.refl 0 w).setCell (Nat.zero_le _) v) (fun b' _ hb' => Below.heap_setCell w _ _ _ (by simpa [Ck.box] using hb')) ?_ (fun b' hb' => .inl hb')
  have := h.get hi
  simp only [Ck.box] at this ⊢
  simp only [World.setCell]
  rw [Array.getElem?_modify, if_pos rfl, this]; rfl
theorem blk (h : Mem W w H) (i : Nat) {b : Nat} {cs : Array Value} {t : TypeId} (hi : H[i]? = some (.box b cs t)) : w.heap[b]? = some (.cells cs t (0, 0)) := h.get hi
theorem cell (h : Mem W w H) (i : Nat) {b : Nat} {cs : Array Value} {t : TypeId} (hi : H[i]? = some (.box b cs t)) (j : Nat) {v : Value} (hv : cs[j]? = some v) : w.cell? ⟨b, j, none⟩ = some v := by
  have := h.blk i hi
  simp [World.cell?, this, hv]
theorem free (h : Mem W w H) (i : Nat) {b : Nat} {cs : Array Value} {t : TypeId} (hi : H[i]? = some (.box b cs t)) (j : Nat) : w.frozen? ⟨b, j, none⟩ = false := by
  have := h.blk i hi
  simp [World.frozen?, this]
theorem lt (h : Mem W w H) (i : Nat) {b : Nat} {cs : Array Value} {t : TypeId} (hi : H[i]? = some (.box b cs t)) : b < w.heap.size := lt_of_heap (h.blk i hi)
theorem geb (h : Mem W w H) (i : Nat) {b : Nat} {cs : Array Value} {t : TypeId} (hi : H[i]? = some (.box b cs t)) : W.heap.size ≤ b := h.ge hi b (by simp [Ck.box])
section
variable {b : Nat} {t : TypeId} {x0 x1 x2 x3 x4 x5 x6 x7 : Value}
theorem box2 (h : Mem W w H) (i : Nat) (hi : H[i]? = some (.box b #[x0, x1] t)) : (w.cell? ⟨b, 0, none⟩ = some x0 ∧ w.cell? ⟨b, 1, none⟩ = some x1) ∧ (w.frozen? ⟨b, 0, none⟩ = false ∧ w.frozen? ⟨b, 1, none⟩ = false) ∧ b < w.heap.size := ⟨⟨h.cell i hi 0 rfl, h.cell i hi 1 rfl⟩, ⟨h.free i hi 0, h.free i hi 1⟩, h.lt i hi⟩
theorem box3 (h : Mem W w H) (i : Nat) (hi : H[i]? = some (.box b #[x0, x1, x2] t)) : (w.cell? ⟨b, 0, none⟩ = some x0 ∧ w.cell? ⟨b, 1, none⟩ = some x1 ∧ w.cell? ⟨b, 2, none⟩ = some x2) ∧ (w.frozen? ⟨b, 0, none⟩ = false ∧ w.frozen? ⟨b, 1, none⟩ = false ∧ w.frozen? ⟨b, 2, none⟩ = false) ∧ b < w.heap.size := ⟨⟨h.cell i hi 0 rfl, h.cell i hi 1 rfl, h.cell i hi 2 rfl⟩, ⟨h.free i hi 0, h.free i hi 1, h.free i hi 2⟩, h.lt i hi⟩
theorem box4 (h : Mem W w H) (i : Nat) (hi : H[i]? = some (.box b #[x0, x1, x2, x3] t)) : (w.cell? ⟨b, 0, none⟩ = some x0 ∧ w.cell? ⟨b, 1, none⟩ = some x1 ∧ w.cell? ⟨b, 2, none⟩ = some x2 ∧ w.cell? ⟨b, 3, none⟩ = some x3) ∧ (w.frozen? ⟨b, 0, none⟩ = false ∧ w.frozen? ⟨b, 1, none⟩ = false ∧ w.frozen? ⟨b, 2, none⟩ = false ∧ w.frozen? ⟨b, 3, none⟩ = false) ∧ b < w.heap.size := ⟨⟨h.cell i hi 0 rfl, h.cell i hi 1 rfl, h.cell i hi 2 rfl, h.cell i hi 3 rfl⟩, ⟨h.free i hi 0, h.free i hi 1, h.free i hi 2, h.free i hi 3⟩, h.lt i hi⟩
theorem box5 (h : Mem W w H) (i : Nat) (hi : H[i]? = some (.box b #[x0, x1, x2, x3, x4] t)) : (w.cell? ⟨b, 0, none⟩ = some x0 ∧ w.cell? ⟨b, 1, none⟩ = some x1 ∧ w.cell? ⟨b, 2, none⟩ = some x2 ∧ w.cell? ⟨b, 3, none⟩ = some x3 ∧ w.cell? ⟨b, 4, none⟩ = some x4) ∧ (w.frozen? ⟨b, 0, none⟩ = false ∧ w.frozen? ⟨b, 1, none⟩ = false ∧ w.frozen? ⟨b, 2, none⟩ = false ∧ w.frozen? ⟨b, 3, none⟩ = false ∧ w.frozen? ⟨b, 4, none⟩ = false) ∧ b < w.heap.size := ⟨⟨h.cell i hi 0 rfl, h.cell i hi 1 rfl, h.cell i hi 2 rfl, h.cell i hi 3 rfl, h.cell i hi 4 rfl⟩, ⟨h.free i hi 0, h.free i hi 1, h.free i hi 2, h.free i hi 3, h.free i hi 4⟩, h.lt i hi⟩
end
-- rows
section
variable {α : Type} {e : TypeId} {s : Nat} {f : α → List Value} {base : Nat}
theorem row (h : Mem W w H) (i : Nat) {v : Value} {L : List α} (hi : H[i]? = some (.row e s f base v L)) : Own e s f base w v L := h.get hi
/-- A row that a call has handed back. -/
theorem own (h : Mem W w H) (k : Held w w') {v : Value} {L : List α} (o : Own e s f w.heap.size w' v L) : Mem W w' (H ++ [.row e s f W.heap.size v L]) :=
  h.new k _ (Own.mono o h.le) (fun b hb => (World.ownsRow.lt o b (by simpa [Ck.row] using hb)).1)
theorem nilRow (h : Mem W w H) : Mem W w (H ++ [.row e s f W.heap.size (.slice none 0 0) []]) :=
  h.new (Held.refl w) _ (Own.nil w) (fun b hb => by simp [Ck.row, Value.ownBlock] at hb)
theorem putRow (h : Mem W w H) (i : Nat) {g n cap : Nat} {L : List α} (hi : H[i]? = some (.row e s f base (.slice (some ⟨g, 0, none⟩) n cap) L)) (hf : ∀ x, (f x).length = s) {k : Nat} (hk : k < L.length) {j : Nat} (hj : j < s) (u : Value) (x : α) (hx : f x = (f L[k]).set j u) :
    Mem W (w.setCell ⟨g, k * s + j, none⟩ u) (H.set i (.row e s f base (.slice (some ⟨g, 0, none⟩) n cap) (L.set k x))) := by
  refine h.upd hi _ ((Below.refl 0 w).setCell (Nat.zero_le _) u) (fun b' _ hb' => Below.heap_setCell w _ _ _ (by simpa [Ck.row, Value.ownBlock] using hb')) ?_ (fun b' hb' => .inl hb')
  exact Own.put hf (h.row i hi) hk hj u x hx
/-- An element of a row: its value, its cells. -/
theorem slot (h : Mem W w H) (i : Nat) {A : Option Addr} {n cap : Nat} {L : List α} (hi : H[i]? = some (.row e s f base (.slice A n cap) L)) (hf : ∀ x, (f x).length = s) (hs : 0 < s) {k : Nat} (hk : k < L.length) :
    ∃ g x, A = some ⟨g, 0, none⟩ ∧ W.heap.size ≤ g ∧ g < w.heap.size ∧ L[k]? = some x ∧ ∀ j, j < s → w.frozen? ⟨g, k * s + j, none⟩ = false ∧ ∀ v, (f x)[j]? = some v → w.cell? ⟨g, k * s + j, none⟩ = some v := by
  obtain ⟨g, hA, _, h2, h3⟩ := Own.slot hf (h.row i hi) hs hk
  exact ⟨g, L[k], hA, h.ge hi g (by simp [Ck.row, Value.ownBlock, hA]), h2, List.getElem?_eq_getElem hk, h3⟩
theorem putAt (h : Mem W w H) (i : Nat) {g n cap : Nat} {L : List α} (hi : H[i]? = some (.row e s f base (.slice (some ⟨g, 0, none⟩) n cap) L)) (hf : ∀ x, (f x).length = s) {k : Nat} {y : α} (hk : L[k]? = some y) {j : Nat} (hj : j < s) (u : Value) (x : α) (hx : f x = (f y).set j u) :
    Mem W (w.setCell ⟨g, k * s + j, none⟩ u) (H.set i (.row e s f base (.slice (some ⟨g, 0, none⟩) n cap) (L.set k x))) := by
  obtain ⟨hlt, rfl⟩ := List.getElem?_eq_some_iff.1 hk
  exact h.putRow i hi hf hlt hj u x hx
/-- What an append leaves. -/
theorem app (h : Mem W w H) (i : Nat) {v v' : Value} {L L' : List α} (hi : H[i]? = some (.row e s f base v L)) (hg : w.grownBy w' v.ownBlock) (ho : Own e s f base w' v' L') (hb : ∀ b, v'.ownBlock = some b → v.ownBlock = some b ∨ w.heap.size ≤ b) : Mem W w' (H.set i (.row e s f base v' L')) := by
  refine h.upd hi _ ⟨hg.os, hg.tape, hg.output, hg.size, fun k hk => by omega⟩ (fun b hlt hb' => hg.block b hlt (fun q => hb' (by simp [Ck.row, ← q]))) ho (fun b hb' => ?_)
  simp only [Ck.row, Option.mem_toList] at hb' ⊢
  exact hb b hb'
/-- A slice that make lays. -/
theorem wp_make (h : Mem W w H) {P : Program} {ops : Array Oper} {rest : List Oper} {o : Oper} {a : Act} {Q : Exit → Act → World → Prop} (hgd : o.guard = none) (l c : Operand) (t : TypeId) (hop : o.op = Op.makeSlice t l c)
    (z : Value) (bytes : Nat) (ht : P.underlying t = some (.slice e)) (hinfo : (P.info? e).map (fun i => (i.zero, i.size, i.bytes)) = some (some z, s, bytes)) (x0 : α) (hs0 : 0 < s) (hf : ∀ x, (f x).length = s) (hz : z.cells.toList = f x0)
    (kl kc : IntKind) (LL C : Int) (n : Nat) (hl : a.eval l = .int kl LL) (hc : a.eval c = .int kc C) (hL : LL = (n : Int)) (hC : C = (n : Int)) (hb : bytes * n ≤ 281474976710656) (hm : n ≤ maxLen)
    (k : ∀ w', Mem W w' (H ++ [.row e s f W.heap.size (.slice (some ⟨w.heap.size, 0, none⟩) n n) (List.replicate n x0)]) → Held w w' → wpList P ops Q rest (a.put o.dst (.slice (some ⟨w.heap.size, 0, none⟩) n n)) w') :
    wpList P ops Q (o :: rest) a w := by
  obtain ⟨i0, hi, hz0, hz1, hz2⟩ := info_parts hinfo
  refine wpList_make_full w hgd l c t hop w.heap.size e i0 z s ht hi hz0 hz1 kl kc LL C n hl hc hL hC (by rw [hz2]; exact hb) hm (Nat.le_refl _) ?_
  intro w' h1 h2
  have hh : Held w w' := ⟨h2.os, h2.tape, h2.output, h2.size, fun k hk => h2.block k hk (by simp)⟩
  refine k w' (h.own hh ?_) hh
  unfold Own
  rw [List.length_replicate, ← made_flat hf hs0 x0 z hz n]
  exact h1
/-- An append of one element to a row of the call's own. -/
theorem wp_app (h : Mem W w H) (i : Nat) {v : Value} {L : List α} (hi : H[i]? = some (.row e s f W.heap.size v L)) {P : Program} {ops : Array Oper} {rest : List Oper} {o : Oper} {a : Act} {Q : Exit → Act → World → Prop} (hgd : o.guard = none) (sl x : Operand) (t : TypeId)
    (ho : o.op = .call { callee := .builtin .append, args := #[sl, x], argTypes := #[t, t] }) (z : Value) (bytes : Nat) (ht : P.underlying t = some (.slice e)) (hinfo : (P.info? e).map (fun i => (i.zero, i.size, i.bytes)) = some (some z, s, bytes))
    (hzs : z.cells.size = s) (hs0 : 0 < s) (hf : ∀ x, (f x).length = s) (hf1 : ∀ x, ∀ u ∈ f x, u.oneCell' = true) (d : α) (ad : Addr) (c : Nat)
    (hs : a.eval sl = v) (hx : a.eval x = .slice (some ad) 1 c) (hnews : ∀ j u, (f d)[j]? = some u → w.cell? (ad.add j) = some u)
    (n : Nat) (hn : L.length = n) (hb : (n + 1) * bytes ≤ 140737488355328) (hb1 : 1 ≤ bytes)
    (k : ∀ g cap w', Mem W w' (H.set i (.row e s f W.heap.size (.slice (some ⟨g, 0, none⟩) (n + 1) cap) (L ++ [d]))) → wpList P ops Q rest (a.put o.dst (.slice (some ⟨g, 0, none⟩) (n + 1) cap)) w') :
    wpList P ops Q (o :: rest) a w := by
  subst hn
  refine Own.app w hgd sl x t ho z bytes ht hinfo hzs hs0 hf hf1 W.heap.size v L d ad c hs (h.row i hi) hx hnews hb hb1 h.le ?_
  intro g cap w' h1 h2 h3 h4
  refine k g cap w' (h.app i hi h2 h1 (fun b hb' => ?_))
  simp only [Value.ownBlock] at hb'
  injection hb' with hb'
  subst hb'
  rcases h3 with h3 | h3
  · exact .inl h3
  · exact .inr (by omega)
end
end Mem
end Go.Proofs.YtdacgdokbfcgdaaGreat

namespace Go.Proofs.YtdacgdokbfcgdaaGreat
open Go.RowKit
namespace Mem
variable {W w w' : World} {H : List Ck}
/-- Some of the pieces, in another order. -/
theorem pick (h : Mem W w H) (is : List Nat) (hd : is.Nodup) {H' : List Ck} (hH : is.map (fun i => H[i]?) = H'.map some) : Mem W w H' := by
  have hlen : is.length = H'.length := by have := congrArg List.length hH; simpa using this
  have hat : ∀ p (h1 : p < is.length) (h2 : p < H'.length), H[is[p]]? = some H'[p] := fun p h1 h2 => by
    have := congrArg (fun l => l[p]?) hH
    simp only [List.getElem?_map, List.getElem?_eq_getElem h1, List.getElem?_eq_getElem h2, Option.map_some] at this
    injection this
  refine ⟨h.held, fun c hc => ?_, List.pairwise_iff_getElem.2 fun p q hp hq hpq => ?_⟩
  · obtain ⟨p, hp, rfl⟩ := List.mem_iff_getElem.1 hc
    have := hat p (by omega) hp
    exact ⟨h.get this, h.ge this⟩
  · refine h.apart (hat p (by omega) hp) (hat q (by omega) hq) fun e => ?_
    have := List.pairwise_iff_getElem.1 hd p q (by omega) (by omega) hpq
    exact this e
end Mem
end Go.Proofs.YtdacgdokbfcgdaaGreat

namespace Go.Proofs.YtdacgdokbfcgdaaGreat
open Go.RowKit
namespace Mem
variable {W w w' : World} {H : List Ck}
section
variable {α : Type} {e : TypeId} {s : Nat} {f : α → List Value}
theorem emptyRow (h : Mem W w H) {b : Nat} (hb : w.heap.size = b) : Mem W (w.alloc (.cells #[] e)) (H ++ [.row e s f W.heap.size (.slice (some ⟨b, 0, none⟩) 0 0) ([] : List α)]) := by
  subst hb
  exact h.own ((Held.refl w).alloc _) (Own.empty (Nat.le_refl _))
theorem app_run (h : Mem W w H) (i : Nat) {v : Value} {L : List α} (hi : H[i]? = some (.row e s f W.heap.size v L)) {P : Program} (ty t : TypeId) (z : Value) (bytes : Nat) (ht : P.underlying t = some (.slice e)) (hinfo : (P.info? e).map (fun i => (i.zero, i.size, i.bytes)) = some (some z, s, bytes))
    (hzs : z.cells.size = s) (hs0 : 0 < s) (hf : ∀ x, (f x).length = s) (hf1 : ∀ x, ∀ u ∈ f x, u.oneCell' = true) (M : List α) (ad : Addr) (m c : Nat)
    (hm : M.length = m) (hm0 : 0 < m) (hnews : ∀ j u, (M.flatMap f)[j]? = some u → w.cell? (ad.add j) = some u)
    (n : Nat) (hn : L.length = n) (hb : (n + m) * bytes ≤ 140737488355328) (hb1 : 1 ≤ bytes) :
    ∃ g cap w', (Builtin.append_ #[t, t] ty #[v, .slice (some ad) m c]).run P w = .ok (.slice (some ⟨g, 0, none⟩) (n + m) cap) w' ∧ Mem W w' (H.set i (.row e s f W.heap.size (.slice (some ⟨g, 0, none⟩) (n + m) cap) (L ++ M))) := by
  subst hn hm
  obtain ⟨i0, hi0, hz0, hz1, hz2⟩ := info_parts hinfo
  have hlen : L.length + M.length ≤ 140737488355328 := Nat.le_trans (Nat.le_mul_of_pos_right _ hb1) hb
  obtain ⟨g, cap, w', hr, h2, h3, h4, h5⟩ := run_append_lies (P := P) w t ty W.heap.size e i0 z s bytes ht hi0 hz0 hz1 hz2 hzs hs0 v L.length (L.flatMap f) (h.row i hi) ad M.length c (M.flatMap f) (flat_len hf M) hnews (fun u hu => by
    rw [List.mem_flatMap] at hu
    obtain ⟨y, _, hy⟩ := hu
    exact hf1 y u hy) hm0 (by unfold maxLen; omega) hb h.le w.heap.size rfl
  refine ⟨g, cap, w', hr, h.app i hi h3 ?_ (fun b hb' => ?_)⟩
  · unfold Own
    rw [List.flatMap_append, List.length_append]
    exact h2
  · simp only [Value.ownBlock] at hb'
    injection hb' with hb'
    subst hb'
    exact h4.imp id (fun h => by omega)
/-- Append of a list, at a step of a region that draws its order. -/
theorem step_apps (h : Mem W w H) (i : Nat) {v : Value} {L : List α} (hi : H[i]? = some (.row e s f W.heap.size v L)) {P : Program} {ops : Array Oper} {o : Oper} {a : Act} {K : Act → World → Prop} {Q : Exit → Act → World → Prop} {E : Prop} (hgd : o.guard = none) (sl x : Operand) (t : TypeId)
    (ho : o.op = .call { callee := .builtin .append, args := #[sl, x], argTypes := #[t, t] }) (z : Value) (bytes : Nat) (ht : P.underlying t = some (.slice e)) (hinfo : (P.info? e).map (fun i => (i.zero, i.size, i.bytes)) = some (some z, s, bytes))
    (hzs : z.cells.size = s) (hs0 : 0 < s) (hf : ∀ x, (f x).length = s) (hf1 : ∀ x, ∀ u ∈ f x, u.oneCell' = true) (M : List α) (ad : Addr) (m c : Nat)
    (hs : a.eval sl = v) (hx : a.eval x = .slice (some ad) m c) (hm : M.length = m) (hm0 : 0 < m) (hnews : ∀ j u, (M.flatMap f)[j]? = some u → w.cell? (ad.add j) = some u)
    (n : Nat) (hn : L.length = n) (hb : (n + m) * bytes ≤ 140737488355328) (hb1 : 1 ≤ bytes)
    (k : ∀ g cap w', Mem W w' (H.set i (.row e s f W.heap.size (.slice (some ⟨g, 0, none⟩) (n + m) cap) (L ++ M))) → K (a.put o.dst (.slice (some ⟨g, 0, none⟩) (n + m) cap)) w') :
    if Region.wanted o (yielded ops a.tmps) = true then Oper.wp P o a w K Q else E := by
  have hw : Region.wanted o (yielded ops a.tmps) = true := by simp [Region.wanted, hgd]
  rw [if_pos hw]
  obtain ⟨g, cap, w', hr, hM⟩ := h.app_run i hi (P := P) o.type t z bytes ht hinfo hzs hs0 hf hf1 M ad m c hm hm0 hnews n hn hb hb1
  unfold Oper.wp execOp
  simp only [ho, resolve, invoke, builtin, Sem.run_bind, Sem.run_pure, Result.andThen_ok, List.map_toArray, List.map_cons, List.map_nil, hs, hx, hr]
  exact k g cap w' hM
/-- Append of a list. -/
theorem wp_apps (h : Mem W w H) (i : Nat) {v : Value} {L : List α} (hi : H[i]? = some (.row e s f W.heap.size v L)) {P : Program} {ops : Array Oper} {rest : List Oper} {o : Oper} {a : Act} {Q : Exit → Act → World → Prop} (hgd : o.guard = none) (sl x : Operand) (t : TypeId)
    (ho : o.op = .call { callee := .builtin .append, args := #[sl, x], argTypes := #[t, t] }) (z : Value) (bytes : Nat) (ht : P.underlying t = some (.slice e)) (hinfo : (P.info? e).map (fun i => (i.zero, i.size, i.bytes)) = some (some z, s, bytes))
    (hzs : z.cells.size = s) (hs0 : 0 < s) (hf : ∀ x, (f x).length = s) (hf1 : ∀ x, ∀ u ∈ f x, u.oneCell' = true) (M : List α) (ad : Addr) (m c : Nat)
    (hs : a.eval sl = v) (hx : a.eval x = .slice (some ad) m c) (hm : M.length = m) (hm0 : 0 < m) (hnews : ∀ j u, (M.flatMap f)[j]? = some u → w.cell? (ad.add j) = some u)
    (n : Nat) (hn : L.length = n) (hb : (n + m) * bytes ≤ 140737488355328) (hb1 : 1 ≤ bytes)
    (k : ∀ g cap w', Mem W w' (H.set i (.row e s f W.heap.size (.slice (some ⟨g, 0, none⟩) (n + m) cap) (L ++ M))) → wpList P ops Q rest (a.put o.dst (.slice (some ⟨g, 0, none⟩) (n + m) cap)) w') :
    wpList P ops Q (o :: rest) a w := by
  refine wpList_plain hgd fun K hK => ?_
  obtain ⟨g, cap, w', hr, hM⟩ := h.app_run i hi (P := P) o.type t z bytes ht hinfo hzs hs0 hf hf1 M ad m c hm hm0 hnews n hn hb hb1
  unfold Oper.wp execOp
  simp only [ho, resolve, invoke, builtin, Sem.run_bind, Sem.run_pure, Result.andThen_ok, List.map_toArray, List.map_cons, List.map_nil, hs, hx, hr]
  exact hK _ _ (k g cap w' hM)
end
end Mem
end Go.Proofs.YtdacgdokbfcgdaaGreat

namespace Go.Proofs.YtdacgdokbfcgdaaGreat
open Go.RowKit
namespace Mem
variable {W w w' : World} {H : List Ck} {α : Type} {e : TypeId} {s : Nat} {f : α → List Value}
end Mem
end Go.Proofs.YtdacgdokbfcgdaaGreat

namespace Go.Proofs.YtdacgdokbfcgdaaGreat
open Go.RowKit
namespace Mem
variable {W w w' : World} {H : List Ck} {α : Type} {e : TypeId} {s : Nat} {f : α → List Value}
/-- Append of a list, wherever it lies. -/
theorem cat_run (h : Mem W w H) (i : Nat) {A0 : Option Addr} {n cap0 : Nat} {L : List α} (hi : H[i]? = some (.row e s f W.heap.size (.slice A0 n cap0) L)) {P : Program} (ty t : TypeId) (z : Value) (bytes : Nat) (ht : P.underlying t = some (.slice e)) (hinfo : (P.info? e).map (fun i => (i.zero, i.size, i.bytes)) = some (some z, s, bytes))
    (hzs : z.cells.size = s) (hs0 : 0 < s) (hf : ∀ x, (f x).length = s) (hf1 : ∀ x, ∀ u ∈ f x, u.oneCell' = true) (M : List α) (A : Option Addr) (m c : Nat) (hsl : Sl s f w A m M) (hn : L.length = n) (hb : (n + m) * bytes ≤ 140737488355328) (hb1 : 1 ≤ bytes) :
    ∃ A' cap' w', (Builtin.append_ #[t, t] ty #[.slice A0 n cap0, .slice A m c]).run P w = .ok (.slice A' (n + m) cap') w' ∧ Mem W w' (H.set i (.row e s f W.heap.size (.slice A' (n + m) cap') (L ++ M))) ∧ (A' = none → A0 = none) := by
  by_cases hm : m = 0
  · subst hm
    obtain ⟨i0, hi0, hz0, hz1, hz2⟩ := info_parts hinfo
    have hM : M = [] := List.eq_nil_of_length_eq_zero hsl.1
    subst hM
    have hsrc : Src P i0.size t (.slice A 0 c) 0 [] w := by
      cases A with
      | none => exact Src.ofNil w ht c
      | some ad => exact Src.ofSlice w ht ad 0 c [] (by simp) (by simp) (by simp)
    refine ⟨A0, cap0, w, run_append_nothing w t t ty e i0 ht hi0 A0 n cap0 (Own.cap (h.row i hi)) _ hsrc, ?_, id⟩
    rw [List.append_nil]
    obtain ⟨li, hli⟩ := List.getElem?_eq_some_iff.1 hi
    have : H.set i (.row e s f W.heap.size (.slice A0 (n + 0) cap0) L) = H := by
      rw [Nat.add_zero, ← hli]; exact List.set_getElem_self li
    rw [this]; exact h
  · rcases hsl.2 with h0 | ⟨b, off, rfl, hlt, hc⟩
    · exact absurd h0 hm
    · obtain ⟨g, cap, w', hr, hM⟩ := h.app_run i hi (P := P) ty t z bytes ht hinfo hzs hs0 hf hf1 M ⟨b, off, none⟩ m c hsl.1 (by omega) (Sl.flat hf hs0 hsl) n hn hb hb1
      exact ⟨_, cap, w', hr, hM, fun h => by cases h⟩
theorem wp_cat (h : Mem W w H) (i : Nat) {A0 : Option Addr} {n cap0 : Nat} {L : List α} (hi : H[i]? = some (.row e s f W.heap.size (.slice A0 n cap0) L)) {P : Program} {ops : Array Oper} {rest : List Oper} {o : Oper} {a : Act} {Q : Exit → Act → World → Prop} (hgd : o.guard = none) (sl x : Operand) (t : TypeId)
    (ho : o.op = .call { callee := .builtin .append, args := #[sl, x], argTypes := #[t, t] }) (z : Value) (bytes : Nat) (ht : P.underlying t = some (.slice e)) (hinfo : (P.info? e).map (fun i => (i.zero, i.size, i.bytes)) = some (some z, s, bytes))
    (hzs : z.cells.size = s) (hs0 : 0 < s) (hf : ∀ x, (f x).length = s) (hf1 : ∀ x, ∀ u ∈ f x, u.oneCell' = true) (M : List α) (A : Option Addr) (m c : Nat)
    (hs : a.eval sl = .slice A0 n cap0) (hx : a.eval x = .slice A m c) (hsl : Sl s f w A m M) (hn : L.length = n) (hb : (n + m) * bytes ≤ 140737488355328) (hb1 : 1 ≤ bytes)
    (k : ∀ A' cap' w', Mem W w' (H.set i (.row e s f W.heap.size (.slice A' (n + m) cap') (L ++ M))) → (A' = none → A0 = none) → wpList P ops Q rest (a.put o.dst (.slice A' (n + m) cap')) w') :
    wpList P ops Q (o :: rest) a w := by
  refine wpList_plain hgd fun K hK => ?_
  obtain ⟨A', cap', w', hr, hM, hA⟩ := h.cat_run i hi (P := P) o.type t z bytes ht hinfo hzs hs0 hf hf1 M A m c hsl hn hb hb1
  unfold Oper.wp execOp
  simp only [ho, resolve, invoke, builtin, Sem.run_bind, Sem.run_pure, Result.andThen_ok, List.map_toArray, List.map_cons, List.map_nil, hs, hx, hr]
  exact hK _ _ (k A' cap' w' hM hA)
end Mem
end Go.Proofs.YtdacgdokbfcgdaaGreat

namespace Go.Proofs.YtdacgdokbfcgdaaGreat.Sg
open Go Go.RowKit
set_option linter.unusedVariables false
/-- What a list of cells is with news laid from o on. -/
def lay (C : List Value) (o : Nat) (news : List Value) : List Value := C.take o ++ news ++ C.drop (o + news.length)
/-- Block g holds the cells C, all of them; nothing else has turned since w0. -/
structure Row (e : TypeId) (w0 : World) (g : Nat) (C : List Value) (w : World) : Prop where
  blk : w.heap[g]? = some (.cells C.toArray e (0, 0))
  os : w.os = w0.os
  tape : w.tape = w0.tape
  output : w.output = w0.output
  size : w0.heap.size ≤ w.heap.size
  rest : ∀ k, k < w0.heap.size → k ≠ g → w.heap[k]? = w0.heap[k]?
theorem Row.start {e : TypeId} {w : World} {g : Nat} {cur : Array Value} (h : w.heap[g]? = some (.cells cur e (0, 0))) : Row e w g cur.toList w :=
  ⟨by simpa using h, rfl, rfl, rfl, Nat.le_refl _, fun _ _ _ => rfl⟩
theorem Row.drew {e : TypeId} {w0 w : World} {g : Nat} {C : List Value} (h : Row e w0 g C w) : Row e w0 g C w.drew := ⟨h.blk, h.os, h.tape, h.output, h.size, h.rest⟩
theorem Row.drewN {e : TypeId} {w0 w : World} {g : Nat} {C : List Value} (h : Row e w0 g C w) (n : Nat) : Row e w0 g C (w.drewN n) := by
  cases n with
  | zero => exact h
  | succ n => exact ⟨h.blk, h.os, h.tape, h.output, h.size, h.rest⟩
theorem Row.put {e : TypeId} {w0 w : World} {g : Nat} {C : List Value} (h : Row e w0 g C w) (C' : List Value) : Row e w0 g C' (w.setRow g C'.toArray) :=
  ⟨setRow_heap w g _ _ e _ h.blk, h.os, h.tape, h.output, by have := h.size; simp [World.setRow]; exact this, fun k hk hne => (setRow_other w g k _ hne).trans (h.rest k hk hne)⟩
theorem Row.cell {e : TypeId} {w0 w : World} {g : Nat} {C : List Value} (h : Row e w0 g C w) (j : Nat) : w.cell? ⟨g, j, none⟩ = C[j]? := by
  simp [World.cell?, h.blk]
section
variable {P : Program}
end
theorem Row.lt {e : TypeId} {w0 w : World} {g : Nat} {C : List Value} (h : Row e w0 g C w) : g < w.heap.size := (Array.getElem?_eq_some_iff.1 h.blk).1
theorem Row.grown {e : TypeId} {w0 w : World} {g : Nat} {C : List Value} (h : Row e w0 g C w) : w0.grownBy w (some g) :=
  ⟨h.os, h.tape, h.output, h.size, fun k hk hne => h.rest k hk (fun e => hne (by rw [e]))⟩
section
variable {P : Program} {ops : Array Oper} {rest : List Oper} {o : Oper} {a : Act} {w : World} {K : Act → World → Prop} {Q : Exit → Act → World → Prop} {E : Prop}
theorem list_append (hgd : o.guard = none) (s x : Operand) (t u ty : TypeId) (ho : o.op = .call { callee := .builtin .append, args := #[s, x], argTypes := #[t, u] }) (hty : o.type = ty) {v y v' : Value} {w' : World} (hs : a.eval s = v) (hx : a.eval x = y)
    (hr : (Builtin.append_ #[t, u] ty #[v, y]).run P w = .ok v' w') (h : wpList P ops Q rest (a.put o.dst v') w') : wpList P ops Q (o :: rest) a w := by
  refine wpList_plain hgd fun K hK => ?_
  subst hty
  unfold Oper.wp execOp
  simp only [ho, resolve, invoke, builtin, Sem.run_bind, Sem.run_pure, Result.andThen_ok, List.map_toArray, List.map_cons, List.map_nil, hs, hx, hr]
  exact hK _ _ h
/-- 's[j:]', whatever the capacity. -/
theorem slice_from {P : Program} {t e : TypeId} {i0 : TypeInfo} (ht : P.underlying t = some (.slice e)) (hi : P.info? e = some i0) {s : Nat} (hs : i0.size = s) (g o n cap j : Nat) (hj : j ≤ n) (hn : n ≤ cap) (w : World) :
    (Instr.slice t (.slice (some ⟨g, o, none⟩) n cap) (some (.int .i64 j)) none none).run P w = .ok (.slice (some (if cap = j then (⟨g, o, none⟩ : Addr) else ⟨g, o + j * s, none⟩)) (n - j) (cap - j)) w := by
  subst hs
  have h1 : (j : Int) ≤ n := by omega
  by_cases hc : cap = j
  · simp [Instr.slice, run_underlying ht, Instr.sliceBounds, Instr.sliceBound, asIntOf, sizeOf, typeInfo, hi, hc]
    intro h9; omega
  · simp [Instr.slice, run_underlying ht, Instr.sliceBounds, Instr.sliceBound, asIntOf, sizeOf, typeInfo, hi, hc, addr_add]
    intro h9; omega
end
section
variable {α : Type} {e : TypeId} {s : Nat} {f : α → List Value} {base : Nat} {w : World} {L : List α}
/-- What a function leaves that turns a slice of the call's own. -/
def Got (e : TypeId) (s : Nat) (f : α → List Value) (base : Nat) (v : Value) (M : List α) (w : World) (r : Ending) (w' : World) : Prop :=
  ∃ v', r = .returned v' ∧ Own e s f base w' v' M ∧ w.grownBy w' v.ownBlock ∧ (v'.ownBlock = v.ownBlock ∨ ∃ g, v'.ownBlock = some g ∧ w.heap.size ≤ g)
theorem Got.mk {v v' : Value} {M : List α} {w' : World} (h : Own e s f base w' v' M) (hg : w.grownBy w' v.ownBlock) (hb : v'.ownBlock = v.ownBlock ∨ ∃ g, v'.ownBlock = some g ∧ w.heap.size ≤ g) : Got e s f base v M w (.returned v') w' := ⟨v', rfl, h, hg, hb⟩
/-- From w to w' only the block of the slice v was written; v' lies there or in a new block. -/
structure Kp (w : World) (v : Value) (w' : World) (v' : Value) : Prop where
  os : w'.os = w.os
  tape : w'.tape = w.tape
  output : w'.output = w.output
  size : w.heap.size ≤ w'.heap.size
  rest : ∀ b, b < w.heap.size → some b ≠ v.ownBlock → w'.heap[b]? = w.heap[b]?
  moved : ∀ g, v'.ownBlock = some g → v.ownBlock = some g ∨ w.heap.size ≤ g
theorem Kp.held {w w' : World} (v : Value) (h : Held w w') : Kp w v w' v := ⟨h.os, h.tape, h.output, h.size, fun b hb _ => h.block b hb, fun g hg => .inl hg⟩
theorem Kp.trans {a b c : World} {u v x : Value} (h : Kp a u b v) (k : Kp b v c x) : Kp a u c x := by
  refine ⟨k.os.trans h.os, k.tape.trans h.tape, k.output.trans h.output, Nat.le_trans h.size k.size, fun q hq hne => ?_, fun g hg => ?_⟩
  · rw [k.rest q (Nat.lt_of_lt_of_le hq h.size) (fun e => ?_), h.rest q hq hne]
    rcases h.moved q e.symm with h1 | h1
    · exact hne h1.symm
    · omega
  · rcases k.moved g hg with h1 | h1
    · exact h.moved g h1
    · exact .inr (Nat.le_trans h.size h1)
theorem Kp.grown {w w' : World} {v v' : Value} (hg : w.grownBy w' v.ownBlock) (hb : v'.ownBlock = v.ownBlock ∨ ∃ g, v'.ownBlock = some g ∧ w.heap.size ≤ g) : Kp w v w' v' := by
  refine ⟨hg.os, hg.tape, hg.output, hg.size, fun b hb hne => hg.block b hb hne, fun g hg' => ?_⟩
  rcases hb with h1 | ⟨g2, h1, h2⟩
  · exact .inl (h1 ▸ hg')
  · rw [h1] at hg'; injection hg' with hg'; exact .inr (hg' ▸ h2)
/-- What a function leaves that makes a slice. -/
def New (e : TypeId) (s : Nat) (f : α → List Value) (M : List α) (w : World) (r : Ending) (w' : World) : Prop := ∃ v', r = .returned v' ∧ Own e s f w.heap.size w' v' M ∧ Held w w'
theorem New.mk {v' : Value} {M : List α} {w' : World} (h : Own e s f w.heap.size w' v' M) (hg : Held w w') : New e s f M w (.returned v') w' := ⟨v', rfl, h, hg⟩
end
end Go.Proofs.YtdacgdokbfcgdaaGreat.Sg

namespace Go.Proofs.YtdacgdokbfcgdaaGreat
open Go.RowKit
namespace Mem
variable {W w w' : World} {H : List Ck}
theorem permut {H' : List Ck} (h : Mem W w H) (p : H.Perm H') : Mem W w H' :=
  ⟨h.held, fun c hc => h.ok c (p.mem_iff.2 hc), (p.pairwise_iff (fun {x y} hxy b hb hb' => hxy b hb' hb)).1 h.sep⟩
theorem toFront {c : Ck} (h : Mem W w (H ++ [c])) : Mem W w (c :: H) := h.permut (List.perm_append_comm (l₁ := H) (l₂ := [c]))
theorem rest {c : Ck} (h : Mem W w (c :: H)) : Mem W w H := h.sub (List.sublist_cons_self c H)
/-- A new box, in front. -/
theorem allocF (h : Mem W w H) {b : Nat} (hb : w.heap.size = b) (cs : Array Value) (t : TypeId) : Mem W (w.alloc (.cells cs t)) (.box b cs t :: H) := (h.alloc' hb cs t).toFront
/-- A row that a call has handed back, in front. -/
theorem ownF {α : Type} {e : TypeId} {s : Nat} {f : α → List Value} (h : Mem W w H) (k : Held w w') {v : Value} {L : List α} (o : Own e s f w.heap.size w' v L) : Mem W w' (.row e s f W.heap.size v L :: H) := (h.own k o).toFront
end Mem
end Go.Proofs.YtdacgdokbfcgdaaGreat

namespace Go.Proofs.YtdacgdokbfcgdaaGreat
open Go.RowKit Go.Lib
theorem Tyc.grown_set (w : World) (q j : Nat) (v : Value) : w.grownBy (w.setCell ⟨q, j, none⟩ v) (some q) :=
  ⟨rfl, rfl, rfl, by simp [World.setCell], fun k hk hne => by simp [World.setCell, Array.getElem?_modify]; intro e; exact absurd (by rw [e]) hne⟩
/-- What an append, a store leaves: what block may have changed, of what type it was. -/
def Chg (T : TypeId) (B : Nat) (w w' : World) (g : Option Nat) : Prop := w.grownBy w' g ∧ ∀ c, g = some c → B ≤ c ∧ ∃ cs T' z, w.heap[c]? = some (.cells cs T' z) ∧ T' ≠ T
theorem Own.blk {α : Type} {e : TypeId} {s : Nat} {f : α → List Value} {base : Nat} {w : World} {v : Value} {L : List α} (h : Own e s f base w v L) {g : Nat} (hg : v.ownBlock = some g) : base ≤ g ∧ ∃ cs, w.heap[g]? = some (.cells cs e (0, 0)) := by
  rcases h.2 with ⟨rfl, h0⟩ | ⟨g', cp, cur, rfl, q1, q2, _⟩
  · simp [Value.ownBlock] at hg
  · simp only [Value.ownBlock] at hg
    injection hg with hg
    subst hg
    exact ⟨q1, _, q2⟩
theorem Chg.own {α : Type} {T e : TypeId} {s : Nat} {f : α → List Value} {base B : Nat} {w w' : World} {v : Value} {L : List α} (h : Own e s f base w v L) (hT : e ≠ T) (hB : B ≤ base) (hg : w.grownBy w' v.ownBlock) : Chg T B w w' v.ownBlock :=
  ⟨hg, fun c hc => ⟨Nat.le_trans hB (h.blk hc).1, let ⟨cs, q⟩ := (h.blk hc).2; ⟨cs, e, (0, 0), q, hT⟩⟩⟩
theorem Chg.put {T T' : TypeId} {B c : Nat} {w : World} {cs : Array Value} {z : Nat × Nat} (h : w.heap[c]? = some (.cells cs T' z)) (hT : T' ≠ T) (hB : B ≤ c) (j : Nat) (v : Value) : Chg T B w (w.setCell ⟨c, j, none⟩ v) (some c) :=
  ⟨Tyc.grown_set _ _ _ _, fun c' hc => by injection hc with hc; subst hc; exact ⟨hB, cs, T', z, h, hT⟩⟩
/-- What a slice reads lies in a block older than B, or in one of type T. -/
def Ty (T : TypeId) (B : Nat) (w : World) (A : Option Addr) (n : Nat) : Prop := n = 0 ∨ ∀ a, A = some a → a.block < B ∨ ∃ cs z, w.heap[a.block]? = some (.cells cs T z)
theorem Ty.held {T : TypeId} {B : Nat} {w w' : World} {A : Option Addr} {n : Nat} (h : Ty T B w A n) (k : Held w w') : Ty T B w' A n :=
  h.imp id fun h a ha => (h a ha).imp id fun ⟨cs, z, q⟩ => ⟨cs, z, (k.block _ (Array.getElem?_eq_some_iff.1 q).1).trans q⟩
theorem Ty.own {α : Type} {T : TypeId} {s : Nat} {f : α → List Value} {base B : Nat} {w : World} {A : Option Addr} {n cap : Nat} {L : List α} (h : Own T s f base w (.slice A n cap) L) : Ty T B w A n := by
  rcases h.2 with ⟨he, h0⟩ | ⟨g', cp, cur, he, q1, q2, _⟩
  · injection he with _ he; exact .inl he
  · injection he with he
    refine .inr fun a ha => .inr ?_
    rw [he] at ha
    injection ha with ha
    subst ha
    exact ⟨_, _, q2⟩
theorem Ty.old {T : TypeId} {B : Nat} {w : World} {A : Option Addr} {n : Nat} (h : ∀ a, A = some a → a.block < B) : Ty T B w A n := .inr fun a ha => .inl (h a ha)
theorem Ty.chg {T : TypeId} {B : Nat} {w w' : World} {A : Option Addr} {n : Nat} {g : Option Nat} (h : Ty T B w A n) (k : Chg T B w w' g) : Ty T B w' A n := by
  refine h.imp id fun h a ha => (h a ha).imp id ?_
  rintro ⟨cs, z, q⟩
  refine ⟨cs, z, ?_⟩
  rw [k.1.block _ (Array.getElem?_eq_some_iff.1 q).1 ?_]; exact q
  intro e
  obtain ⟨_, cs', T', z', q', hT⟩ := k.2 _ (by first | exact e | exact e.symm)
  rw [q] at q'
  injection q' with q'
  injection q' with _ q' _
  exact hT q'.symm
theorem Sl.chg {α : Type} {s : Nat} {f : α → List Value} {T : TypeId} {B : Nat} {w w' : World} {A : Option Addr} {n : Nat} {L : List α} (h : Sl s f w A n L) (ht : Ty T B w A n) {g : Option Nat} (k : Chg T B w w' g) : Sl s f w' A n L := by
  refine ⟨h.1, ?_⟩
  rcases h.2 with h0 | ⟨b, off, rfl, hb, hc⟩
  · exact .inl h0
  · rcases ht with h0 | ht
    · exact .inl h0
    · refine .inr ⟨b, off, rfl, Nat.lt_of_lt_of_le hb k.1.size, fun i hi j v hv => ?_⟩
      have hne : w'.heap[b]? = w.heap[b]? := by
        refine k.1.block b hb fun e => ?_
        obtain ⟨hB, cs', T', z', q', hT⟩ := k.2 b (by first | exact e | exact e.symm)
        rcases ht _ rfl with h1 | ⟨cs, z, q⟩
        · simp only at h1; omega
        · simp only at q
          rw [q] at q'
          injection q' with q'
          injection q' with _ q' _
          exact hT q'.symm
      have h2 := hc i hi j v hv
      simp only [World.cell?, hne] at h2 ⊢
      exact h2
namespace Mem
variable {W w : World} {H : List Ck} {α : Type} {e : TypeId} {s : Nat} {f : α → List Value}
/-- An append of one element; it tells what grew. -/
theorem wp_appC (h : Mem W w H) (i : Nat) {v : Value} {L : List α} (hi : H[i]? = some (.row e s f W.heap.size v L)) {P : Program} {ops : Array Oper} {rest : List Oper} {o : Oper} {a : Act} {Q : Exit → Act → World → Prop} (hgd : o.guard = none) (sl x : Operand) (t : TypeId)
    (ho : o.op = .call { callee := .builtin .append, args := #[sl, x], argTypes := #[t, t] }) (z : Value) (bytes : Nat) (ht : P.underlying t = some (.slice e)) (hinfo : (P.info? e).map (fun i => (i.zero, i.size, i.bytes)) = some (some z, s, bytes))
    (hzs : z.cells.size = s) (hs0 : 0 < s) (hf : ∀ x, (f x).length = s) (hf1 : ∀ x, ∀ u ∈ f x, u.oneCell' = true) (d : α) (ad : Addr) (c : Nat)
    (hs : a.eval sl = v) (hx : a.eval x = .slice (some ad) 1 c) (hnews : ∀ j u, (f d)[j]? = some u → w.cell? (ad.add j) = some u)
    (n : Nat) (hn : L.length = n) (hb : (n + 1) * bytes ≤ 140737488355328) (hb1 : 1 ≤ bytes)
    (k : ∀ g cap w', Mem W w' (H.set i (.row e s f W.heap.size (.slice (some ⟨g, 0, none⟩) (n + 1) cap) (L ++ [d]))) → (∀ T B, e ≠ T → B ≤ W.heap.size → Chg T B w w' v.ownBlock) → wpList P ops Q rest (a.put o.dst (.slice (some ⟨g, 0, none⟩) (n + 1) cap)) w') :
    wpList P ops Q (o :: rest) a w := by
  subst hn
  refine Own.app w hgd sl x t ho z bytes ht hinfo hzs hs0 hf hf1 W.heap.size v L d ad c hs (h.row i hi) hx hnews hb hb1 h.le ?_
  intro g cap w' h1 h2 h3 h4
  refine k g cap w' (h.app i hi h2 h1 (fun b hb' => ?_)) fun T B hT hB => Chg.own (h.row i hi) hT hB h2
  have hb' : g = b := by simpa [Value.ownBlock] using hb'
  subst hb'
  exact h3.imp id (fun e => by omega)
/-- A store into a box. -/
theorem chgPut (h : Mem W w H) (i : Nat) {b : Nat} {cs : Array Value} {t : TypeId} (hi : H[i]? = some (.box b cs t)) (j : Nat) (v : Value) {T : TypeId} {B : Nat} (hT : t ≠ T) (hB : B ≤ W.heap.size) : Chg T B w (w.setCell ⟨b, j, none⟩ v) (some b) :=
  Chg.put (h.blk i hi) hT (Nat.le_trans hB (h.geb i hi)) j v
end Mem
end Go.Proofs.YtdacgdokbfcgdaaGreat

namespace Go.Proofs.YtdacgdokbfcgdaaGreat
open Go.RowKit Go.Lib
namespace Big
variable {P : Program}
theorem agg_of {ty : TypeId} {d : TypeDesc} (hu : P.underlying ty = some d) (hd : (match d with | .struct _ | .array _ _ => true | _ => false) = true) (w : World) : (isAgg ty).run P w = .ok true w := by
  unfold isAgg
  simp only [Sem.run_bind, run_underlying hu, Result.andThen_ok]
  cases d <;> first | rfl | (exact absurd hd (by simp))
theorem run_load (w : World) (g off n : Nat) (t ty : TypeId) (cs : Array Value) (fr : Nat × Nat) (d : TypeDesc) (hg : w.heap[g]? = some (.cells cs t fr))
    (hu : P.underlying ty = some d) (hd : (match d with | .struct _ | .array _ _ => true | _ => false) = true) (hi : (P.info? ty).map (·.size) = some n) (hf : off + n ≤ cs.size) (news : List Value) (hn : (cs.toList.drop off).take n = news) :
    (loadVar ty ⟨g, off, none⟩).run P w = .ok (.agg news.toArray) w := by
  have hl : news.length = n := by rw [← hn, List.length_take, List.length_drop, Array.length_toList]; omega
  have hc : (loadCells ⟨g, off, none⟩ news.length).run P w = .ok news.toArray w :=
    run_loadCells_list (P := P) w ⟨g, off, none⟩ news (fun j v hv => by
      rw [addr_add, cell_of_row w g (off + j) cs t fr hg]
      rw [← hn, List.getElem?_take] at hv
      split at hv
      · rw [List.getElem?_drop] at hv
        simpa using hv
      · cases hv)
  cases hq : P.info? ty with
  | none => simp [hq] at hi
  | some i =>
    have hs : i.size = n := by simpa [hq] using hi
    have hagg := agg_of hu hd w
    rw [hl] at hc
    simp [loadVar, hagg, sizeOf, typeInfo, hq, hs, hc]
theorem run_store (w : World) (g off : Nat) (t ty : TypeId) (old cells : Array Value) (hg : w.heap[g]? = some (.cells old t (0, 0))) (hi : (P.info? ty).map (·.size) = some cells.size)
    (hf : off + cells.size ≤ old.size) (h1 : ∀ v ∈ cells.toList, v.oneCell' = true) :
    (storeVar ty ⟨g, off, none⟩ (.agg cells)).run P w = .ok () (w.setRow g (old.toList.take off ++ cells.toList ++ old.toList.drop (off + cells.size)).toArray) := by
  have := run_storeCells_at P g off t cells.toList 0 old w hg (by simpa using hf) h1
  simp only [Nat.add_zero, Array.length_toList] at this
  cases hq : P.info? ty with
  | none => simp [hq] at hi
  | some i =>
    have hs : cells.size = i.size := by simp [hq] at hi; omega
    simp [storeVar, sizeOf, typeInfo, hq, Value.cells, hs] at this ⊢
    exact this
end Big
namespace Mem
variable {W w : World} {H : List Ck}
theorem setRow (h : Mem W w H) (i : Nat) {b : Nat} {cs : Array Value} {t : TypeId} (hi : H[i]? = some (.box b cs t)) (cs' : Array Value) : Mem W (w.setRow b cs') (H.set i (.box b cs' t)) := by
  have hb := h.blk i hi
  refine h.upd hi (.box b cs' t) ⟨rfl, rfl, rfl, by simp [World.setRow], fun k hk => absurd hk (Nat.not_lt_zero _)⟩ (fun k hk hne => setRow_other w b k _ (by simpa [Ck.box] using hne)) (setRow_heap w b _ _ t _ hb) (fun k hk => .inl hk)
theorem wp_loadA (h : Mem W w H) (i : Nat) {b : Nat} {cs : Array Value} {T : TypeId} (hi : H[i]? = some (.box b cs T)) {P : Program} {ops : Array Oper} {rest : List Oper} {o : Oper} {a : Act} {Q : Exit → Act → World → Prop} (hgd : o.guard = none) (x : Operand) (t : TypeId)
    (hop : o.op = .load t x) (off n : Nat) (hx : a.eval x = .pointer (some ⟨b, off, none⟩)) (d : TypeDesc) (hu : P.underlying t = some d) (hd : (match d with | .struct _ | .array _ _ => true | _ => false) = true) (hsz : (P.info? t).map (·.size) = some n)
    (hf : off + n ≤ cs.size) (news : List Value) (hn : (cs.toList.drop off).take n = news) (k : wpList P ops Q rest (a.put o.dst (.agg news.toArray)) w) : wpList P ops Q (o :: rest) a w := by
  refine wpList_plain hgd fun K hK => ?_
  have hl := Big.run_load w b off n T t cs (0, 0) d (h.blk i hi) hu hd hsz hf news hn
  unfold Oper.wp execOp
  simp only [hop, Instr.loadAt, Instr.sureAddr, Sem.run_bind, Sem.run_pure, Result.andThen_ok, hx, hl]
  exact hK _ _ k
theorem wp_storeA (h : Mem W w H) (i : Nat) {b : Nat} {cs : Array Value} {T : TypeId} (hi : H[i]? = some (.box b cs T)) {P : Program} {ops : Array Oper} {rest : List Oper} {o : Oper} {a : Act} {Q : Exit → Act → World → Prop} (hgd : o.guard = none) (x y : Operand) (t : TypeId)
    (hop : o.op = .store t x y) (off : Nat) (news : Array Value) (hx : a.eval x = .pointer (some ⟨b, off, none⟩)) (hy : a.eval y = .agg news) (hsz : (P.info? t).map (·.size) = some news.size)
    (hf : off + news.size ≤ cs.size) (h1 : ∀ v ∈ news.toList, v.oneCell' = true)
    (k : ∀ w', Mem W w' (H.set i (.box b (cs.toList.take off ++ news.toList ++ cs.toList.drop (off + news.size)).toArray T)) → w' = w.setRow b (cs.toList.take off ++ news.toList ++ cs.toList.drop (off + news.size)).toArray → wpList P ops Q rest (a.put o.dst undef) w') : wpList P ops Q (o :: rest) a w := by
  refine wpList_plain hgd fun K hK => ?_
  have hl := Big.run_store w b off T t cs news (h.blk i hi) hsz hf h1
  unfold Oper.wp execOp
  simp only [hop, Instr.storeAt, Instr.sureAddr, Sem.run_bind, Sem.run_pure, Result.andThen_ok, hx, hy, hl]
  exact hK _ _ (k _ (h.setRow i hi _) rfl)
/-- The whole box by value. -/
theorem wp_loadAll (h : Mem W w H) (i : Nat) {b : Nat} {cs : Array Value} {T : TypeId} (hi : H[i]? = some (.box b cs T)) {P : Program} {ops : Array Oper} {rest : List Oper} {o : Oper} {a : Act} {Q : Exit → Act → World → Prop} (hgd : o.guard = none) (x : Operand) (t : TypeId)
    (hop : o.op = .load t x) (hx : a.eval x = .pointer (some ⟨b, 0, none⟩)) (hu : ∃ fs, P.underlying t = some (.struct fs)) (hsz : (P.info? t).map (·.size) = some cs.size)
    (k : wpList P ops Q rest (a.put o.dst (.agg cs)) w) : wpList P ops Q (o :: rest) a w := by
  obtain ⟨fs, hu⟩ := hu
  refine h.wp_loadA i hi hgd x t hop 0 cs.size hx _ hu rfl hsz (by omega) cs.toList (by rw [List.drop_zero, List.take_of_length_le (by rw [Array.length_toList]; exact Nat.le_refl _)]) ?_
  simpa using k
/-- A value into the whole box. -/
theorem wp_storeAll (h : Mem W w H) (i : Nat) {b : Nat} {cs : Array Value} {T : TypeId} (hi : H[i]? = some (.box b cs T)) {P : Program} {ops : Array Oper} {rest : List Oper} {o : Oper} {a : Act} {Q : Exit → Act → World → Prop} (hgd : o.guard = none) (x y : Operand) (t : TypeId)
    (hop : o.op = .store t x y) (news : Array Value) (hx : a.eval x = .pointer (some ⟨b, 0, none⟩)) (hy : a.eval y = .agg news) (hsz : (P.info? t).map (·.size) = some news.size)
    (hs : news.size = cs.size) (h1 : ∀ v ∈ news.toList, v.oneCell' = true)
    (k : ∀ w', Mem W w' (H.set i (.box b news T)) → wpList P ops Q rest (a.put o.dst undef) w') : wpList P ops Q (o :: rest) a w := by
  refine h.wp_storeA i hi hgd x y t hop 0 news hx hy hsz (by omega) h1 fun w' h' _ => k w' ?_
  have e : (cs.toList.take 0 ++ news.toList ++ cs.toList.drop (0 + news.size)).toArray = news := by
    rw [List.take_zero, List.nil_append, List.drop_of_length_le (by rw [Array.length_toList]; omega), List.append_nil]
  rw [e] at h'
  exact h'
/-- The same two, the operation looked at first. -/
theorem go_loadAll {P : Program} {ops : Array Oper} {rest : List Oper} {o : Oper} {a : Act} {Q : Exit → Act → World → Prop} (t : TypeId) {x : Operand} (hop : o.op = .load t x) (hgd : o.guard = none) {b : Nat} (hx : a.eval x = .pointer (some ⟨b, 0, none⟩))
    (i : Nat) {cs : Array Value} {T : TypeId} {H : List Ck} (h : Mem W w H) (hi : H[i]? = some (.box b cs T)) (hu : ∃ fs, P.underlying t = some (.struct fs)) (hsz : (P.info? t).map (·.size) = some cs.size)
    (k : wpList P ops Q rest (a.put o.dst (.agg cs)) w) : wpList P ops Q (o :: rest) a w := h.wp_loadAll i hi hgd x t hop hx hu hsz k
theorem go_storeAll {P : Program} {ops : Array Oper} {rest : List Oper} {o : Oper} {a : Act} {Q : Exit → Act → World → Prop} (t : TypeId) {x y : Operand} (hop : o.op = .store t x y) (hgd : o.guard = none) {b : Nat} {news : Array Value} (hx : a.eval x = .pointer (some ⟨b, 0, none⟩)) (hy : a.eval y = .agg news)
    (i : Nat) {cs : Array Value} {T : TypeId} {H : List Ck} (h : Mem W w H) (hi : H[i]? = some (.box b cs T)) (hsz : (P.info? t).map (·.size) = some news.size)
    (hs : news.size = cs.size) (h1 : ∀ v ∈ news.toList, v.oneCell' = true)
    (k : ∀ w', Mem W w' (H.set i (.box b news T)) → wpList P ops Q rest (a.put o.dst undef) w') : wpList P ops Q (o :: rest) a w := h.wp_storeAll i hi hgd x y t hop news hx hy hsz hs h1 k
end Mem
end Go.Proofs.YtdacgdokbfcgdaaGreat

namespace Go.Proofs.YtdacgdokbfcgdaaGreat
open Go.RowKit
namespace Bx
theorem cell {w : World} {q : Nat} {cs : Array Value} {t : TypeId} (h : w.heap[q]? = some (.cells cs t (0, 0))) (j : Nat) {v : Value} (hv : cs[j]? = some v) : w.cell? ⟨q, j, none⟩ = some v := by simp [World.cell?, h, hv]
theorem free {w : World} {q : Nat} {cs : Array Value} {t : TypeId} (h : w.heap[q]? = some (.cells cs t (0, 0))) (j : Nat) : w.frozen? ⟨q, j, none⟩ = false := by simp [World.frozen?, h]
theorem set {w : World} {q : Nat} {cs : Array Value} {t : TypeId} (h : w.heap[q]? = some (.cells cs t (0, 0))) (j : Nat) (v : Value) : (w.setCell ⟨q, j, none⟩ v).heap[q]? = some (.cells (cs.setIfInBounds j v) t (0, 0)) := by
  simp only [World.setCell]
  rw [Array.getElem?_modify, if_pos rfl, h]; rfl
theorem far {w : World} {q c j : Nat} {v : Value} (hc : q ≠ c) : (w.setCell ⟨c, j, none⟩ v).heap[q]? = w.heap[q]? := by
  simp only [World.setCell]
  rw [Array.getElem?_modify, if_neg (fun e => hc e.symm)]
theorem new (w : World) (o : Obj) : (w.alloc o).heap[w.heap.size]? = some o := heap_alloc_new w o
theorem lt {w : World} {q : Nat} {o : Obj} (h : w.heap[q]? = some o) : q < w.heap.size := (Array.getElem?_eq_some_iff.1 h).1
theorem held {w a : World} {q : Nat} {o : Obj} (h : w.heap[q]? = some o) (k : Held w a) : a.heap[q]? = some o := (k.block q (lt h)).trans h
theorem res_c {fn : Func} {tmps : Array Value} {w : World} {a b : Nat} {t : TypeId} {v : Value} (hr : fn.results = #[.cell a t]) (ha : tmps.getD a undef = .pointer (some ⟨b, 0, none⟩)) (hl : (loadVar t ⟨b, 0, none⟩).run Tryz.prog w = .ok v w) : (results fn tmps).run Tryz.prog w = .ok v w := by
  unfold results
  rw [hr]
  simp only [List.mapM_toArray, List.mapM_cons, List.mapM_nil, ha, asAddr, pure_bind, Sem.run_bind, Sem.run_map, hl, Result.andThen_ok, Sem.run_pure, map_pure]
  rfl
theorem res_ct {fn : Func} {tmps : Array Value} {w : World} {a b k : Nat} {t : TypeId} {v : Value} (hr : fn.results = #[.cell a t, .tmp k]) (ha : tmps.getD a undef = .pointer (some ⟨b, 0, none⟩)) (hl : (loadVar t ⟨b, 0, none⟩).run Tryz.prog w = .ok v w) : (results fn tmps).run Tryz.prog w = .ok (.tuple #[v, tmps.getD k undef]) w := by
  unfold results
  rw [hr]
  simp only [List.mapM_toArray, List.mapM_cons, List.mapM_nil, ha, asAddr, pure_bind, Sem.run_bind, Sem.run_map, hl, Result.andThen_ok, Sem.run_pure, map_pure]
  rfl
theorem held3 {W w : World} {b : Nat} (h : Held W w) (hb : W.heap.size ≤ b) (x y z : Value) : Held W (((w.setCell ⟨b, 0, none⟩ x).setCell ⟨b, 1, none⟩ y).setCell ⟨b, 2, none⟩ z) := ((h.set hb _).set hb _).set hb _
end Bx
end Go.Proofs.YtdacgdokbfcgdaaGreat

namespace Go.Proofs.YtdacgdokbfcgdaaGreat.Rw
open Go.RowKit
set_option linter.unusedVariables false
/-- It is nil; or it leads to a row of 'cap' cells, the numbers 'zs' (the first 'len' are its elements). -/
def IsRow (k : IntKind) (w : World) (a : Option Addr) (len cap : Nat) (zs : List Int) : Prop :=
  (a = none ∧ len = 0 ∧ cap = 0 ∧ zs = []) ∨
  ∃ x, a = some x ∧ len ≤ cap ∧ cap ≤ maxLen ∧ zs.length = cap ∧ (∀ i, i < zs.length → w.cell? (x.add i) = some (.int k (zs.getD i 0))) ∧ ∀ n ∈ zs, (Lit.int k n).wf = true
theorem bd_u32 {a : Int} (h : (Lit.int .u32 a).wf = true) : 0 ≤ a ∧ a ≤ 4294967295 := by
  simp [Lit.wf, IntKind.min, IntKind.max, IntKind.signed, IntKind.bits] at h; omega
theorem bd_u64 {a : Int} (h : (Lit.int .u64 a).wf = true) : 0 ≤ a ∧ a ≤ 18446744073709551615 := by
  simp [Lit.wf, IntKind.min, IntKind.max, IntKind.signed, IntKind.bits] at h; omega
theorem bd_u8 {a : Int} (h : (Lit.int .u8 a).wf = true) : 0 ≤ a ∧ a ≤ 255 := by
  simp [Lit.wf, IntKind.min, IntKind.max, IntKind.signed, IntKind.bits] at h; omega
theorem bd_i64 {a : Int} (h : (Lit.int .i64 a).wf = true) : -9223372036854775808 ≤ a ∧ a ≤ 9223372036854775807 := by
  simp [Lit.wf, IntKind.min, IntKind.max, IntKind.signed, IntKind.bits] at h; omega
theorem bd_i32 {a : Int} (h : (Lit.int .i32 a).wf = true) : -2147483648 ≤ a ∧ a ≤ 2147483647 := by
  simp [Lit.wf, IntKind.min, IntKind.max, IntKind.signed, IntKind.bits] at h; omega
end Go.Proofs.YtdacgdokbfcgdaaGreat.Rw
