/-
  Words for memory: a slice value that reads as a list of cells; what a world keeps.
  Words for memory: slices of structs: a slice value that holds a list, each element as its cells; appending to one that the call itself made.
  What came in reads as data: its cells, leaf by leaf, whatever structs, arrays and slices it is made of.
  What a walk is told of a slice of integers that came in; small laws on worlds.
  Plain laws, no program in sight: admission (chapter 39).
  Plain laws, no program in sight: placements (chapter 39).
-/
import Derived.WalkKit
import Derived.Deep.Draws
import Derived.Lib.Hide
import Derived.Deep.AppendLies
import Derived.ProofKit
import Derived.OpenShut
import Derived.Deep.Slices
import Derived.ChangeArms
import Derived.RowKit
namespace Go.Proofs.Ytmmnanmegdflgaa
open Go.RowKit
set_option linter.unusedVariables false
/-- What all worlds on the way of a call keep: what was there when it began. -/
def Held (w w' : World) : Prop := Below w.heap.size w w'
theorem lt_of_cell {w : World} {p : Addr} {v : Value} (h : w.cell? p = some v) : p.block < w.heap.size := by
  rcases Nat.lt_or_ge p.block w.heap.size with hl | hl
  · exact hl
  · simp [World.cell?, Array.getElem?_eq_none hl] at h
namespace Held
theorem refl (w : World) : Held w w := Below.refl _ _
theorem drew {w a : World} (h : Held w a) : Held w a.drew := Below.drew h
theorem drewN {w a : World} (h : Held w a) : ∀ n, Held w (a.drewN n)
  | 0 => h
  | n + 1 => ⟨h.os, h.tape, h.output, h.size, h.block⟩
theorem alloc {w a : World} (h : Held w a) (o : Obj) : Held w (a.alloc o) := Below.alloc h h.size o
theorem step {w a b : World} (h : Held w a) (hb : Held a b) : Held w b := Below.trans h (Below.mono hb h.size)
theorem set {w a : World} (h : Held w a) {p : Addr} (hp : w.heap.size ≤ p.block) (u : Value) : Held w (a.setCell p u) := Below.setCell h hp u
theorem le {w a : World} (h : Held w a) : w.heap.size ≤ a.heap.size := h.size
theorem cell {w a : World} (h : Held w a) {p : Addr} {v : Value} (hp : w.cell? p = some v) : a.cell? p = some v := by
  rw [Below.cell h ?_, hp]
  rcases Nat.lt_or_ge p.block w.heap.size with hl | hl
  · exact hl
  · simp [World.cell?, Array.getElem?_eq_none hl] at hp
end Held
/-- The slice value '.slice A n _' holds the cells xs, 'size' cells an element. -/
def Rd (w : World) (size : Nat) (A : Option Addr) (n : Nat) (xs : List Value) : Prop :=
  xs.length = n * size ∧ (n = 0 ∨ ∃ b off, A = some ⟨b, off, none⟩ ∧ ∀ j (h : j < xs.length), w.cell? ⟨b, off + j, none⟩ = some xs[j])
namespace Rd
theorem held {w a : World} {size : Nat} {A : Option Addr} {n : Nat} {xs : List Value} (h : Rd w size A n xs) (ha : Held w a) : Rd a size A n xs :=
  ⟨h.1, h.2.imp id fun ⟨b, off, e, hc⟩ => ⟨b, off, e, fun j hj => ha.cell (hc j hj)⟩⟩
theorem zero (w : World) (size : Nat) (A : Option Addr) : Rd w size A 0 [] := ⟨by simp, .inl rfl⟩
end Rd
end Go.Proofs.Ytmmnanmegdflgaa

namespace Go.Proofs.Ytmmnanmegdflgaa
open Go.RowKit
set_option linter.unusedVariables false
/-- The slice value '.slice A n _' holds the list L, each element as the cells 'f x', 's' of them. -/
def Sl {α : Type} (s : Nat) (f : α → List Value) (w : World) (A : Option Addr) (n : Nat) (L : List α) : Prop :=
  L.length = n ∧ (n = 0 ∨ ∃ b off, A = some ⟨b, off, none⟩ ∧ b < w.heap.size ∧ ∀ k (h : k < L.length) j v, (f L[k])[j]? = some v → w.cell? ⟨b, off + k * s + j, none⟩ = some v)
namespace Sl
variable {α : Type} {s : Nat} {f : α → List Value}
theorem nil (w : World) (A : Option Addr) : Sl s f w A 0 [] := ⟨rfl, .inl rfl⟩
theorem held {w a : World} {A : Option Addr} {n : Nat} {L : List α} (h : Sl s f w A n L) (ha : Held w a) : Sl s f a A n L :=
  ⟨h.1, h.2.imp id fun ⟨b, off, e, hb, hc⟩ => ⟨b, off, e, Nat.lt_of_lt_of_le hb ha.le, fun k hk j v hv => ha.cell (hc k hk j v hv)⟩⟩
theorem take {w : World} {A : Option Addr} {n : Nat} {L : List α} (h : Sl s f w A n L) {k : Nat} (hk : k ≤ n) : Sl s f w A k (L.take k) := by
  refine ⟨by rw [List.length_take, h.1]; omega, ?_⟩
  rcases h.2 with h0 | ⟨b, off, e, hb, hc⟩
  · exact .inl (by omega)
  · refine .inr ⟨b, off, e, hb, fun j hj => ?_⟩
    simp only [List.length_take] at hj
    simp only [List.getElem_take]
    exact hc j (by omega)
/-- An element, in whatever later world: all its cells. -/
theorem at_ {w a : World} {A : Option Addr} {n : Nat} {L : List α} (h : Sl s f w A n L) (ha : Held w a) {k : Nat} (hk : k < n) :
    ∃ b off x, A = some ⟨b, off, none⟩ ∧ b < w.heap.size ∧ L[k]? = some x ∧ ∀ j v, (f x)[j]? = some v → a.cell? ⟨b, off + k * s + j, none⟩ = some v := by
  rcases h.2 with h0 | ⟨b, off, e, hb, hc⟩
  · omega
  · have hl : k < L.length := by rw [h.1]; exact hk
    exact ⟨b, off, L[k], e, hb, List.getElem?_eq_getElem hl, fun j v hv => ha.cell (hc k hl j v hv)⟩
end Sl
theorem flat_len {α : Type} {s : Nat} {f : α → List Value} (hf : ∀ x, (f x).length = s) (L : List α) : (L.flatMap f).length = L.length * s := by
  induction L with
  | nil => simp
  | cons x L ih => rw [List.flatMap_cons, List.length_append, ih, hf, List.length_cons, Nat.succ_mul]; omega
theorem flat_at {α : Type} {s : Nat} {f : α → List Value} (hf : ∀ x, (f x).length = s) (L : List α) (k : Nat) (hk : k < L.length) (j : Nat) (hj : j < s) : (L.flatMap f)[k * s + j]? = (f L[k])[j]? := by
  have e : L.flatMap f = (L.take k).flatMap f ++ (f L[k] ++ (L.drop (k + 1)).flatMap f) := by
    have h1 : L = L.take k ++ ([L[k]] ++ L.drop (k + 1)) := by simp
    exact (congrArg (List.flatMap f) h1).trans (by rw [List.flatMap_append, List.flatMap_append, List.flatMap_singleton])
  have hlk : ((L.take k).flatMap f).length = k * s := by rw [flat_len hf, List.length_take, Nat.min_eq_left (by omega)]
  rw [e, List.getElem?_append_right (by omega), hlk, Nat.add_sub_cancel_left, List.getElem?_append_left (by rw [hf]; exact hj)]
theorem addr_add (b off j : Nat) : (⟨b, off, none⟩ : Addr).add j = ⟨b, off + j, none⟩ := by
  unfold Addr.add; split
  · rename_i h; subst h; rfl
  · rfl
/-- The cells of a slice in one row. -/
theorem Sl.flat {α : Type} {s : Nat} {f : α → List Value} (hf : ∀ x, (f x).length = s) (hs : 0 < s) {w : World} {b off n : Nat} {L : List α} (h : Sl s f w (some ⟨b, off, none⟩) n L) :
    ∀ j u, (L.flatMap f)[j]? = some u → w.cell? ((⟨b, off, none⟩ : Addr).add j) = some u := by
  intro j u hu
  have hj := (List.getElem?_eq_some_iff.1 hu).1
  rw [flat_len hf] at hj
  have hq : j / s < L.length := Nat.div_lt_of_lt_mul (by rw [Nat.mul_comm]; exact hj)
  have e : j / s * s + j % s = j := by rw [Nat.mul_comm]; exact Nat.div_add_mod j s
  rcases h.2 with h0 | ⟨b', off', e1, hb, hc⟩
  · rw [h.1, h0] at hq; exact absurd hq (Nat.not_lt_zero _)
  · injection e1 with e1
    injection e1 with e1 e2
    subst e1 e2
    have h2 := flat_at hf L (j / s) hq (j % s) (Nat.mod_lt _ hs)
    rw [e, hu] at h2
    have h3 := hc (j / s) hq (j % s) u h2.symm
    rw [Nat.add_assoc, e] at h3
    rw [addr_add]; exact h3
theorem Sl.drop {α : Type} {s : Nat} {f : α → List Value} {w : World} {b off n : Nat} {L : List α} (h : Sl s f w (some ⟨b, off, none⟩) n L) {k : Nat} (hk : k ≤ n) : Sl s f w (some ⟨b, off + k * s, none⟩) (n - k) (L.drop k) := by
  refine ⟨by rw [List.length_drop, h.1], ?_⟩
  rcases h.2 with h0 | ⟨b', off', e1, hb, hc⟩
  · exact .inl (by omega)
  · injection e1 with e1
    injection e1 with e1 e2
    subst e1 e2
    refine .inr ⟨b, off + k * s, rfl, hb, fun j hj i v hv => ?_⟩
    rw [List.length_drop] at hj
    rw [List.getElem_drop] at hv
    have := hc (k + j) (by omega) i v hv
    rw [Nat.add_mul] at this
    rw [show off + k * s + j * s + i = off + (k * s + j * s) + i by omega]; exact this
/-- A slice value that the call itself made holds the list L. -/
def Own {α : Type} (e : TypeId) (s : Nat) (f : α → List Value) (base : Nat) (w : World) (v : Value) (L : List α) : Prop := w.ownsRow base e s v L.length (L.flatMap f)
namespace Own
variable {α : Type} {e : TypeId} {s : Nat} {f : α → List Value} {base : Nat}
theorem nil (w : World) : Own e s f base w (.slice none 0 0) ([] : List α) := World.ownsRow_nil _ _ _ _
theorem shape {w : World} {v : Value} {L : List α} (h : Own e s f base w v L) : ∃ A cap, v = .slice A L.length cap ∧ L.length ≤ cap ∧ cap ≤ maxLen := by
  rcases h.2 with ⟨rfl, h0⟩ | ⟨g, cap, cur, rfl, _, _, hc, hm, _⟩
  · exact ⟨_, 0, by rw [h0], by rw [h0]; exact Nat.le_refl _, Nat.zero_le _⟩
  · exact ⟨_, _, rfl, hc, hm⟩
theorem cap {w : World} {A : Option Addr} {n cp : Nat} {L : List α} (h : Own e s f base w (.slice A n cp) L) : n ≤ cp := by
  obtain ⟨A', cp', e1, h1, _⟩ := h.shape
  injection e1 with e1 e2 e3
  subst e2 e3
  exact h1
theorem held {W w w1 : World} {v : Value} {L : List α} (h : Own e s f W.heap.size w v L) (hw : Held w w1) : Own e s f W.heap.size w1 v L := by
  refine ⟨h.1, ?_⟩
  rcases h.2 with h2 | ⟨g, cap, cur, hv, hb, hh, r⟩
  · exact .inl h2
  · refine .inr ⟨g, cap, cur, hv, hb, ?_, r⟩
    rw [hw.block g ?_]; exact hh
    rcases Nat.lt_or_ge g w.heap.size with hl | hl
    · exact hl
    · rw [Array.getElem?_eq_none hl] at hh; cases hh
theorem mono {base' : Nat} {w : World} {v : Value} {L : List α} (h : Own e s f base w v L) (hb : base' ≤ base) : Own e s f base' w v L :=
  ⟨h.1, h.2.imp id fun ⟨g, cap, cur, hv, h1, r⟩ => ⟨g, cap, cur, hv, Nat.le_trans hb h1, r⟩⟩
/-- It reads as the list. -/
theorem reads {w : World} (hf : ∀ x, (f x).length = s) {A : Option Addr} {n cap : Nat} {L : List α} (h : Own e s f base w (.slice A n cap) L) : Sl s f w A n L ∧ n = L.length ∧ n ≤ cap := by
  obtain ⟨hl, h⟩ := h
  rcases h with ⟨he, h0⟩ | ⟨g, cp, cur, he, hb, hh, hn, hm, hc, ht⟩
  · injection he with e1 e2 e3
    subst e2
    exact ⟨⟨h0, .inl rfl⟩, h0.symm, by omega⟩
  · injection he with e1 e2 e3
    subst e1 e2 e3
    have hg : g < w.heap.size := by
      rcases Nat.lt_or_ge g w.heap.size with hl | hl
      · exact hl
      · rw [Array.getElem?_eq_none hl] at hh; cases hh
    refine ⟨⟨rfl, .inr ⟨g, 0, rfl, hg, fun k hk j v hv => ?_⟩⟩, rfl, hn⟩
    have hj : j < s := by
      have := (List.getElem?_eq_some_iff.1 hv).1
      rw [hf] at this; exact this
    have hlt : k * s + j < L.length * s := by
      have : (k + 1) * s ≤ L.length * s := Nat.mul_le_mul_right _ hk
      rw [Nat.succ_mul] at this; omega
    have h1 : (cur.toList.take (L.length * s))[k * s + j]? = some v := by rw [ht, flat_at hf L k hk j hj]; exact hv
    rw [List.getElem?_take, if_pos hlt] at h1
    simp only [World.cell?, hh, Nat.zero_add]
    simpa using h1
end Own
theorem own_slice {w : World} {base : Nat} {e : TypeId} {size n : Nat} {v : Value} {xs : List Value} (h : w.ownsRow base e size v n xs) : ∃ A cap, v = .slice A n cap ∧ n ≤ cap := by
  rcases h.2 with ⟨rfl, rfl⟩ | ⟨g, cap, cur, rfl, _, _, hc, _⟩
  · exact ⟨_, _, rfl, Nat.le_refl _⟩
  · exact ⟨_, _, rfl, hc⟩
theorem held_grown {W w w1 : World} {e : TypeId} {s n : Nat} {v : Value} {xs : List Value} (hb : Held W w) (hown : w.ownsRow W.heap.size e s v n xs) (hg : w.grownBy w1 v.ownBlock) : Held W w1 := by
  refine Below.grown hb hg hb.size ?_
  intro k hk
  obtain ⟨_, h⟩ := hown
  rcases h with ⟨rfl, _⟩ | ⟨g, cap, cur, rfl, hg', _⟩
  · simp [Value.ownBlock] at hk
  · simp [Value.ownBlock] at hk; omega
/-- Behind an append the old value still holds what it held. -/
theorem append_keeps {P : Program} (w w1 : World) (t ty : TypeId) (base : Nat) (e : TypeId) (i : TypeInfo) (z : Value) (size bytes : Nat) (ht : P.underlying t = some (.slice e)) (hi : P.info? e = some i) (hz : i.zero = some z)
    (hsize : i.size = size) (hby : i.bytes = bytes) (hsz : 0 < size) (v v' : Value) (n : Nat) (xs : List Value) (hown : w.ownsRow base e size v n xs)
    (ad : Addr) (m c : Nat) (news : List Value) (hl : news.length = m * size) (hnews : ∀ j u, news[j]? = some u → w.cell? (ad.add j) = some u) (h1 : ∀ u ∈ news, u.oneCell' = true) (hm : 0 < m)
    (h63 : n + m ≤ maxLen) (hbytes : (n + m) * bytes ≤ 140737488355328) (hr : (Builtin.append_ #[t, t] ty #[v, .slice (some ad) m c]).run P w = .ok v' w1) : w1.ownsRow base e size v n xs := by
  subst hsize hby
  rcases hown.2 with ⟨rfl, rfl⟩ | ⟨g, cap, cur, rfl, hbg, hg, hnc, hcm, hcs, htake⟩
  · exact ⟨hown.1, .inl ⟨rfl, rfl⟩⟩
  · by_cases hroom : n + m ≤ cap
    · have hfit : n * i.size + news.length ≤ cur.size := by rw [hl, hcs, ← Nat.add_mul]; exact Nat.mul_le_mul_right _ hroom
      rw [run_append_room (P := P) w t ty e i ht hi g n cap cur hg ad m c news hl hnews h1 hroom hfit] at hr
      injection hr with _ hr
      subst hr
      refine ⟨hown.1, .inr ⟨g, cap, _, rfl, hbg, setRow_heap w g cur _ e _ hg, hnc, hcm, ?_, ?_⟩⟩
      · simp only [List.size_toArray, List.length_append, List.length_take, List.length_drop, Array.length_toList]
        omega
      · have hlen : (cur.toList.take (n * i.size)).length = n * i.size := by rw [htake, hown.1]
        rw [List.append_assoc]
        conv => rhs; rw [← htake]
        exact (congrArg (fun k => List.take k _) hlen.symm).trans List.take_left
    · rw [run_append_grow (P := P) w t ty e i z ht hi hz ⟨g, 0, none⟩ n cap xs hown.1 (hown.cells (g := g) rfl) ad m c news hl hnews (by omega) (by unfold maxLen at h63; omega) (growslice_fits (by omega) hbytes)] at hr
      injection hr with _ hr
      subst hr
      refine ⟨hown.1, .inr ⟨g, cap, cur, rfl, hbg, ?_, hnc, hcm, hcs, htake⟩⟩
      have hlt : g < w.heap.size := (Array.getElem?_eq_some_iff.1 hg).1
      exact (Below.heap_alloc w.drew _ g hlt).trans hg
/-- At a step of a region that draws its order: append of one element; the old value still holds what it held. -/
theorem Own.step_app {α : Type} {e : TypeId} {s : Nat} {f : α → List Value} {P : Program} (w : World) {ops : Array Oper} {o : Oper} {a : Act} {K : Act → World → Prop} {Q : Exit → Act → World → Prop} {E : Prop} (hgd : o.guard = none) (sl x : Operand) (t : TypeId)
    (ho : o.op = .call { callee := .builtin .append, args := #[sl, x], argTypes := #[t, t] }) (z : Value) (bytes : Nat) (ht : P.underlying t = some (.slice e)) (hinfo : (P.info? e).map (fun i => (i.zero, i.size, i.bytes)) = some (some z, s, bytes))
    (hzs : z.cells.size = s) (hs0 : 0 < s) (hf : ∀ x, (f x).length = s) (hf1 : ∀ x, ∀ u ∈ f x, u.oneCell' = true) (base : Nat) (v : Value) (L : List α) (d : α) (ad : Addr) (c : Nat)
    (hs : a.eval sl = v) (hown : Own e s f base w v L) (hx : a.eval x = .slice (some ad) 1 c)
    (hnews : ∀ j u, (f d)[j]? = some u → w.cell? (ad.add j) = some u)
    (hb : (L.length + 1) * bytes ≤ 140737488355328) (hb1 : 1 ≤ bytes) (hbase : base ≤ w.heap.size)
    (h : ∀ g cap w', Own e s f base w' (.slice (some ⟨g, 0, none⟩) (L.length + 1) cap) (L ++ [d]) → Own e s f base w' v L → w.grownBy w' v.ownBlock → (v.ownBlock = some g ∨ g = w.heap.size) → g < w'.heap.size → K (a.put o.dst (.slice (some ⟨g, 0, none⟩) (L.length + 1) cap)) w') :
    if Region.wanted o (yielded ops a.tmps) = true then Oper.wp P o a w K Q else E := by
  obtain ⟨i0, hi, hz0, hz1, hz2⟩ := info_parts hinfo
  have hlen : L.length + 1 ≤ 140737488355328 := Nat.le_trans (Nat.le_mul_of_pos_right _ hb1) hb
  have hw : Region.wanted o (yielded ops a.tmps) = true := by simp [Region.wanted, hgd]
  have hfl : (f d).length = 1 * s := by rw [hf, Nat.one_mul]
  rw [if_pos hw]
  obtain ⟨g, cap, w', hr, h2, h3, h4, h5⟩ := run_append_lies (P := P) w t o.type base e i0 z s bytes ht hi hz0 hz1 hz2 hzs hs0 v L.length (L.flatMap f) hown ad 1 c (f d) hfl hnews (hf1 d) (by decide) (by unfold maxLen; omega) hb hbase w.heap.size rfl
  have h6 := append_keeps w w' t o.type base e i0 z s bytes ht hi hz0 hz1 hz2 hs0 v _ L.length (L.flatMap f) hown ad 1 c (f d) hfl hnews (hf1 d) (by decide) (by unfold maxLen; omega) hb hr
  unfold Oper.wp execOp
  simp only [ho, resolve, invoke, builtin, Sem.run_bind, Sem.run_pure, Result.andThen_ok, List.map_toArray, List.map_cons, List.map_nil, hs, hx, hr]
  refine h g cap w' ?_ h6 h3 h4 h5
  unfold Own
  rw [List.flatMap_append, List.flatMap_singleton, List.length_append, List.length_singleton]
  exact h2
/-- At a step of a region that draws its order: append of a list. -/
theorem Own.step_apps {α : Type} {e : TypeId} {s : Nat} {f : α → List Value} {P : Program} (w : World) {ops : Array Oper} {o : Oper} {a : Act} {K : Act → World → Prop} {Q : Exit → Act → World → Prop} {E : Prop} (hgd : o.guard = none) (sl x : Operand) (t : TypeId)
    (ho : o.op = .call { callee := .builtin .append, args := #[sl, x], argTypes := #[t, t] }) (z : Value) (bytes : Nat) (ht : P.underlying t = some (.slice e)) (hinfo : (P.info? e).map (fun i => (i.zero, i.size, i.bytes)) = some (some z, s, bytes))
    (hzs : z.cells.size = s) (hs0 : 0 < s) (hf : ∀ x, (f x).length = s) (hf1 : ∀ x, ∀ u ∈ f x, u.oneCell' = true) (W : World) (hW : Held W w) (v : Value) (L M : List α) (ad : Addr) (m c : Nat)
    (hs : a.eval sl = v) (hown : Own e s f W.heap.size w v L) (hx : a.eval x = .slice (some ad) m c) (hm : M.length = m)
    (hnews : ∀ j u, (M.flatMap f)[j]? = some u → w.cell? (ad.add j) = some u)
    (hb : (L.length + m) * bytes ≤ 140737488355328) (hb1 : 1 ≤ bytes)
    (h : ∀ v' w', Own e s f W.heap.size w' v' (L ++ M) → Held W w' → w.grownBy w' v.ownBlock → K (a.put o.dst v') w') :
    if Region.wanted o (yielded ops a.tmps) = true then Oper.wp P o a w K Q else E := by
  obtain ⟨i0, hi, hz0, hz1, hz2⟩ := info_parts hinfo
  have hlen : L.length + m ≤ 140737488355328 := Nat.le_trans (Nat.le_mul_of_pos_right _ hb1) hb
  have hw : Region.wanted o (yielded ops a.tmps) = true := by simp [Region.wanted, hgd]
  subst hm
  rw [if_pos hw]
  refine wp_append_own w sl x t ho W.heap.size e i0 z s bytes ht hi hz0 hz1 hz2 hzs hs0 v L.length (L.flatMap f) hs hown ad M.length c (M.flatMap f) hx (flat_len hf M) hnews ?_ (by unfold maxLen; omega) hb hW.le ?_
  · intro u hu
    rw [List.mem_flatMap] at hu
    obtain ⟨y, _, hy⟩ := hu
    exact hf1 y u hy
  · intro v' w' g1 g2 _
    refine h v' w' ?_ (held_grown hW hown g2) g2
    unfold Own
    rw [List.flatMap_append, List.length_append]
    exact g1
/-- Append of a list. -/
theorem Own.apps {α : Type} {e : TypeId} {s : Nat} {f : α → List Value} {P : Program} (w : World) {ops : Array Oper} {rest : List Oper} {o : Oper} {a : Act} {Q : Exit → Act → World → Prop} (hgd : o.guard = none) (sl x : Operand) (t : TypeId)
    (ho : o.op = .call { callee := .builtin .append, args := #[sl, x], argTypes := #[t, t] }) (z : Value) (bytes : Nat) (ht : P.underlying t = some (.slice e)) (hinfo : (P.info? e).map (fun i => (i.zero, i.size, i.bytes)) = some (some z, s, bytes))
    (hzs : z.cells.size = s) (hs0 : 0 < s) (hf : ∀ x, (f x).length = s) (hf1 : ∀ x, ∀ u ∈ f x, u.oneCell' = true) (W : World) (hW : Held W w) (v : Value) (L M : List α) (ad : Addr) (m c : Nat)
    (hs : a.eval sl = v) (hown : Own e s f W.heap.size w v L) (hx : a.eval x = .slice (some ad) m c) (hm : M.length = m)
    (hnews : ∀ j u, (M.flatMap f)[j]? = some u → w.cell? (ad.add j) = some u)
    (hb : (L.length + m) * bytes ≤ 140737488355328) (hb1 : 1 ≤ bytes)
    (h : ∀ v' w', Own e s f W.heap.size w' v' (L ++ M) → Held W w' → w.grownBy w' v.ownBlock → wpList P ops Q rest (a.put o.dst v') w') :
    wpList P ops Q (o :: rest) a w := by
  obtain ⟨i0, hi, hz0, hz1, hz2⟩ := info_parts hinfo
  have hlen : L.length + m ≤ 140737488355328 := Nat.le_trans (Nat.le_mul_of_pos_right _ hb1) hb
  subst hm
  refine wpList_append_own w hgd sl x t ho W.heap.size e i0 z s bytes ht hi hz0 hz1 hz2 hzs hs0 v L.length (L.flatMap f) hs hown ad M.length c (M.flatMap f) hx (flat_len hf M) hnews ?_ (by unfold maxLen; omega) hb hW.le ?_
  · intro u hu
    rw [List.mem_flatMap] at hu
    obtain ⟨y, _, hy⟩ := hu
    exact hf1 y u hy
  · intro v' w' g1 g2 _
    refine h v' w' ?_ (held_grown hW hown g2) g2
    unfold Own
    rw [List.flatMap_append, List.length_append]
    exact g1
/-- An empty slice that is not nil. -/
theorem Own.empty {α : Type} {e : TypeId} {s : Nat} {f : α → List Value} {w : World} {base : Nat} (hb : base ≤ w.heap.size) : Own e s f base (w.alloc (.cells #[] e)) (.slice (some ⟨w.heap.size, 0, none⟩) 0 0) ([] : List α) :=
  ⟨by simp, .inr ⟨w.heap.size, 0, #[], rfl, hb, heap_alloc_new w _, Nat.le_refl _, Nat.zero_le _, by simp, by simp⟩⟩
/-- Append of one element. -/
theorem Own.app {α : Type} {e : TypeId} {s : Nat} {f : α → List Value} {P : Program} (w : World) {ops : Array Oper} {rest : List Oper} {o : Oper} {a : Act} {Q : Exit → Act → World → Prop} (hgd : o.guard = none) (sl x : Operand) (t : TypeId)
    (ho : o.op = .call { callee := .builtin .append, args := #[sl, x], argTypes := #[t, t] }) (z : Value) (bytes : Nat) (ht : P.underlying t = some (.slice e)) (hinfo : (P.info? e).map (fun i => (i.zero, i.size, i.bytes)) = some (some z, s, bytes))
    (hzs : z.cells.size = s) (hs0 : 0 < s) (hf : ∀ x, (f x).length = s) (hf1 : ∀ x, ∀ u ∈ f x, u.oneCell' = true) (base : Nat) (v : Value) (L : List α) (d : α) (ad : Addr) (c : Nat)
    (hs : a.eval sl = v) (hown : Own e s f base w v L) (hx : a.eval x = .slice (some ad) 1 c)
    (hnews : ∀ j u, (f d)[j]? = some u → w.cell? (ad.add j) = some u)
    (hb : (L.length + 1) * bytes ≤ 140737488355328) (hb1 : 1 ≤ bytes) (hbase : base ≤ w.heap.size)
    (h : ∀ g cap w', Own e s f base w' (.slice (some ⟨g, 0, none⟩) (L.length + 1) cap) (L ++ [d]) → w.grownBy w' v.ownBlock → (v.ownBlock = some g ∨ g = w.heap.size) → g < w'.heap.size → wpList P ops Q rest (a.put o.dst (.slice (some ⟨g, 0, none⟩) (L.length + 1) cap)) w') :
    wpList P ops Q (o :: rest) a w := by
  obtain ⟨i0, hi, hz0, hz1, hz2⟩ := info_parts hinfo
  have hlen : L.length + 1 ≤ 140737488355328 := Nat.le_trans (Nat.le_mul_of_pos_right _ hb1) hb
  refine wpList_append_lies w hgd sl x t ho base e i0 z s bytes ht hi hz0 hz1 hz2 hzs hs0 v L.length (L.flatMap f) hs hown ad 1 c (f d) hx (by rw [hf, Nat.one_mul]) hnews (hf1 d) (by decide) (by unfold maxLen; omega) hb hbase w.heap.size rfl ?_
  intro g cap w' g1 g2 g3 g4
  refine h g cap w' ?_ g2 g3 g4
  unfold Own
  rw [List.flatMap_append, List.flatMap_singleton, List.length_append, List.length_singleton]
  exact g1
/-- A store into one element of a slice that the call itself made. -/
theorem Own.stored {α : Type} {e : TypeId} {s : Nat} {f : α → List Value} (hf : ∀ x, (f x).length = s) {base : Nat} {w : World} {g n cap : Nat} {L : List α} (h : Own e s f base w (.slice (some ⟨g, 0, none⟩) n cap) L) (k : Nat) (hk : k < L.length) (i : Nat) (u : Value) (x : α)
    (hx : f x = (f L[k]).set i u) (hi : i < s) : Sl s f (w.setCell ⟨g, k * s + i, none⟩ u) (some ⟨g, 0, none⟩) n (L.set k x) := by
  obtain ⟨hr, hn, hc⟩ := h.reads hf
  refine ⟨by rw [List.length_set, hn], .inr ⟨g, 0, rfl, ?_, fun j hj q v hv => ?_⟩⟩
  · rcases hr.2 with h0 | ⟨b, off, e1, hb, _⟩
    · omega
    · injection e1 with e1
      injection e1 with e1 e2
      subst e1
      simpa [World.setCell] using hb
  · rw [List.length_set] at hj
    rcases hr.2 with h0 | ⟨b, off, e1, hb, hcell⟩
    · omega
    · injection e1 with e1
      injection e1 with e1 e2
      subst e1 e2
      have hq : q < s := by
        have := (List.getElem?_eq_some_iff.1 hv).1
        rw [hf] at this; exact this
      have hci := hcell k hk i
      by_cases ejk : j = k
      · subst ejk
        rw [List.getElem_set_self, hx] at hv
        by_cases eq : q = i
        · subst eq
          rw [List.getElem?_set_self (by rw [hf]; exact hi)] at hv
          injection hv with hv
          subst hv
          have hqf : q < (f L[j]).length := by rw [hf]; exact hi
          have hold := hcell j hk q (f L[j])[q] (List.getElem?_eq_getElem hqf)
          simp only [Nat.zero_add] at hold ⊢
          exact World.cell?_setCell_same _ _ _ hold
        · rw [List.getElem?_set_ne (by omega)] at hv
          have hold := hcell j hk q v hv
          simp only [Nat.zero_add] at hold ⊢
          rw [World.cell?_setCell_other _ _ _ _ (by intro e; injection e with _ e; omega)]
          exact hold
      · rw [List.getElem_set_ne (by omega)] at hv
        have hold := hcell j hj q v hv
        simp only [Nat.zero_add] at hold ⊢
        rw [World.cell?_setCell_other _ _ _ _ ?_]
        · exact hold
        · intro e
          injection e with _ e
          have hne : j < k ∨ k < j := by omega
          rcases hne with h1 | h1
          · have := Nat.mul_le_mul_right s h1; rw [Nat.succ_mul] at this; omega
          · have := Nat.mul_le_mul_right s h1; rw [Nat.succ_mul] at this; omega
end Go.Proofs.Ytmmnanmegdflgaa

namespace Go.Proofs.Ytmmnanmegdflgaa
open Go.RowKit
set_option linter.unusedVariables false
/-- The parts of a type (offset, type): a struct's fields, an array's elements. -/
def parts (P : Program) (t : TypeId) : Option (List (Nat × TypeId)) :=
  match P.underlying t with
  | some (.struct fs) => some (fs.toList.map fun f => (f.offset, f.type))
  | some (.array m e) => some ((List.range m).map fun i => (i * P.cellsOf e, e))
  | _ => none
/-- Cells that read as data of a type. -/
def Rds (P : Program) (w : World) : Nat → TypeId → List Value → Prop
  | 0, _, _ => True
  | n + 1, t, cs =>
    match parts P t with
    | some ps => cs.length = P.cellsOf t ∧ ∀ p ∈ ps, Rds P w n p.2 ((cs.drop p.1).take (P.cellsOf p.2))
    | none =>
      match P.underlying t with
      | some (.int k) => ∃ z, cs = [.int k z] ∧ (Lit.int k z).wf = true
      | some .bool => ∃ b, cs = [.bool b]
      | some .string => ∃ s : ByteArray, cs = [.string s] ∧ s.size ≤ maxLen
      | some (.slice e) => ∃ (A : Option Addr) (len cap : Nat), cs = [.slice A len cap] ∧ len ≤ cap ∧ cap ≤ maxLen ∧
          (A = none → cap = 0) ∧ (len = 0 ∨ P.cellsOf e = 0 ∨ ∃ b off, A = some ⟨b, off, none⟩ ∧ b < w.heap.size ∧ ∀ i, i < len → ∃ cs' : List Value, cs'.length = P.cellsOf e ∧ (∀ j v, cs'[j]? = some v → w.cell? ⟨b, off + i * P.cellsOf e + j, none⟩ = some v) ∧ Rds P w n e cs')
      | _ => True
theorem add_none (a : Addr) (h : a.spot = none) (i : Nat) : a.add i = ⟨a.block, a.off + i, none⟩ := by
  obtain ⟨b, o, s⟩ := a
  subst h
  unfold Addr.add; split
  · rename_i h; subst h; rfl
  · rfl
theorem rds_of_trod {H : Type} {enc : TypeId × Value → H} {P : Program} {w : World} {base : Nat} {spare : Nat → Bool} {held : Bool} : ∀ (n fuel : Nat) (t : TypeId) (cs : List Value) (x : DataW H × List MemPlace),
    DataW.trod enc P w base spare held fuel t cs = some x → Rds P w n t cs
  | 0, _, _, _, _, _ => trivial
  | n + 1, fuel, t, cs, x, h => by
    unfold Rds parts
    cases ht : P.underlying t with
    | none => trivial
    | some ty =>
      cases ty with
      | struct fs =>
        obtain ⟨xs, m, _, _, hl, hxl, hf⟩ := DataW.trod_struct ht h
        refine ⟨hl, fun p hp => ?_⟩
        obtain ⟨f, hfm, rfl⟩ := List.mem_map.1 hp
        obtain ⟨i, hi, hif⟩ := List.mem_iff_getElem.1 hfm
        have hi' : i < fs.size := by simpa using hi
        have hx := hf i f (by rw [Array.getElem?_eq_getElem hi']; simpa using hif)
        rw [List.getElem?_eq_getElem (by omega)] at hx
        exact rds_of_trod n _ _ _ _ hx
      | array m e =>
        obtain ⟨xs, k, _, _, hl, hxl, hf⟩ := DataW.trod_array ht h
        refine ⟨hl, fun p hp => ?_⟩
        obtain ⟨i, him, rfl⟩ := List.mem_map.1 hp
        have hi : i < m := by simpa using him
        have hx := hf i hi
        rw [List.getElem?_eq_getElem (by omega)] at hx
        exact rds_of_trod n _ _ _ _ hx
      | int k =>
        obtain ⟨z, rfl, _, hw⟩ := DataW.trod_int ht h
        exact ⟨z, rfl, hw⟩
      | bool =>
        obtain ⟨b, rfl, _⟩ := DataW.trod_bool ht h
        exact ⟨b, rfl⟩
      | string =>
        obtain ⟨s, rfl, _, hs⟩ := DataW.trod_string ht h
        exact ⟨s, rfl, hs⟩
      | slice e =>
        rcases Go.Deep.open_slice ht h with ⟨rfl, _⟩ | ⟨a, len, cap, m, k, D, Pl, rfl, hb, hl, hm, hmm, _, hi⟩
        · exact ⟨none, 0, 0, rfl, Nat.le_refl _, Nat.zero_le _, (fun _ => rfl), .inl rfl⟩
        · refine ⟨some a, len, cap, rfl, hl, hm, (fun h => by cases h), ?_⟩
          by_cases h0 : len = 0
          · exact .inl h0
          by_cases hz : P.cellsOf e = 0
          · exact .inr (.inl hz)
          have hlm : len ≤ m := by rw [hmm]; split <;> omega
          have hspot : a.spot = none ∧ a.block < w.heap.size := by
            obtain ⟨cs', hc, _⟩ := hi 0 (by omega)
            obtain ⟨_, hcl, hat⟩ := World.cells?_some hc
            have h1 := hat 0 (by omega)
            rw [List.getElem?_eq_getElem (by omega)] at h1
            have e0 : (a.add (0 * P.cellsOf e)).add 0 = a := by simp [Addr.add]
            rw [e0] at h1
            exact ⟨World.cell?_spot h1, World.block_lt_of_cell? w a h1⟩
          refine .inr (.inr ⟨a.block, a.off, ?_, hspot.2, fun i hil => ?_⟩)
          · obtain ⟨b, o, s⟩ := a
            simp at hspot
            rw [hspot.1]
          · obtain ⟨cs', hc, ht'⟩ := hi i (by omega)
            obtain ⟨_, hcl, hat⟩ := World.cells?_some hc
            refine ⟨cs', hcl, fun j v hv => ?_, rds_of_trod n _ _ _ _ ht'⟩
            have hj := (List.getElem?_eq_some_iff.1 hv).1
            have h1 := hat j (by omega)
            rw [Go.Deep.add_add, add_none a hspot.1, hv, ← Nat.add_assoc] at h1
            exact h1
      | _ => trivial
/-- The leaves of a type, in the order of its cells. -/
def leaves (P : Program) : Nat → TypeId → List TypeId
  | 0, t => [t]
  | n + 1, t => match parts P t with
    | some ps => ps.flatMap fun p => leaves P n p.2
    | none => [t]
def laidB (P : Program) : Nat → TypeId → Bool
  | 0, _ => false
  | n + 1, t => match parts P t with
    | some ps => (ps.foldr (fun p (k : Option Nat) => match k with | some e => if p.1 + P.cellsOf p.2 = e ∧ (leaves P n p.2).length = P.cellsOf p.2 ∧ laidB P n p.2 = true ∧ ((parts P p.2).isSome || P.cellsOf p.2 == 1) = true then some p.1 else none | none => none) (some (P.cellsOf t))) == some 0
    | none => true
/-- Each cell reads as its leaf. -/
def Lvs (P : Program) (w : World) (n : Nat) : List TypeId → List Value → Prop
  | [], cs => cs = []
  | t :: ts, cs => ∃ v rest, cs = v :: rest ∧ (∃ m, n ≤ m ∧ Rds P w m t [v]) ∧ Lvs P w n ts rest
theorem Lvs.app {P : Program} {w : World} {n : Nat} : ∀ {ts us : List TypeId} {cs ds : List Value}, Lvs P w n ts cs → Lvs P w n us ds → Lvs P w n (ts ++ us) (cs ++ ds)
  | [], _, cs, _, h, k => by rw [show cs = [] from h]; exact k
  | t :: ts, _, cs, _, ⟨v, rest, e, hv, hr⟩, k => by rw [e]; exact ⟨v, _, rfl, hv, Lvs.app hr k⟩
theorem rds_more {P : Program} {w : World} : ∀ (n m : Nat) (t : TypeId) (cs : List Value), n ≤ m → Rds P w m t cs → Rds P w n t cs
  | 0, _, _, _, _, _ => trivial
  | n + 1, 0, _, _, h, _ => by omega
  | n + 1, m + 1, t, cs, h, hr => by
    unfold Rds at hr ⊢
    cases hp : parts P t with
    | some ps =>
      rw [hp] at hr
      exact ⟨hr.1, fun p hpm => rds_more n m _ _ (by omega) (hr.2 p hpm)⟩
    | none =>
      rw [hp] at hr
      cases ht : P.underlying t with
      | none => trivial
      | some ty =>
        rw [ht] at hr
        cases ty <;> first | exact hr | trivial | skip
        obtain ⟨A, len, cap, h1, h2, h3, h4, h5⟩ := hr
        refine ⟨A, len, cap, h1, h2, h3, h4, h5.imp id fun h5 => h5.imp id ?_⟩
        rintro ⟨b, off, e1, e2, e3⟩
        refine ⟨b, off, e1, e2, fun i hi => ?_⟩
        obtain ⟨cs', f1, f2, f3⟩ := e3 i hi
        exact ⟨cs', f1, f2, rds_more n m _ _ (by omega) f3⟩
theorem laid_fold {P : Program} {n e : Nat} : ∀ (ps : List (Nat × TypeId)) (o : Nat),
    ps.foldr (fun p (k : Option Nat) => match k with | some e => if p.1 + P.cellsOf p.2 = e ∧ (leaves P n p.2).length = P.cellsOf p.2 ∧ laidB P n p.2 = true ∧ ((parts P p.2).isSome || P.cellsOf p.2 == 1) = true then some p.1 else none | none => none) (some e) = some o →
    match ps with
    | [] => o = e
    | p :: rest => o = p.1 ∧ (leaves P n p.2).length = P.cellsOf p.2 ∧ laidB P n p.2 = true ∧ ((parts P p.2).isSome || P.cellsOf p.2 == 1) = true ∧ rest.foldr (fun p (k : Option Nat) => match k with | some e => if p.1 + P.cellsOf p.2 = e ∧ (leaves P n p.2).length = P.cellsOf p.2 ∧ laidB P n p.2 = true ∧ ((parts P p.2).isSome || P.cellsOf p.2 == 1) = true then some p.1 else none | none => none) (some e) = some (p.1 + P.cellsOf p.2)
  | [], o, h => by simpa using h.symm
  | p :: rest, o, h => by
    rw [List.foldr_cons] at h
    revert h
    cases hr : rest.foldr (fun p (k : Option Nat) => match k with | some e => if p.1 + P.cellsOf p.2 = e ∧ (leaves P n p.2).length = P.cellsOf p.2 ∧ laidB P n p.2 = true ∧ ((parts P p.2).isSome || P.cellsOf p.2 == 1) = true then some p.1 else none | none => none) (some e) with
    | none => intro h; cases h
    | some k =>
      intro h
      simp only at h
      split at h
      · rename_i hc
        injection h with h
        exact ⟨h.symm, hc.2.1, hc.2.2.1, hc.2.2.2, by rw [hc.1]; exact hr⟩
      · cases h
/-- Cells that read as data of a type read so leaf by leaf. -/
theorem lvs_of_rds {P : Program} {w : World} (d : Nat) : ∀ (n : Nat) (t : TypeId) (cs : List Value), laidB P n t = true → Rds P w (n + d) t cs → (parts P t = none → ∃ v, cs = [v]) → Lvs P w d (leaves P n t) cs
  | 0, _, _, h, _, _ => by simp [laidB] at h
  | n + 1, t, cs, h, hr, h1 => by
    unfold leaves
    unfold laidB at h
    cases hp : parts P t with
    | none =>
      obtain ⟨v, rfl⟩ := h1 hp
      exact ⟨v, [], rfl, ⟨n + 1 + d, by omega, hr⟩, rfl⟩
    | some ps =>
      rw [hp] at h
      rw [show n + 1 + d = (n + d) + 1 by omega] at hr
      unfold Rds at hr
      rw [hp] at hr
      obtain ⟨hl, hall⟩ := hr
      have h' := eq_of_beq h
      have key : ∀ (qs : List (Nat × TypeId)) (o : Nat), (∀ p ∈ qs, Rds P w (n + d) p.2 ((cs.drop p.1).take (P.cellsOf p.2))) →
          qs.foldr (fun p (k : Option Nat) => match k with | some e => if p.1 + P.cellsOf p.2 = e ∧ (leaves P n p.2).length = P.cellsOf p.2 ∧ laidB P n p.2 = true ∧ ((parts P p.2).isSome || P.cellsOf p.2 == 1) = true then some p.1 else none | none => none) (some (P.cellsOf t)) = some o →
          o ≤ cs.length ∧ Lvs P w d (qs.flatMap fun p => leaves P n p.2) (cs.drop o) := by
        intro qs
        induction qs with
        | nil =>
          intro o _ hf
          have := laid_fold _ _ hf
          simp only at this
          subst this
          refine ⟨by omega, ?_⟩
          show cs.drop _ = []
          rw [← hl, List.drop_length]
        | cons p rest ih =>
          intro o ha hf
          obtain ⟨ho, hlen, hlb, hone, hrest⟩ := laid_fold _ _ hf
          subst ho
          obtain ⟨hle, hrs⟩ := ih _ (fun q hq => ha q (List.mem_cons_of_mem _ hq)) hrest
          refine ⟨by omega, ?_⟩
          have hp1 := ha p List.mem_cons_self
          have hsz : ((cs.drop p.1).take (P.cellsOf p.2)).length = P.cellsOf p.2 := by rw [List.length_take, List.length_drop]; omega
          have := lvs_of_rds d n p.2 _ hlb hp1 (fun hn => by
            have h2 : P.cellsOf p.2 = 1 := by rw [hn] at hone; simpa using hone
            rw [h2] at hsz
            exact List.length_eq_one_iff.1 (by rw [h2]; exact hsz))
          rw [List.flatMap_cons]
          have e : cs.drop p.1 = (cs.drop p.1).take (P.cellsOf p.2) ++ cs.drop (p.1 + P.cellsOf p.2) := by
            rw [← List.drop_drop, List.take_append_drop]
          rw [e]
          exact this.app hrs
      have := (key ps 0 hall h').2
      simpa using this
/-- A slice that came in, of elements that read as data. -/
def SlR (P : Program) (w : World) (n : Nat) (e : TypeId) (A : Option Addr) (len cap : Nat) : Prop :=
  len ≤ cap ∧ cap ≤ maxLen ∧ (A = none → cap = 0) ∧ (len = 0 ∨ P.cellsOf e = 0 ∨ ∃ b off, A = some ⟨b, off, none⟩ ∧ b < w.heap.size ∧ ∀ i, i < len → ∃ cs' : List Value, cs'.length = P.cellsOf e ∧ (∀ j v, cs'[j]? = some v → w.cell? ⟨b, off + i * P.cellsOf e + j, none⟩ = some v) ∧ Rds P w n e cs')
section
variable {P : Program} {w : World} {n : Nat} {t : TypeId} {v : Value}
theorem lvs_of (t : TypeId) (n d : Nat) {cs : List Value} (hs : (parts P t).isSome = true) (hl : laidB P n t = true) (h : Rds P w (n + d) t cs) : Lvs P w d (leaves P n t) cs :=
  lvs_of_rds d n t cs hl h (fun hn => by rw [hn] at hs; cases hs)
theorem leaf_int {k : IntKind} (hu : P.underlying t = some (.int k)) (h : ∃ m, n + 1 ≤ m ∧ Rds P w m t [v]) : ∃ z, v = .int k z ∧ (Lit.int k z).wf = true := by
  obtain ⟨m, hm, h⟩ := h
  obtain ⟨m, rfl⟩ : ∃ m', m = m' + 1 := ⟨m - 1, by omega⟩
  have hp : parts P t = none := by unfold parts; rw [hu]
  unfold Rds at h
  rw [hp, hu] at h
  obtain ⟨z, hz, hw⟩ := h
  exact ⟨z, by simpa using hz, hw⟩
theorem leaf_bool (hu : P.underlying t = some .bool) (h : ∃ m, n + 1 ≤ m ∧ Rds P w m t [v]) : ∃ b, v = .bool b := by
  obtain ⟨m, hm, h⟩ := h
  obtain ⟨m, rfl⟩ : ∃ m', m = m' + 1 := ⟨m - 1, by omega⟩
  have hp : parts P t = none := by unfold parts; rw [hu]
  unfold Rds at h
  rw [hp, hu] at h
  obtain ⟨b, hb⟩ := h
  exact ⟨b, by simpa using hb⟩
theorem leaf_string (hu : P.underlying t = some .string) (h : ∃ m, n + 1 ≤ m ∧ Rds P w m t [v]) : ∃ s : ByteArray, v = .string s ∧ s.size ≤ maxLen := by
  obtain ⟨m, hm, h⟩ := h
  obtain ⟨m, rfl⟩ : ∃ m', m = m' + 1 := ⟨m - 1, by omega⟩
  have hp : parts P t = none := by unfold parts; rw [hu]
  unfold Rds at h
  rw [hp, hu] at h
  obtain ⟨s, hs, hm⟩ := h
  exact ⟨s, by simpa using hs, hm⟩
theorem leaf_slice {e : TypeId} (hu : P.underlying t = some (.slice e)) (h : ∃ m, n + 1 ≤ m ∧ Rds P w m t [v]) : ∃ A len cap, v = .slice A len cap ∧ SlR P w n e A len cap := by
  obtain ⟨m, hm, h⟩ := h
  obtain ⟨m, rfl⟩ : ∃ m', m = m' + 1 := ⟨m - 1, by omega⟩
  have hp : parts P t = none := by unfold parts; rw [hu]
  have h := rds_more (n + 1) (m + 1) _ _ hm h
  unfold Rds at h
  rw [hp, hu] at h
  obtain ⟨A, len, cap, h1, h2⟩ := h
  exact ⟨A, len, cap, by simpa using h1, h2⟩
end
theorem choose_list {α : Type} {p : Nat → α → Prop} : ∀ (n : Nat), (∀ i, i < n → ∃ x, p i x) → ∃ L : List α, L.length = n ∧ ∀ i (h : i < L.length), p i L[i]
  | 0, _ => ⟨[], rfl, fun i h => absurd h (Nat.not_lt_zero _)⟩
  | n + 1, h => by
    obtain ⟨L, hl, hp⟩ := choose_list n (fun i hi => h i (by omega))
    obtain ⟨x, hx⟩ := h n (by omega)
    refine ⟨L ++ [x], by simp [hl], fun i hi => ?_⟩
    by_cases e : i < L.length
    · rw [List.getElem_append_left e]; exact hp i e
    · have : i = n := by simp at hi; omega
      subst this
      rw [List.getElem_append_right (by omega)]
      simpa [hl] using hx
/-- Such a slice holds a list. -/
theorem SlR.sl {α : Type} {P : Program} {w : World} {n : Nat} {e : TypeId} {A : Option Addr} {len cap s : Nat} (f : α → List Value) (good : α → Prop) (hs : P.cellsOf e = s) (hs0 : 0 < s) (hx : ∀ cs, Rds P w n e cs → ∃ x, cs = f x ∧ good x) (h : SlR P w n e A len cap) :
    ∃ L : List α, Sl s f w A len L ∧ ∀ x ∈ L, good x := by
  subst hs
  obtain ⟨_, _, _, h0 | h0 | ⟨b, off, e1, hb, hi⟩⟩ := h
  · exact ⟨[], ⟨h0.symm, .inl h0⟩, by simp⟩
  · omega
  · obtain ⟨L, hl, hp⟩ := choose_list (p := fun i x => good x ∧ ∀ j v, (f x)[j]? = some v → w.cell? ⟨b, off + i * P.cellsOf e + j, none⟩ = some v) len (fun i hil => by
      obtain ⟨cs', h1, h2, h3⟩ := hi i hil
      obtain ⟨x, rfl, hg⟩ := hx cs' h3
      exact ⟨x, hg, h2⟩)
    refine ⟨L, ⟨hl, .inr ⟨b, off, e1, hb, fun k hk j v hv => (hp k hk).2 j v hv⟩⟩, fun x hxm => ?_⟩
    obtain ⟨i, hi, rfl⟩ := List.mem_iff_getElem.1 hxm
    exact (hp i hi).1
end Go.Proofs.Ytmmnanmegdflgaa

namespace Go.Proofs.Ytmmnanmegdflgaa.Rw
open Go.RowKit
set_option linter.unusedVariables false
/-- It is nil; or it leads to a row of 'cap' cells, the numbers 'zs' (the first 'len' are its elements). -/
def IsRow (k : IntKind) (w : World) (a : Option Addr) (len cap : Nat) (zs : List Int) : Prop :=
  (a = none ∧ len = 0 ∧ cap = 0 ∧ zs = []) ∨
  ∃ x, a = some x ∧ len ≤ cap ∧ cap ≤ maxLen ∧ zs.length = cap ∧ (∀ i, i < zs.length → w.cell? (x.add i) = some (.int k (zs.getD i 0))) ∧ ∀ n ∈ zs, (Lit.int k n).wf = true
/-- A row as a list of its elements. -/
theorem IsRow.view {k : IntKind} {w : World} {a : Option Addr} {len cap : Nat} {zs : List Int} (h : IsRow k w a len cap zs) :
    ∃ L : List Int, L.length = len ∧ len ≤ maxLen ∧ (∀ n ∈ L, (Lit.int k n).wf = true) ∧ (len = 0 ∨ ∃ b off, a = some ⟨b, off, none⟩ ∧ b < w.heap.size ∧ ∀ i (h : i < L.length), w.cell? ⟨b, off + i, none⟩ = some (.int k L[i])) := by
  rcases h with ⟨rfl, rfl, rfl, rfl⟩ | ⟨⟨b, off, spot⟩, rfl, hl, hm, hz, hc, hw⟩
  · exact ⟨[], rfl, Nat.zero_le _, by simp, .inl rfl⟩
  · refine ⟨zs.take len, by simp; omega, Nat.le_trans hl hm, fun n hn => hw n (List.mem_of_mem_take hn), ?_⟩
    by_cases h0 : len = 0
    · exact .inl h0
    · have hc0 := hc 0 (by omega)
      have hspot : spot = none := by simpa [Addr.add] using World.cell?_spot hc0
      subst hspot
      refine .inr ⟨b, off, rfl, ?_, fun i hi => ?_⟩
      · rcases Nat.lt_or_ge b w.heap.size with h | h
        · exact h
        · simp [Addr.add, World.cell?, Array.getElem?_eq_none h] at hc0
      · simp at hi
        have := hc i (by omega)
        have e : (⟨b, off, none⟩ : Addr).add i = ⟨b, off + i, none⟩ := by
          unfold Addr.add; split
          · rename_i h; subst h; rfl
          · rfl
        rw [e] at this
        rw [this]; simp [List.getD_eq_getElem?_getD, List.getElem?_eq_getElem (show i < zs.length by omega)]
theorem bd_u32 {a : Int} (h : (Lit.int .u32 a).wf = true) : 0 ≤ a ∧ a ≤ 4294967295 := by
  simp [Lit.wf, IntKind.min, IntKind.max, IntKind.signed, IntKind.bits] at h; omega
theorem bd_u64 {a : Int} (h : (Lit.int .u64 a).wf = true) : 0 ≤ a ∧ a ≤ 18446744073709551615 := by
  simp [Lit.wf, IntKind.min, IntKind.max, IntKind.signed, IntKind.bits] at h; omega
theorem bd_u8 {a : Int} (h : (Lit.int .u8 a).wf = true) : 0 ≤ a ∧ a ≤ 255 := by
  simp [Lit.wf, IntKind.min, IntKind.max, IntKind.signed, IntKind.bits] at h; omega
theorem bd_i64 {a : Int} (h : (Lit.int .i64 a).wf = true) : -9223372036854775808 ≤ a ∧ a ≤ 9223372036854775807 := by
  simp [Lit.wf, IntKind.min, IntKind.max, IntKind.signed, IntKind.bits] at h; omega
theorem bd_i32 {a : Int} (h : (Lit.int .i32 a).wf = true) : -2147483648 ≤ a ∧ a ≤ 2147483647 := by
  simp [Lit.wf, IntKind.min, IntKind.max, IntKind.signed, IntKind.bits] at h; omega
theorem below_drewN {B : Nat} {a w : World} (h : Below B a w) : ∀ n, Below B a (w.drewN n)
  | 0 => h
  | n + 1 => ⟨h.os, h.tape, h.output, h.size, h.block⟩
/-- What lies below stays below behind a callee that keeps all that was there. -/
theorem trans' {B : Nat} {a b c : World} (h : Below B a b) (hB : B ≤ b.heap.size) (k : Below b.heap.size b c) : Below B a c := h.trans (k.mono hB)
end Go.Proofs.Ytmmnanmegdflgaa.Rw

namespace Go.Proofs.Ytmmnanmegdflgaa.Ad
set_option linter.unusedVariables false
/-- A demand: reservation, limit, processor time, group. -/
structure Dem where
  r : Int
  l : Int
  c : Int
  g : Int
def units (n : Int) : Bool := decide (0 ≤ n) && decide (n ≤ 1000000)
def vd (d : Dem) : Bool := decide (0 ≤ d.r) && decide (d.r ≤ d.l) && units d.l && units d.c && decide (0 ≤ d.g)
def vh (m c : Int) : Bool := units m && units c
def valid (m c : Int) (L : List Dem) : Bool := vh m c && decide (L.length ≤ 16) && L.all vd
def sumR (L : List Dem) : Int := (L.map Dem.r).sum
def sumC (L : List Dem) : Int := (L.map Dem.c).sum
def freeM (m c : Int) (L : List Dem) : Int := if valid m c L then m - sumR L else 0
def freeC (m c : Int) (L : List Dem) : Int := if valid m c L then c - sumC L else 0
def clash (L : List Dem) (g : Int) : Bool := L.any fun x => decide (x.g = g)
def admit (m c : Int) (up : Bool) (L : List Dem) (d : Dem) : Int :=
  if (valid m c L && vd d) = false then 3900 else if up = false then 3904 else if freeM m c L < d.r then 3901 else if freeC m c L < d.c then 3902
  else if d.g ≠ 0 ∧ clash L d.g = true then 3903 else 0
/-- All fit, each beside those before it: of the list's elements from k on. -/
def fitsTo (m c : Int) (up : Bool) (L : List Dem) : Nat → Bool
  | 0 => true
  | k + 1 => fitsTo m c up L k && (match L[k]? with | some d => decide (admit m c up (L.take k) d = 0) | none => true)
def fits (m c : Int) (up : Bool) (L : List Dem) : Bool := fitsTo m c up L L.length

theorem units_iff (n : Int) : units n = true ↔ 0 ≤ n ∧ n ≤ 1000000 := by simp [units]
theorem vd_iff (d : Dem) : vd d = true ↔ 0 ≤ d.r ∧ d.r ≤ d.l ∧ units d.l = true ∧ units d.c = true ∧ 0 ≤ d.g := by
  simp [vd, and_assoc]
theorem vd_bd {d : Dem} (h : vd d = true) : 0 ≤ d.r ∧ d.r ≤ 1000000 ∧ 0 ≤ d.c ∧ d.c ≤ 1000000 ∧ 0 ≤ d.l ∧ d.l ≤ 1000000 ∧ 0 ≤ d.g := by
  obtain ⟨h1, h2, h3, h4, h5⟩ := (vd_iff d).1 h
  have h3 := (units_iff _).1 h3
  have h4 := (units_iff _).1 h4
  omega
theorem sumR_snoc (L : List Dem) (d : Dem) : sumR (L ++ [d]) = sumR L + d.r := by simp [sumR]
theorem sumC_snoc (L : List Dem) (d : Dem) : sumC (L ++ [d]) = sumC L + d.c := by simp [sumC]
theorem sum_bd (L : List Dem) (h : L.all vd = true) : 0 ≤ sumR L ∧ sumR L ≤ 1000000 * L.length ∧ 0 ≤ sumC L ∧ sumC L ≤ 1000000 * L.length := by
  induction L with
  | nil => simp [sumR, sumC]
  | cons d L ih =>
    simp only [List.all_cons, Bool.and_eq_true] at h
    have := ih h.2
    have hd := vd_bd h.1
    simp only [sumR, sumC, List.map_cons, List.sum_cons, List.length_cons] at *
    omega
theorem all_take {L : List Dem} (h : L.all vd = true) (k : Nat) : (L.take k).all vd = true := by
  rw [List.all_eq_true] at *
  exact fun x hx => h x (List.mem_of_mem_take hx)
theorem take_snoc (L : List Dem) (k : Nat) (h : k < L.length) : L.take (k + 1) = L.take k ++ [L[k]] := List.take_succ_eq_append_getElem h
theorem all_snoc (L : List Dem) (k : Nat) (h : k < L.length) : (L.take (k + 1)).all vd = ((L.take k).all vd && vd L[k]) := by
  rw [take_snoc L k h, List.all_append]; simp
theorem clash_snoc (L : List Dem) (k : Nat) (h : k < L.length) (g : Int) : clash (L.take (k + 1)) g = (clash (L.take k) g || decide (L[k].g = g)) := by
  rw [take_snoc L k h]; unfold clash; rw [List.any_append]; simp
theorem all_len (L : List Dem) : (L.take L.length).all vd = L.all vd := by rw [List.take_length]
theorem fits_step {m c : Int} {up : Bool} {L : List Dem} {k : Nat} (h : k < L.length) : fitsTo m c up L (k + 1) = (fitsTo m c up L k && decide (admit m c up (L.take k) L[k] = 0)) := by
  rw [fitsTo, List.getElem?_eq_getElem h]
/-- Once false, always false. -/
theorem fits_no {m c : Int} {up : Bool} {L : List Dem} {k : Nat} (h : fitsTo m c up L k = false) : ∀ j, k ≤ j → fitsTo m c up L j = false := by
  intro j hj
  induction j with
  | zero => obtain rfl : k = 0 := by omega
            exact h
  | succ j ih =>
    by_cases e : k = j + 1
    · rw [← e]; exact h
    · rw [fitsTo, ih (by omega)]; rfl
end Go.Proofs.Ytmmnanmegdflgaa.Ad

namespace Go.Proofs.Ytmmnanmegdflgaa.Ad
set_option linter.unusedVariables false
/-- A placed guest: its name, its demand, the hosts of its two sides. -/
structure Pl where
  nm : ByteArray
  d : Dem
  a : Int
  b : Int
def onOne (p : Pl) (h : Int) : List Dem := (if p.a = h then [p.d] else []) ++ (if p.b = h then [p.d] else [])
/-- The demands with a side on a host. -/
def on (L : List Pl) (h : Int) : List Dem := L.flatMap fun p => onOne p h
theorem on_snoc (L : List Pl) (k : Nat) (p : Pl) (h : Int) (hp : L[k]? = some p) : on (L.take (k + 1)) h = on (L.take k) h ++ onOne p h := by
  obtain ⟨hk, rfl⟩ := List.getElem?_eq_some_iff.1 hp
  unfold on
  rw [List.take_succ_eq_append_getElem hk, List.flatMap_append, List.flatMap_singleton]
theorem onOne_len (p : Pl) (h : Int) : (onOne p h).length ≤ 2 := by unfold onOne; split <;> split <;> simp
theorem on_len (L : List Pl) (h : Int) : (on L h).length ≤ 2 * L.length := by
  unfold on
  induction L with
  | nil => simp
  | cons p L ih =>
    rw [List.flatMap_cons, List.length_append, List.length_cons]
    have := onOne_len p h
    omega
/-- Does a host exist. -/
def there (n : Int) (h : Int) : Bool := decide (0 ≤ h) && decide (h < n)
end Go.Proofs.Ytmmnanmegdflgaa.Ad
