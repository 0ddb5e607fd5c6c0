/-
  Words for memory: slices of structs: a slice value that holds a list, each element as its cells; appending to one that the call itself made.
  Contracts: sealed segments: the readers, Seal and Open of eventlog and of its reference compute the plain functions of Lg.
  Contracts: sealed segments: the hash's bytes, Seal and Open of eventlog and of its reference.
  Contracts: Valid of eventlog and of its reference (printed by wip/tools/mkev.py).
  Contract: Round of vmfleetmake.
  Contract: Mix of vmfleetmake.
-/
import Derived.Test.YthpjbffhdaaibaaGreatZ1
import Derived.WalkKit
import Derived.Deep.Draws
import Derived.Lib.Hide
import Derived.Deep.AppendLies
import Derived.Lib.QuietBelow
import Derived.Test.YthpjbffhdaaibaaGreatProg
import Derived.WalkSpells
import Derived.WalkLawsBesides
import Derived.BigQuiet
import Derived.Deep.QuietTactic
namespace Go.Proofs.YthpjbffhdaaibaaGreat
open Go.RowKit
set_option linter.unusedVariables false
/-- The slice value '.slice A n _' holds the list L, each element as the cells 'f x', 's' of them. -/
def Sl {α : Type} (s : Nat) (f : α → List Value) (w : World) (A : Option Addr) (n : Nat) (L : List α) : Prop :=
  L.length = n ∧ (n = 0 ∨ ∃ b off, A = some ⟨b, off, none⟩ ∧ b < w.heap.size ∧ ∀ k (h : k < L.length) j v, (f L[k])[j]? = some v → w.cell? ⟨b, off + k * s + j, none⟩ = some v)
namespace Sl
variable {α : Type} {s : Nat} {f : α → List Value}
theorem nil (w : World) (A : Option Addr) : Sl s f w A 0 [] := ⟨rfl, .inl rfl⟩
theorem held {w a : World} {A : Option Addr} {n : Nat} {L : List α} (h : Sl s f w A n L) (ha : Held w a) : Sl s f a A n L :=
  ⟨h.1, h.2.imp id fun ⟨b, off, e, hb, hc⟩ => ⟨b, off, e, Nat.lt_of_lt_of_le hb ha.le, fun k hk j v hv => ha.cell (hc k hk j v hv)⟩⟩
theorem take {w : World} {A : Option Addr} {n : Nat} {L : List α} (h : Sl s f w A n L) {k : Nat} (hk : k ≤ n) : Sl s f w A k (L.take k) := by
  refine ⟨by rw [List.length_take, h.1]; omega, ?_⟩
  rcases h.2 with h0 | ⟨b, off, e, hb, hc⟩
  · exact .inl (by omega)
  · refine .inr ⟨b, off, e, hb, fun j hj => ?_⟩
    simp only [List.length_take] at hj
    simp only [List.getElem_take]
    exact hc j (by omega)
/-- An element, in whatever later world: all its cells. -/
theorem at_ {w a : World} {A : Option Addr} {n : Nat} {L : List α} (h : Sl s f w A n L) (ha : Held w a) {k : Nat} (hk : k < n) :
    ∃ b off x, A = some ⟨b, off, none⟩ ∧ b < w.heap.size ∧ L[k]? = some x ∧ ∀ j v, (f x)[j]? = some v → a.cell? ⟨b, off + k * s + j, none⟩ = some v := by
  rcases h.2 with h0 | ⟨b, off, e, hb, hc⟩
  · omega
  · have hl : k < L.length := by rw [h.1]; exact hk
    exact ⟨b, off, L[k], e, hb, List.getElem?_eq_getElem hl, fun j v hv => ha.cell (hc k hl j v hv)⟩
end Sl
theorem flat_len {α : Type} {s : Nat} {f : α → List Value} (hf : ∀ x, (f x).length = s) (L : List α) : (L.flatMap f).length = L.length * s := by
  induction L with
  | nil => simp
  | cons x L ih => rw [List.flatMap_cons, List.length_append, ih, hf, List.length_cons, Nat.succ_mul]; omega
theorem flat_at {α : Type} {s : Nat} {f : α → List Value} (hf : ∀ x, (f x).length = s) (L : List α) (k : Nat) (hk : k < L.length) (j : Nat) (hj : j < s) : (L.flatMap f)[k * s + j]? = (f L[k])[j]? := by
  have e : L.flatMap f = (L.take k).flatMap f ++ (f L[k] ++ (L.drop (k + 1)).flatMap f) := by
    have h1 : L = L.take k ++ ([L[k]] ++ L.drop (k + 1)) := by simp
    exact (congrArg (List.flatMap f) h1).trans (by rw [List.flatMap_append, List.flatMap_append, List.flatMap_singleton])
  have hlk : ((L.take k).flatMap f).length = k * s := by rw [flat_len hf, List.length_take, Nat.min_eq_left (by omega)]
  rw [e, List.getElem?_append_right (by omega), hlk, Nat.add_sub_cancel_left, List.getElem?_append_left (by rw [hf]; exact hj)]
theorem addr_add (b off j : Nat) : (⟨b, off, none⟩ : Addr).add j = ⟨b, off + j, none⟩ := by
  unfold Addr.add; split
  · rename_i h; subst h; rfl
  · rfl
/-- The cells of a slice in one row. -/
theorem Sl.flat {α : Type} {s : Nat} {f : α → List Value} (hf : ∀ x, (f x).length = s) (hs : 0 < s) {w : World} {b off n : Nat} {L : List α} (h : Sl s f w (some ⟨b, off, none⟩) n L) :
    ∀ j u, (L.flatMap f)[j]? = some u → w.cell? ((⟨b, off, none⟩ : Addr).add j) = some u := by
  intro j u hu
  have hj := (List.getElem?_eq_some_iff.1 hu).1
  rw [flat_len hf] at hj
  have hq : j / s < L.length := Nat.div_lt_of_lt_mul (by rw [Nat.mul_comm]; exact hj)
  have e : j / s * s + j % s = j := by rw [Nat.mul_comm]; exact Nat.div_add_mod j s
  rcases h.2 with h0 | ⟨b', off', e1, hb, hc⟩
  · rw [h.1, h0] at hq; exact absurd hq (Nat.not_lt_zero _)
  · injection e1 with e1
    injection e1 with e1 e2
    subst e1 e2
    have h2 := flat_at hf L (j / s) hq (j % s) (Nat.mod_lt _ hs)
    rw [e, hu] at h2
    have h3 := hc (j / s) hq (j % s) u h2.symm
    rw [Nat.add_assoc, e] at h3
    rw [addr_add]; exact h3
theorem Sl.drop {α : Type} {s : Nat} {f : α → List Value} {w : World} {b off n : Nat} {L : List α} (h : Sl s f w (some ⟨b, off, none⟩) n L) {k : Nat} (hk : k ≤ n) : Sl s f w (some ⟨b, off + k * s, none⟩) (n - k) (L.drop k) := by
  refine ⟨by rw [List.length_drop, h.1], ?_⟩
  rcases h.2 with h0 | ⟨b', off', e1, hb, hc⟩
  · exact .inl (by omega)
  · injection e1 with e1
    injection e1 with e1 e2
    subst e1 e2
    refine .inr ⟨b, off + k * s, rfl, hb, fun j hj i v hv => ?_⟩
    rw [List.length_drop] at hj
    rw [List.getElem_drop] at hv
    have := hc (k + j) (by omega) i v hv
    rw [Nat.add_mul] at this
    rw [show off + k * s + j * s + i = off + (k * s + j * s) + i by omega]; exact this
/-- A slice value that the call itself made holds the list L. -/
def Own {α : Type} (e : TypeId) (s : Nat) (f : α → List Value) (base : Nat) (w : World) (v : Value) (L : List α) : Prop := w.ownsRow base e s v L.length (L.flatMap f)
namespace Own
variable {α : Type} {e : TypeId} {s : Nat} {f : α → List Value} {base : Nat}
theorem nil (w : World) : Own e s f base w (.slice none 0 0) ([] : List α) := World.ownsRow_nil _ _ _ _
theorem shape {w : World} {v : Value} {L : List α} (h : Own e s f base w v L) : ∃ A cap, v = .slice A L.length cap ∧ L.length ≤ cap ∧ cap ≤ maxLen := by
  rcases h.2 with ⟨rfl, h0⟩ | ⟨g, cap, cur, rfl, _, _, hc, hm, _⟩
  · exact ⟨_, 0, by rw [h0], by rw [h0]; exact Nat.le_refl _, Nat.zero_le _⟩
  · exact ⟨_, _, rfl, hc, hm⟩
theorem cap {w : World} {A : Option Addr} {n cp : Nat} {L : List α} (h : Own e s f base w (.slice A n cp) L) : n ≤ cp := by
  obtain ⟨A', cp', e1, h1, _⟩ := h.shape
  injection e1 with e1 e2 e3
  subst e2 e3
  exact h1
theorem held {W w w1 : World} {v : Value} {L : List α} (h : Own e s f W.heap.size w v L) (hw : Held w w1) : Own e s f W.heap.size w1 v L := by
  refine ⟨h.1, ?_⟩
  rcases h.2 with h2 | ⟨g, cap, cur, hv, hb, hh, r⟩
  · exact .inl h2
  · refine .inr ⟨g, cap, cur, hv, hb, ?_, r⟩
    rw [hw.block g ?_]; exact hh
    rcases Nat.lt_or_ge g w.heap.size with hl | hl
    · exact hl
    · rw [Array.getElem?_eq_none hl] at hh; cases hh
theorem mono {base' : Nat} {w : World} {v : Value} {L : List α} (h : Own e s f base w v L) (hb : base' ≤ base) : Own e s f base' w v L :=
  ⟨h.1, h.2.imp id fun ⟨g, cap, cur, hv, h1, r⟩ => ⟨g, cap, cur, hv, Nat.le_trans hb h1, r⟩⟩
/-- It reads as the list. -/
theorem reads {w : World} (hf : ∀ x, (f x).length = s) {A : Option Addr} {n cap : Nat} {L : List α} (h : Own e s f base w (.slice A n cap) L) : Sl s f w A n L ∧ n = L.length ∧ n ≤ cap := by
  obtain ⟨hl, h⟩ := h
  rcases h with ⟨he, h0⟩ | ⟨g, cp, cur, he, hb, hh, hn, hm, hc, ht⟩
  · injection he with e1 e2 e3
    subst e2
    exact ⟨⟨h0, .inl rfl⟩, h0.symm, by omega⟩
  · injection he with e1 e2 e3
    subst e1 e2 e3
    have hg : g < w.heap.size := by
      rcases Nat.lt_or_ge g w.heap.size with hl | hl
      · exact hl
      · rw [Array.getElem?_eq_none hl] at hh; cases hh
    refine ⟨⟨rfl, .inr ⟨g, 0, rfl, hg, fun k hk j v hv => ?_⟩⟩, rfl, hn⟩
    have hj : j < s := by
      have := (List.getElem?_eq_some_iff.1 hv).1
      rw [hf] at this; exact this
    have hlt : k * s + j < L.length * s := by
      have : (k + 1) * s ≤ L.length * s := Nat.mul_le_mul_right _ hk
      rw [Nat.succ_mul] at this; omega
    have h1 : (cur.toList.take (L.length * s))[k * s + j]? = some v := by rw [ht, flat_at hf L k hk j hj]; exact hv
    rw [List.getElem?_take, if_pos hlt] at h1
    simp only [World.cell?, hh, Nat.zero_add]
    simpa using h1
end Own
theorem own_slice {w : World} {base : Nat} {e : TypeId} {size n : Nat} {v : Value} {xs : List Value} (h : w.ownsRow base e size v n xs) : ∃ A cap, v = .slice A n cap ∧ n ≤ cap := by
  rcases h.2 with ⟨rfl, rfl⟩ | ⟨g, cap, cur, rfl, _, _, hc, _⟩
  · exact ⟨_, _, rfl, Nat.le_refl _⟩
  · exact ⟨_, _, rfl, hc⟩
theorem held_grown {W w w1 : World} {e : TypeId} {s n : Nat} {v : Value} {xs : List Value} (hb : Held W w) (hown : w.ownsRow W.heap.size e s v n xs) (hg : w.grownBy w1 v.ownBlock) : Held W w1 := by
  refine Below.grown hb hg hb.size ?_
  intro k hk
  obtain ⟨_, h⟩ := hown
  rcases h with ⟨rfl, _⟩ | ⟨g, cap, cur, rfl, hg', _⟩
  · simp [Value.ownBlock] at hk
  · simp [Value.ownBlock] at hk; omega
/-- Behind an append the old value still holds what it held. -/
theorem append_keeps {P : Program} (w w1 : World) (t ty : TypeId) (base : Nat) (e : TypeId) (i : TypeInfo) (z : Value) (size bytes : Nat) (ht : P.underlying t = some (.slice e)) (hi : P.info? e = some i) (hz : i.zero = some z)
    (hsize : i.size = size) (hby : i.bytes = bytes) (hsz : 0 < size) (v v' : Value) (n : Nat) (xs : List Value) (hown : w.ownsRow base e size v n xs)
    (ad : Addr) (m c : Nat) (news : List Value) (hl : news.length = m * size) (hnews : ∀ j u, news[j]? = some u → w.cell? (ad.add j) = some u) (h1 : ∀ u ∈ news, u.oneCell' = true) (hm : 0 < m)
    (h63 : n + m ≤ maxLen) (hbytes : (n + m) * bytes ≤ 140737488355328) (hr : (Builtin.append_ #[t, t] ty #[v, .slice (some ad) m c]).run P w = .ok v' w1) : w1.ownsRow base e size v n xs := by
  subst hsize hby
  rcases hown.2 with ⟨rfl, rfl⟩ | ⟨g, cap, cur, rfl, hbg, hg, hnc, hcm, hcs, htake⟩
  · exact ⟨hown.1, .inl ⟨rfl, rfl⟩⟩
  · by_cases hroom : n + m ≤ cap
    · have hfit : n * i.size + news.length ≤ cur.size := by rw [hl, hcs, ← Nat.add_mul]; exact Nat.mul_le_mul_right _ hroom
      rw [run_append_room (P := P) w t ty e i ht hi g n cap cur hg ad m c news hl hnews h1 hroom hfit] at hr
      injection hr with _ hr
      subst hr
      refine ⟨hown.1, .inr ⟨g, cap, _, rfl, hbg, setRow_heap w g cur _ e _ hg, hnc, hcm, ?_, ?_⟩⟩
      · simp only [List.size_toArray, List.length_append, List.length_take, List.length_drop, Array.length_toList]
        omega
      · have hlen : (cur.toList.take (n * i.size)).length = n * i.size := by rw [htake, hown.1]
        rw [List.append_assoc]
        conv => rhs; rw [← htake]
        exact (congrArg (fun k => List.take k _) hlen.symm).trans List.take_left
    · rw [run_append_grow (P := P) w t ty e i z ht hi hz ⟨g, 0, none⟩ n cap xs hown.1 (hown.cells (g := g) rfl) ad m c news hl hnews (by omega) (by unfold maxLen at h63; omega) (growslice_fits (by omega) hbytes)] at hr
      injection hr with _ hr
      subst hr
      refine ⟨hown.1, .inr ⟨g, cap, cur, rfl, hbg, ?_, hnc, hcm, hcs, htake⟩⟩
      have hlt : g < w.heap.size := (Array.getElem?_eq_some_iff.1 hg).1
      exact (Below.heap_alloc w.drew _ g hlt).trans hg
/-- At a step of a region that draws its order: append of one element; the old value still holds what it held. -/
theorem Own.step_app {α : Type} {e : TypeId} {s : Nat} {f : α → List Value} {P : Program} (w : World) {ops : Array Oper} {o : Oper} {a : Act} {K : Act → World → Prop} {Q : Exit → Act → World → Prop} {E : Prop} (hgd : o.guard = none) (sl x : Operand) (t : TypeId)
    (ho : o.op = .call { callee := .builtin .append, args := #[sl, x], argTypes := #[t, t] }) (z : Value) (bytes : Nat) (ht : P.underlying t = some (.slice e)) (hinfo : (P.info? e).map (fun i => (i.zero, i.size, i.bytes)) = some (some z, s, bytes))
    (hzs : z.cells.size = s) (hs0 : 0 < s) (hf : ∀ x, (f x).length = s) (hf1 : ∀ x, ∀ u ∈ f x, u.oneCell' = true) (base : Nat) (v : Value) (L : List α) (d : α) (ad : Addr) (c : Nat)
    (hs : a.eval sl = v) (hown : Own e s f base w v L) (hx : a.eval x = .slice (some ad) 1 c)
    (hnews : ∀ j u, (f d)[j]? = some u → w.cell? (ad.add j) = some u)
    (hb : (L.length + 1) * bytes ≤ 140737488355328) (hb1 : 1 ≤ bytes) (hbase : base ≤ w.heap.size)
    (h : ∀ g cap w', Own e s f base w' (.slice (some ⟨g, 0, none⟩) (L.length + 1) cap) (L ++ [d]) → Own e s f base w' v L → w.grownBy w' v.ownBlock → (v.ownBlock = some g ∨ g = w.heap.size) → g < w'.heap.size → K (a.put o.dst (.slice (some ⟨g, 0, none⟩) (L.length + 1) cap)) w') :
    if Region.wanted o (yielded ops a.tmps) = true then Oper.wp P o a w K Q else E := by
  obtain ⟨i0, hi, hz0, hz1, hz2⟩ := info_parts hinfo
  have hlen : L.length + 1 ≤ 140737488355328 := Nat.le_trans (Nat.le_mul_of_pos_right _ hb1) hb
  have hw : Region.wanted o (yielded ops a.tmps) = true := by simp [Region.wanted, hgd]
  have hfl : (f d).length = 1 * s := by rw [hf, Nat.one_mul]
  rw [if_pos hw]
  obtain ⟨g, cap, w', hr, h2, h3, h4, h5⟩ := run_append_lies (P := P) w t o.type base e i0 z s bytes ht hi hz0 hz1 hz2 hzs hs0 v L.length (L.flatMap f) hown ad 1 c (f d) hfl hnews (hf1 d) (by decide) (by unfold maxLen; omega) hb hbase w.heap.size rfl
  have h6 := append_keeps w w' t o.type base e i0 z s bytes ht hi hz0 hz1 hz2 hs0 v _ L.length (L.flatMap f) hown ad 1 c (f d) hfl hnews (hf1 d) (by decide) (by unfold maxLen; omega) hb hr
  unfold Oper.wp execOp
  simp only [ho, resolve, invoke, builtin, Sem.run_bind, Sem.run_pure, Result.andThen_ok, List.map_toArray, List.map_cons, List.map_nil, hs, hx, hr]
  refine h g cap w' ?_ h6 h3 h4 h5
  unfold Own
  rw [List.flatMap_append, List.flatMap_singleton, List.length_append, List.length_singleton]
  exact h2
/-- At a step of a region that draws its order: append of a list. -/
theorem Own.step_apps {α : Type} {e : TypeId} {s : Nat} {f : α → List Value} {P : Program} (w : World) {ops : Array Oper} {o : Oper} {a : Act} {K : Act → World → Prop} {Q : Exit → Act → World → Prop} {E : Prop} (hgd : o.guard = none) (sl x : Operand) (t : TypeId)
    (ho : o.op = .call { callee := .builtin .append, args := #[sl, x], argTypes := #[t, t] }) (z : Value) (bytes : Nat) (ht : P.underlying t = some (.slice e)) (hinfo : (P.info? e).map (fun i => (i.zero, i.size, i.bytes)) = some (some z, s, bytes))
    (hzs : z.cells.size = s) (hs0 : 0 < s) (hf : ∀ x, (f x).length = s) (hf1 : ∀ x, ∀ u ∈ f x, u.oneCell' = true) (W : World) (hW : Held W w) (v : Value) (L M : List α) (ad : Addr) (m c : Nat)
    (hs : a.eval sl = v) (hown : Own e s f W.heap.size w v L) (hx : a.eval x = .slice (some ad) m c) (hm : M.length = m)
    (hnews : ∀ j u, (M.flatMap f)[j]? = some u → w.cell? (ad.add j) = some u)
    (hb : (L.length + m) * bytes ≤ 140737488355328) (hb1 : 1 ≤ bytes)
    (h : ∀ v' w', Own e s f W.heap.size w' v' (L ++ M) → Held W w' → w.grownBy w' v.ownBlock → K (a.put o.dst v') w') :
    if Region.wanted o (yielded ops a.tmps) = true then Oper.wp P o a w K Q else E := by
  obtain ⟨i0, hi, hz0, hz1, hz2⟩ := info_parts hinfo
  have hlen : L.length + m ≤ 140737488355328 := Nat.le_trans (Nat.le_mul_of_pos_right _ hb1) hb
  have hw : Region.wanted o (yielded ops a.tmps) = true := by simp [Region.wanted, hgd]
  subst hm
  rw [if_pos hw]
  refine wp_append_own w sl x t ho W.heap.size e i0 z s bytes ht hi hz0 hz1 hz2 hzs hs0 v L.length (L.flatMap f) hs hown ad M.length c (M.flatMap f) hx (flat_len hf M) hnews ?_ (by unfold maxLen; omega) hb hW.le ?_
  · intro u hu
    rw [List.mem_flatMap] at hu
    obtain ⟨y, _, hy⟩ := hu
    exact hf1 y u hy
  · intro v' w' g1 g2 _
    refine h v' w' ?_ (held_grown hW hown g2) g2
    unfold Own
    rw [List.flatMap_append, List.length_append]
    exact g1
/-- Append of a list. -/
theorem Own.apps {α : Type} {e : TypeId} {s : Nat} {f : α → List Value} {P : Program} (w : World) {ops : Array Oper} {rest : List Oper} {o : Oper} {a : Act} {Q : Exit → Act → World → Prop} (hgd : o.guard = none) (sl x : Operand) (t : TypeId)
    (ho : o.op = .call { callee := .builtin .append, args := #[sl, x], argTypes := #[t, t] }) (z : Value) (bytes : Nat) (ht : P.underlying t = some (.slice e)) (hinfo : (P.info? e).map (fun i => (i.zero, i.size, i.bytes)) = some (some z, s, bytes))
    (hzs : z.cells.size = s) (hs0 : 0 < s) (hf : ∀ x, (f x).length = s) (hf1 : ∀ x, ∀ u ∈ f x, u.oneCell' = true) (W : World) (hW : Held W w) (v : Value) (L M : List α) (ad : Addr) (m c : Nat)
    (hs : a.eval sl = v) (hown : Own e s f W.heap.size w v L) (hx : a.eval x = .slice (some ad) m c) (hm : M.length = m)
    (hnews : ∀ j u, (M.flatMap f)[j]? = some u → w.cell? (ad.add j) = some u)
    (hb : (L.length + m) * bytes ≤ 140737488355328) (hb1 : 1 ≤ bytes)
    (h : ∀ v' w', Own e s f W.heap.size w' v' (L ++ M) → Held W w' → w.grownBy w' v.ownBlock → wpList P ops Q rest (a.put o.dst v') w') :
    wpList P ops Q (o :: rest) a w := by
  obtain ⟨i0, hi, hz0, hz1, hz2⟩ := info_parts hinfo
  have hlen : L.length + m ≤ 140737488355328 := Nat.le_trans (Nat.le_mul_of_pos_right _ hb1) hb
  subst hm
  refine wpList_append_own w hgd sl x t ho W.heap.size e i0 z s bytes ht hi hz0 hz1 hz2 hzs hs0 v L.length (L.flatMap f) hs hown ad M.length c (M.flatMap f) hx (flat_len hf M) hnews ?_ (by unfold maxLen; omega) hb hW.le ?_
  · intro u hu
    rw [List.mem_flatMap] at hu
    obtain ⟨y, _, hy⟩ := hu
    exact hf1 y u hy
  · intro v' w' g1 g2 _
    refine h v' w' ?_ (held_grown hW hown g2) g2
    unfold Own
    rw [List.flatMap_append, List.length_append]
    exact g1
/-- An empty slice that is not nil. -/
theorem Own.empty {α : Type} {e : TypeId} {s : Nat} {f : α → List Value} {w : World} {base : Nat} (hb : base ≤ w.heap.size) : Own e s f base (w.alloc (.cells #[] e)) (.slice (some ⟨w.heap.size, 0, none⟩) 0 0) ([] : List α) :=
  ⟨by simp, .inr ⟨w.heap.size, 0, #[], rfl, hb, heap_alloc_new w _, Nat.le_refl _, Nat.zero_le _, by simp, by simp⟩⟩
/-- Append of one element. -/
theorem Own.app {α : Type} {e : TypeId} {s : Nat} {f : α → List Value} {P : Program} (w : World) {ops : Array Oper} {rest : List Oper} {o : Oper} {a : Act} {Q : Exit → Act → World → Prop} (hgd : o.guard = none) (sl x : Operand) (t : TypeId)
    (ho : o.op = .call { callee := .builtin .append, args := #[sl, x], argTypes := #[t, t] }) (z : Value) (bytes : Nat) (ht : P.underlying t = some (.slice e)) (hinfo : (P.info? e).map (fun i => (i.zero, i.size, i.bytes)) = some (some z, s, bytes))
    (hzs : z.cells.size = s) (hs0 : 0 < s) (hf : ∀ x, (f x).length = s) (hf1 : ∀ x, ∀ u ∈ f x, u.oneCell' = true) (base : Nat) (v : Value) (L : List α) (d : α) (ad : Addr) (c : Nat)
    (hs : a.eval sl = v) (hown : Own e s f base w v L) (hx : a.eval x = .slice (some ad) 1 c)
    (hnews : ∀ j u, (f d)[j]? = some u → w.cell? (ad.add j) = some u)
    (hb : (L.length + 1) * bytes ≤ 140737488355328) (hb1 : 1 ≤ bytes) (hbase : base ≤ w.heap.size)
    (h : ∀ g cap w', Own e s f base w' (.slice (some ⟨g, 0, none⟩) (L.length + 1) cap) (L ++ [d]) → w.grownBy w' v.ownBlock → (v.ownBlock = some g ∨ g = w.heap.size) → g < w'.heap.size → wpList P ops Q rest (a.put o.dst (.slice (some ⟨g, 0, none⟩) (L.length + 1) cap)) w') :
    wpList P ops Q (o :: rest) a w := by
  obtain ⟨i0, hi, hz0, hz1, hz2⟩ := info_parts hinfo
  have hlen : L.length + 1 ≤ 140737488355328 := Nat.le_trans (Nat.le_mul_of_pos_right _ hb1) hb
  refine wpList_append_lies w hgd sl x t ho base e i0 z s bytes ht hi hz0 hz1 hz2 hzs hs0 v L.length (L.flatMap f) hs hown ad 1 c (f d) hx (by rw [hf, Nat.one_mul]) hnews (hf1 d) (by decide) (by unfold maxLen; omega) hb hbase w.heap.size rfl ?_
  intro g cap w' g1 g2 g3 g4
  refine h g cap w' ?_ g2 g3 g4
  unfold Own
  rw [List.flatMap_append, List.flatMap_singleton, List.length_append, List.length_singleton]
  exact g1
/-- A store into one element of a slice that the call itself made. -/
theorem Own.stored {α : Type} {e : TypeId} {s : Nat} {f : α → List Value} (hf : ∀ x, (f x).length = s) {base : Nat} {w : World} {g n cap : Nat} {L : List α} (h : Own e s f base w (.slice (some ⟨g, 0, none⟩) n cap) L) (k : Nat) (hk : k < L.length) (i : Nat) (u : Value) (x : α)
    (hx : f x = (f L[k]).set i u) (hi : i < s) : Sl s f (w.setCell ⟨g, k * s + i, none⟩ u) (some ⟨g, 0, none⟩) n (L.set k x) := by
  obtain ⟨hr, hn, hc⟩ := h.reads hf
  refine ⟨by rw [List.length_set, hn], .inr ⟨g, 0, rfl, ?_, fun j hj q v hv => ?_⟩⟩
  · rcases hr.2 with h0 | ⟨b, off, e1, hb, _⟩
    · omega
    · injection e1 with e1
      injection e1 with e1 e2
      subst e1
      simpa [World.setCell] using hb
  · rw [List.length_set] at hj
    rcases hr.2 with h0 | ⟨b, off, e1, hb, hcell⟩
    · omega
    · injection e1 with e1
      injection e1 with e1 e2
      subst e1 e2
      have hq : q < s := by
        have := (List.getElem?_eq_some_iff.1 hv).1
        rw [hf] at this; exact this
      have hci := hcell k hk i
      by_cases ejk : j = k
      · subst ejk
        rw [List.getElem_set_self, hx] at hv
        by_cases eq : q = i
        · subst eq
          rw [List.getElem?_set_self (by rw [hf]; exact hi)] at hv
          injection hv with hv
          subst hv
          have hqf : q < (f L[j]).length := by rw [hf]; exact hi
          have hold := hcell j hk q (f L[j])[q] (List.getElem?_eq_getElem hqf)
          simp only [Nat.zero_add] at hold ⊢
          exact World.cell?_setCell_same _ _ _ hold
        · rw [List.getElem?_set_ne (by omega)] at hv
          have hold := hcell j hk q v hv
          simp only [Nat.zero_add] at hold ⊢
          rw [World.cell?_setCell_other _ _ _ _ (by intro e; injection e with _ e; omega)]
          exact hold
      · rw [List.getElem_set_ne (by omega)] at hv
        have hold := hcell j hj q v hv
        simp only [Nat.zero_add] at hold ⊢
        rw [World.cell?_setCell_other _ _ _ _ ?_]
        · exact hold
        · intro e
          injection e with _ e
          have hne : j < k ∨ k < j := by omega
          rcases hne with h1 | h1
          · have := Nat.mul_le_mul_right s h1; rw [Nat.succ_mul] at this; omega
          · have := Nat.mul_le_mul_right s h1; rw [Nat.succ_mul] at this; omega
end Go.Proofs.YthpjbffhdaaibaaGreat

set_option linter.unusedVariables false
set_option maxRecDepth 100000
namespace Go.Proofs.YthpjbffhdaaibaaGreat
open Go.RowKit
namespace Lgc
open Lg Strs
theorem box_cell {w : World} {q : Nat} {cs : Array Value} {t : TypeId} (h : w.heap[q]? = some (.cells cs t (0, 0))) (j : Nat) {v : Value} (hv : cs[j]? = some v) : w.cell? ⟨q, j, none⟩ = some v := by simp [World.cell?, h, hv]
theorem box_free {w : World} {q : Nat} {cs : Array Value} {t : TypeId} (h : w.heap[q]? = some (.cells cs t (0, 0))) (j : Nat) : w.frozen? ⟨q, j, none⟩ = false := by simp [World.frozen?, h]
theorem box_set {w : World} {q : Nat} {cs : Array Value} {t : TypeId} (h : w.heap[q]? = some (.cells cs t (0, 0))) (j : Nat) (v : Value) : (w.setCell ⟨q, j, none⟩ v).heap[q]? = some (.cells (cs.setIfInBounds j v) t (0, 0)) := by
  simp [World.setCell, Array.getElem?_modify, h]
theorem box_new (w : World) (o : Obj) : (w.alloc o).heap[w.heap.size]? = some o := heap_alloc_new w o
theorem box_lt {w : World} {q : Nat} {o : Obj} (h : w.heap[q]? = some o) : q < w.heap.size := (Array.getElem?_eq_some_iff.1 h).1
theorem grown_set (w : World) (q j : Nat) (v : Value) : w.grownBy (w.setCell ⟨q, j, none⟩ v) (some q) :=
  ⟨rfl, rfl, rfl, by simp [World.setCell], fun k hk hne => by simp [World.setCell, Array.getElem?_modify]; intro e; exact absurd (by rw [e]) hne⟩
theorem grown_refl (w : World) (r : Option Nat) : w.grownBy w r := ⟨rfl, rfl, rfl, Nat.le_refl _, fun _ _ _ => rfl⟩
theorem grown_trans {w a b : World} {r : Option Nat} (h : w.grownBy a r) (k : a.grownBy b r) : w.grownBy b r :=
  ⟨k.os.trans h.os, k.tape.trans h.tape, k.output.trans h.output, Nat.le_trans h.size k.size, fun q hq hr => (k.block q (Nat.lt_of_lt_of_le hq h.size) hr).trans (h.block q hq hr)⟩
theorem grown_held {w a : World} {r : Option Nat} (h : Held w a) : w.grownBy a r := ⟨h.os, h.tape, h.output, h.size, fun q hq _ => h.block q hq⟩
theorem held_of {W w a : World} {q : Nat} (h : Held W w) (hg : w.grownBy a (some q)) (hq : W.heap.size ≤ q) : Held W a :=
  Below.grown h hg h.size (fun k hk => by injection hk with hk; omega)
theorem ext_drop (t : ByteArray) (q : Nat) : (t.extract q t.size).data.toList = t.data.toList.drop q := by
  rw [ByteArray.data_extract, Array.toList_extract, List.extract_eq_take_drop, List.take_of_length_le (by simp)]
theorem ext_take (t : ByteArray) (q : Nat) : (t.extract 0 q).data.toList = t.data.toList.take q := by
  rw [ByteArray.data_extract, Array.toList_extract, List.extract_eq_take_drop]; simp
theorem len_eq (t : ByteArray) : t.data.toList.length = t.size := by simp
/-- What a reader leaves in its box. -/
def Left (T : TypeId) (b : Nat) (l : List UInt8) (bad : Bool) (w w' : World) : Prop := ∃ s : ByteArray, s.data.toList = l ∧ w'.heap[b]? = some (.cells #[.string s, .bool bad] T (0, 0)) ∧ w.grownBy w' (some b)
def Reads (T : TypeId) (v : Value) (b : Nat) (l : List UInt8) (bad : Bool) (w : World) (e : Ending) (w' : World) : Prop := e = .returned v ∧ Left T b l bad w w'
theorem numR_yes {l : List UInt8} (h : Uv.uvB l = true) : numR l false = (Uv.uvX l, l.drop (Uv.uvN l), false) := by unfold numR; rw [h]; rfl
theorem numR_no {l : List UInt8} {b : Bool} (h : (Uv.uvB l && !b) = false) : numR l b = (0, l, true) := by unfold numR; rw [h]; rfl
theorem number_any (b : Nat) (s : ByteArray) (bad : Bool) (hs : s.size ≤ 9223372036854775807) (w : World) (hb : w.heap[b]? = some (.cells #[.string s, .bool bad] 116 (0, 0))) :
    Calls Tryz.prog 76 #[.pointer (some ⟨b, 0, none⟩)] w (Reads 116 (.int .u64 (numR s.data.toList bad).1) b (numR s.data.toList bad).2.1 (numR s.data.toList bad).2.2 w) := by
  have c0 : w.cell? ⟨b, 0, none⟩ = some (.string s) := box_cell hb 0 rfl
  have c1 : w.cell? ⟨b, 1, none⟩ = some (.bool bad) := box_cell hb 1 rfl
  have f0 := box_free hb 0
  have f1 := box_free hb 1
  have HB := Lib.hid hb
  clear hb
  have hn := Uv.uvN_le s.data.toList
  rw [len_eq] at hn
  cases hu : Uv.uvB s.data.toList
  · have H := Lib.hid (numR_no (l := s.data.toList) (b := bad) (by rw [hu]; rfl))
    go_enter Tryz.func76, Tryz.ntmps76
    go_wp2_with (go_at_call 42; refine (uv_any s hs _).mono ?_; rintro e w' ⟨rfl, rfl⟩; rw [hu])
    go_ret
    refine ⟨by rw [H.out]; rfl, s, by rw [H.out], ?_, grown_set _ _ _ _⟩
    rw [H.out, box_set HB.out]; rfl
  · have HN := Lib.hid hu
    obtain ⟨n, hn'⟩ : ∃ n, Uv.uvN s.data.toList = n := ⟨_, rfl⟩
    have HNN := Lib.hid hn'
    rw [hn'] at hn
    clear hn'
    have i1 : (n : Int) ≤ (s.size : Int) := by omega
    cases bad
    · have H := Lib.hid (numR_yes hu)
      clear hu
      go_enter Tryz.func76, Tryz.ntmps76
      go_wp2_with (go_at_call 42; refine (uv_any s hs _).mono ?_; rintro e w' ⟨rfl, rfl⟩; rw [HN.out, HNN.out])
      go_ret
      refine ⟨by rw [H.out]; rfl, s.extract n s.size, by rw [H.out, HNN.out, ext_drop], ?_, grown_set _ _ _ _⟩
      rw [H.out, box_set HB.out]; rfl
    · have H := Lib.hid (numR_no (l := s.data.toList) (b := true) (by simp))
      clear hu
      go_enter Tryz.func76, Tryz.ntmps76
      go_wp2_with (go_at_call 42; refine (uv_any s hs _).mono ?_; rintro e w' ⟨rfl, rfl⟩; rw [HN.out])
      go_ret
      refine ⟨by rw [H.out]; rfl, s, by rw [H.out], ?_, grown_set _ _ _ _⟩
      rw [H.out, box_set HB.out]; rfl
theorem number_ref_any (b : Nat) (s : ByteArray) (bad : Bool) (hs : s.size ≤ 9223372036854775807) (w : World) (hb : w.heap[b]? = some (.cells #[.string s, .bool bad] 123 (0, 0))) :
    Calls Tryz.prog 80 #[.pointer (some ⟨b, 0, none⟩)] w (Reads 123 (.int .u64 (numR s.data.toList bad).1) b (numR s.data.toList bad).2.1 (numR s.data.toList bad).2.2 w) := by
  have c0 : w.cell? ⟨b, 0, none⟩ = some (.string s) := box_cell hb 0 rfl
  have c1 : w.cell? ⟨b, 1, none⟩ = some (.bool bad) := box_cell hb 1 rfl
  have f0 := box_free hb 0
  have f1 := box_free hb 1
  have HB := Lib.hid hb
  clear hb
  have hn := Uv.uvN_le s.data.toList
  rw [len_eq] at hn
  have HN0 := fun (x : Bool) (h : Uv.uvB s.data.toList = x) => Lib.hid h
  obtain ⟨n, hn'⟩ : ∃ n, Uv.uvN s.data.toList = n := ⟨_, rfl⟩
  have HNN := Lib.hid hn'
  rw [hn'] at hn
  clear hn'
  have i1 : (n : Int) ≤ (s.size : Int) := by omega
  cases bad
  · cases hu : Uv.uvB s.data.toList
    · have H := Lib.hid (numR_no (l := s.data.toList) (b := false) (by rw [hu]; rfl))
      have HN := HN0 _ hu
      clear hu HN0
      go_enter Tryz.func80, Tryz.ntmps80
      go_wp2_with (go_at_call 46; refine (uv_ref_any s hs _).mono ?_; rintro e w' ⟨rfl, rfl⟩; rw [HN.out])
      go_ret
      refine ⟨by rw [H.out]; rfl, s, by rw [H.out], ?_, grown_set _ _ _ _⟩
      rw [H.out, box_set HB.out]; rfl
    · have H := Lib.hid (numR_yes hu)
      have HN := HN0 _ hu
      clear hu HN0
      go_enter Tryz.func80, Tryz.ntmps80
      go_wp2_with (go_at_call 46; refine (uv_ref_any s hs _).mono ?_; rintro e w' ⟨rfl, rfl⟩; rw [HN.out, HNN.out])
      go_ret
      refine ⟨by rw [H.out]; rfl, s.extract n s.size, by rw [H.out, HNN.out, ext_drop], ?_, grown_set _ _ _ _⟩
      rw [H.out, box_set HB.out]; rfl
  · have H := Lib.hid (numR_no (l := s.data.toList) (b := true) (by simp))
    clear HN0
    go_enter Tryz.func80, Tryz.ntmps80
    go_wp2_with (go_at_call 46; refine (uv_ref_any s hs _).mono ?_; rintro e w' ⟨rfl, rfl⟩)
    go_ret
    refine ⟨by rw [H.out]; rfl, s, by rw [H.out], ?_, grown_set _ _ _ _⟩
    rw [H.out, box_set HB.out]; rfl
def ReadsS (T : TypeId) (d : List UInt8) (b : Nat) (l : List UInt8) (bad : Bool) (w : World) (e : Ending) (w' : World) : Prop := ∃ t : ByteArray, e = .returned (.string t) ∧ t.data.toList = d ∧ Left T b l bad w w'
theorem bytesR_no {n : Nat} {l : List UInt8} {b : Bool} (h : (b || decide (l.length < n)) = true) : bytesR n l b = ([], l, true) := by unfold bytesR; rw [if_pos h]
theorem bytesR_yes {n : Nat} {l : List UInt8} (h : ¬ l.length < n) : bytesR n l false = (l.take n, l.drop n, false) := by unfold bytesR; rw [if_neg (by simp; omega)]
theorem data_any (b : Nat) (s : ByteArray) (bad : Bool) (hs : s.size ≤ 9223372036854775807) (w : World) (hb : w.heap[b]? = some (.cells #[.string s, .bool bad] 116 (0, 0))) :
    Calls Tryz.prog 104 #[.pointer (some ⟨b, 0, none⟩)] w (ReadsS 116 (dataR s.data.toList bad).1 b (dataR s.data.toList bad).2.1 (dataR s.data.toList bad).2.2 w) := by
  have hll := numR_len s.data.toList bad
  have hlt := numR_lt s.data.toList bad
  rw [len_eq] at hll
  have HD : Hid (dataR s.data.toList bad = bytesR (numR s.data.toList bad).1 (numR s.data.toList bad).2.1 (numR s.data.toList bad).2.2) := rfl
  have hnum := Lib.hid (number_any b s bad hs w hb)
  obtain ⟨⟨n, l1, b1⟩, hN⟩ : ∃ x, numR s.data.toList bad = x := ⟨_, rfl⟩
  rw [hN] at hll hlt HD hnum
  simp only at hll hlt HD hnum
  clear hN
  go_enter Tryz.func104, Tryz.ntmps104
  go_wp2_with fail
  refine hnum.out.mono ?_
  rintro e w1 ⟨rfl, s1, hs1, hb1, hg1⟩
  have hsz : s1.size = l1.length := by rw [← hs1, len_eq]
  have i1 : (s1.size : Int) ≤ 9223372036854775807 := by omega
  have hn64 : (n : Int) ≤ 18446744073709551615 := by omega
  have c0 : w1.cell? ⟨b, 0, none⟩ = some (.string s1) := box_cell hb1 0 rfl
  have c1 : w1.cell? ⟨b, 1, none⟩ = some (.bool b1) := box_cell hb1 1 rfl
  have f0 := box_free hb1 0
  have f1 := box_free hb1 1
  have HB := Lib.hid hb1
  have HG := Lib.hid hg1
  have HS1 := Lib.hid hs1
  have HSZ := Lib.hid hsz
  clear hb1 hg1 hs1 hsz hb hnum hll hlt
  cases b1
  · by_cases hlt : (s1.size : Int) < (n : Int)
    · have H := Lib.hid (HD.out.trans (bytesR_no (by rw [← HSZ.out]; simp; omega)))
      go_wp2
      go_ret
      refine ⟨_, rfl, by rw [H.out], s1, by rw [H.out]; exact HS1.out, ?_, grown_trans HG.out (grown_set _ _ _ _)⟩
      rw [H.out, box_set HB.out]; rfl
    · have H := Lib.hid (HD.out.trans (bytesR_yes (by rw [← HSZ.out]; omega)))
      have i2 : (n : Int) ≤ (s1.size : Int) := by omega
      go_wp2
      go_ret
      refine ⟨_, rfl, by rw [H.out]; exact (ext_take _ _).trans (by rw [HS1.out]), s1.extract n s1.size, by rw [H.out, ext_drop, HS1.out], ?_, grown_trans HG.out (grown_set _ _ _ _)⟩
      rw [H.out, box_set HB.out]; rfl
  · have H := Lib.hid (HD.out.trans (bytesR_no (by simp)))
    go_wp2
    go_ret
    refine ⟨_, rfl, by rw [H.out], s1, by rw [H.out]; exact HS1.out, ?_, grown_trans HG.out (grown_set _ _ _ _)⟩
    rw [H.out, box_set HB.out]; rfl
theorem bytes_ref_any (b : Nat) (s1 : ByteArray) (b1 : Bool) (n : Int) (h0 : 0 ≤ n) (hn64 : n ≤ 18446744073709551615) (hs : s1.size ≤ 9223372036854775807) (w1 : World) (hb1 : w1.heap[b]? = some (.cells #[.string s1, .bool b1] 123 (0, 0))) :
    Calls Tryz.prog 107 #[.pointer (some ⟨b, 0, none⟩), .int .u64 n] w1 (ReadsS 123 (bytesR n.toNat s1.data.toList b1).1 b (bytesR n.toNat s1.data.toList b1).2.1 (bytesR n.toNat s1.data.toList b1).2.2 w1) := by
  obtain ⟨n, rfl⟩ := Int.eq_ofNat_of_zero_le h0
  rw [Int.toNat_natCast]
  have i1 : (s1.size : Int) ≤ 9223372036854775807 := by omega
  have c0 : w1.cell? ⟨b, 0, none⟩ = some (.string s1) := box_cell hb1 0 rfl
  have c1 : w1.cell? ⟨b, 1, none⟩ = some (.bool b1) := box_cell hb1 1 rfl
  have f0 := box_free hb1 0
  have f1 := box_free hb1 1
  have HB := Lib.hid hb1
  have HSZ := Lib.hid (len_eq s1)
  clear hb1
  cases b1
  · by_cases hlt : (s1.size : Int) < (n : Int)
    · have H := Lib.hid (bytesR_no (n := n) (l := s1.data.toList) (b := false) (by rw [HSZ.out]; simp; omega))
      go_enter Tryz.func107, Tryz.ntmps107
      go_wp2
      go_ret
      refine ⟨_, rfl, by rw [H.out], s1, by rw [H.out], ?_, grown_set _ _ _ _⟩
      rw [H.out, box_set HB.out]; rfl
    · have H := Lib.hid (bytesR_yes (n := n) (l := s1.data.toList) (by rw [HSZ.out]; omega))
      have i2 : (n : Int) ≤ (s1.size : Int) := by omega
      go_enter Tryz.func107, Tryz.ntmps107
      go_wp2
      go_ret
      refine ⟨_, rfl, by rw [H.out]; exact ext_take _ _, s1.extract n s1.size, by rw [H.out, ext_drop], ?_, grown_set _ _ _ _⟩
      rw [H.out, box_set HB.out]; rfl
  · have H := Lib.hid (bytesR_no (n := n) (l := s1.data.toList) (b := true) (by simp))
    go_enter Tryz.func107, Tryz.ntmps107
    go_wp2
    go_ret
    refine ⟨_, rfl, by rw [H.out], s1, by rw [H.out], ?_, grown_set _ _ _ _⟩
    rw [H.out, box_set HB.out]; rfl
end Lgc
end Go.Proofs.YthpjbffhdaaibaaGreat

set_option linter.unusedVariables false
set_option maxRecDepth 100000
namespace Go.Proofs.YthpjbffhdaaibaaGreat
open Go.RowKit
namespace Lgc
open Lg Strs
/-- The call hands back the string of these bytes; what was there stays. -/
def MakesS (l : List UInt8) (w : World) (e : Ending) (w' : World) : Prop := e = .returned (.string ⟨l.toArray⟩) ∧ Held w w'
/-- The bytes written so far. -/
def arr (h : Nat) (k : Nat) : Array Value := ((List.range 8).map fun i => Value.int .u8 (if i < k then ((UInt8.ofNat (h / 256 ^ (7 - i) % 256)).toNat : Int) else 0)).toArray
theorem arr_step (h k : Nat) (hk : k < 8) : (arr h k).setIfInBounds k (.int .u8 ((h / 256 ^ (7 - k) % 256 : Nat) : Int)) = arr h (k + 1) := by
  have e : ((UInt8.ofNat (h / 256 ^ (7 - k) % 256)).toNat : Int) = ((h / 256 ^ (7 - k) % 256 : Nat) : Int) := by rw [Uv.ofNat_toNat (Nat.mod_lt _ (by omega))]
  rw [← e]
  apply Array.ext
  · simp [arr]
  · intro i h1 h2
    simp only [arr, List.size_toArray, List.length_map, List.length_range] at h2
    rw [Array.getElem_setIfInBounds (by simpa [arr] using h2)]
    by_cases hik : k = i
    · subst hik; simp [arr]
    · rw [if_neg hik]
      simp only [arr, List.getElem_toArray, List.getElem_map, List.getElem_range]
      have h3 : (i < k) ↔ (i < k + 1) := by omega
      simp only [h3]
theorem arr_zero (h : Nat) : arr h 0 = #[.int .u8 0, .int .u8 0, .int .u8 0, .int .u8 0, .int .u8 0, .int .u8 0, .int .u8 0, .int .u8 0] := by simp [arr, List.range, List.range.loop]
theorem arr_at (h j : Nat) (hj : j < (be8 h).length) : (arr h 8)[j]? = some (.int .u8 (be8 h)[j].toNat) := by
  rw [be8_len] at hj
  simp [arr, be8, hj]
theorem sum_any (s : ByteArray) (hs : s.size ≤ 9223372036854775807) (w : World) :
    Calls Tryz.prog 82 #[.string s] w (MakesS (be8 (Hs.hash HS s.data.toList)) w) := by
  have hlt : Hs.hash HS s.data.toList < 18446744073709551616 := Hs.hash_lt _ _ (by decide)
  have hh := Lib.hid (hash_any HS s (by decide) hs w)
  generalize Hs.hash HS s.data.toList = h at *
  have hh64 : (h : Int) ≤ 18446744073709551615 := by omega
  clear hlt
  go_enter Tryz.func82, Tryz.ntmps82
  go_wp2_with fail
  refine hh.out.mono ?_
  rintro e w' ⟨rfl, rfl⟩
  go_wp2_with fail
  go_loopw [8] (fun i wr => ∃ k : Nat, k ≤ 8 ∧ i = .int .i64 k ∧ wr.heap[w.heap.size]? = some (.cells (arr h k) 145 (0, 0)) ∧ Held w wr) (fun i _ => 8 - (intOf i).toNat)
  case atStart => exact ⟨0, by omega, rfl, by rw [arr_zero]; exact box_new _ _, (Held.refl _).alloc _⟩
  case round =>
    obtain ⟨k, hk, rfl, hbx, hw⟩ := hrel
    by_cases hk8 : k < 8
    · have HB := Lib.hid hbx
      have HW := Lib.hid hw
      have hst := arr_step h k hk8
      have HST := Lib.hid hst
      have cc : ∃ v, wr.cell? ⟨w.heap.size, k, none⟩ = some v := by
        have hsz : k < (arr h k).size := by simpa [arr] using hk8
        exact ⟨_, box_cell hbx k (Array.getElem?_eq_getElem hsz)⟩
      obtain ⟨cv, c0⟩ := cc
      have f0 := box_free hbx k
      clear hst hbx hw
      obtain rfl | rfl | rfl | rfl | rfl | rfl | rfl | rfl : k = 0 ∨ k = 1 ∨ k = 2 ∨ k = 3 ∨ k = 4 ∨ k = 5 ∨ k = 6 ∨ k = 7 := by omega
      all_goals
        go_wp2
        go_roundw
        case rel =>
          refine ⟨_, ?_, rfl, ?_, HW.out.set (Nat.le_refl _) _⟩
          · decide
          · rw [box_set HB.out, ← HST.out]
            congr 4 <;> first | (simp; done) | (simp; omega)
        case measure => simp [intOf]
    · obtain rfl : k = 8 := by omega
      have hcv := bytes_back wr ⟨w.heap.size, 0, none⟩ 8 (be8 h) (fun j hj => by rw [Strs.addr_add]; exact box_cell hbx j (arr_at h j hj))
      rw [be8_len] at hcv
      go_wp2
      go_ret
      exact ⟨rfl, hw⟩
theorem range_snoc (x k : Nat) (hk : k < 8) : (be8 x).take (k + 1) = (be8 x).take k ++ [UInt8.ofNat (x / 256 ^ (7 - k) % 256)] := by
  have hl : k < (be8 x).length := by rw [be8_len]; exact hk
  rw [List.take_succ_eq_append_getElem hl]
  congr 2
  simp [be8]
theorem eight_any (x : Nat) (hx : (x : Int) ≤ 18446744073709551615) (w : World) :
    Calls Tryz.prog 83 #[.int .u64 x] w (MakesS (be8 x) w) := by
  go_enter Tryz.func83, Tryz.ntmps83
  go_wp2
  go_loopw [3, 4] (fun v i wr => ∃ k : Nat, k ≤ 8 ∧ i = .int .i64 (56 - 8 * (k : Int)) ∧ wr.ownsRow w.heap.size 5 1 v ((be8 x).take k).length (by8 ((be8 x).take k)) ∧ Held w wr) (fun _ i _ => (intOf i + 8).toNat)
  case atStart => exact ⟨0, by omega, rfl, World.ownsRow_nil _ _ _ _, Held.refl _⟩
  case round =>
    obtain ⟨k, hk, rfl, hown, hw⟩ := hrel
    have hsz := hw.le
    have hll : ((be8 x).take k).length ≤ 8 := by rw [List.length_take, be8_len]; omega
    have HO := Lib.hid hown
    have HW := Lib.hid hw
    by_cases hk8 : k < 8
    · have HS := Lib.hid (range_snoc x k hk8)
      generalize (be8 x).take k = l at hown hll HS HO
      clear hw
      obtain rfl | rfl | rfl | rfl | rfl | rfl | rfl | rfl : k = 0 ∨ k = 1 ∨ k = 2 ∨ k = 3 ∨ k = 4 ∨ k = 5 ∨ k = 6 ∨ k = 7 := by omega
      · go_wp2_with (at_builtin; refine app_u8 _ rfl _ _ rfl w.heap.size _ l [UInt8.ofNat (x / 256 ^ (7 - 0) % 256)] ⟨wr.heap.size, 0, none⟩ 1 1 rfl (hown.alloc _) rfl rfl (one_cell _ _ _ (by rw [Uv.ofNat_toNat (Nat.mod_lt _ (by decide))]; first | (simp; done) | (simp; omega)) _) (by omega) (by simp; omega) ?_; intro v' w1 hown1 hg1 _)
        go_roundw
        case rel => exact ⟨1, by decide, rfl, by rw [HS.out]; exact hown1, below_app HW.out hsz HO.out hg1⟩
        case measure => simp [intOf]
      · go_wp2_with (at_builtin; refine app_u8 _ rfl _ _ rfl w.heap.size _ l [UInt8.ofNat (x / 256 ^ (7 - 1) % 256)] ⟨wr.heap.size, 0, none⟩ 1 1 rfl (hown.alloc _) rfl rfl (one_cell _ _ _ (by rw [Uv.ofNat_toNat (Nat.mod_lt _ (by decide))]; first | (simp; done) | (simp; omega)) _) (by omega) (by simp; omega) ?_; intro v' w1 hown1 hg1 _)
        go_roundw
        case rel => exact ⟨2, by decide, rfl, by rw [HS.out]; exact hown1, below_app HW.out hsz HO.out hg1⟩
        case measure => simp [intOf]
      · go_wp2_with (at_builtin; refine app_u8 _ rfl _ _ rfl w.heap.size _ l [UInt8.ofNat (x / 256 ^ (7 - 2) % 256)] ⟨wr.heap.size, 0, none⟩ 1 1 rfl (hown.alloc _) rfl rfl (one_cell _ _ _ (by rw [Uv.ofNat_toNat (Nat.mod_lt _ (by decide))]; first | (simp; done) | (simp; omega)) _) (by omega) (by simp; omega) ?_; intro v' w1 hown1 hg1 _)
        go_roundw
        case rel => exact ⟨3, by decide, rfl, by rw [HS.out]; exact hown1, below_app HW.out hsz HO.out hg1⟩
        case measure => simp [intOf]
      · go_wp2_with (at_builtin; refine app_u8 _ rfl _ _ rfl w.heap.size _ l [UInt8.ofNat (x / 256 ^ (7 - 3) % 256)] ⟨wr.heap.size, 0, none⟩ 1 1 rfl (hown.alloc _) rfl rfl (one_cell _ _ _ (by rw [Uv.ofNat_toNat (Nat.mod_lt _ (by decide))]; first | (simp; done) | (simp; omega)) _) (by omega) (by simp; omega) ?_; intro v' w1 hown1 hg1 _)
        go_roundw
        case rel => exact ⟨4, by decide, rfl, by rw [HS.out]; exact hown1, below_app HW.out hsz HO.out hg1⟩
        case measure => simp [intOf]
      · go_wp2_with (at_builtin; refine app_u8 _ rfl _ _ rfl w.heap.size _ l [UInt8.ofNat (x / 256 ^ (7 - 4) % 256)] ⟨wr.heap.size, 0, none⟩ 1 1 rfl (hown.alloc _) rfl rfl (one_cell _ _ _ (by rw [Uv.ofNat_toNat (Nat.mod_lt _ (by decide))]; first | (simp; done) | (simp; omega)) _) (by omega) (by simp; omega) ?_; intro v' w1 hown1 hg1 _)
        go_roundw
        case rel => exact ⟨5, by decide, rfl, by rw [HS.out]; exact hown1, below_app HW.out hsz HO.out hg1⟩
        case measure => simp [intOf]
      · go_wp2_with (at_builtin; refine app_u8 _ rfl _ _ rfl w.heap.size _ l [UInt8.ofNat (x / 256 ^ (7 - 5) % 256)] ⟨wr.heap.size, 0, none⟩ 1 1 rfl (hown.alloc _) rfl rfl (one_cell _ _ _ (by rw [Uv.ofNat_toNat (Nat.mod_lt _ (by decide))]; first | (simp; done) | (simp; omega)) _) (by omega) (by simp; omega) ?_; intro v' w1 hown1 hg1 _)
        go_roundw
        case rel => exact ⟨6, by decide, rfl, by rw [HS.out]; exact hown1, below_app HW.out hsz HO.out hg1⟩
        case measure => simp [intOf]
      · go_wp2_with (at_builtin; refine app_u8 _ rfl _ _ rfl w.heap.size _ l [UInt8.ofNat (x / 256 ^ (7 - 6) % 256)] ⟨wr.heap.size, 0, none⟩ 1 1 rfl (hown.alloc _) rfl rfl (one_cell _ _ _ (by rw [Uv.ofNat_toNat (Nat.mod_lt _ (by decide))]; first | (simp; done) | (simp; omega)) _) (by omega) (by simp; omega) ?_; intro v' w1 hown1 hg1 _)
        go_roundw
        case rel => exact ⟨7, by decide, rfl, by rw [HS.out]; exact hown1, below_app HW.out hsz HO.out hg1⟩
        case measure => simp [intOf]
      · go_wp2_with (at_builtin; refine app_u8 _ rfl _ _ rfl w.heap.size _ l [UInt8.ofNat (x / 256 ^ (7 - 7) % 256)] ⟨wr.heap.size, 0, none⟩ 1 1 rfl (hown.alloc _) rfl rfl (one_cell _ _ _ (by rw [Uv.ofNat_toNat (Nat.mod_lt _ (by decide))]; first | (simp; done) | (simp; omega)) _) (by omega) (by simp; omega) ?_; intro v' w1 hown1 hg1 _)
        go_roundw
        case rel => exact ⟨8, by decide, rfl, by rw [HS.out]; exact hown1, below_app HW.out hsz HO.out hg1⟩
        case measure => simp [intOf]
    · obtain rfl : k = 8 := by omega
      have hT : (be8 x).take 8 = be8 x := List.take_of_length_le (by rw [be8_len]; omega)
      rw [hT] at hown
      have hcv := conv_own hown
      clear hT hll
      go_wp2
      go_ret
      exact ⟨rfl, hw⟩
theorem str_mk {s : ByteArray} {l : List UInt8} (h : s.data.toList = l) : s = ⟨l.toArray⟩ := by subst h; simp
theorem ret_str {s : ByteArray} {l : List UInt8} (h : s.data.toList = l) : Ending.returned (.string s) = .returned (.string ⟨l.toArray⟩) := by rw [str_mk h]
theorem ba_size (a : List UInt8) : (⟨a.toArray⟩ : ByteArray).size = a.length := by simp [ByteArray.size]
theorem pack_size (n : Nat) (hn : n < 18446744073709551616) (m : Nat) (hm : m < 18446744073709551616) : (Uv.put n).length ≤ 10 ∧ (Uv.put m).length ≤ 10 := ⟨Uv.put_len n hn, Uv.put_len m hm⟩
set_option maxHeartbeats 400000 in
theorem pack_any (n : Nat) (s : ByteArray) (hn : (n : Int) ≤ 18446744073709551615) (hs : (s.size : Int) ≤ 1000000000000) (w : World) :
    Calls Tryz.prog 51 #[.int .u64 n, .string s] w (MakesS (packed n s.data.toList) w) := by
  have hp1 := Uv.put_len n (by omega)
  have hp2 := Uv.put_len s.size (by omega)
  have H1 := Lib.hid (fun w => put_any n hn w)
  have H2 := Lib.hid (fun w => put_any s.size (by omega) w)
  have HPK : Hid (packed n s.data.toList = packS n s.data.toList ++ be8 (Hs.hash HS (packS n s.data.toList))) := packed_eq _ _
  have HPS : Hid (packS n s.data.toList = Uv.put n ++ Uv.put s.size ++ s.data.toList) := show _ = _ by unfold packS; rw [len_eq]
  generalize Uv.put n = a at hp1 H1 HPS
  generalize Uv.put s.size = b at hp2 H2 HPS
  go_enter Tryz.func51, Tryz.ntmps51
  go_wp2_with fail
  refine (H1.out _).mono ?_
  rintro e w1 ⟨rfl, h1⟩
  go_wp2_with fail
  refine (H2.out _).mono ?_
  rintro e w2 ⟨rfl, h2⟩
  have h12 : Held w w2 := Held.step h1 h2
  have hcat : (({ data := a.toArray } : ByteArray) ++ { data := b.toArray } ++ s).data.toList = packS n s.data.toList := by rw [HPS.out]; simp
  have hsz : (({ data := a.toArray } : ByteArray) ++ { data := b.toArray } ++ s).size ≤ 2000000000000 := by rw [ByteArray.size_append, ByteArray.size_append, ba_size, ba_size]; omega
  have HCT := Lib.hid hcat
  have HZ := Lib.hid hsz
  have HS0 := Lib.hid hsz
  have H12 := Lib.hid h12
  clear hcat hsz h1 h2 h12 H1 H2
  go_wp2_with fail
  generalize (({ data := a.toArray } : ByteArray) ++ { data := b.toArray } ++ s) = q at HCT HZ HS0 ⊢
  refine (sum_any q (by have := HZ.out; omega) _).mono ?_
  rintro e w3 ⟨rfl, h3⟩
  rw [HCT.out]
  have e8 := be8_len (Hs.hash HS (packS n s.data.toList))
  generalize be8 (Hs.hash HS (packS n s.data.toList)) = e8l at e8 HPK ⊢
  have e9 : e8l.length ≤ 8 := by omega
  have e10 := HS0.out
  have E8 := Lib.hid e8
  clear e8
  go_wp2_with fail
  go_ret
  exact ⟨ret_str (by rw [HPK.out]; simp [HCT.out]), H12.out.step h3⟩
set_option maxHeartbeats 400000 in
theorem pack_ref_any (n : Nat) (s : ByteArray) (hn : (n : Int) ≤ 18446744073709551615) (hs : (s.size : Int) ≤ 1000000000000) (w : World) :
    Calls Tryz.prog 52 #[.int .u64 n, .string s] w (MakesS (packed n s.data.toList) w) := by
  have hp1 := Uv.put_len n (by omega)
  have hp2 := Uv.put_len s.size (by omega)
  have H1 := Lib.hid (fun w => put_ref_any n hn w)
  have H2 := Lib.hid (fun w => put_ref_any s.size (by omega) w)
  have HPK : Hid (packed n s.data.toList = packS n s.data.toList ++ be8 (Hs.hash HS (packS n s.data.toList))) := packed_eq _ _
  have HPS : Hid (packS n s.data.toList = Uv.put n ++ Uv.put s.size ++ s.data.toList) := show _ = _ by unfold packS; rw [len_eq]
  generalize Uv.put n = a at hp1 H1 HPS
  generalize Uv.put s.size = b at hp2 H2 HPS
  go_enter Tryz.func52, Tryz.ntmps52
  go_wp2_with fail
  refine (H1.out _).mono ?_
  rintro e w1 ⟨rfl, h1⟩
  go_wp2_with fail
  refine (H2.out _).mono ?_
  rintro e w2 ⟨rfl, h2⟩
  have h12 : Held w w2 := Held.step h1 h2
  have hcat : (({ data := a.toArray } : ByteArray) ++ { data := b.toArray } ++ s).data.toList = packS n s.data.toList := by rw [HPS.out]; simp
  have hsz : (({ data := a.toArray } : ByteArray) ++ { data := b.toArray } ++ s).size ≤ 2000000000000 := by rw [ByteArray.size_append, ByteArray.size_append, ba_size, ba_size]; omega
  have HCT := Lib.hid hcat
  have HZ := Lib.hid hsz
  have HS0 := Lib.hid hsz
  have H12 := Lib.hid h12
  clear hcat hsz h1 h2 h12 H1 H2
  go_wp2_with fail
  generalize (({ data := a.toArray } : ByteArray) ++ { data := b.toArray } ++ s) = q at HCT HZ HS0 ⊢
  refine (hash_ref_any Lg.HS q (by decide) (by have := HZ.out; omega) _).mono ?_
  rintro e w3 ⟨rfl, rfl⟩
  have hh := Hs.hash_lt Lg.HS q.data.toList (by decide)
  rw [HCT.out] at hh ⊢
  go_wp2_with fail
  refine (eight_any _ (by unfold Lg.HS at *; omega) _).mono ?_
  rintro e w4 ⟨rfl, h3⟩
  have e8 := be8_len (Hs.hash Lg.HS (packS n s.data.toList))
  generalize be8 (Hs.hash Lg.HS (packS n s.data.toList)) = e8l at e8 HPK ⊢
  have e9 : e8l.length ≤ 8 := by omega
  have e10 := HS0.out
  clear e8
  go_wp2_with fail
  go_ret
  exact ⟨ret_str (by rw [HPK.out]; simp [HCT.out]), H12.out.step h3⟩
end Lgc
end Go.Proofs.YthpjbffhdaaibaaGreat

namespace Go.Proofs.YthpjbffhdaaibaaGreat
open Go.RowKit
set_option linter.unusedVariables false
set_option linter.unusedSimpArgs false
set_option maxRecDepth 100000
namespace Ev
open Lgc
/-- The validity of an event, by its kind, its number and its data. -/
def okE (k n : Int) (e : Bool) (len : Nat) : Bool :=
  if k = 1 ∨ k = 6 then e else if k = 2 then decide (n = 0) && e else if k = 3 then decide (n ≤ 255) && e else
  if k = 4 then (if n = 1 then e || decide (len = 128) else decide (n = 0) && e) else if k = 5 then decide (n = 0) && (decide (1 ≤ len) && decide (len ≤ 128)) else false
def ok (k n : Int) (l : List UInt8) : Bool := okE k n (decide (l = [])) l.length
theorem nil_beq {s : ByteArray} {b : Bool} (h : decide (s.data.toList = []) = b) : (s.toList == []) = b := by
  rw [ByteArray.toList_eq]
  subst h
  cases hs : s.data.toList <;> simp
theorem ret_b {a b : Bool} (h : a = b) : Ending.returned (.bool a) = .returned (.bool b) := by rw [h]
set_option maxHeartbeats 1000000 in
theorem valid_any (k n : Int) (s : ByteArray) (hk : -9223372036854775808 ≤ k) (hk' : k ≤ 9223372036854775807) (hn : 0 ≤ n) (hn' : n ≤ 4294967295) (hs : (s.size : Int) ≤ 9223372036854775807) (w : World) : Calls Tryz.prog 93 #[.agg #[.int .i64 k, .int .u32 n, .string s]] w fun e w' => e = .returned (.bool (ok k n s.data.toList)) ∧ Held w w' := by
  have H0 := Lib.hid ((Held.refl w).alloc (.cells #[.int .i64 k, .int .u32 n, .string s] 68))
  have hl : s.data.toList.length = s.size := by simp
  obtain ⟨z, hz⟩ : ∃ z, decide (s.data.toList = []) = z := ⟨_, rfl⟩
  have hb := nil_beq hz
  have h0 : z = true → s.size = 0 := fun h => by rw [← hl]; subst h; rw [of_decide_eq_true hz]; rfl
  have h1 : z = false → 1 ≤ s.size := fun h => by
    rw [← hl]; subst h
    have := of_decide_eq_false hz
    cases hx : s.data.toList with
    | nil => exact absurd hx this
    | cons a t => simp
  rw [show ok k n s.data.toList = okE k n z s.size by unfold ok; rw [hz, hl]]
  clear hz hl
  by_cases k1 : k = 1
  · subst k1
    go_enter Tryz.func93, Tryz.ntmps93
    go_wp2_with fail
    go_ret
    exact ⟨ret_b (by first | (simp [okE]; done) | (rw [Bool.eq_iff_iff]; simp [okE]; omega)), H0.out⟩
  by_cases k6 : k = 6
  · subst k6
    go_enter Tryz.func93, Tryz.ntmps93
    go_wp2_with fail
    go_ret
    exact ⟨ret_b (by first | (simp [okE]; done) | (rw [Bool.eq_iff_iff]; simp [okE]; omega)), H0.out⟩
  by_cases k2 : k = 2
  · subst k2
    by_cases n0 : n = 0
    all_goals
      try subst n0
      go_enter Tryz.func93, Tryz.ntmps93
      go_wp2_with fail
      go_ret
      exact ⟨ret_b (by first | (simp [okE, *]; done) | (simp [okE, *]; omega) | (simp [okE, *]; intro h; exact absurd h n0)), H0.out⟩
  by_cases k3 : k = 3
  · subst k3
    by_cases n0 : n ≤ 255
    all_goals
      try subst n0
      go_enter Tryz.func93, Tryz.ntmps93
      go_wp2_with fail
      go_ret
      exact ⟨ret_b (by first | (simp [okE, *]; done) | (simp [okE, *]; omega) | (simp [okE, *]; intro h; exact absurd h n0)), H0.out⟩
  by_cases k4 : k = 4
  · subst k4
    by_cases n1 : n = 1
    · subst n1
      cases z
      all_goals
        go_enter Tryz.func93, Tryz.ntmps93
        go_wp2_with fail
        go_ret
        exact ⟨ret_b (by first | (simp [okE]; done) | (rw [Bool.eq_iff_iff]; simp [okE]; omega)), H0.out⟩
    · by_cases n0 : n = 0
      · subst n0
        cases z
        all_goals
          go_enter Tryz.func93, Tryz.ntmps93
          go_wp2_with fail
          go_ret
          exact ⟨ret_b (by first | (simp [okE]; done) | (rw [Bool.eq_iff_iff]; simp [okE]; omega)), H0.out⟩
      · have n2 : ¬ n ≤ 1 := by omega
        go_enter Tryz.func93, Tryz.ntmps93
        go_wp2_with fail
        go_ret
        exact ⟨ret_b (by simp [okE, n0, n1, n2]), H0.out⟩
  by_cases k5 : k = 5
  · subst k5
    by_cases n0 : n = 0
    · subst n0
      by_cases q1 : (1 : Int) ≤ s.size
      all_goals
        go_enter Tryz.func93, Tryz.ntmps93
        go_wp2_with fail
        go_ret
        exact ⟨ret_b (by first | (simp [okE]; done) | (rw [Bool.eq_iff_iff]; simp [okE]; omega)), H0.out⟩
    · go_enter Tryz.func93, Tryz.ntmps93
      go_wp2_with fail
      go_ret
      exact ⟨ret_b (by simp [okE, n0]), H0.out⟩
  · go_enter Tryz.func93, Tryz.ntmps93
    go_wp2_with fail
    go_ret
    exact ⟨ret_b (by simp [okE, k1, k2, k3, k4, k5, k6]), H0.out⟩
set_option maxHeartbeats 1000000 in
theorem valid_ref (k n : Int) (s : ByteArray) (hk : -9223372036854775808 ≤ k) (hk' : k ≤ 9223372036854775807) (hn : 0 ≤ n) (hn' : n ≤ 4294967295) (hs : (s.size : Int) ≤ 9223372036854775807) (w : World) : Calls Tryz.prog 71 #[.agg #[.int .i64 k, .int .u32 n, .string s]] w fun e w' => e = .returned (.bool (ok k n s.data.toList)) ∧ Held w w' := by
  have H0 := Lib.hid ((Held.refl w).alloc (.cells #[.int .i64 k, .int .u32 n, .string s] 68))
  have hl : s.data.toList.length = s.size := by simp
  obtain ⟨z, hz⟩ : ∃ z, decide (s.data.toList = []) = z := ⟨_, rfl⟩
  have hb := nil_beq hz
  have h0 : z = true → s.size = 0 := fun h => by rw [← hl]; subst h; rw [of_decide_eq_true hz]; rfl
  have h1 : z = false → 1 ≤ s.size := fun h => by
    rw [← hl]; subst h
    have := of_decide_eq_false hz
    cases hx : s.data.toList with
    | nil => exact absurd hx this
    | cons a t => simp
  rw [show ok k n s.data.toList = okE k n z s.size by unfold ok; rw [hz, hl]]
  clear hz hl
  by_cases k1 : k = 1
  · subst k1
    go_enter Tryz.func71, Tryz.ntmps71
    go_wp2_with fail
    go_ret
    exact ⟨ret_b (by first | (simp [okE]; done) | (rw [Bool.eq_iff_iff]; simp [okE]; omega)), H0.out⟩
  by_cases k6 : k = 6
  · subst k6
    go_enter Tryz.func71, Tryz.ntmps71
    go_wp2_with fail
    go_ret
    exact ⟨ret_b (by first | (simp [okE]; done) | (rw [Bool.eq_iff_iff]; simp [okE]; omega)), H0.out⟩
  by_cases k2 : k = 2
  · subst k2
    by_cases n0 : n = 0
    all_goals
      try subst n0
      go_enter Tryz.func71, Tryz.ntmps71
      go_wp2_with fail
      go_ret
      exact ⟨ret_b (by first | (simp [okE, *]; done) | (simp [okE, *]; omega) | (simp [okE, *]; intro h; exact absurd h n0)), H0.out⟩
  by_cases k3 : k = 3
  · subst k3
    by_cases n0 : n ≤ 255
    all_goals
      try subst n0
      go_enter Tryz.func71, Tryz.ntmps71
      go_wp2_with fail
      go_ret
      exact ⟨ret_b (by first | (simp [okE, *]; done) | (simp [okE, *]; omega) | (simp [okE, *]; intro h; exact absurd h n0)), H0.out⟩
  by_cases k4 : k = 4
  · subst k4
    by_cases n1 : n = 1
    · subst n1
      cases z
      all_goals
        go_enter Tryz.func71, Tryz.ntmps71
        go_wp2_with fail
        go_ret
        exact ⟨ret_b (by first | (simp [okE]; done) | (rw [Bool.eq_iff_iff]; simp [okE]; omega)), H0.out⟩
    · by_cases n0 : n = 0
      · subst n0
        cases z
        all_goals
          go_enter Tryz.func71, Tryz.ntmps71
          go_wp2_with fail
          go_ret
          exact ⟨ret_b (by first | (simp [okE]; done) | (rw [Bool.eq_iff_iff]; simp [okE]; omega)), H0.out⟩
      · have n2 : ¬ n ≤ 1 := by omega
        go_enter Tryz.func71, Tryz.ntmps71
        go_wp2_with fail
        go_ret
        exact ⟨ret_b (by simp [okE, n0, n1, n2]), H0.out⟩
  by_cases k5 : k = 5
  · subst k5
    by_cases n0 : n = 0
    · subst n0
      by_cases q1 : (1 : Int) ≤ s.size
      all_goals
        go_enter Tryz.func71, Tryz.ntmps71
        go_wp2_with fail
        go_ret
        exact ⟨ret_b (by first | (simp [okE]; done) | (rw [Bool.eq_iff_iff]; simp [okE]; omega)), H0.out⟩
    · go_enter Tryz.func71, Tryz.ntmps71
      go_wp2_with fail
      go_ret
      exact ⟨ret_b (by simp [okE, n0]), H0.out⟩
  · go_enter Tryz.func71, Tryz.ntmps71
    go_wp2_with fail
    go_ret
    exact ⟨ret_b (by simp [okE, k1, k2, k3, k4, k5, k6]), H0.out⟩
end Ev
end Go.Proofs.YthpjbffhdaaibaaGreat

namespace Go.Proofs.YthpjbffhdaaibaaGreat
open Go.RowKit
set_option linter.unusedVariables false
set_option maxRecDepth 100000
namespace Mk
/-- n modulo k, from 0 on (k at least 1). -/
def round (n k : Int) : Int := n % k
theorem round_bd (n k : Int) (h : 1 ≤ k) : 0 ≤ round n k ∧ round n k < k := ⟨Int.emod_nonneg _ (by omega), Int.emod_lt_of_pos _ (by omega)⟩
theorem ret_int {a b : Int} (h : a = b) : Ending.returned (.int .i64 a) = .returned (.int .i64 b) := by rw [h]
theorem round_any (n k : Int) (hn : -9223372036854775808 ≤ n) (hn' : n ≤ 9223372036854775807) (h1 : 1 ≤ k) (h2 : k ≤ 9223372036854775807) (w : World) :
    Calls Tryz.prog 34 #[.int .i64 n, .int .i64 k] w fun e w' => e = .returned (.int .i64 (round n k)) ∧ w = w' := by
  have hk0 : ¬ k = 0 := by omega
  by_cases h0 : 0 ≤ n
  · have hr : Hid (n % k = round n k) := rfl
    have hb := (round_bd n k h1).1
    have hb' : ¬ n % k < 0 := by unfold round at hb; omega
    clear hb
    go_enter Tryz.func34, Tryz.ntmps34
    go_wp2
    go_ret
    exact ⟨ret_int hr.out, rfl⟩
  · obtain ⟨t, ht⟩ : ∃ t, n.tmod k = t := ⟨_, rfl⟩
    have hneg : t = -((-n) % k) := by
      rw [← ht, ← Int.neg_neg n, Int.neg_tmod, Int.tmod_eq_emod_of_nonneg (by omega)]; simp
    have hb1 : 0 ≤ (-n) % k := Int.emod_nonneg _ (by omega)
    have hb2 : (-n) % k < k := Int.emod_lt_of_pos _ (by omega)
    have hr : round n k = if t < 0 then t + k else t := by
      unfold round
      by_cases hz : (-n) % k = 0
      · rw [if_neg (by omega)]
        have : n % k = 0 := by
          have hd := Int.dvd_of_emod_eq_zero hz
          exact Int.emod_eq_zero_of_dvd ((Int.dvd_neg).1 hd)
        omega
      · rw [if_pos (by omega)]
        have e : n = t + k + k * (-((-n) / k) - 1) := by
          have := Int.mul_ediv_add_emod (-n) k
          rw [Int.mul_sub, Int.mul_neg]; omega
        rw [e, Int.add_mul_emod_self_left, Int.emod_eq_of_lt (by omega) (by omega)]
    have HR := Lib.hid hr
    have ht1 : -t < k := by omega
    have ht2 : t ≤ 0 := by omega
    clear hneg hb1 hb2 hr
    by_cases hs : t < 0
    · go_enter Tryz.func34, Tryz.ntmps34
      go_wp2
      go_ret
      exact ⟨ret_int (by rw [HR.out, if_pos hs]), rfl⟩
    · go_enter Tryz.func34, Tryz.ntmps34
      go_wp2
      go_ret
      exact ⟨ret_int (by rw [HR.out, if_neg (by omega)]), rfl⟩
end Mk
end Go.Proofs.YthpjbffhdaaibaaGreat

namespace Go.Proofs.YthpjbffhdaaibaaGreat
open Go.RowKit
set_option linter.unusedVariables false
set_option maxRecDepth 100000
namespace Mk
theorem and_i64 (a b : Nat) (ha : a < 9223372036854775808) (hb : b < 9223372036854775808) : bits .and .i64 (a : Int) (b : Int) = ((a &&& b : Nat) : Int) := by
  show IntKind.i64.wrap (((BitVec.ofInt 64 (a : Int)) &&& (BitVec.ofInt 64 (b : Int))).toNat : Int) = _
  rw [BitVec.toNat_and, ofInt_u64 a (by omega), ofInt_u64 b (by omega)]
  have h : a &&& b ≤ a := Nat.and_le_left
  exact IntWalk.i64_in _ (by omega)
/-- The generator's value, in the walk's spelling. -/
def seedN (x : Int) : Int := IntKind.u64.wrap (x + 11400714819323198485)
def mixA (s : Int) : Int := IntKind.u64.wrap (bits .xor .u64 s (s / 1073741824) * 13787848793156543929)
def mixB (z : Int) : Int := IntKind.u64.wrap (bits .xor .u64 z (z / 134217728) * 10723151780598845931)
def mixC (z : Int) : Int := bits .xor .u64 z (z / 2147483648)
def nextV (x : Int) : Int := mixC (mixB (mixA (seedN x)))
theorem next_any (x : Int) (w : World) :
    Calls Tryz.prog 110 #[.int .u64 x] w fun e w' => e = .returned (.tuple #[.int .u64 (nextV x), .int .u64 (seedN x)]) ∧ w = w' := by
  go_enter Tryz.func110, Tryz.ntmps110
  go_wp2
  go_ret2
  exact ⟨rfl, rfl⟩
theorem nextV_bd (x : Int) : 0 ≤ nextV x ∧ nextV x ≤ 18446744073709551615 := by
  have hb : ∀ z : Int, 0 ≤ bits .xor .u64 z (z / 2147483648) ∧ bits .xor .u64 z (z / 2147483648) ≤ 18446744073709551615 := by
    intro z
    show 0 ≤ IntKind.u64.wrap _ ∧ IntKind.u64.wrap _ ≤ _
    rw [IntKind.wrap_u64]; omega
  exact hb _
/-- A natural number below 2^63 that is derived from two numbers. -/
def mix (n k : Int) : Nat := (nextV (bits .xor .u64 (IntKind.u64.wrap n) (IntKind.u64.wrap (IntKind.u64.wrap k * 11400714819323198485))) / 2).toNat
theorem mix_lt (n k : Int) : mix n k < 9223372036854775808 := by
  unfold mix; have := nextV_bd (bits .xor .u64 (IntKind.u64.wrap n) (IntKind.u64.wrap (IntKind.u64.wrap k * 11400714819323198485))); omega
theorem mix_any (n k : Int) (w : World) :
    Calls Tryz.prog 91 #[.int .i64 n, .int .i64 k] w fun e w' => e = .returned (.int .i64 (mix n k)) ∧ w = w' := by
  obtain ⟨x, hx⟩ : ∃ x, nextV (bits .xor .u64 (IntKind.u64.wrap n) (IntKind.u64.wrap (IntKind.u64.wrap k * 11400714819323198485))) = x := ⟨_, rfl⟩
  have hb := nextV_bd (bits .xor .u64 (IntKind.u64.wrap n) (IntKind.u64.wrap (IntKind.u64.wrap k * 11400714819323198485)))
  rw [hx] at hb
  have HM : Hid (((mix n k : Nat) : Int) = x / 2) := show _ = _ by unfold mix; rw [hx]; omega
  have HX := Lib.hid hx
  clear hx
  go_enter Tryz.func91, Tryz.ntmps91
  go_wp2_with (go_at_call 110; refine (next_any _ _).mono ?_; rintro e w' ⟨rfl, rfl⟩; rw [HX.out])
  go_ret
  exact ⟨ret_int HM.out.symm, rfl⟩
end Mk
end Go.Proofs.YthpjbffhdaaibaaGreat
