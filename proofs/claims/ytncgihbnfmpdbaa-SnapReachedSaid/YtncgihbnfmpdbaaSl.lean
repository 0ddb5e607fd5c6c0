/-
  Words for memory: slices of structs: a slice value that holds a list, each element as its cells; appending to one that the call itself made.
-/
import Derived.Test.YtncgihbnfmpdbaaRd
import Derived.WalkKit
import Derived.Deep.Draws
import Derived.Lib.Hide
import Derived.Deep.AppendLies
namespace Go.Proofs.Ytncgihbnfmpdbaa
open Go.RowKit
set_option linter.unusedVariables false
/-- The slice value '.slice A n _' holds the list L, each element as the cells 'f x', 's' of them. -/
def Sl {α : Type} (s : Nat) (f : α → List Value) (w : World) (A : Option Addr) (n : Nat) (L : List α) : Prop :=
  L.length = n ∧ (n = 0 ∨ ∃ b off, A = some ⟨b, off, none⟩ ∧ b < w.heap.size ∧ ∀ k (h : k < L.length) j v, (f L[k])[j]? = some v → w.cell? ⟨b, off + k * s + j, none⟩ = some v)
namespace Sl
variable {α : Type} {s : Nat} {f : α → List Value}
theorem nil (w : World) (A : Option Addr) : Sl s f w A 0 [] := ⟨rfl, .inl rfl⟩
theorem held {w a : World} {A : Option Addr} {n : Nat} {L : List α} (h : Sl s f w A n L) (ha : Held w a) : Sl s f a A n L :=
  ⟨h.1, h.2.imp id fun ⟨b, off, e, hb, hc⟩ => ⟨b, off, e, Nat.lt_of_lt_of_le hb ha.le, fun k hk j v hv => ha.cell (hc k hk j v hv)⟩⟩
theorem take {w : World} {A : Option Addr} {n : Nat} {L : List α} (h : Sl s f w A n L) {k : Nat} (hk : k ≤ n) : Sl s f w A k (L.take k) := by
  refine ⟨by rw [List.length_take, h.1]; omega, ?_⟩
  rcases h.2 with h0 | ⟨b, off, e, hb, hc⟩
  · exact .inl (by omega)
  · refine .inr ⟨b, off, e, hb, fun j hj => ?_⟩
    simp only [List.length_take] at hj
    simp only [List.getElem_take]
    exact hc j (by omega)
/-- An element, in whatever later world: all its cells. -/
theorem at_ {w a : World} {A : Option Addr} {n : Nat} {L : List α} (h : Sl s f w A n L) (ha : Held w a) {k : Nat} (hk : k < n) :
    ∃ b off x, A = some ⟨b, off, none⟩ ∧ b < w.heap.size ∧ L[k]? = some x ∧ ∀ j v, (f x)[j]? = some v → a.cell? ⟨b, off + k * s + j, none⟩ = some v := by
  rcases h.2 with h0 | ⟨b, off, e, hb, hc⟩
  · omega
  · have hl : k < L.length := by rw [h.1]; exact hk
    exact ⟨b, off, L[k], e, hb, List.getElem?_eq_getElem hl, fun j v hv => ha.cell (hc k hl j v hv)⟩
end Sl
theorem flat_len {α : Type} {s : Nat} {f : α → List Value} (hf : ∀ x, (f x).length = s) (L : List α) : (L.flatMap f).length = L.length * s := by
  induction L with
  | nil => simp
  | cons x L ih => rw [List.flatMap_cons, List.length_append, ih, hf, List.length_cons, Nat.succ_mul]; omega
theorem flat_at {α : Type} {s : Nat} {f : α → List Value} (hf : ∀ x, (f x).length = s) (L : List α) (k : Nat) (hk : k < L.length) (j : Nat) (hj : j < s) : (L.flatMap f)[k * s + j]? = (f L[k])[j]? := by
  have e : L.flatMap f = (L.take k).flatMap f ++ (f L[k] ++ (L.drop (k + 1)).flatMap f) := by
    have h1 : L = L.take k ++ ([L[k]] ++ L.drop (k + 1)) := by simp
    exact (congrArg (List.flatMap f) h1).trans (by rw [List.flatMap_append, List.flatMap_append, List.flatMap_singleton])
  have hlk : ((L.take k).flatMap f).length = k * s := by rw [flat_len hf, List.length_take, Nat.min_eq_left (by omega)]
  rw [e, List.getElem?_append_right (by omega), hlk, Nat.add_sub_cancel_left, List.getElem?_append_left (by rw [hf]; exact hj)]
theorem addr_add (b off j : Nat) : (⟨b, off, none⟩ : Addr).add j = ⟨b, off + j, none⟩ := by
  unfold Addr.add; split
  · rename_i h; subst h; rfl
  · rfl
/-- The cells of a slice in one row. -/
theorem Sl.flat {α : Type} {s : Nat} {f : α → List Value} (hf : ∀ x, (f x).length = s) (hs : 0 < s) {w : World} {b off n : Nat} {L : List α} (h : Sl s f w (some ⟨b, off, none⟩) n L) :
    ∀ j u, (L.flatMap f)[j]? = some u → w.cell? ((⟨b, off, none⟩ : Addr).add j) = some u := by
  intro j u hu
  have hj := (List.getElem?_eq_some_iff.1 hu).1
  rw [flat_len hf] at hj
  have hq : j / s < L.length := Nat.div_lt_of_lt_mul (by rw [Nat.mul_comm]; exact hj)
  have e : j / s * s + j % s = j := by rw [Nat.mul_comm]; exact Nat.div_add_mod j s
  rcases h.2 with h0 | ⟨b', off', e1, hb, hc⟩
  · rw [h.1, h0] at hq; exact absurd hq (Nat.not_lt_zero _)
  · injection e1 with e1
    injection e1 with e1 e2
    subst e1 e2
    have h2 := flat_at hf L (j / s) hq (j % s) (Nat.mod_lt _ hs)
    rw [e, hu] at h2
    have h3 := hc (j / s) hq (j % s) u h2.symm
    rw [Nat.add_assoc, e] at h3
    rw [addr_add]; exact h3
theorem Sl.drop {α : Type} {s : Nat} {f : α → List Value} {w : World} {b off n : Nat} {L : List α} (h : Sl s f w (some ⟨b, off, none⟩) n L) {k : Nat} (hk : k ≤ n) : Sl s f w (some ⟨b, off + k * s, none⟩) (n - k) (L.drop k) := by
  refine ⟨by rw [List.length_drop, h.1], ?_⟩
  rcases h.2 with h0 | ⟨b', off', e1, hb, hc⟩
  · exact .inl (by omega)
  · injection e1 with e1
    injection e1 with e1 e2
    subst e1 e2
    refine .inr ⟨b, off + k * s, rfl, hb, fun j hj i v hv => ?_⟩
    rw [List.length_drop] at hj
    rw [List.getElem_drop] at hv
    have := hc (k + j) (by omega) i v hv
    rw [Nat.add_mul] at this
    rw [show off + k * s + j * s + i = off + (k * s + j * s) + i by omega]; exact this
/-- A slice value that the call itself made holds the list L. -/
def Own {α : Type} (e : TypeId) (s : Nat) (f : α → List Value) (base : Nat) (w : World) (v : Value) (L : List α) : Prop := w.ownsRow base e s v L.length (L.flatMap f)
namespace Own
variable {α : Type} {e : TypeId} {s : Nat} {f : α → List Value} {base : Nat}
theorem nil (w : World) : Own e s f base w (.slice none 0 0) ([] : List α) := World.ownsRow_nil _ _ _ _
theorem shape {w : World} {v : Value} {L : List α} (h : Own e s f base w v L) : ∃ A cap, v = .slice A L.length cap ∧ L.length ≤ cap ∧ cap ≤ maxLen := by
  rcases h.2 with ⟨rfl, h0⟩ | ⟨g, cap, cur, rfl, _, _, hc, hm, _⟩
  · exact ⟨_, 0, by rw [h0], by rw [h0]; exact Nat.le_refl _, Nat.zero_le _⟩
  · exact ⟨_, _, rfl, hc, hm⟩
theorem cap {w : World} {A : Option Addr} {n cp : Nat} {L : List α} (h : Own e s f base w (.slice A n cp) L) : n ≤ cp := by
  obtain ⟨A', cp', e1, h1, _⟩ := h.shape
  injection e1 with e1 e2 e3
  subst e2 e3
  exact h1
theorem held {W w w1 : World} {v : Value} {L : List α} (h : Own e s f W.heap.size w v L) (hw : Held w w1) : Own e s f W.heap.size w1 v L := by
  refine ⟨h.1, ?_⟩
  rcases h.2 with h2 | ⟨g, cap, cur, hv, hb, hh, r⟩
  · exact .inl h2
  · refine .inr ⟨g, cap, cur, hv, hb, ?_, r⟩
    rw [hw.block g ?_]; exact hh
    rcases Nat.lt_or_ge g w.heap.size with hl | hl
    · exact hl
    · rw [Array.getElem?_eq_none hl] at hh; cases hh
theorem mono {base' : Nat} {w : World} {v : Value} {L : List α} (h : Own e s f base w v L) (hb : base' ≤ base) : Own e s f base' w v L :=
  ⟨h.1, h.2.imp id fun ⟨g, cap, cur, hv, h1, r⟩ => ⟨g, cap, cur, hv, Nat.le_trans hb h1, r⟩⟩
/-- It reads as the list. -/
theorem reads {w : World} (hf : ∀ x, (f x).length = s) {A : Option Addr} {n cap : Nat} {L : List α} (h : Own e s f base w (.slice A n cap) L) : Sl s f w A n L ∧ n = L.length ∧ n ≤ cap := by
  obtain ⟨hl, h⟩ := h
  rcases h with ⟨he, h0⟩ | ⟨g, cp, cur, he, hb, hh, hn, hm, hc, ht⟩
  · injection he with e1 e2 e3
    subst e2
    exact ⟨⟨h0, .inl rfl⟩, h0.symm, by omega⟩
  · injection he with e1 e2 e3
    subst e1 e2 e3
    have hg : g < w.heap.size := by
      rcases Nat.lt_or_ge g w.heap.size with hl | hl
      · exact hl
      · rw [Array.getElem?_eq_none hl] at hh; cases hh
    refine ⟨⟨rfl, .inr ⟨g, 0, rfl, hg, fun k hk j v hv => ?_⟩⟩, rfl, hn⟩
    have hj : j < s := by
      have := (List.getElem?_eq_some_iff.1 hv).1
      rw [hf] at this; exact this
    have hlt : k * s + j < L.length * s := by
      have : (k + 1) * s ≤ L.length * s := Nat.mul_le_mul_right _ hk
      rw [Nat.succ_mul] at this; omega
    have h1 : (cur.toList.take (L.length * s))[k * s + j]? = some v := by rw [ht, flat_at hf L k hk j hj]; exact hv
    rw [List.getElem?_take, if_pos hlt] at h1
    simp only [World.cell?, hh, Nat.zero_add]
    simpa using h1
end Own
theorem own_slice {w : World} {base : Nat} {e : TypeId} {size n : Nat} {v : Value} {xs : List Value} (h : w.ownsRow base e size v n xs) : ∃ A cap, v = .slice A n cap ∧ n ≤ cap := by
  rcases h.2 with ⟨rfl, rfl⟩ | ⟨g, cap, cur, rfl, _, _, hc, _⟩
  · exact ⟨_, _, rfl, Nat.le_refl _⟩
  · exact ⟨_, _, rfl, hc⟩
theorem held_grown {W w w1 : World} {e : TypeId} {s n : Nat} {v : Value} {xs : List Value} (hb : Held W w) (hown : w.ownsRow W.heap.size e s v n xs) (hg : w.grownBy w1 v.ownBlock) : Held W w1 := by
  refine Below.grown hb hg hb.size ?_
  intro k hk
  obtain ⟨_, h⟩ := hown
  rcases h with ⟨rfl, _⟩ | ⟨g, cap, cur, rfl, hg', _⟩
  · simp [Value.ownBlock] at hk
  · simp [Value.ownBlock] at hk; omega
/-- Behind an append the old value still holds what it held. -/
theorem append_keeps {P : Program} (w w1 : World) (t ty : TypeId) (base : Nat) (e : TypeId) (i : TypeInfo) (z : Value) (size bytes : Nat) (ht : P.underlying t = some (.slice e)) (hi : P.info? e = some i) (hz : i.zero = some z)
    (hsize : i.size = size) (hby : i.bytes = bytes) (hsz : 0 < size) (v v' : Value) (n : Nat) (xs : List Value) (hown : w.ownsRow base e size v n xs)
    (ad : Addr) (m c : Nat) (news : List Value) (hl : news.length = m * size) (hnews : ∀ j u, news[j]? = some u → w.cell? (ad.add j) = some u) (h1 : ∀ u ∈ news, u.oneCell' = true) (hm : 0 < m)
    (h63 : n + m ≤ maxLen) (hbytes : (n + m) * bytes ≤ 140737488355328) (hr : (Builtin.append_ #[t, t] ty #[v, .slice (some ad) m c]).run P w = .ok v' w1) : w1.ownsRow base e size v n xs := by
  subst hsize hby
  rcases hown.2 with ⟨rfl, rfl⟩ | ⟨g, cap, cur, rfl, hbg, hg, hnc, hcm, hcs, htake⟩
  · exact ⟨hown.1, .inl ⟨rfl, rfl⟩⟩
  · by_cases hroom : n + m ≤ cap
    · have hfit : n * i.size + news.length ≤ cur.size := by rw [hl, hcs, ← Nat.add_mul]; exact Nat.mul_le_mul_right _ hroom
      rw [run_append_room (P := P) w t ty e i ht hi g n cap cur hg ad m c news hl hnews h1 hroom hfit] at hr
      injection hr with _ hr
      subst hr
      refine ⟨hown.1, .inr ⟨g, cap, _, rfl, hbg, setRow_heap w g cur _ e _ hg, hnc, hcm, ?_, ?_⟩⟩
      · simp only [List.size_toArray, List.length_append, List.length_take, List.length_drop, Array.length_toList]
        omega
      · have hlen : (cur.toList.take (n * i.size)).length = n * i.size := by rw [htake, hown.1]
        rw [List.append_assoc]
        conv => rhs; rw [← htake]
        exact (congrArg (fun k => List.take k _) hlen.symm).trans List.take_left
    · rw [run_append_grow (P := P) w t ty e i z ht hi hz ⟨g, 0, none⟩ n cap xs hown.1 (hown.cells (g := g) rfl) ad m c news hl hnews (by omega) (by unfold maxLen at h63; omega) (growslice_fits (by omega) hbytes)] at hr
      injection hr with _ hr
      subst hr
      refine ⟨hown.1, .inr ⟨g, cap, cur, rfl, hbg, ?_, hnc, hcm, hcs, htake⟩⟩
      have hlt : g < w.heap.size := (Array.getElem?_eq_some_iff.1 hg).1
      exact (Below.heap_alloc w.drew _ g hlt).trans hg
/-- At a step of a region that draws its order: append of one element; the old value still holds what it held. -/
theorem Own.step_app {α : Type} {e : TypeId} {s : Nat} {f : α → List Value} {P : Program} (w : World) {ops : Array Oper} {o : Oper} {a : Act} {K : Act → World → Prop} {Q : Exit → Act → World → Prop} {E : Prop} (hgd : o.guard = none) (sl x : Operand) (t : TypeId)
    (ho : o.op = .call { callee := .builtin .append, args := #[sl, x], argTypes := #[t, t] }) (z : Value) (bytes : Nat) (ht : P.underlying t = some (.slice e)) (hinfo : (P.info? e).map (fun i => (i.zero, i.size, i.bytes)) = some (some z, s, bytes))
    (hzs : z.cells.size = s) (hs0 : 0 < s) (hf : ∀ x, (f x).length = s) (hf1 : ∀ x, ∀ u ∈ f x, u.oneCell' = true) (base : Nat) (v : Value) (L : List α) (d : α) (ad : Addr) (c : Nat)
    (hs : a.eval sl = v) (hown : Own e s f base w v L) (hx : a.eval x = .slice (some ad) 1 c)
    (hnews : ∀ j u, (f d)[j]? = some u → w.cell? (ad.add j) = some u)
    (hb : (L.length + 1) * bytes ≤ 140737488355328) (hb1 : 1 ≤ bytes) (hbase : base ≤ w.heap.size)
    (h : ∀ g cap w', Own e s f base w' (.slice (some ⟨g, 0, none⟩) (L.length + 1) cap) (L ++ [d]) → Own e s f base w' v L → w.grownBy w' v.ownBlock → (v.ownBlock = some g ∨ g = w.heap.size) → g < w'.heap.size → K (a.put o.dst (.slice (some ⟨g, 0, none⟩) (L.length + 1) cap)) w') :
    if Region.wanted o (yielded ops a.tmps) = true then Oper.wp P o a w K Q else E := by
  obtain ⟨i0, hi, hz0, hz1, hz2⟩ := info_parts hinfo
  have hlen : L.length + 1 ≤ 140737488355328 := Nat.le_trans (Nat.le_mul_of_pos_right _ hb1) hb
  have hw : Region.wanted o (yielded ops a.tmps) = true := by simp [Region.wanted, hgd]
  have hfl : (f d).length = 1 * s := by rw [hf, Nat.one_mul]
  rw [if_pos hw]
  obtain ⟨g, cap, w', hr, h2, h3, h4, h5⟩ := run_append_lies (P := P) w t o.type base e i0 z s bytes ht hi hz0 hz1 hz2 hzs hs0 v L.length (L.flatMap f) hown ad 1 c (f d) hfl hnews (hf1 d) (by decide) (by unfold maxLen; omega) hb hbase w.heap.size rfl
  have h6 := append_keeps w w' t o.type base e i0 z s bytes ht hi hz0 hz1 hz2 hs0 v _ L.length (L.flatMap f) hown ad 1 c (f d) hfl hnews (hf1 d) (by decide) (by unfold maxLen; omega) hb hr
  unfold Oper.wp execOp
  simp only [ho, resolve, invoke, builtin, Sem.run_bind, Sem.run_pure, Result.andThen_ok, List.map_toArray, List.map_cons, List.map_nil, hs, hx, hr]
  refine h g cap w' ?_ h6 h3 h4 h5
  unfold Own
  rw [List.flatMap_append, List.flatMap_singleton, List.length_append, List.length_singleton]
  exact h2
/-- At a step of a region that draws its order: append of a list. -/
theorem Own.step_apps {α : Type} {e : TypeId} {s : Nat} {f : α → List Value} {P : Program} (w : World) {ops : Array Oper} {o : Oper} {a : Act} {K : Act → World → Prop} {Q : Exit → Act → World → Prop} {E : Prop} (hgd : o.guard = none) (sl x : Operand) (t : TypeId)
    (ho : o.op = .call { callee := .builtin .append, args := #[sl, x], argTypes := #[t, t] }) (z : Value) (bytes : Nat) (ht : P.underlying t = some (.slice e)) (hinfo : (P.info? e).map (fun i => (i.zero, i.size, i.bytes)) = some (some z, s, bytes))
    (hzs : z.cells.size = s) (hs0 : 0 < s) (hf : ∀ x, (f x).length = s) (hf1 : ∀ x, ∀ u ∈ f x, u.oneCell' = true) (W : World) (hW : Held W w) (v : Value) (L M : List α) (ad : Addr) (m c : Nat)
    (hs : a.eval sl = v) (hown : Own e s f W.heap.size w v L) (hx : a.eval x = .slice (some ad) m c) (hm : M.length = m)
    (hnews : ∀ j u, (M.flatMap f)[j]? = some u → w.cell? (ad.add j) = some u)
    (hb : (L.length + m) * bytes ≤ 140737488355328) (hb1 : 1 ≤ bytes)
    (h : ∀ v' w', Own e s f W.heap.size w' v' (L ++ M) → Held W w' → w.grownBy w' v.ownBlock → K (a.put o.dst v') w') :
    if Region.wanted o (yielded ops a.tmps) = true then Oper.wp P o a w K Q else E := by
  obtain ⟨i0, hi, hz0, hz1, hz2⟩ := info_parts hinfo
  have hlen : L.length + m ≤ 140737488355328 := Nat.le_trans (Nat.le_mul_of_pos_right _ hb1) hb
  have hw : Region.wanted o (yielded ops a.tmps) = true := by simp [Region.wanted, hgd]
  subst hm
  rw [if_pos hw]
  refine wp_append_own w sl x t ho W.heap.size e i0 z s bytes ht hi hz0 hz1 hz2 hzs hs0 v L.length (L.flatMap f) hs hown ad M.length c (M.flatMap f) hx (flat_len hf M) hnews ?_ (by unfold maxLen; omega) hb hW.le ?_
  · intro u hu
    rw [List.mem_flatMap] at hu
    obtain ⟨y, _, hy⟩ := hu
    exact hf1 y u hy
  · intro v' w' g1 g2 _
    refine h v' w' ?_ (held_grown hW hown g2) g2
    unfold Own
    rw [List.flatMap_append, List.length_append]
    exact g1
/-- Append of a list. -/
theorem Own.apps {α : Type} {e : TypeId} {s : Nat} {f : α → List Value} {P : Program} (w : World) {ops : Array Oper} {rest : List Oper} {o : Oper} {a : Act} {Q : Exit → Act → World → Prop} (hgd : o.guard = none) (sl x : Operand) (t : TypeId)
    (ho : o.op = .call { callee := .builtin .append, args := #[sl, x], argTypes := #[t, t] }) (z : Value) (bytes : Nat) (ht : P.underlying t = some (.slice e)) (hinfo : (P.info? e).map (fun i => (i.zero, i.size, i.bytes)) = some (some z, s, bytes))
    (hzs : z.cells.size = s) (hs0 : 0 < s) (hf : ∀ x, (f x).length = s) (hf1 : ∀ x, ∀ u ∈ f x, u.oneCell' = true) (W : World) (hW : Held W w) (v : Value) (L M : List α) (ad : Addr) (m c : Nat)
    (hs : a.eval sl = v) (hown : Own e s f W.heap.size w v L) (hx : a.eval x = .slice (some ad) m c) (hm : M.length = m)
    (hnews : ∀ j u, (M.flatMap f)[j]? = some u → w.cell? (ad.add j) = some u)
    (hb : (L.length + m) * bytes ≤ 140737488355328) (hb1 : 1 ≤ bytes)
    (h : ∀ v' w', Own e s f W.heap.size w' v' (L ++ M) → Held W w' → w.grownBy w' v.ownBlock → wpList P ops Q rest (a.put o.dst v') w') :
    wpList P ops Q (o :: rest) a w := by
  obtain ⟨i0, hi, hz0, hz1, hz2⟩ := info_parts hinfo
  have hlen : L.length + m ≤ 140737488355328 := Nat.le_trans (Nat.le_mul_of_pos_right _ hb1) hb
  subst hm
  refine wpList_append_own w hgd sl x t ho W.heap.size e i0 z s bytes ht hi hz0 hz1 hz2 hzs hs0 v L.length (L.flatMap f) hs hown ad M.length c (M.flatMap f) hx (flat_len hf M) hnews ?_ (by unfold maxLen; omega) hb hW.le ?_
  · intro u hu
    rw [List.mem_flatMap] at hu
    obtain ⟨y, _, hy⟩ := hu
    exact hf1 y u hy
  · intro v' w' g1 g2 _
    refine h v' w' ?_ (held_grown hW hown g2) g2
    unfold Own
    rw [List.flatMap_append, List.length_append]
    exact g1
/-- An empty slice that is not nil. -/
theorem Own.empty {α : Type} {e : TypeId} {s : Nat} {f : α → List Value} {w : World} {base : Nat} (hb : base ≤ w.heap.size) : Own e s f base (w.alloc (.cells #[] e)) (.slice (some ⟨w.heap.size, 0, none⟩) 0 0) ([] : List α) :=
  ⟨by simp, .inr ⟨w.heap.size, 0, #[], rfl, hb, heap_alloc_new w _, Nat.le_refl _, Nat.zero_le _, by simp, by simp⟩⟩
/-- Append of one element. -/
theorem Own.app {α : Type} {e : TypeId} {s : Nat} {f : α → List Value} {P : Program} (w : World) {ops : Array Oper} {rest : List Oper} {o : Oper} {a : Act} {Q : Exit → Act → World → Prop} (hgd : o.guard = none) (sl x : Operand) (t : TypeId)
    (ho : o.op = .call { callee := .builtin .append, args := #[sl, x], argTypes := #[t, t] }) (z : Value) (bytes : Nat) (ht : P.underlying t = some (.slice e)) (hinfo : (P.info? e).map (fun i => (i.zero, i.size, i.bytes)) = some (some z, s, bytes))
    (hzs : z.cells.size = s) (hs0 : 0 < s) (hf : ∀ x, (f x).length = s) (hf1 : ∀ x, ∀ u ∈ f x, u.oneCell' = true) (base : Nat) (v : Value) (L : List α) (d : α) (ad : Addr) (c : Nat)
    (hs : a.eval sl = v) (hown : Own e s f base w v L) (hx : a.eval x = .slice (some ad) 1 c)
    (hnews : ∀ j u, (f d)[j]? = some u → w.cell? (ad.add j) = some u)
    (hb : (L.length + 1) * bytes ≤ 140737488355328) (hb1 : 1 ≤ bytes) (hbase : base ≤ w.heap.size)
    (h : ∀ g cap w', Own e s f base w' (.slice (some ⟨g, 0, none⟩) (L.length + 1) cap) (L ++ [d]) → w.grownBy w' v.ownBlock → (v.ownBlock = some g ∨ g = w.heap.size) → g < w'.heap.size → wpList P ops Q rest (a.put o.dst (.slice (some ⟨g, 0, none⟩) (L.length + 1) cap)) w') :
    wpList P ops Q (o :: rest) a w := by
  obtain ⟨i0, hi, hz0, hz1, hz2⟩ := info_parts hinfo
  have hlen : L.length + 1 ≤ 140737488355328 := Nat.le_trans (Nat.le_mul_of_pos_right _ hb1) hb
  refine wpList_append_lies w hgd sl x t ho base e i0 z s bytes ht hi hz0 hz1 hz2 hzs hs0 v L.length (L.flatMap f) hs hown ad 1 c (f d) hx (by rw [hf, Nat.one_mul]) hnews (hf1 d) (by decide) (by unfold maxLen; omega) hb hbase w.heap.size rfl ?_
  intro g cap w' g1 g2 g3 g4
  refine h g cap w' ?_ g2 g3 g4
  unfold Own
  rw [List.flatMap_append, List.flatMap_singleton, List.length_append, List.length_singleton]
  exact g1
/-- A store into one element of a slice that the call itself made. -/
theorem Own.stored {α : Type} {e : TypeId} {s : Nat} {f : α → List Value} (hf : ∀ x, (f x).length = s) {base : Nat} {w : World} {g n cap : Nat} {L : List α} (h : Own e s f base w (.slice (some ⟨g, 0, none⟩) n cap) L) (k : Nat) (hk : k < L.length) (i : Nat) (u : Value) (x : α)
    (hx : f x = (f L[k]).set i u) (hi : i < s) : Sl s f (w.setCell ⟨g, k * s + i, none⟩ u) (some ⟨g, 0, none⟩) n (L.set k x) := by
  obtain ⟨hr, hn, hc⟩ := h.reads hf
  refine ⟨by rw [List.length_set, hn], .inr ⟨g, 0, rfl, ?_, fun j hj q v hv => ?_⟩⟩
  · rcases hr.2 with h0 | ⟨b, off, e1, hb, _⟩
    · omega
    · injection e1 with e1
      injection e1 with e1 e2
      subst e1
      simpa [World.setCell] using hb
  · rw [List.length_set] at hj
    rcases hr.2 with h0 | ⟨b, off, e1, hb, hcell⟩
    · omega
    · injection e1 with e1
      injection e1 with e1 e2
      subst e1 e2
      have hq : q < s := by
        have := (List.getElem?_eq_some_iff.1 hv).1
        rw [hf] at this; exact this
      have hci := hcell k hk i
      by_cases ejk : j = k
      · subst ejk
        rw [List.getElem_set_self, hx] at hv
        by_cases eq : q = i
        · subst eq
          rw [List.getElem?_set_self (by rw [hf]; exact hi)] at hv
          injection hv with hv
          subst hv
          have hqf : q < (f L[j]).length := by rw [hf]; exact hi
          have hold := hcell j hk q (f L[j])[q] (List.getElem?_eq_getElem hqf)
          simp only [Nat.zero_add] at hold ⊢
          exact World.cell?_setCell_same _ _ _ hold
        · rw [List.getElem?_set_ne (by omega)] at hv
          have hold := hcell j hk q v hv
          simp only [Nat.zero_add] at hold ⊢
          rw [World.cell?_setCell_other _ _ _ _ (by intro e; injection e with _ e; omega)]
          exact hold
      · rw [List.getElem_set_ne (by omega)] at hv
        have hold := hcell j hj q v hv
        simp only [Nat.zero_add] at hold ⊢
        rw [World.cell?_setCell_other _ _ _ _ ?_]
        · exact hold
        · intro e
          injection e with _ e
          have hne : j < k ∨ k < j := by omega
          rcases hne with h1 | h1
          · have := Nat.mul_le_mul_right s h1; rw [Nat.succ_mul] at this; omega
          · have := Nat.mul_le_mul_right s h1; rw [Nat.succ_mul] at this; omega
end Go.Proofs.Ytncgihbnfmpdbaa
