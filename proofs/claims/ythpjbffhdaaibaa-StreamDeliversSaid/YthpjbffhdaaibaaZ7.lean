/-
  What a call has in memory of its own, as a list of pieces (boxes, rows): over any program.
  Pieces of memory: some of them, in another order (over any program).
  Pieces of memory: an empty slice; append of a list, in a walk and at a step of a region that draws its order (over any program).
  Pieces of memory: append in place, where there is room; the row without its last element (over any program).
  Pieces of memory: append of whatever slice, nil and empty ones too (over any program).
  Slices of structs that the call itself made: deleted from, inserted into: laws of no program.
  Pieces of memory: new pieces in front; what Delete and Insert leave; nil slices (over any program).
  Boxes: a block known whole; a function's results that lie in boxes.
-/
import Derived.Test.YthpjbffhdaaibaaZ6
import Derived.WalkKit
import Derived.OwnWalk
import Derived.Deep.AppendLies
import Derived.Deep.Upon
import Derived.Test.YthpjbffhdaaibaaZ2
import Derived.Laws.CopyRow
import Derived.Lib.AppendZerosOnto
import Derived.Lib.Overlaps
import Derived.Laws.Externs
import Derived.Test.YthpjbffhdaaibaaProg
import Derived.WalkSpells
set_option linter.unusedVariables false
namespace Go.Proofs.Ythpjbffhdaaibaa
open Go.RowKit
/-- A piece of memory: its blocks, and what holds of them. -/
structure Ck where
  bs : List Nat
  P : World → Prop
  loc : ∀ {w w' : World}, (∀ b ∈ bs, w'.heap[b]? = w.heap[b]?) → P w → P w'
  lt : ∀ {w : World}, P w → ∀ b ∈ bs, b < w.heap.size
theorem lt_of_heap {w : World} {b : Nat} {o : Obj} (h : w.heap[b]? = some o) : b < w.heap.size := (Array.getElem?_eq_some_iff.1 h).1
/-- A box: a block known whole. -/
def Ck.box (b : Nat) (cs : Array Value) (t : TypeId) : Ck :=
  ⟨[b], fun w => w.heap[b]? = some (.cells cs t (0, 0)), fun h p => (h b (by simp)).trans p, fun p b' hb => by simp at hb; subst hb; exact lt_of_heap p⟩
theorem Own.loc {α : Type} {e : TypeId} {s : Nat} {f : α → List Value} {base : Nat} {w w' : World} {v : Value} {L : List α} (h : Own e s f base w v L) (hk : ∀ b ∈ v.ownBlock.toList, w'.heap[b]? = w.heap[b]?) : Own e s f base w' v L := by
  refine ⟨h.1, h.2.imp id ?_⟩
  rintro ⟨g, cp, cur, rfl, q1, q2, q3⟩
  exact ⟨g, cp, cur, rfl, q1, (hk g (by simp [Value.ownBlock])).trans q2, q3⟩
/-- A row of the call's own. -/
def Ck.row {α : Type} (e : TypeId) (s : Nat) (f : α → List Value) (base : Nat) (v : Value) (L : List α) : Ck :=
  ⟨v.ownBlock.toList, fun w => Own e s f base w v L, fun h p => Own.loc p h, fun p b hb => (World.ownsRow.lt p b (by simpa using hb)).2⟩
/-- A piece of any kind in one block. -/
def Ck.one (b : Nat) (Q : Obj → Prop) : Ck := ⟨[b], fun w => ∃ o, w.heap[b]? = some o ∧ Q o, fun h p => by obtain ⟨o, ho, hq⟩ := p; exact ⟨o, (h b (by simp)).trans ho, hq⟩, fun p b' hb => by obtain ⟨o, ho, _⟩ := p; simp at hb; subst hb; exact lt_of_heap ho⟩
/-- The cells of a block that was just made. -/
theorem cells_new (w : World) {b : Nat} (hb : w.heap.size = b) (cs : Array Value) (t : TypeId) : ∀ j u, cs.toList[j]? = some u → (w.alloc (.cells cs t)).cell? ((⟨b, 0, none⟩ : Addr).add j) = some u := by
  intro j u hu
  subst hb
  have hn := heap_alloc_new w (.cells cs t)
  rw [addr_add]
  simp only [World.cell?, hn, Nat.zero_add]
  simpa using hu
/-- The cells that make lays. -/
theorem made_flat {α : Type} {s : Nat} {f : α → List Value} (hf : ∀ x, (f x).length = s) (hs : 0 < s) (x0 : α) (z : Value) (hz : z.cells.toList = f x0) (n : Nat) : (madeCells z.cells (n * s)).toList = (List.replicate n x0).flatMap f := by
  have hzs : z.cells.size = s := by rw [← hf x0, ← hz]; simp
  refine List.ext_getElem? fun j => ?_
  by_cases hj : j < n * s
  · have hk : j / s < n := Nat.div_lt_of_lt_mul (by rw [Nat.mul_comm]; exact hj)
    have hr : j % s < s := Nat.mod_lt _ hs
    have e : (j / s) * s + j % s = j := by rw [Nat.mul_comm]; exact Nat.div_add_mod j s
    have h1 := flat_at hf (List.replicate n x0) (j / s) (by simpa using hk) (j % s) hr
    rw [e] at h1
    rw [h1, List.getElem_replicate, ← hz, madeCells]
    simp only [Array.toList_map, Array.toList_range, hzs, List.getElem?_map]
    rw [List.getElem?_range hj]
    simp [getElem!_pos, hzs, hr]
  · rw [List.getElem?_eq_none (by simp [size_madeCells]; omega), List.getElem?_eq_none (by rw [flat_len hf, List.length_replicate]; omega)]
/-- What the call has: the world in which it began is kept; the pieces, apart from each other. -/
structure Mem (W w : World) (H : List Ck) : Prop where
  held : Held W w
  ok : ∀ c ∈ H, c.P w ∧ ∀ b ∈ c.bs, W.heap.size ≤ b
  sep : H.Pairwise fun c d => ∀ b ∈ c.bs, b ∉ d.bs
namespace Mem
variable {W w w' : World} {H : List Ck}
theorem start (W : World) : Mem W W [] := ⟨Held.refl W, fun c h => by simp at h, List.Pairwise.nil⟩
theorem of (h : Held W w) : Mem W w [] := ⟨h, fun c h => by simp at h, List.Pairwise.nil⟩
theorem le (h : Mem W w H) : W.heap.size ≤ w.heap.size := h.held.le
theorem keep (h : Mem W w H) (k : Held w w') : Mem W w' H :=
  ⟨h.held.step k, fun c hc => ⟨c.loc (fun b hb => k.block b (c.lt (h.ok c hc).1 b hb)) (h.ok c hc).1, (h.ok c hc).2⟩, h.sep⟩
theorem get (h : Mem W w H) {i : Nat} {c : Ck} (hi : H[i]? = some c) : c.P w := (h.ok c (List.mem_of_getElem? hi)).1
theorem ge (h : Mem W w H) {i : Nat} {c : Ck} (hi : H[i]? = some c) : ∀ b ∈ c.bs, W.heap.size ≤ b := (h.ok c (List.mem_of_getElem? hi)).2
theorem apart (h : Mem W w H) {i j : Nat} {c d : Ck} (hi : H[i]? = some c) (hj : H[j]? = some d) (hij : i ≠ j) : ∀ b ∈ c.bs, b ∉ d.bs := by
  obtain ⟨li, rfl⟩ := List.getElem?_eq_some_iff.1 hi
  obtain ⟨lj, rfl⟩ := List.getElem?_eq_some_iff.1 hj
  rcases Nat.lt_or_ge i j with hl | hl
  · exact List.pairwise_iff_getElem.1 h.sep i j li lj hl
  · intro b hb hb'
    exact List.pairwise_iff_getElem.1 h.sep j i lj li (by omega) b hb' hb
/-- A new piece. -/
theorem new (h : Mem W w H) (k : Held w w') (c : Ck) (hp : c.P w') (hb : ∀ b ∈ c.bs, w.heap.size ≤ b) : Mem W w' (H ++ [c]) := by
  have hk := h.keep k
  refine ⟨hk.held, fun d hd => ?_, ?_⟩
  · rcases List.mem_append.1 hd with hd | hd
    · exact hk.ok d hd
    · rw [List.mem_singleton] at hd
      subst hd
      exact ⟨hp, fun b hb' => Nat.le_trans h.le (hb b hb')⟩
  · refine List.pairwise_append.2 ⟨h.sep, List.pairwise_singleton _ _, fun d hd d' hd' b hb1 hb2 => ?_⟩
    rw [List.mem_singleton] at hd'
    subst hd'
    have := d.lt (h.ok d hd).1 b hb1
    have := hb b hb2
    omega
/-- One piece has turned into another, in its own blocks or in new ones; nothing else has turned. -/
theorem upd (h : Mem W w H) {i : Nat} {c : Ck} (hi : H[i]? = some c) (c' : Ck) (h0 : Below 0 w w') (hk : ∀ b, b < w.heap.size → b ∉ c.bs → w'.heap[b]? = w.heap[b]?) (hp : c'.P w') (hb : ∀ b ∈ c'.bs, b ∈ c.bs ∨ w.heap.size ≤ b) : Mem W w' (H.set i c') := by
  obtain ⟨li, rfl⟩ := List.getElem?_eq_some_iff.1 hi
  have hge := h.ge hi
  refine ⟨h.held.trans ⟨h0.os, h0.tape, h0.output, h0.size, fun k hkk => hk k (Nat.lt_of_lt_of_le hkk h.le) (fun hm => by have := hge k hm; omega)⟩, fun d hd => ?_, ?_⟩
  · obtain ⟨j, hj, rfl⟩ := List.mem_iff_getElem.1 hd
    rw [List.getElem_set]
    have hj' : j < H.length := by simpa using hj
    by_cases hij : i = j
    · rw [if_pos hij]
      refine ⟨hp, fun b hb' => ?_⟩
      rcases hb b hb' with hm | hm
      · exact hge b hm
      · exact Nat.le_trans h.le hm
    · rw [if_neg hij]
      have hd' := h.ok H[j] (List.getElem_mem hj')
      refine ⟨H[j].loc (fun b hb' => hk b (H[j].lt hd'.1 b hb') (h.apart (i := j) (j := i) (List.getElem?_eq_getElem hj') hi (fun e => hij e.symm) b hb')) hd'.1, hd'.2⟩
  · rw [List.pairwise_iff_getElem]
    intro p q hp1 hq1 hpq b hb1 hb2
    rw [List.getElem_set] at hb1 hb2
    have hp2 : p < H.length := by simpa using hp1
    have hq2 : q < H.length := by simpa using hq1
    have hlt : ∀ (m : Nat) (hm : m < H.length), b ∈ H[m].bs → b < w.heap.size := fun m hm => H[m].lt (h.ok H[m] (List.getElem_mem hm)).1 b
    by_cases h1 : i = p
    · rw [if_pos h1] at hb1
      rw [if_neg (by omega)] at hb2
      rcases hb b hb1 with hm | hm
      · exact h.apart hi (List.getElem?_eq_getElem hq2) (by omega) b hm hb2
      · have := hlt q hq2 hb2; omega
    · rw [if_neg h1] at hb1
      by_cases h2 : i = q
      · rw [if_pos h2] at hb2
        rcases hb b hb2 with hm | hm
        · exact h.apart (List.getElem?_eq_getElem hp2) hi (by omega) b hb1 hm
        · have := hlt p hp2 hb1; omega
      · rw [if_neg h2] at hb2
        exact h.apart (List.getElem?_eq_getElem hp2) (List.getElem?_eq_getElem hq2) (by omega) b hb1 hb2
/-- A list of pieces that are all among these. -/
theorem sub (h : Mem W w H) {H' : List Ck} (hs : H'.Sublist H) : Mem W w H' := ⟨h.held, fun c hc => h.ok c (hs.subset hc), h.sep.sublist hs⟩
theorem take (h : Mem W w H) (n : Nat) : Mem W w (H.take n) := h.sub (List.take_sublist n H)
-- boxes
theorem alloc (h : Mem W w H) (cs : Array Value) (t : TypeId) : Mem W (w.alloc (.cells cs t)) (H ++ [.box w.heap.size cs t]) :=
  h.new ((Held.refl w).alloc _) _ (heap_alloc_new w _) (fun b hb => by simp [Ck.box] at hb; omega)
theorem alloc' (h : Mem W w H) {b : Nat} (hb : w.heap.size = b) (cs : Array Value) (t : TypeId) : Mem W (w.alloc (.cells cs t)) (H ++ [.box b cs t]) := hb ▸ h.alloc cs t
theorem skip (h : Mem W w H) (o : Obj) : Mem W (w.alloc o) H := h.keep ((Held.refl w).alloc o)
theorem drew (h : Mem W w H) : Mem W w.drew H := h.keep (Held.refl w).drew
theorem put (h : Mem W w H) (i : Nat) {b : Nat} {cs : Array Value} {t : TypeId} (hi : H[i]? = some (.box b cs t)) (j : Nat) (v : Value) : Mem W (w.setCell ⟨b, j, none⟩ v) (H.set i (.box b (cs.setIfInBounds j v) t)) := by
  refine h.upd hi _ ((Below.refl 0 w).setCell (Nat.zero_le _) v) (fun b' _ hb' => Below.heap_setCell w _ _ _ (by simpa [Ck.box] using hb')) ?_ (fun b' hb' => .inl hb')
  have := h.get hi
  simp only [Ck.box] at this ⊢
  simp only [World.setCell]
  rw [Array.getElem?_modify, if_pos rfl, this]; rfl
theorem blk (h : Mem W w H) (i : Nat) {b : Nat} {cs : Array Value} {t : TypeId} (hi : H[i]? = some (.box b cs t)) : w.heap[b]? = some (.cells cs t (0, 0)) := h.get hi
theorem cell (h : Mem W w H) (i : Nat) {b : Nat} {cs : Array Value} {t : TypeId} (hi : H[i]? = some (.box b cs t)) (j : Nat) {v : Value} (hv : cs[j]? = some v) : w.cell? ⟨b, j, none⟩ = some v := by
  have := h.blk i hi
  simp [World.cell?, this, hv]
theorem free (h : Mem W w H) (i : Nat) {b : Nat} {cs : Array Value} {t : TypeId} (hi : H[i]? = some (.box b cs t)) (j : Nat) : w.frozen? ⟨b, j, none⟩ = false := by
  have := h.blk i hi
  simp [World.frozen?, this]
theorem lt (h : Mem W w H) (i : Nat) {b : Nat} {cs : Array Value} {t : TypeId} (hi : H[i]? = some (.box b cs t)) : b < w.heap.size := lt_of_heap (h.blk i hi)
theorem geb (h : Mem W w H) (i : Nat) {b : Nat} {cs : Array Value} {t : TypeId} (hi : H[i]? = some (.box b cs t)) : W.heap.size ≤ b := h.ge hi b (by simp [Ck.box])
theorem ne (h : Mem W w H) (i j : Nat) {b b' : Nat} {cs cs' : Array Value} {t t' : TypeId} (hi : H[i]? = some (.box b cs t)) (hj : H[j]? = some (.box b' cs' t')) (hij : i ≠ j) : b ≠ b' := fun e => h.apart hi hj hij b (by simp [Ck.box]) (by simp [Ck.box, e])
section
variable {b : Nat} {t : TypeId} {x0 x1 x2 x3 x4 x5 x6 x7 : Value}
theorem box1 (h : Mem W w H) (i : Nat) (hi : H[i]? = some (.box b #[x0] t)) : w.cell? ⟨b, 0, none⟩ = some x0 ∧ w.frozen? ⟨b, 0, none⟩ = false ∧ b < w.heap.size := ⟨h.cell i hi 0 rfl, h.free i hi 0, h.lt i hi⟩
theorem box2 (h : Mem W w H) (i : Nat) (hi : H[i]? = some (.box b #[x0, x1] t)) : (w.cell? ⟨b, 0, none⟩ = some x0 ∧ w.cell? ⟨b, 1, none⟩ = some x1) ∧ (w.frozen? ⟨b, 0, none⟩ = false ∧ w.frozen? ⟨b, 1, none⟩ = false) ∧ b < w.heap.size := ⟨⟨h.cell i hi 0 rfl, h.cell i hi 1 rfl⟩, ⟨h.free i hi 0, h.free i hi 1⟩, h.lt i hi⟩
theorem box3 (h : Mem W w H) (i : Nat) (hi : H[i]? = some (.box b #[x0, x1, x2] t)) : (w.cell? ⟨b, 0, none⟩ = some x0 ∧ w.cell? ⟨b, 1, none⟩ = some x1 ∧ w.cell? ⟨b, 2, none⟩ = some x2) ∧ (w.frozen? ⟨b, 0, none⟩ = false ∧ w.frozen? ⟨b, 1, none⟩ = false ∧ w.frozen? ⟨b, 2, none⟩ = false) ∧ b < w.heap.size := ⟨⟨h.cell i hi 0 rfl, h.cell i hi 1 rfl, h.cell i hi 2 rfl⟩, ⟨h.free i hi 0, h.free i hi 1, h.free i hi 2⟩, h.lt i hi⟩
theorem box4 (h : Mem W w H) (i : Nat) (hi : H[i]? = some (.box b #[x0, x1, x2, x3] t)) : (w.cell? ⟨b, 0, none⟩ = some x0 ∧ w.cell? ⟨b, 1, none⟩ = some x1 ∧ w.cell? ⟨b, 2, none⟩ = some x2 ∧ w.cell? ⟨b, 3, none⟩ = some x3) ∧ (w.frozen? ⟨b, 0, none⟩ = false ∧ w.frozen? ⟨b, 1, none⟩ = false ∧ w.frozen? ⟨b, 2, none⟩ = false ∧ w.frozen? ⟨b, 3, none⟩ = false) ∧ b < w.heap.size := ⟨⟨h.cell i hi 0 rfl, h.cell i hi 1 rfl, h.cell i hi 2 rfl, h.cell i hi 3 rfl⟩, ⟨h.free i hi 0, h.free i hi 1, h.free i hi 2, h.free i hi 3⟩, h.lt i hi⟩
theorem box5 (h : Mem W w H) (i : Nat) (hi : H[i]? = some (.box b #[x0, x1, x2, x3, x4] t)) : (w.cell? ⟨b, 0, none⟩ = some x0 ∧ w.cell? ⟨b, 1, none⟩ = some x1 ∧ w.cell? ⟨b, 2, none⟩ = some x2 ∧ w.cell? ⟨b, 3, none⟩ = some x3 ∧ w.cell? ⟨b, 4, none⟩ = some x4) ∧ (w.frozen? ⟨b, 0, none⟩ = false ∧ w.frozen? ⟨b, 1, none⟩ = false ∧ w.frozen? ⟨b, 2, none⟩ = false ∧ w.frozen? ⟨b, 3, none⟩ = false ∧ w.frozen? ⟨b, 4, none⟩ = false) ∧ b < w.heap.size := ⟨⟨h.cell i hi 0 rfl, h.cell i hi 1 rfl, h.cell i hi 2 rfl, h.cell i hi 3 rfl, h.cell i hi 4 rfl⟩, ⟨h.free i hi 0, h.free i hi 1, h.free i hi 2, h.free i hi 3, h.free i hi 4⟩, h.lt i hi⟩
end
-- rows
section
variable {α : Type} {e : TypeId} {s : Nat} {f : α → List Value} {base : Nat}
theorem row (h : Mem W w H) (i : Nat) {v : Value} {L : List α} (hi : H[i]? = some (.row e s f base v L)) : Own e s f base w v L := h.get hi
/-- A row that a call has handed back. -/
theorem own (h : Mem W w H) (k : Held w w') {v : Value} {L : List α} (o : Own e s f w.heap.size w' v L) : Mem W w' (H ++ [.row e s f W.heap.size v L]) :=
  h.new k _ (Own.mono o h.le) (fun b hb => (World.ownsRow.lt o b (by simpa [Ck.row] using hb)).1)
theorem nilRow (h : Mem W w H) : Mem W w (H ++ [.row e s f W.heap.size (.slice none 0 0) []]) :=
  h.new (Held.refl w) _ (Own.nil w) (fun b hb => by simp [Ck.row, Value.ownBlock] at hb)
theorem neRow (h : Mem W w H) (i j : Nat) {b : Nat} {cs : Array Value} {t : TypeId} {v : Value} {L : List α} (hi : H[i]? = some (.box b cs t)) (hj : H[j]? = some (.row e s f base v L)) (hij : i ≠ j) : v.ownBlock ≠ some b := fun q => h.apart hi hj hij b (by simp [Ck.box]) (by simp [Ck.row, q])
theorem putRow (h : Mem W w H) (i : Nat) {g n cap : Nat} {L : List α} (hi : H[i]? = some (.row e s f base (.slice (some ⟨g, 0, none⟩) n cap) L)) (hf : ∀ x, (f x).length = s) {k : Nat} (hk : k < L.length) {j : Nat} (hj : j < s) (u : Value) (x : α) (hx : f x = (f L[k]).set j u) :
    Mem W (w.setCell ⟨g, k * s + j, none⟩ u) (H.set i (.row e s f base (.slice (some ⟨g, 0, none⟩) n cap) (L.set k x))) := by
  refine h.upd hi _ ((Below.refl 0 w).setCell (Nat.zero_le _) u) (fun b' _ hb' => Below.heap_setCell w _ _ _ (by simpa [Ck.row, Value.ownBlock] using hb')) ?_ (fun b' hb' => .inl hb')
  exact Own.put hf (h.row i hi) hk hj u x hx
/-- An element of a row: its value, its cells. -/
theorem slot (h : Mem W w H) (i : Nat) {A : Option Addr} {n cap : Nat} {L : List α} (hi : H[i]? = some (.row e s f base (.slice A n cap) L)) (hf : ∀ x, (f x).length = s) (hs : 0 < s) {k : Nat} (hk : k < L.length) :
    ∃ g x, A = some ⟨g, 0, none⟩ ∧ W.heap.size ≤ g ∧ g < w.heap.size ∧ L[k]? = some x ∧ ∀ j, j < s → w.frozen? ⟨g, k * s + j, none⟩ = false ∧ ∀ v, (f x)[j]? = some v → w.cell? ⟨g, k * s + j, none⟩ = some v := by
  obtain ⟨g, hA, _, h2, h3⟩ := Own.slot hf (h.row i hi) hs hk
  exact ⟨g, L[k], hA, h.ge hi g (by simp [Ck.row, Value.ownBlock, hA]), h2, List.getElem?_eq_getElem hk, h3⟩
theorem putAt (h : Mem W w H) (i : Nat) {g n cap : Nat} {L : List α} (hi : H[i]? = some (.row e s f base (.slice (some ⟨g, 0, none⟩) n cap) L)) (hf : ∀ x, (f x).length = s) {k : Nat} {y : α} (hk : L[k]? = some y) {j : Nat} (hj : j < s) (u : Value) (x : α) (hx : f x = (f y).set j u) :
    Mem W (w.setCell ⟨g, k * s + j, none⟩ u) (H.set i (.row e s f base (.slice (some ⟨g, 0, none⟩) n cap) (L.set k x))) := by
  obtain ⟨hlt, rfl⟩ := List.getElem?_eq_some_iff.1 hk
  exact h.putRow i hi hf hlt hj u x hx
/-- What an append leaves. -/
theorem app (h : Mem W w H) (i : Nat) {v v' : Value} {L L' : List α} (hi : H[i]? = some (.row e s f base v L)) (hg : w.grownBy w' v.ownBlock) (ho : Own e s f base w' v' L') (hb : ∀ b, v'.ownBlock = some b → v.ownBlock = some b ∨ w.heap.size ≤ b) : Mem W w' (H.set i (.row e s f base v' L')) := by
  refine h.upd hi _ ⟨hg.os, hg.tape, hg.output, hg.size, fun k hk => by omega⟩ (fun b hlt hb' => hg.block b hlt (fun q => hb' (by simp [Ck.row, ← q]))) ho (fun b hb' => ?_)
  simp only [Ck.row, Option.mem_toList] at hb' ⊢
  exact hb b hb'
/-- A slice that make lays. -/
theorem wp_make (h : Mem W w H) {P : Program} {ops : Array Oper} {rest : List Oper} {o : Oper} {a : Act} {Q : Exit → Act → World → Prop} (hgd : o.guard = none) (l c : Operand) (t : TypeId) (hop : o.op = Op.makeSlice t l c)
    (z : Value) (bytes : Nat) (ht : P.underlying t = some (.slice e)) (hinfo : (P.info? e).map (fun i => (i.zero, i.size, i.bytes)) = some (some z, s, bytes)) (x0 : α) (hs0 : 0 < s) (hf : ∀ x, (f x).length = s) (hz : z.cells.toList = f x0)
    (kl kc : IntKind) (LL C : Int) (n : Nat) (hl : a.eval l = .int kl LL) (hc : a.eval c = .int kc C) (hL : LL = (n : Int)) (hC : C = (n : Int)) (hb : bytes * n ≤ 281474976710656) (hm : n ≤ maxLen)
    (k : ∀ w', Mem W w' (H ++ [.row e s f W.heap.size (.slice (some ⟨w.heap.size, 0, none⟩) n n) (List.replicate n x0)]) → Held w w' → wpList P ops Q rest (a.put o.dst (.slice (some ⟨w.heap.size, 0, none⟩) n n)) w') :
    wpList P ops Q (o :: rest) a w := by
  obtain ⟨i0, hi, hz0, hz1, hz2⟩ := info_parts hinfo
  refine wpList_make_full w hgd l c t hop w.heap.size e i0 z s ht hi hz0 hz1 kl kc LL C n hl hc hL hC (by rw [hz2]; exact hb) hm (Nat.le_refl _) ?_
  intro w' h1 h2
  have hh : Held w w' := ⟨h2.os, h2.tape, h2.output, h2.size, fun k hk => h2.block k hk (by simp)⟩
  refine k w' (h.own hh ?_) hh
  unfold Own
  rw [List.length_replicate, ← made_flat hf hs0 x0 z hz n]
  exact h1
/-- An append of one element to a row of the call's own. -/
theorem wp_app (h : Mem W w H) (i : Nat) {v : Value} {L : List α} (hi : H[i]? = some (.row e s f W.heap.size v L)) {P : Program} {ops : Array Oper} {rest : List Oper} {o : Oper} {a : Act} {Q : Exit → Act → World → Prop} (hgd : o.guard = none) (sl x : Operand) (t : TypeId)
    (ho : o.op = .call { callee := .builtin .append, args := #[sl, x], argTypes := #[t, t] }) (z : Value) (bytes : Nat) (ht : P.underlying t = some (.slice e)) (hinfo : (P.info? e).map (fun i => (i.zero, i.size, i.bytes)) = some (some z, s, bytes))
    (hzs : z.cells.size = s) (hs0 : 0 < s) (hf : ∀ x, (f x).length = s) (hf1 : ∀ x, ∀ u ∈ f x, u.oneCell' = true) (d : α) (ad : Addr) (c : Nat)
    (hs : a.eval sl = v) (hx : a.eval x = .slice (some ad) 1 c) (hnews : ∀ j u, (f d)[j]? = some u → w.cell? (ad.add j) = some u)
    (n : Nat) (hn : L.length = n) (hb : (n + 1) * bytes ≤ 140737488355328) (hb1 : 1 ≤ bytes)
    (k : ∀ g cap w', Mem W w' (H.set i (.row e s f W.heap.size (.slice (some ⟨g, 0, none⟩) (n + 1) cap) (L ++ [d]))) → wpList P ops Q rest (a.put o.dst (.slice (some ⟨g, 0, none⟩) (n + 1) cap)) w') :
    wpList P ops Q (o :: rest) a w := by
  subst hn
  refine Own.app w hgd sl x t ho z bytes ht hinfo hzs hs0 hf hf1 W.heap.size v L d ad c hs (h.row i hi) hx hnews hb hb1 h.le ?_
  intro g cap w' h1 h2 h3 h4
  refine k g cap w' (h.app i hi h2 h1 (fun b hb' => ?_))
  simp only [Value.ownBlock] at hb'
  injection hb' with hb'
  subst hb'
  rcases h3 with h3 | h3
  · exact .inl h3
  · exact .inr (by omega)
end
end Mem
end Go.Proofs.Ythpjbffhdaaibaa

set_option linter.unusedVariables false
namespace Go.Proofs.Ythpjbffhdaaibaa
open Go.RowKit
namespace Mem
variable {W w w' : World} {H : List Ck}
/-- Some of the pieces, in another order. -/
theorem pick (h : Mem W w H) (is : List Nat) (hd : is.Nodup) {H' : List Ck} (hH : is.map (fun i => H[i]?) = H'.map some) : Mem W w H' := by
  have hlen : is.length = H'.length := by have := congrArg List.length hH; simpa using this
  have hat : ∀ p (h1 : p < is.length) (h2 : p < H'.length), H[is[p]]? = some H'[p] := fun p h1 h2 => by
    have := congrArg (fun l => l[p]?) hH
    simp only [List.getElem?_map, List.getElem?_eq_getElem h1, List.getElem?_eq_getElem h2, Option.map_some] at this
    injection this
  refine ⟨h.held, fun c hc => ?_, List.pairwise_iff_getElem.2 fun p q hp hq hpq => ?_⟩
  · obtain ⟨p, hp, rfl⟩ := List.mem_iff_getElem.1 hc
    have := hat p (by omega) hp
    exact ⟨h.get this, h.ge this⟩
  · refine h.apart (hat p (by omega) hp) (hat q (by omega) hq) fun e => ?_
    have := List.pairwise_iff_getElem.1 hd p q (by omega) (by omega) hpq
    exact this e
theorem sel (h : Mem W w H) (is : List Nat) (hd : is.Nodup) : Mem W w (is.filterMap fun i => H[i]?) := by
  have key : ∀ l : List Nat, l.Sublist is → ∀ H', l.filterMap (fun i => H[i]?) = H' → (∀ c ∈ H', ∃ i ∈ l, H[i]? = some c) ∧ (l.Nodup → H'.Pairwise fun c d => ∀ b ∈ c.bs, b ∉ d.bs) := by
    intro l
    induction l with
    | nil => rintro _ H' rfl; exact ⟨by simp, fun _ => by simp⟩
    | cons i l ih =>
      intro hs H' hH
      subst hH
      obtain ⟨h1, h2⟩ := ih (List.Sublist.trans (List.sublist_cons_self i l) hs) _ rfl
      cases hi : H[i]? with
      | none =>
        rw [List.filterMap_cons_none hi]
        exact ⟨fun c hc => by obtain ⟨j, hj, e⟩ := h1 c hc; exact ⟨j, List.mem_cons_of_mem _ hj, e⟩, fun hn => h2 (List.nodup_cons.1 hn).2⟩
      | some c =>
        rw [List.filterMap_cons_some hi]
        refine ⟨fun d hd' => ?_, fun hn => List.pairwise_cons.2 ⟨fun d hd' => ?_, h2 (List.nodup_cons.1 hn).2⟩⟩
        · rcases List.mem_cons.1 hd' with rfl | hd'
          · exact ⟨i, List.mem_cons_self, hi⟩
          · obtain ⟨j, hj, e⟩ := h1 d hd'; exact ⟨j, List.mem_cons_of_mem _ hj, e⟩
        · obtain ⟨j, hj, e⟩ := h1 d hd'
          exact h.apart hi e (fun q => (List.nodup_cons.1 hn).1 (q ▸ hj))
  obtain ⟨h1, h2⟩ := key is (List.Sublist.refl _) _ rfl
  exact ⟨h.held, fun c hc => by obtain ⟨i, _, e⟩ := h1 c hc; exact ⟨h.get e, h.ge e⟩, h2 hd⟩
end Mem
end Go.Proofs.Ythpjbffhdaaibaa

set_option linter.unusedVariables false
namespace Go.Proofs.Ythpjbffhdaaibaa
open Go.RowKit
namespace Mem
variable {W w w' : World} {H : List Ck}
section
variable {α : Type} {e : TypeId} {s : Nat} {f : α → List Value}
theorem emptyRow (h : Mem W w H) {b : Nat} (hb : w.heap.size = b) : Mem W (w.alloc (.cells #[] e)) (H ++ [.row e s f W.heap.size (.slice (some ⟨b, 0, none⟩) 0 0) ([] : List α)]) := by
  subst hb
  exact h.own ((Held.refl w).alloc _) (Own.empty (Nat.le_refl _))
theorem app_run (h : Mem W w H) (i : Nat) {v : Value} {L : List α} (hi : H[i]? = some (.row e s f W.heap.size v L)) {P : Program} (ty t : TypeId) (z : Value) (bytes : Nat) (ht : P.underlying t = some (.slice e)) (hinfo : (P.info? e).map (fun i => (i.zero, i.size, i.bytes)) = some (some z, s, bytes))
    (hzs : z.cells.size = s) (hs0 : 0 < s) (hf : ∀ x, (f x).length = s) (hf1 : ∀ x, ∀ u ∈ f x, u.oneCell' = true) (M : List α) (ad : Addr) (m c : Nat)
    (hm : M.length = m) (hm0 : 0 < m) (hnews : ∀ j u, (M.flatMap f)[j]? = some u → w.cell? (ad.add j) = some u)
    (n : Nat) (hn : L.length = n) (hb : (n + m) * bytes ≤ 140737488355328) (hb1 : 1 ≤ bytes) :
    ∃ g cap w', (Builtin.append_ #[t, t] ty #[v, .slice (some ad) m c]).run P w = .ok (.slice (some ⟨g, 0, none⟩) (n + m) cap) w' ∧ Mem W w' (H.set i (.row e s f W.heap.size (.slice (some ⟨g, 0, none⟩) (n + m) cap) (L ++ M))) := by
  subst hn hm
  obtain ⟨i0, hi0, hz0, hz1, hz2⟩ := info_parts hinfo
  have hlen : L.length + M.length ≤ 140737488355328 := Nat.le_trans (Nat.le_mul_of_pos_right _ hb1) hb
  obtain ⟨g, cap, w', hr, h2, h3, h4, h5⟩ := run_append_lies (P := P) w t ty W.heap.size e i0 z s bytes ht hi0 hz0 hz1 hz2 hzs hs0 v L.length (L.flatMap f) (h.row i hi) ad M.length c (M.flatMap f) (flat_len hf M) hnews (fun u hu => by
    rw [List.mem_flatMap] at hu
    obtain ⟨y, _, hy⟩ := hu
    exact hf1 y u hy) hm0 (by unfold maxLen; omega) hb h.le w.heap.size rfl
  refine ⟨g, cap, w', hr, h.app i hi h3 ?_ (fun b hb' => ?_)⟩
  · unfold Own
    rw [List.flatMap_append, List.length_append]
    exact h2
  · simp only [Value.ownBlock] at hb'
    injection hb' with hb'
    subst hb'
    exact h4.imp id (fun h => by omega)
/-- Append of a list, at a step of a region that draws its order. -/
theorem step_apps (h : Mem W w H) (i : Nat) {v : Value} {L : List α} (hi : H[i]? = some (.row e s f W.heap.size v L)) {P : Program} {ops : Array Oper} {o : Oper} {a : Act} {K : Act → World → Prop} {Q : Exit → Act → World → Prop} {E : Prop} (hgd : o.guard = none) (sl x : Operand) (t : TypeId)
    (ho : o.op = .call { callee := .builtin .append, args := #[sl, x], argTypes := #[t, t] }) (z : Value) (bytes : Nat) (ht : P.underlying t = some (.slice e)) (hinfo : (P.info? e).map (fun i => (i.zero, i.size, i.bytes)) = some (some z, s, bytes))
    (hzs : z.cells.size = s) (hs0 : 0 < s) (hf : ∀ x, (f x).length = s) (hf1 : ∀ x, ∀ u ∈ f x, u.oneCell' = true) (M : List α) (ad : Addr) (m c : Nat)
    (hs : a.eval sl = v) (hx : a.eval x = .slice (some ad) m c) (hm : M.length = m) (hm0 : 0 < m) (hnews : ∀ j u, (M.flatMap f)[j]? = some u → w.cell? (ad.add j) = some u)
    (n : Nat) (hn : L.length = n) (hb : (n + m) * bytes ≤ 140737488355328) (hb1 : 1 ≤ bytes)
    (k : ∀ g cap w', Mem W w' (H.set i (.row e s f W.heap.size (.slice (some ⟨g, 0, none⟩) (n + m) cap) (L ++ M))) → K (a.put o.dst (.slice (some ⟨g, 0, none⟩) (n + m) cap)) w') :
    if Region.wanted o (yielded ops a.tmps) = true then Oper.wp P o a w K Q else E := by
  have hw : Region.wanted o (yielded ops a.tmps) = true := by simp [Region.wanted, hgd]
  rw [if_pos hw]
  obtain ⟨g, cap, w', hr, hM⟩ := h.app_run i hi (P := P) o.type t z bytes ht hinfo hzs hs0 hf hf1 M ad m c hm hm0 hnews n hn hb hb1
  unfold Oper.wp execOp
  simp only [ho, resolve, invoke, builtin, Sem.run_bind, Sem.run_pure, Result.andThen_ok, List.map_toArray, List.map_cons, List.map_nil, hs, hx, hr]
  exact k g cap w' hM
/-- Append of a list. -/
theorem wp_apps (h : Mem W w H) (i : Nat) {v : Value} {L : List α} (hi : H[i]? = some (.row e s f W.heap.size v L)) {P : Program} {ops : Array Oper} {rest : List Oper} {o : Oper} {a : Act} {Q : Exit → Act → World → Prop} (hgd : o.guard = none) (sl x : Operand) (t : TypeId)
    (ho : o.op = .call { callee := .builtin .append, args := #[sl, x], argTypes := #[t, t] }) (z : Value) (bytes : Nat) (ht : P.underlying t = some (.slice e)) (hinfo : (P.info? e).map (fun i => (i.zero, i.size, i.bytes)) = some (some z, s, bytes))
    (hzs : z.cells.size = s) (hs0 : 0 < s) (hf : ∀ x, (f x).length = s) (hf1 : ∀ x, ∀ u ∈ f x, u.oneCell' = true) (M : List α) (ad : Addr) (m c : Nat)
    (hs : a.eval sl = v) (hx : a.eval x = .slice (some ad) m c) (hm : M.length = m) (hm0 : 0 < m) (hnews : ∀ j u, (M.flatMap f)[j]? = some u → w.cell? (ad.add j) = some u)
    (n : Nat) (hn : L.length = n) (hb : (n + m) * bytes ≤ 140737488355328) (hb1 : 1 ≤ bytes)
    (k : ∀ g cap w', Mem W w' (H.set i (.row e s f W.heap.size (.slice (some ⟨g, 0, none⟩) (n + m) cap) (L ++ M))) → wpList P ops Q rest (a.put o.dst (.slice (some ⟨g, 0, none⟩) (n + m) cap)) w') :
    wpList P ops Q (o :: rest) a w := by
  refine wpList_plain hgd fun K hK => ?_
  obtain ⟨g, cap, w', hr, hM⟩ := h.app_run i hi (P := P) o.type t z bytes ht hinfo hzs hs0 hf hf1 M ad m c hm hm0 hnews n hn hb hb1
  unfold Oper.wp execOp
  simp only [ho, resolve, invoke, builtin, Sem.run_bind, Sem.run_pure, Result.andThen_ok, List.map_toArray, List.map_cons, List.map_nil, hs, hx, hr]
  exact hK _ _ (k g cap w' hM)
end
end Mem
end Go.Proofs.Ythpjbffhdaaibaa

set_option linter.unusedVariables false
namespace Go.Proofs.Ythpjbffhdaaibaa
open Go.RowKit
namespace Mem
variable {W w w' : World} {H : List Ck} {α : Type} {e : TypeId} {s : Nat} {f : α → List Value}
/-- A row without its last element, in the same block. -/
theorem shrink (h : Mem W w H) (i : Nat) {g n cap : Nat} {L : List α} {d : α} {base : Nat} (hf : ∀ x, (f x).length = s) (hn : L.length = n) (hi : H[i]? = some (.row e s f base (.slice (some ⟨g, 0, none⟩) (n + 1) cap) (L ++ [d]))) :
    Mem W w (H.set i (.row e s f base (.slice (some ⟨g, 0, none⟩) n cap) L)) := by
  subst hn
  refine h.upd hi _ (Below.refl 0 w) (fun b _ _ => rfl) ?_ (fun b hb => .inl hb)
  have ho := h.row i hi
  refine ⟨flat_len hf L, .inr ?_⟩
  rcases ho.2 with ⟨he, h0⟩ | ⟨g', cp, cur, he, q1, q2, q3, q4, q5, q6⟩
  · cases he
  · injection he with e1 e2 e3
    injection e1 with e1
    injection e1 with e1
    subst e1 e3
    refine ⟨g, cap, cur, rfl, q1, q2, by rw [List.length_append] at q3; omega, q4, q5, ?_⟩
    have q7 := congrArg (List.take (L.length * s)) q6
    have e4 : (List.flatMap f L).take (L.length * s) = List.flatMap f L := List.take_of_length_le (by rw [flat_len hf]; exact Nat.le_refl _)
    have e5 : min (L.length * s) ((L ++ [d]).length * s) = L.length * s := Nat.min_eq_left (Nat.mul_le_mul_right s (by rw [List.length_append]; omega))
    rw [List.take_take, e5, List.flatMap_append, List.take_append_of_le_length (by rw [flat_len hf]; exact Nat.le_refl _), e4] at q7
    exact q7
/-- An append of one element where there is room: in the same block. -/
theorem wp_app_in (h : Mem W w H) (i : Nat) {g n cap : Nat} {L : List α} (hi : H[i]? = some (.row e s f W.heap.size (.slice (some ⟨g, 0, none⟩) n cap) L)) {P : Program} {ops : Array Oper} {rest : List Oper} {o : Oper} {a : Act} {Q : Exit → Act → World → Prop} (hgd : o.guard = none) (sl x : Operand) (t : TypeId)
    (ho : o.op = .call { callee := .builtin .append, args := #[sl, x], argTypes := #[t, t] }) (z : Value) (bytes : Nat) (ht : P.underlying t = some (.slice e)) (hinfo : (P.info? e).map (fun i => (i.zero, i.size, i.bytes)) = some (some z, s, bytes))
    (hzs : z.cells.size = s) (hs0 : 0 < s) (hf : ∀ x, (f x).length = s) (hf1 : ∀ x, ∀ u ∈ f x, u.oneCell' = true) (d : α) (ad : Addr) (c : Nat)
    (hs : a.eval sl = .slice (some ⟨g, 0, none⟩) n cap) (hx : a.eval x = .slice (some ad) 1 c) (hnews : ∀ j u, (f d)[j]? = some u → w.cell? (ad.add j) = some u)
    (hn : L.length = n) (hroom : n + 1 ≤ cap) (hb : (n + 1) * bytes ≤ 140737488355328) (hb1 : 1 ≤ bytes)
    (k : ∀ w', Mem W w' (H.set i (.row e s f W.heap.size (.slice (some ⟨g, 0, none⟩) (n + 1) cap) (L ++ [d]))) → wpList P ops Q rest (a.put o.dst (.slice (some ⟨g, 0, none⟩) (n + 1) cap)) w') :
    wpList P ops Q (o :: rest) a w := by
  subst hn
  have hnews' : ∀ j u, ([d].flatMap f)[j]? = some u → w.cell? (ad.add j) = some u := by
    rw [List.flatMap_singleton]; exact hnews
  obtain ⟨g', cap', w', hr, hM⟩ := h.app_run i hi (P := P) o.type t z bytes ht hinfo hzs hs0 hf hf1 [d] ad 1 c rfl (by decide) hnews' L.length rfl hb hb1
  have hsame : g' = g ∧ cap' = cap := by
    obtain ⟨i0, hi0, hz0, hz1, hz2⟩ := info_parts hinfo
    rcases (h.row i hi).2 with ⟨he, h0⟩ | ⟨g1, cp, cur, he, q1, q2, q3, q4, q5, q6⟩
    · cases he
    · injection he with e1 e2 e3
      injection e1 with e1
      injection e1 with e1
      subst e1 e3
      have := run_append_room (P := P) w t o.type e i0 ht hi0 g L.length cap cur q2 ad 1 c (f d) (by rw [hf, hz1, Nat.one_mul]) hnews (hf1 d) hroom (by
        rw [hf, hz1, q5]
        have := Nat.mul_le_mul_right s hroom
        rw [Nat.add_mul] at this; omega)
      rw [this] at hr
      injection hr with hr _
      injection hr with r1 r2 r3
      injection r1 with r1
      injection r1 with r1
      exact ⟨r1.symm, r3.symm⟩
  obtain ⟨rfl, rfl⟩ := hsame
  refine wpList_plain hgd fun K hK => ?_
  unfold Oper.wp execOp
  simp only [ho, resolve, invoke, builtin, Sem.run_bind, Sem.run_pure, Result.andThen_ok, List.map_toArray, List.map_cons, List.map_nil, hs, hx, hr]
  exact hK _ _ (k w' hM)
/-- A slice that make lays, of no elements, with room for some. -/
theorem wp_make0 (h : Mem W w H) {P : Program} {ops : Array Oper} {rest : List Oper} {o : Oper} {a : Act} {Q : Exit → Act → World → Prop} (hgd : o.guard = none) (l c : Operand) (t : TypeId) (hop : o.op = Op.makeSlice t l c)
    (z : Value) (bytes : Nat) (ht : P.underlying t = some (.slice e)) (hinfo : (P.info? e).map (fun i => (i.zero, i.size, i.bytes)) = some (some z, s, bytes))
    (kl kc : IntKind) (C : Int) (n : Nat) (hl : a.eval l = .int kl 0) (hc : a.eval c = .int kc C) (hC : C = (n : Int)) (hb : bytes * n ≤ 281474976710656) (hm : n ≤ maxLen)
    (k : ∀ w', Mem W w' (H ++ [.row e s f W.heap.size (.slice (some ⟨w.heap.size, 0, none⟩) 0 n) ([] : List α)]) → Held w w' → wpList P ops Q rest (a.put o.dst (.slice (some ⟨w.heap.size, 0, none⟩) 0 n)) w') :
    wpList P ops Q (o :: rest) a w := by
  obtain ⟨i0, hi, hz0, hz1, hz2⟩ := info_parts hinfo
  refine wpList_make_own w hgd l c t hop w.heap.size e i0 z s ht hi hz0 hz1 kl kc C n hl hc hC (by rw [hz2]; exact hb) hm (Nat.le_refl _) ?_
  intro w' h1 h2
  have hh : Held w w' := ⟨h2.os, h2.tape, h2.output, h2.size, fun k hk => h2.block k hk (by simp)⟩
  exact k w' (h.own hh h1) hh
end Mem
/-- A row that is not empty lies in a block. -/
theorem own_blk {α : Type} {e : TypeId} {s : Nat} {f : α → List Value} {base : Nat} {w : World} {v : Value} {L : List α} (h : Own e s f base w v L) (hL : 0 < L.length) : ∃ g cap, v = .slice (some ⟨g, 0, none⟩) L.length cap ∧ L.length ≤ cap := by
  rcases h.2 with ⟨_, h0⟩ | ⟨g, cp, cur, he, q1, q2, q3, _⟩
  · omega
  · exact ⟨g, cp, he, q3⟩
end Go.Proofs.Ythpjbffhdaaibaa

set_option linter.unusedVariables false
namespace Go.Proofs.Ythpjbffhdaaibaa
open Go.RowKit
namespace Mem
variable {W w w' : World} {H : List Ck} {α : Type} {e : TypeId} {s : Nat} {f : α → List Value}
/-- Append of a list, wherever it lies. -/
theorem cat_run (h : Mem W w H) (i : Nat) {A0 : Option Addr} {n cap0 : Nat} {L : List α} (hi : H[i]? = some (.row e s f W.heap.size (.slice A0 n cap0) L)) {P : Program} (ty t : TypeId) (z : Value) (bytes : Nat) (ht : P.underlying t = some (.slice e)) (hinfo : (P.info? e).map (fun i => (i.zero, i.size, i.bytes)) = some (some z, s, bytes))
    (hzs : z.cells.size = s) (hs0 : 0 < s) (hf : ∀ x, (f x).length = s) (hf1 : ∀ x, ∀ u ∈ f x, u.oneCell' = true) (M : List α) (A : Option Addr) (m c : Nat) (hsl : Sl s f w A m M) (hn : L.length = n) (hb : (n + m) * bytes ≤ 140737488355328) (hb1 : 1 ≤ bytes) :
    ∃ A' cap' w', (Builtin.append_ #[t, t] ty #[.slice A0 n cap0, .slice A m c]).run P w = .ok (.slice A' (n + m) cap') w' ∧ Mem W w' (H.set i (.row e s f W.heap.size (.slice A' (n + m) cap') (L ++ M))) ∧ (A' = none → A0 = none) := by
  by_cases hm : m = 0
  · subst hm
    obtain ⟨i0, hi0, hz0, hz1, hz2⟩ := info_parts hinfo
    have hM : M = [] := List.eq_nil_of_length_eq_zero hsl.1
    subst hM
    have hsrc : Src P i0.size t (.slice A 0 c) 0 [] w := by
      cases A with
      | none => exact Src.ofNil w ht c
      | some ad => exact Src.ofSlice w ht ad 0 c [] (by simp) (by simp) (by simp)
    refine ⟨A0, cap0, w, run_append_nothing w t t ty e i0 ht hi0 A0 n cap0 (Own.cap (h.row i hi)) _ hsrc, ?_, id⟩
    rw [List.append_nil]
    obtain ⟨li, hli⟩ := List.getElem?_eq_some_iff.1 hi
    have : H.set i (.row e s f W.heap.size (.slice A0 (n + 0) cap0) L) = H := by
      rw [Nat.add_zero, ← hli]; exact List.set_getElem_self li
    rw [this]; exact h
  · rcases hsl.2 with h0 | ⟨b, off, rfl, hlt, hc⟩
    · exact absurd h0 hm
    · obtain ⟨g, cap, w', hr, hM⟩ := h.app_run i hi (P := P) ty t z bytes ht hinfo hzs hs0 hf hf1 M ⟨b, off, none⟩ m c hsl.1 (by omega) (Sl.flat hf hs0 hsl) n hn hb hb1
      exact ⟨_, cap, w', hr, hM, fun h => by cases h⟩
theorem wp_cat (h : Mem W w H) (i : Nat) {A0 : Option Addr} {n cap0 : Nat} {L : List α} (hi : H[i]? = some (.row e s f W.heap.size (.slice A0 n cap0) L)) {P : Program} {ops : Array Oper} {rest : List Oper} {o : Oper} {a : Act} {Q : Exit → Act → World → Prop} (hgd : o.guard = none) (sl x : Operand) (t : TypeId)
    (ho : o.op = .call { callee := .builtin .append, args := #[sl, x], argTypes := #[t, t] }) (z : Value) (bytes : Nat) (ht : P.underlying t = some (.slice e)) (hinfo : (P.info? e).map (fun i => (i.zero, i.size, i.bytes)) = some (some z, s, bytes))
    (hzs : z.cells.size = s) (hs0 : 0 < s) (hf : ∀ x, (f x).length = s) (hf1 : ∀ x, ∀ u ∈ f x, u.oneCell' = true) (M : List α) (A : Option Addr) (m c : Nat)
    (hs : a.eval sl = .slice A0 n cap0) (hx : a.eval x = .slice A m c) (hsl : Sl s f w A m M) (hn : L.length = n) (hb : (n + m) * bytes ≤ 140737488355328) (hb1 : 1 ≤ bytes)
    (k : ∀ A' cap' w', Mem W w' (H.set i (.row e s f W.heap.size (.slice A' (n + m) cap') (L ++ M))) → (A' = none → A0 = none) → wpList P ops Q rest (a.put o.dst (.slice A' (n + m) cap')) w') :
    wpList P ops Q (o :: rest) a w := by
  refine wpList_plain hgd fun K hK => ?_
  obtain ⟨A', cap', w', hr, hM, hA⟩ := h.cat_run i hi (P := P) o.type t z bytes ht hinfo hzs hs0 hf hf1 M A m c hsl hn hb hb1
  unfold Oper.wp execOp
  simp only [ho, resolve, invoke, builtin, Sem.run_bind, Sem.run_pure, Result.andThen_ok, List.map_toArray, List.map_cons, List.map_nil, hs, hx, hr]
  exact hK _ _ (k A' cap' w' hM hA)
/-- At a step of a region that draws its order. -/
theorem step_cat (h : Mem W w H) (i : Nat) {A0 : Option Addr} {n cap0 : Nat} {L : List α} (hi : H[i]? = some (.row e s f W.heap.size (.slice A0 n cap0) L)) {P : Program} {ops : Array Oper} {o : Oper} {a : Act} {K : Act → World → Prop} {Q : Exit → Act → World → Prop} {E : Prop} (hgd : o.guard = none) (sl x : Operand) (t : TypeId)
    (ho : o.op = .call { callee := .builtin .append, args := #[sl, x], argTypes := #[t, t] }) (z : Value) (bytes : Nat) (ht : P.underlying t = some (.slice e)) (hinfo : (P.info? e).map (fun i => (i.zero, i.size, i.bytes)) = some (some z, s, bytes))
    (hzs : z.cells.size = s) (hs0 : 0 < s) (hf : ∀ x, (f x).length = s) (hf1 : ∀ x, ∀ u ∈ f x, u.oneCell' = true) (M : List α) (A : Option Addr) (m c : Nat)
    (hs : a.eval sl = .slice A0 n cap0) (hx : a.eval x = .slice A m c) (hsl : Sl s f w A m M) (hn : L.length = n) (hb : (n + m) * bytes ≤ 140737488355328) (hb1 : 1 ≤ bytes)
    (k : ∀ A' cap' w', Mem W w' (H.set i (.row e s f W.heap.size (.slice A' (n + m) cap') (L ++ M))) → (A' = none → A0 = none) → K (a.put o.dst (.slice A' (n + m) cap')) w') :
    if Region.wanted o (yielded ops a.tmps) = true then Oper.wp P o a w K Q else E := by
  have hw : Region.wanted o (yielded ops a.tmps) = true := by simp [Region.wanted, hgd]
  rw [if_pos hw]
  obtain ⟨A', cap', w', hr, hM, hA⟩ := h.cat_run i hi (P := P) o.type t z bytes ht hinfo hzs hs0 hf hf1 M A m c hsl hn hb hb1
  unfold Oper.wp execOp
  simp only [ho, resolve, invoke, builtin, Sem.run_bind, Sem.run_pure, Result.andThen_ok, List.map_toArray, List.map_cons, List.map_nil, hs, hx, hr]
  exact k A' cap' w' hM hA
end Mem
end Go.Proofs.Ythpjbffhdaaibaa

namespace Go.Proofs.Ythpjbffhdaaibaa.Sg
open Go Go.RowKit
set_option linter.unusedVariables false
/-- What a list of cells is with news laid from o on. -/
def lay (C : List Value) (o : Nat) (news : List Value) : List Value := C.take o ++ news ++ C.drop (o + news.length)
theorem lay_len {C news : List Value} {o : Nat} (h : o + news.length ≤ C.length) : (lay C o news).length = C.length := by
  unfold lay; simp only [List.length_append, List.length_take, List.length_drop]; omega
theorem lay_take {C news : List Value} {o : Nat} (h : o ≤ C.length) : (lay C o news).take (o + news.length) = C.take o ++ news := by
  unfold lay
  have hl : (C.take o ++ news).length = o + news.length := by rw [List.length_append, List.length_take]; omega
  rw [← hl]; exact List.take_left
theorem lay_low {C news : List Value} {o k : Nat} (h : o ≤ C.length) (hk : k ≤ o) : (lay C o news).take k = C.take k := by
  unfold lay
  rw [List.append_assoc, List.take_append_of_le_length (by rw [List.length_take]; omega), List.take_take, Nat.min_eq_left hk]
theorem lay_high {C news : List Value} {o : Nat} (h : o + news.length ≤ C.length) : (lay C o news).drop (o + news.length) = C.drop (o + news.length) := by
  unfold lay
  have hl : (C.take o ++ news).length = o + news.length := by rw [List.length_append, List.length_take]; omega
  rw [List.drop_append_of_le_length (by omega), List.drop_of_length_le (by omega), List.nil_append]
/-- Block g holds the cells C, all of them; nothing else has turned since w0. -/
structure Row (e : TypeId) (w0 : World) (g : Nat) (C : List Value) (w : World) : Prop where
  blk : w.heap[g]? = some (.cells C.toArray e (0, 0))
  os : w.os = w0.os
  tape : w.tape = w0.tape
  output : w.output = w0.output
  size : w0.heap.size ≤ w.heap.size
  rest : ∀ k, k < w0.heap.size → k ≠ g → w.heap[k]? = w0.heap[k]?
theorem Row.start {e : TypeId} {w : World} {g : Nat} {cur : Array Value} (h : w.heap[g]? = some (.cells cur e (0, 0))) : Row e w g cur.toList w :=
  ⟨by simpa using h, rfl, rfl, rfl, Nat.le_refl _, fun _ _ _ => rfl⟩
theorem Row.drew {e : TypeId} {w0 w : World} {g : Nat} {C : List Value} (h : Row e w0 g C w) : Row e w0 g C w.drew := ⟨h.blk, h.os, h.tape, h.output, h.size, h.rest⟩
theorem Row.drewN {e : TypeId} {w0 w : World} {g : Nat} {C : List Value} (h : Row e w0 g C w) (n : Nat) : Row e w0 g C (w.drewN n) := by
  cases n with
  | zero => exact h
  | succ n => exact ⟨h.blk, h.os, h.tape, h.output, h.size, h.rest⟩
theorem Row.put {e : TypeId} {w0 w : World} {g : Nat} {C : List Value} (h : Row e w0 g C w) (C' : List Value) : Row e w0 g C' (w.setRow g C'.toArray) :=
  ⟨setRow_heap w g _ _ e _ h.blk, h.os, h.tape, h.output, by have := h.size; simp [World.setRow]; exact this, fun k hk hne => (setRow_other w g k _ hne).trans (h.rest k hk hne)⟩
theorem Row.cell {e : TypeId} {w0 w : World} {g : Nat} {C : List Value} (h : Row e w0 g C w) (j : Nat) : w.cell? ⟨g, j, none⟩ = C[j]? := by
  simp [World.cell?, h.blk]
section
variable {P : Program}
theorem addr_at (g o j : Nat) : (⟨g, o, none⟩ : Addr).add j = ⟨g, o + j, none⟩ := addr_add g o j
/-- The cells of a row from o on, as a slice's first cells. -/
theorem news_at {e : TypeId} {w0 w : World} {g : Nat} {C : List Value} (h : Row e w0 g C w) (o k : Nat) : ∀ j u, ((C.drop o).take k)[j]? = some u → w.cell? ((⟨g, o, none⟩ : Addr).add j) = some u := by
  intro j u hu
  rw [addr_at, h.cell]
  rw [List.getElem?_take] at hu
  split at hu
  · rwa [List.getElem?_drop] at hu
  · cases hu
/-- append(s[:i], s[j:]...), room there. -/
theorem app_room {t ty e : TypeId} {i0 : TypeInfo} {w0 w : World} {g : Nat} {C : List Value} (ht : P.underlying t = some (.slice e)) (hi : P.info? e = some i0) {s : Nat} (hs : i0.size = s)
    (h : Row e w0 g C w) (n cap : Nat) (a : Addr) (m c : Nat) (news : List Value) (hl : news.length = m * s) (hnews : ∀ j u, news[j]? = some u → w.cell? (a.add j) = some u) (h1 : ∀ u ∈ news, u.oneCell' = true)
    (hroom : n + m ≤ cap) (hfit : n * s + news.length ≤ C.length) :
    ∃ w1, (Builtin.append_ #[t, t] ty #[.slice (some ⟨g, 0, none⟩) n cap, .slice (some a) m c]).run P w = .ok (.slice (some ⟨g, 0, none⟩) (n + m) cap) w1 ∧ Row e w0 g (lay C (n * s) news) w1 := by
  subst hs
  have hr := run_append_room (P := P) (ty := ty) w t e i0 ht hi g n cap C.toArray h.blk a m c news hl hnews h1 hroom (by simpa using hfit)
  exact ⟨_, hr, h.put _⟩
/-- copy into a row. -/
theorem copy_row {t t' ty e : TypeId} {i0 : TypeInfo} {w0 w : World} {g : Nat} {C : List Value} (ht : P.underlying t = some (.slice e)) (hi : P.info? e = some i0) {s : Nat} (hs : i0.size = s)
    (h : Row e w0 g C w) (o dl dc : Nat) (a : Addr) (m c : Nat) (k : Nat) (hk : k = min m dl) (news : List Value) (hl : news.length = k * s) (hnews : ∀ j u, news[j]? = some u → w.cell? (a.add j) = some u) (h1 : ∀ u ∈ news, u.oneCell' = true)
    (hfit : o + news.length ≤ C.length) :
    ∃ w1, (Builtin.copy_ #[t, t'] ty #[.slice (some ⟨g, o, none⟩) dl dc, .slice (some a) m c]).run P w = .ok (goInt k) w1 ∧ Row e w0 g (lay C o news) w1 := by
  subst hs
  have hf := run_firstCells_some (P := P) w i0.size k a m c news hl hnews
  have hst := run_storeCells_at P g o e news 0 C.toArray w h.blk (by simpa using hfit) h1
  simp only [Nat.add_zero] at hst
  have hk' : Nat.min m dl = k := hk.symm
  refine ⟨_, ?_, h.put (lay C o news)⟩
  simp [Builtin.copy_, run_underlying ht, sizeOf, typeInfo, hi, Builtin.lenOf, hk', hf, hst, lay]
/-- clear a part of a row. -/
theorem clear_row {t ty e : TypeId} {w0 w : World} {g : Nat} {C : List Value} {z : Value} (ht : P.underlying t = some (.slice e)) (hz : ∀ w, (zeroValue e).run P w = .ok z w) (hz1 : ∀ u ∈ (Builtin.zeroCells z.cells 1).toList, u.oneCell' = true)
    (h : Row e w0 g C w) (o n c : Nat) (hn : 0 < n) (hz2 : ∀ u ∈ (Builtin.zeroCells z.cells n).toList, u.oneCell' = true) (hfit : o + n * z.cells.size ≤ C.length) :
    ∃ w1, (Builtin.clear_ #[t] ty #[.slice (some ⟨g, o, none⟩) n c]).run P w = .ok (.tuple #[]) w1 ∧ Row e w0 g (lay C o (Builtin.zeroCells z.cells n).toList) w1 := by
  have hsz : (Builtin.zeroCells z.cells n).toList.length = n * z.cells.size := by simp [Builtin.zeroCells]
  have hst := run_storeCells_at P g o e (Builtin.zeroCells z.cells n).toList 0 C.toArray w h.blk (by rw [hsz]; simpa using hfit) hz2
  simp only [Nat.add_zero] at hst
  obtain ⟨k, rfl⟩ : ∃ k, n = k + 1 := ⟨n - 1, by omega⟩
  refine ⟨_, ?_, h.put (lay C o (Builtin.zeroCells z.cells (k + 1)).toList)⟩
  simp [Builtin.clear_, run_underlying ht, hz, hst, lay]
end
theorem Row.lt {e : TypeId} {w0 w : World} {g : Nat} {C : List Value} (h : Row e w0 g C w) : g < w.heap.size := (Array.getElem?_eq_some_iff.1 h.blk).1
/-- What is shifted up, and the new cells before it. -/
theorem shift_take {C X news : List Value} {o p q : Nat} (ho : o ≤ C.length) (hp : p = o + X.length) (hp2 : p ≤ C.length) (hq : q = p + news.length) : (lay (lay C p news) o X).take q = C.take o ++ X ++ news := by
  have h1 : (lay C p news).take q = C.take p ++ news := by rw [hq]; exact lay_take hp2
  have hq2 : q = (C.take o ++ X ++ news).length := by
    simp only [List.length_append, List.length_take]; omega
  have e1 : (lay C p news).take o = C.take o := lay_low hp2 (by omega)
  have e2 : (lay C p news).drop p = news ++ C.drop (p + news.length) := by
    unfold lay
    rw [List.append_assoc, List.drop_append_of_le_length (by rw [List.length_take]; omega), List.drop_of_length_le (by rw [List.length_take]; omega), List.nil_append]
  have e3 : lay (lay C p news) o X = (C.take o ++ X ++ news) ++ C.drop (p + news.length) := by
    conv => lhs; unfold lay
    rw [show (C.take p ++ news ++ C.drop (p + news.length)) = lay C p news from rfl, e1, ← hp, e2]
    simp only [List.append_assoc]
  rw [e3, hq2]
  exact List.take_left
/-- New cells, and what stood behind them. -/
theorem fill_take {C X news : List Value} {o p q : Nat} (ho : o ≤ C.length) (hp : p = o + X.length) (hp2 : o + X.length ≤ C.length) (hq : q = p + news.length) : (lay (lay C o X) p news).take q = C.take o ++ X ++ news := by
  rw [hq, lay_take (by rw [lay_len hp2]; omega), hp, lay_take ho]
theorem Row.grown {e : TypeId} {w0 w : World} {g : Nat} {C : List Value} (h : Row e w0 g C w) : w0.grownBy w (some g) :=
  ⟨h.os, h.tape, h.output, h.size, fun k hk hne => h.rest k hk (fun e => hne (by rw [e]))⟩
section
variable {P : Program} {ops : Array Oper} {rest : List Oper} {o : Oper} {a : Act} {w : World} {K : Act → World → Prop} {Q : Exit → Act → World → Prop} {E : Prop}
/-- An append of which the run is known: at a step of a drawn region; in a list. -/
theorem step_append (hgd : o.guard = none) (s x : Operand) (t u ty : TypeId) (ho : o.op = .call { callee := .builtin .append, args := #[s, x], argTypes := #[t, u] }) (hty : o.type = ty) {v y v' : Value} {w' : World} (hs : a.eval s = v) (hx : a.eval x = y)
    (hr : (Builtin.append_ #[t, u] ty #[v, y]).run P w = .ok v' w') (h : K (a.put o.dst v') w') : if Region.wanted o (yielded ops a.tmps) = true then Oper.wp P o a w K Q else E := by
  have hw : Region.wanted o (yielded ops a.tmps) = true := by simp [Region.wanted, hgd]
  subst hty
  rw [if_pos hw]
  unfold Oper.wp execOp
  simp only [ho, resolve, invoke, builtin, Sem.run_bind, Sem.run_pure, Result.andThen_ok, List.map_toArray, List.map_cons, List.map_nil, hs, hx, hr]
  exact h
theorem list_append (hgd : o.guard = none) (s x : Operand) (t u ty : TypeId) (ho : o.op = .call { callee := .builtin .append, args := #[s, x], argTypes := #[t, u] }) (hty : o.type = ty) {v y v' : Value} {w' : World} (hs : a.eval s = v) (hx : a.eval x = y)
    (hr : (Builtin.append_ #[t, u] ty #[v, y]).run P w = .ok v' w') (h : wpList P ops Q rest (a.put o.dst v') w') : wpList P ops Q (o :: rest) a w := by
  refine wpList_plain hgd fun K hK => ?_
  subst hty
  unfold Oper.wp execOp
  simp only [ho, resolve, invoke, builtin, Sem.run_bind, Sem.run_pure, Result.andThen_ok, List.map_toArray, List.map_cons, List.map_nil, hs, hx, hr]
  exact hK _ _ h
theorem step_copy (hgd : o.guard = none) (s x : Operand) (t u ty : TypeId) (ho : o.op = .call { callee := .builtin .copy, args := #[s, x], argTypes := #[t, u] }) (hty : o.type = ty) {v y v' : Value} {w' : World} (hs : a.eval s = v) (hx : a.eval x = y)
    (hr : (Builtin.copy_ #[t, u] ty #[v, y]).run P w = .ok v' w') (h : K (a.put o.dst v') w') : if Region.wanted o (yielded ops a.tmps) = true then Oper.wp P o a w K Q else E := by
  have hw : Region.wanted o (yielded ops a.tmps) = true := by simp [Region.wanted, hgd]
  subst hty
  rw [if_pos hw]
  unfold Oper.wp execOp
  simp only [ho, resolve, invoke, builtin, Sem.run_bind, Sem.run_pure, Result.andThen_ok, List.map_toArray, List.map_cons, List.map_nil, hs, hx, hr]
  exact h
theorem list_copy (hgd : o.guard = none) (s x : Operand) (t u ty : TypeId) (ho : o.op = .call { callee := .builtin .copy, args := #[s, x], argTypes := #[t, u] }) (hty : o.type = ty) {v y v' : Value} {w' : World} (hs : a.eval s = v) (hx : a.eval x = y)
    (hr : (Builtin.copy_ #[t, u] ty #[v, y]).run P w = .ok v' w') (h : wpList P ops Q rest (a.put o.dst v') w') : wpList P ops Q (o :: rest) a w := by
  refine wpList_plain hgd fun K hK => ?_
  subst hty
  unfold Oper.wp execOp
  simp only [ho, resolve, invoke, builtin, Sem.run_bind, Sem.run_pure, Result.andThen_ok, List.map_toArray, List.map_cons, List.map_nil, hs, hx, hr]
  exact hK _ _ h
theorem list_clear (hgd : o.guard = none) (s : Operand) (t ty : TypeId) (ho : o.op = .call { callee := .builtin .clear, args := #[s], argTypes := #[t] }) (hty : o.type = ty) {v v' : Value} {w' : World} (hs : a.eval s = v)
    (hr : (Builtin.clear_ #[t] ty #[v]).run P w = .ok v' w') (h : wpList P ops Q rest (a.put o.dst v') w') : wpList P ops Q (o :: rest) a w := by
  refine wpList_plain hgd fun K hK => ?_
  subst hty
  unfold Oper.wp execOp
  simp only [ho, resolve, invoke, builtin, Sem.run_bind, Sem.run_pure, Result.andThen_ok, List.map_toArray, List.map_cons, List.map_nil, hs, hr]
  exact hK _ _ h
/-- 's[j:]', whatever the capacity. -/
theorem slice_from {P : Program} {t e : TypeId} {i0 : TypeInfo} (ht : P.underlying t = some (.slice e)) (hi : P.info? e = some i0) {s : Nat} (hs : i0.size = s) (g o n cap j : Nat) (hj : j ≤ n) (hn : n ≤ cap) (w : World) :
    (Instr.slice t (.slice (some ⟨g, o, none⟩) n cap) (some (.int .i64 j)) none none).run P w = .ok (.slice (some (if cap = j then (⟨g, o, none⟩ : Addr) else ⟨g, o + j * s, none⟩)) (n - j) (cap - j)) w := by
  subst hs
  have h1 : (j : Int) ≤ n := by omega
  by_cases hc : cap = j
  · simp [Instr.slice, run_underlying ht, Instr.sliceBounds, Instr.sliceBound, asIntOf, sizeOf, typeInfo, hi, hc]
    intro h9; omega
  · simp [Instr.slice, run_underlying ht, Instr.sliceBounds, Instr.sliceBound, asIntOf, sizeOf, typeInfo, hi, hc, addr_add]
    intro h9; omega
end
section
variable {α : Type} {e : TypeId} {s : Nat} {f : α → List Value} {base : Nat} {w : World} {L : List α}
/-- What is owned, as a row. -/
theorem own_row {A : Option Addr} {n cap : Nat} (hf : ∀ x, (f x).length = s) (h : Own e s f base w (.slice A n cap) L) (hn : 0 < n) :
    ∃ g C, A = some ⟨g, 0, none⟩ ∧ base ≤ g ∧ Row e w g C w ∧ C.length = cap * s ∧ C.take (n * s) = L.flatMap f ∧ n = L.length ∧ n ≤ cap ∧ cap ≤ maxLen := by
  rcases h.2 with ⟨he, h0⟩ | ⟨g, cp, cur, he, hb, hh, hc, hm, hs, ht⟩
  · injection he with e1 e2 e3; omega
  · injection he with e1 e2 e3
    subst e1 e2 e3
    exact ⟨g, cur.toList, rfl, hb, Row.start hh, by simpa using hs, ht, rfl, hc, hm⟩
theorem row_own {w0 w1 : World} {g cap k : Nat} {C : List Value} {M : List α} (hf : ∀ x, (f x).length = s) (hr : Row e w0 g C w1) (hb : base ≤ g) (hl : C.length = cap * s) (hk : k = M.length) (hc : k ≤ cap) (hm : cap ≤ maxLen) (ht : C.take (k * s) = M.flatMap f) :
    Own e s f base w1 (.slice (some ⟨g, 0, none⟩) k cap) M := by
  subst hk
  exact ⟨flat_len hf M, .inr ⟨g, cap, C.toArray, rfl, hb, hr.blk, hc, hm, by simpa using hl, by simpa using ht⟩⟩
theorem flat_take (hf : ∀ x, (f x).length = s) (L : List α) (i : Nat) (hi : i ≤ L.length) : (L.take i).flatMap f = (L.flatMap f).take (i * s) := by
  have h1 : L.flatMap f = (L.take i).flatMap f ++ (L.drop i).flatMap f := by rw [← List.flatMap_append, List.take_append_drop]
  have h2 : ((L.take i).flatMap f).length = i * s := by rw [flat_len hf, List.length_take, Nat.min_eq_left hi]
  rw [h1, ← h2, List.take_left']
  rfl
theorem flat_drop (hf : ∀ x, (f x).length = s) (L : List α) (i : Nat) (hi : i ≤ L.length) : (L.drop i).flatMap f = (L.flatMap f).drop (i * s) := by
  have h1 : L.flatMap f = (L.take i).flatMap f ++ (L.drop i).flatMap f := by rw [← List.flatMap_append, List.take_append_drop]
  have h2 : ((L.take i).flatMap f).length = i * s := by rw [flat_len hf, List.length_take, Nat.min_eq_left hi]
  rw [h1, ← h2, List.drop_left']
  rfl
/-- What a function leaves that turns a slice of the call's own. -/
def Got (e : TypeId) (s : Nat) (f : α → List Value) (base : Nat) (v : Value) (M : List α) (w : World) (r : Ending) (w' : World) : Prop :=
  ∃ v', r = .returned v' ∧ Own e s f base w' v' M ∧ w.grownBy w' v.ownBlock ∧ (v'.ownBlock = v.ownBlock ∨ ∃ g, v'.ownBlock = some g ∧ w.heap.size ≤ g)
theorem Got.mk {v v' : Value} {M : List α} {w' : World} (h : Own e s f base w' v' M) (hg : w.grownBy w' v.ownBlock) (hb : v'.ownBlock = v.ownBlock ∨ ∃ g, v'.ownBlock = some g ∧ w.heap.size ≤ g) : Got e s f base v M w (.returned v') w' := ⟨v', rfl, h, hg, hb⟩
/-- From w to w' only the block of the slice v was written; v' lies there or in a new block. -/
structure Kp (w : World) (v : Value) (w' : World) (v' : Value) : Prop where
  os : w'.os = w.os
  tape : w'.tape = w.tape
  output : w'.output = w.output
  size : w.heap.size ≤ w'.heap.size
  rest : ∀ b, b < w.heap.size → some b ≠ v.ownBlock → w'.heap[b]? = w.heap[b]?
  moved : ∀ g, v'.ownBlock = some g → v.ownBlock = some g ∨ w.heap.size ≤ g
theorem Kp.held {w w' : World} (v : Value) (h : Held w w') : Kp w v w' v := ⟨h.os, h.tape, h.output, h.size, fun b hb _ => h.block b hb, fun g hg => .inl hg⟩
theorem Kp.trans {a b c : World} {u v x : Value} (h : Kp a u b v) (k : Kp b v c x) : Kp a u c x := by
  refine ⟨k.os.trans h.os, k.tape.trans h.tape, k.output.trans h.output, Nat.le_trans h.size k.size, fun q hq hne => ?_, fun g hg => ?_⟩
  · rw [k.rest q (Nat.lt_of_lt_of_le hq h.size) (fun e => ?_), h.rest q hq hne]
    rcases h.moved q e.symm with h1 | h1
    · exact hne h1.symm
    · omega
  · rcases k.moved g hg with h1 | h1
    · exact h.moved g h1
    · exact .inr (Nat.le_trans h.size h1)
theorem Kp.grown {w w' : World} {v v' : Value} (hg : w.grownBy w' v.ownBlock) (hb : v'.ownBlock = v.ownBlock ∨ ∃ g, v'.ownBlock = some g ∧ w.heap.size ≤ g) : Kp w v w' v' := by
  refine ⟨hg.os, hg.tape, hg.output, hg.size, fun b hb hne => hg.block b hb hne, fun g hg' => ?_⟩
  rcases hb with h1 | ⟨g2, h1, h2⟩
  · exact .inl (h1 ▸ hg')
  · rw [h1] at hg'; injection hg' with hg'; exact .inr (hg' ▸ h2)
/-- What a function leaves that makes a slice. -/
def New (e : TypeId) (s : Nat) (f : α → List Value) (M : List α) (w : World) (r : Ending) (w' : World) : Prop := ∃ v', r = .returned v' ∧ Own e s f w.heap.size w' v' M ∧ Held w w'
theorem New.mk {v' : Value} {M : List α} {w' : World} (h : Own e s f w.heap.size w' v' M) (hg : Held w w') : New e s f M w (.returned v') w' := ⟨v', rfl, h, hg⟩
theorem sl_news (hf : ∀ x, (f x).length = s) (hs : 0 < s) {ad : Addr} {n : Nat} (h : Sl s f w (some ad) n L) : ∀ j u, (L.flatMap f)[j]? = some u → w.cell? (ad.add j) = some u := by
  intro j u hu
  rcases h.2 with h0 | ⟨b, off, e1, _⟩
  · have : L = [] := List.eq_nil_of_length_eq_zero (by rw [h.1, h0])
    subst this
    cases hu
  · injection e1 with e1
    subst e1
    exact h.flat hf hs j u hu
end
end Go.Proofs.Ythpjbffhdaaibaa.Sg

set_option linter.unusedVariables false
namespace Go.Proofs.Ythpjbffhdaaibaa
open Go.RowKit
namespace Mem
variable {W w w' : World} {H : List Ck}
theorem permut {H' : List Ck} (h : Mem W w H) (p : H.Perm H') : Mem W w H' :=
  ⟨h.held, fun c hc => h.ok c (p.mem_iff.2 hc), (p.pairwise_iff (fun {x y} hxy b hb hb' => hxy b hb' hb)).1 h.sep⟩
theorem toFront {c : Ck} (h : Mem W w (H ++ [c])) : Mem W w (c :: H) := h.permut (List.perm_append_comm (l₁ := H) (l₂ := [c]))
theorem rest {c : Ck} (h : Mem W w (c :: H)) : Mem W w H := h.sub (List.sublist_cons_self c H)
/-- A new box, in front. -/
theorem allocF (h : Mem W w H) {b : Nat} (hb : w.heap.size = b) (cs : Array Value) (t : TypeId) : Mem W (w.alloc (.cells cs t)) (.box b cs t :: H) := (h.alloc' hb cs t).toFront
/-- A row that a call has handed back, in front. -/
theorem ownF {α : Type} {e : TypeId} {s : Nat} {f : α → List Value} (h : Mem W w H) (k : Held w w') {v : Value} {L : List α} (o : Own e s f w.heap.size w' v L) : Mem W w' (.row e s f W.heap.size v L :: H) := (h.own k o).toFront
/-- What Delete, Insert leave of a row. -/
theorem gotten {α : Type} {e : TypeId} {s : Nat} {f : α → List Value} {base : Nat} (h : Mem W w H) (i : Nat) {v : Value} {L M : List α} {r : Ending} (hi : H[i]? = some (.row e s f base v L)) (g : Sg.Got e s f base v M w r w') :
    ∃ A cap, r = .returned (.slice A M.length cap) ∧ M.length ≤ cap ∧ Mem W w' (H.set i (.row e s f base (.slice A M.length cap) M)) := by
  obtain ⟨v', rfl, ho, hg, hb⟩ := g
  obtain ⟨A, cap, rfl, hc, _⟩ := ho.shape
  refine ⟨A, cap, rfl, hc, h.app i hi hg ho fun b hb' => ?_⟩
  rcases hb with hb | ⟨g, h1, h2⟩
  · exact .inl (by rw [← hb]; exact hb')
  · rw [h1] at hb'; injection hb' with hb'; subst hb'; exact .inr h2
end Mem
theorem own_nil {α : Type} {e : TypeId} {s : Nat} {f : α → List Value} {base : Nat} {w : World} {n cap : Nat} {L : List α} (h : Own e s f base w (.slice none n cap) L) : n = 0 := by
  rcases h.2 with ⟨he, h0⟩ | ⟨g, cp, cur, he, _⟩
  · injection he
  · injection he with e1; cases e1
end Go.Proofs.Ythpjbffhdaaibaa

set_option linter.unusedVariables false
set_option linter.unusedSimpArgs false
set_option maxRecDepth 100000
namespace Go.Proofs.Ythpjbffhdaaibaa
open Go.RowKit
namespace Bx
theorem cell {w : World} {q : Nat} {cs : Array Value} {t : TypeId} (h : w.heap[q]? = some (.cells cs t (0, 0))) (j : Nat) {v : Value} (hv : cs[j]? = some v) : w.cell? ⟨q, j, none⟩ = some v := by simp [World.cell?, h, hv]
theorem free {w : World} {q : Nat} {cs : Array Value} {t : TypeId} (h : w.heap[q]? = some (.cells cs t (0, 0))) (j : Nat) : w.frozen? ⟨q, j, none⟩ = false := by simp [World.frozen?, h]
theorem set {w : World} {q : Nat} {cs : Array Value} {t : TypeId} (h : w.heap[q]? = some (.cells cs t (0, 0))) (j : Nat) (v : Value) : (w.setCell ⟨q, j, none⟩ v).heap[q]? = some (.cells (cs.setIfInBounds j v) t (0, 0)) := by
  simp only [World.setCell]
  rw [Array.getElem?_modify, if_pos rfl, h]; rfl
theorem far {w : World} {q c j : Nat} {v : Value} (hc : q ≠ c) : (w.setCell ⟨c, j, none⟩ v).heap[q]? = w.heap[q]? := by
  simp only [World.setCell]
  rw [Array.getElem?_modify, if_neg (fun e => hc e.symm)]
theorem new (w : World) (o : Obj) : (w.alloc o).heap[w.heap.size]? = some o := heap_alloc_new w o
theorem lt {w : World} {q : Nat} {o : Obj} (h : w.heap[q]? = some o) : q < w.heap.size := (Array.getElem?_eq_some_iff.1 h).1
theorem held {w a : World} {q : Nat} {o : Obj} (h : w.heap[q]? = some o) (k : Held w a) : a.heap[q]? = some o := (k.block q (lt h)).trans h
theorem res_c {fn : Func} {tmps : Array Value} {w : World} {a b : Nat} {t : TypeId} {v : Value} (hr : fn.results = #[.cell a t]) (ha : tmps.getD a undef = .pointer (some ⟨b, 0, none⟩)) (hl : (loadVar t ⟨b, 0, none⟩).run Try.prog w = .ok v w) : (results fn tmps).run Try.prog w = .ok v w := by
  unfold results
  rw [hr]
  simp only [List.mapM_toArray, List.mapM_cons, List.mapM_nil, ha, asAddr, pure_bind, Sem.run_bind, Sem.run_map, hl, Result.andThen_ok, Sem.run_pure, map_pure]
  rfl
theorem res_ct {fn : Func} {tmps : Array Value} {w : World} {a b k : Nat} {t : TypeId} {v : Value} (hr : fn.results = #[.cell a t, .tmp k]) (ha : tmps.getD a undef = .pointer (some ⟨b, 0, none⟩)) (hl : (loadVar t ⟨b, 0, none⟩).run Try.prog w = .ok v w) : (results fn tmps).run Try.prog w = .ok (.tuple #[v, tmps.getD k undef]) w := by
  unfold results
  rw [hr]
  simp only [List.mapM_toArray, List.mapM_cons, List.mapM_nil, ha, asAddr, pure_bind, Sem.run_bind, Sem.run_map, hl, Result.andThen_ok, Sem.run_pure, map_pure]
  rfl
theorem held3 {W w : World} {b : Nat} (h : Held W w) (hb : W.heap.size ≤ b) (x y z : Value) : Held W (((w.setCell ⟨b, 0, none⟩ x).setCell ⟨b, 1, none⟩ y).setCell ⟨b, 2, none⟩ z) := ((h.set hb _).set hb _).set hb _
theorem res_ctt {fn : Func} {tmps : Array Value} {w : World} {a b k l : Nat} {t : TypeId} {v : Value} (hr : fn.results = #[.cell a t, .tmp k, .tmp l]) (ha : tmps.getD a undef = .pointer (some ⟨b, 0, none⟩)) (hl : (loadVar t ⟨b, 0, none⟩).run Try.prog w = .ok v w) : (results fn tmps).run Try.prog w = .ok (.tuple #[v, tmps.getD k undef, tmps.getD l undef]) w := by
  unfold results
  rw [hr]
  simp only [List.mapM_toArray, List.mapM_cons, List.mapM_nil, ha, asAddr, pure_bind, Sem.run_bind, Sem.run_map, hl, Result.andThen_ok, Sem.run_pure, map_pure]
  rfl
end Bx
end Go.Proofs.Ythpjbffhdaaibaa
