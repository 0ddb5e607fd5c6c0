/-
  What a call has in memory of its own, as a list of pieces (boxes, rows): over any program.
-/
import Derived.Test.YtncgihbnfmpdbaaOwn
import Derived.WalkKit
import Derived.OwnWalk
set_option linter.unusedVariables false
namespace Go.Proofs.Ytncgihbnfmpdbaa
open Go.RowKit
/-- A piece of memory: its blocks, and what holds of them. -/
structure Ck where
  bs : List Nat
  P : World → Prop
  loc : ∀ {w w' : World}, (∀ b ∈ bs, w'.heap[b]? = w.heap[b]?) → P w → P w'
  lt : ∀ {w : World}, P w → ∀ b ∈ bs, b < w.heap.size
theorem lt_of_heap {w : World} {b : Nat} {o : Obj} (h : w.heap[b]? = some o) : b < w.heap.size := (Array.getElem?_eq_some_iff.1 h).1
/-- A box: a block known whole. -/
def Ck.box (b : Nat) (cs : Array Value) (t : TypeId) : Ck :=
  ⟨[b], fun w => w.heap[b]? = some (.cells cs t (0, 0)), fun h p => (h b (by simp)).trans p, fun p b' hb => by simp at hb; subst hb; exact lt_of_heap p⟩
theorem Own.loc {α : Type} {e : TypeId} {s : Nat} {f : α → List Value} {base : Nat} {w w' : World} {v : Value} {L : List α} (h : Own e s f base w v L) (hk : ∀ b ∈ v.ownBlock.toList, w'.heap[b]? = w.heap[b]?) : Own e s f base w' v L := by
  refine ⟨h.1, h.2.imp id ?_⟩
  rintro ⟨g, cp, cur, rfl, q1, q2, q3⟩
  exact ⟨g, cp, cur, rfl, q1, (hk g (by simp [Value.ownBlock])).trans q2, q3⟩
/-- A row of the call's own. -/
def Ck.row {α : Type} (e : TypeId) (s : Nat) (f : α → List Value) (base : Nat) (v : Value) (L : List α) : Ck :=
  ⟨v.ownBlock.toList, fun w => Own e s f base w v L, fun h p => Own.loc p h, fun p b hb => (World.ownsRow.lt p b (by simpa using hb)).2⟩
/-- A piece of any kind in one block. -/
def Ck.one (b : Nat) (Q : Obj → Prop) : Ck := ⟨[b], fun w => ∃ o, w.heap[b]? = some o ∧ Q o, fun h p => by obtain ⟨o, ho, hq⟩ := p; exact ⟨o, (h b (by simp)).trans ho, hq⟩, fun p b' hb => by obtain ⟨o, ho, _⟩ := p; simp at hb; subst hb; exact lt_of_heap ho⟩
/-- The cells of a block that was just made. -/
theorem cells_new (w : World) {b : Nat} (hb : w.heap.size = b) (cs : Array Value) (t : TypeId) : ∀ j u, cs.toList[j]? = some u → (w.alloc (.cells cs t)).cell? ((⟨b, 0, none⟩ : Addr).add j) = some u := by
  intro j u hu
  subst hb
  have hn := heap_alloc_new w (.cells cs t)
  rw [addr_add]
  simp only [World.cell?, hn, Nat.zero_add]
  simpa using hu
/-- The cells that make lays. -/
theorem made_flat {α : Type} {s : Nat} {f : α → List Value} (hf : ∀ x, (f x).length = s) (hs : 0 < s) (x0 : α) (z : Value) (hz : z.cells.toList = f x0) (n : Nat) : (madeCells z.cells (n * s)).toList = (List.replicate n x0).flatMap f := by
  have hzs : z.cells.size = s := by rw [← hf x0, ← hz]; simp
  refine List.ext_getElem? fun j => ?_
  by_cases hj : j < n * s
  · have hk : j / s < n := Nat.div_lt_of_lt_mul (by rw [Nat.mul_comm]; exact hj)
    have hr : j % s < s := Nat.mod_lt _ hs
    have e : (j / s) * s + j % s = j := by rw [Nat.mul_comm]; exact Nat.div_add_mod j s
    have h1 := flat_at hf (List.replicate n x0) (j / s) (by simpa using hk) (j % s) hr
    rw [e] at h1
    rw [h1, List.getElem_replicate, ← hz, madeCells]
    simp only [Array.toList_map, Array.toList_range, hzs, List.getElem?_map]
    rw [List.getElem?_range hj]
    simp [getElem!_pos, hzs, hr]
  · rw [List.getElem?_eq_none (by simp [size_madeCells]; omega), List.getElem?_eq_none (by rw [flat_len hf, List.length_replicate]; omega)]
/-- What the call has: the world in which it began is kept; the pieces, apart from each other. -/
structure Mem (W w : World) (H : List Ck) : Prop where
  held : Held W w
  ok : ∀ c ∈ H, c.P w ∧ ∀ b ∈ c.bs, W.heap.size ≤ b
  sep : H.Pairwise fun c d => ∀ b ∈ c.bs, b ∉ d.bs
namespace Mem
variable {W w w' : World} {H : List Ck}
theorem start (W : World) : Mem W W [] := ⟨Held.refl W, fun c h => by simp at h, List.Pairwise.nil⟩
theorem of (h : Held W w) : Mem W w [] := ⟨h, fun c h => by simp at h, List.Pairwise.nil⟩
theorem le (h : Mem W w H) : W.heap.size ≤ w.heap.size := h.held.le
theorem keep (h : Mem W w H) (k : Held w w') : Mem W w' H :=
  ⟨h.held.step k, fun c hc => ⟨c.loc (fun b hb => k.block b (c.lt (h.ok c hc).1 b hb)) (h.ok c hc).1, (h.ok c hc).2⟩, h.sep⟩
theorem get (h : Mem W w H) {i : Nat} {c : Ck} (hi : H[i]? = some c) : c.P w := (h.ok c (List.mem_of_getElem? hi)).1
theorem ge (h : Mem W w H) {i : Nat} {c : Ck} (hi : H[i]? = some c) : ∀ b ∈ c.bs, W.heap.size ≤ b := (h.ok c (List.mem_of_getElem? hi)).2
theorem apart (h : Mem W w H) {i j : Nat} {c d : Ck} (hi : H[i]? = some c) (hj : H[j]? = some d) (hij : i ≠ j) : ∀ b ∈ c.bs, b ∉ d.bs := by
  obtain ⟨li, rfl⟩ := List.getElem?_eq_some_iff.1 hi
  obtain ⟨lj, rfl⟩ := List.getElem?_eq_some_iff.1 hj
  rcases Nat.lt_or_ge i j with hl | hl
  · exact List.pairwise_iff_getElem.1 h.sep i j li lj hl
  · intro b hb hb'
    exact List.pairwise_iff_getElem.1 h.sep j i lj li (by omega) b hb' hb
/-- A new piece. -/
theorem new (h : Mem W w H) (k : Held w w') (c : Ck) (hp : c.P w') (hb : ∀ b ∈ c.bs, w.heap.size ≤ b) : Mem W w' (H ++ [c]) := by
  have hk := h.keep k
  refine ⟨hk.held, fun d hd => ?_, ?_⟩
  · rcases List.mem_append.1 hd with hd | hd
    · exact hk.ok d hd
    · rw [List.mem_singleton] at hd
      subst hd
      exact ⟨hp, fun b hb' => Nat.le_trans h.le (hb b hb')⟩
  · refine List.pairwise_append.2 ⟨h.sep, List.pairwise_singleton _ _, fun d hd d' hd' b hb1 hb2 => ?_⟩
    rw [List.mem_singleton] at hd'
    subst hd'
    have := d.lt (h.ok d hd).1 b hb1
    have := hb b hb2
    omega
/-- One piece has turned into another, in its own blocks or in new ones; nothing else has turned. -/
theorem upd (h : Mem W w H) {i : Nat} {c : Ck} (hi : H[i]? = some c) (c' : Ck) (h0 : Below 0 w w') (hk : ∀ b, b < w.heap.size → b ∉ c.bs → w'.heap[b]? = w.heap[b]?) (hp : c'.P w') (hb : ∀ b ∈ c'.bs, b ∈ c.bs ∨ w.heap.size ≤ b) : Mem W w' (H.set i c') := by
  obtain ⟨li, rfl⟩ := List.getElem?_eq_some_iff.1 hi
  have hge := h.ge hi
  refine ⟨h.held.trans ⟨h0.os, h0.tape, h0.output, h0.size, fun k hkk => hk k (Nat.lt_of_lt_of_le hkk h.le) (fun hm => by have := hge k hm; omega)⟩, fun d hd => ?_, ?_⟩
  · obtain ⟨j, hj, rfl⟩ := List.mem_iff_getElem.1 hd
    rw [List.getElem_set]
    have hj' : j < H.length := by simpa using hj
    by_cases hij : i = j
    · rw [if_pos hij]
      refine ⟨hp, fun b hb' => ?_⟩
      rcases hb b hb' with hm | hm
      · exact hge b hm
      · exact Nat.le_trans h.le hm
    · rw [if_neg hij]
      have hd' := h.ok H[j] (List.getElem_mem hj')
      refine ⟨H[j].loc (fun b hb' => hk b (H[j].lt hd'.1 b hb') (h.apart (i := j) (j := i) (List.getElem?_eq_getElem hj') hi (fun e => hij e.symm) b hb')) hd'.1, hd'.2⟩
  · rw [List.pairwise_iff_getElem]
    intro p q hp1 hq1 hpq b hb1 hb2
    rw [List.getElem_set] at hb1 hb2
    have hp2 : p < H.length := by simpa using hp1
    have hq2 : q < H.length := by simpa using hq1
    have hlt : ∀ (m : Nat) (hm : m < H.length), b ∈ H[m].bs → b < w.heap.size := fun m hm => H[m].lt (h.ok H[m] (List.getElem_mem hm)).1 b
    by_cases h1 : i = p
    · rw [if_pos h1] at hb1
      rw [if_neg (by omega)] at hb2
      rcases hb b hb1 with hm | hm
      · exact h.apart hi (List.getElem?_eq_getElem hq2) (by omega) b hm hb2
      · have := hlt q hq2 hb2; omega
    · rw [if_neg h1] at hb1
      by_cases h2 : i = q
      · rw [if_pos h2] at hb2
        rcases hb b hb2 with hm | hm
        · exact h.apart (List.getElem?_eq_getElem hp2) hi (by omega) b hb1 hm
        · have := hlt p hp2 hb1; omega
      · rw [if_neg h2] at hb2
        exact h.apart (List.getElem?_eq_getElem hp2) (List.getElem?_eq_getElem hq2) (by omega) b hb1 hb2
/-- A list of pieces that are all among these. -/
theorem sub (h : Mem W w H) {H' : List Ck} (hs : H'.Sublist H) : Mem W w H' := ⟨h.held, fun c hc => h.ok c (hs.subset hc), h.sep.sublist hs⟩
theorem take (h : Mem W w H) (n : Nat) : Mem W w (H.take n) := h.sub (List.take_sublist n H)
-- boxes
theorem alloc (h : Mem W w H) (cs : Array Value) (t : TypeId) : Mem W (w.alloc (.cells cs t)) (H ++ [.box w.heap.size cs t]) :=
  h.new ((Held.refl w).alloc _) _ (heap_alloc_new w _) (fun b hb => by simp [Ck.box] at hb; omega)
theorem alloc' (h : Mem W w H) {b : Nat} (hb : w.heap.size = b) (cs : Array Value) (t : TypeId) : Mem W (w.alloc (.cells cs t)) (H ++ [.box b cs t]) := hb ▸ h.alloc cs t
theorem skip (h : Mem W w H) (o : Obj) : Mem W (w.alloc o) H := h.keep ((Held.refl w).alloc o)
theorem drew (h : Mem W w H) : Mem W w.drew H := h.keep (Held.refl w).drew
theorem put (h : Mem W w H) (i : Nat) {b : Nat} {cs : Array Value} {t : TypeId} (hi : H[i]? = some (.box b cs t)) (j : Nat) (v : Value) : Mem W (w.setCell ⟨b, j, none⟩ v) (H.set i (.box b (cs.setIfInBounds j v) t)) := by
  refine h.upd hi _ ((Below.refl 0 w).setCell (Nat.zero_le _) v) (fun b' _ hb' => Below.heap_setCell w _ _ _ (by simpa [Ck.box] using hb')) ?_ (fun b' hb' => .inl hb')
  have := h.get hi
  simp only [Ck.box] at this ⊢
  simp only [World.setCell]
  rw [Array.getElem?_modify, if_pos rfl, this]; rfl
theorem blk (h : Mem W w H) (i : Nat) {b : Nat} {cs : Array Value} {t : TypeId} (hi : H[i]? = some (.box b cs t)) : w.heap[b]? = some (.cells cs t (0, 0)) := h.get hi
theorem cell (h : Mem W w H) (i : Nat) {b : Nat} {cs : Array Value} {t : TypeId} (hi : H[i]? = some (.box b cs t)) (j : Nat) {v : Value} (hv : cs[j]? = some v) : w.cell? ⟨b, j, none⟩ = some v := by
  have := h.blk i hi
  simp [World.cell?, this, hv]
theorem free (h : Mem W w H) (i : Nat) {b : Nat} {cs : Array Value} {t : TypeId} (hi : H[i]? = some (.box b cs t)) (j : Nat) : w.frozen? ⟨b, j, none⟩ = false := by
  have := h.blk i hi
  simp [World.frozen?, this]
theorem lt (h : Mem W w H) (i : Nat) {b : Nat} {cs : Array Value} {t : TypeId} (hi : H[i]? = some (.box b cs t)) : b < w.heap.size := lt_of_heap (h.blk i hi)
theorem geb (h : Mem W w H) (i : Nat) {b : Nat} {cs : Array Value} {t : TypeId} (hi : H[i]? = some (.box b cs t)) : W.heap.size ≤ b := h.ge hi b (by simp [Ck.box])
theorem ne (h : Mem W w H) (i j : Nat) {b b' : Nat} {cs cs' : Array Value} {t t' : TypeId} (hi : H[i]? = some (.box b cs t)) (hj : H[j]? = some (.box b' cs' t')) (hij : i ≠ j) : b ≠ b' := fun e => h.apart hi hj hij b (by simp [Ck.box]) (by simp [Ck.box, e])
section
variable {b : Nat} {t : TypeId} {x0 x1 x2 x3 x4 x5 x6 x7 : Value}
theorem box1 (h : Mem W w H) (i : Nat) (hi : H[i]? = some (.box b #[x0] t)) : w.cell? ⟨b, 0, none⟩ = some x0 ∧ w.frozen? ⟨b, 0, none⟩ = false ∧ b < w.heap.size := ⟨h.cell i hi 0 rfl, h.free i hi 0, h.lt i hi⟩
theorem box2 (h : Mem W w H) (i : Nat) (hi : H[i]? = some (.box b #[x0, x1] t)) : (w.cell? ⟨b, 0, none⟩ = some x0 ∧ w.cell? ⟨b, 1, none⟩ = some x1) ∧ (w.frozen? ⟨b, 0, none⟩ = false ∧ w.frozen? ⟨b, 1, none⟩ = false) ∧ b < w.heap.size := ⟨⟨h.cell i hi 0 rfl, h.cell i hi 1 rfl⟩, ⟨h.free i hi 0, h.free i hi 1⟩, h.lt i hi⟩
theorem box3 (h : Mem W w H) (i : Nat) (hi : H[i]? = some (.box b #[x0, x1, x2] t)) : (w.cell? ⟨b, 0, none⟩ = some x0 ∧ w.cell? ⟨b, 1, none⟩ = some x1 ∧ w.cell? ⟨b, 2, none⟩ = some x2) ∧ (w.frozen? ⟨b, 0, none⟩ = false ∧ w.frozen? ⟨b, 1, none⟩ = false ∧ w.frozen? ⟨b, 2, none⟩ = false) ∧ b < w.heap.size := ⟨⟨h.cell i hi 0 rfl, h.cell i hi 1 rfl, h.cell i hi 2 rfl⟩, ⟨h.free i hi 0, h.free i hi 1, h.free i hi 2⟩, h.lt i hi⟩
theorem box4 (h : Mem W w H) (i : Nat) (hi : H[i]? = some (.box b #[x0, x1, x2, x3] t)) : (w.cell? ⟨b, 0, none⟩ = some x0 ∧ w.cell? ⟨b, 1, none⟩ = some x1 ∧ w.cell? ⟨b, 2, none⟩ = some x2 ∧ w.cell? ⟨b, 3, none⟩ = some x3) ∧ (w.frozen? ⟨b, 0, none⟩ = false ∧ w.frozen? ⟨b, 1, none⟩ = false ∧ w.frozen? ⟨b, 2, none⟩ = false ∧ w.frozen? ⟨b, 3, none⟩ = false) ∧ b < w.heap.size := ⟨⟨h.cell i hi 0 rfl, h.cell i hi 1 rfl, h.cell i hi 2 rfl, h.cell i hi 3 rfl⟩, ⟨h.free i hi 0, h.free i hi 1, h.free i hi 2, h.free i hi 3⟩, h.lt i hi⟩
theorem box5 (h : Mem W w H) (i : Nat) (hi : H[i]? = some (.box b #[x0, x1, x2, x3, x4] t)) : (w.cell? ⟨b, 0, none⟩ = some x0 ∧ w.cell? ⟨b, 1, none⟩ = some x1 ∧ w.cell? ⟨b, 2, none⟩ = some x2 ∧ w.cell? ⟨b, 3, none⟩ = some x3 ∧ w.cell? ⟨b, 4, none⟩ = some x4) ∧ (w.frozen? ⟨b, 0, none⟩ = false ∧ w.frozen? ⟨b, 1, none⟩ = false ∧ w.frozen? ⟨b, 2, none⟩ = false ∧ w.frozen? ⟨b, 3, none⟩ = false ∧ w.frozen? ⟨b, 4, none⟩ = false) ∧ b < w.heap.size := ⟨⟨h.cell i hi 0 rfl, h.cell i hi 1 rfl, h.cell i hi 2 rfl, h.cell i hi 3 rfl, h.cell i hi 4 rfl⟩, ⟨h.free i hi 0, h.free i hi 1, h.free i hi 2, h.free i hi 3, h.free i hi 4⟩, h.lt i hi⟩
end
-- rows
section
variable {α : Type} {e : TypeId} {s : Nat} {f : α → List Value} {base : Nat}
theorem row (h : Mem W w H) (i : Nat) {v : Value} {L : List α} (hi : H[i]? = some (.row e s f base v L)) : Own e s f base w v L := h.get hi
/-- A row that a call has handed back. -/
theorem own (h : Mem W w H) (k : Held w w') {v : Value} {L : List α} (o : Own e s f w.heap.size w' v L) : Mem W w' (H ++ [.row e s f W.heap.size v L]) :=
  h.new k _ (Own.mono o h.le) (fun b hb => (World.ownsRow.lt o b (by simpa [Ck.row] using hb)).1)
theorem nilRow (h : Mem W w H) : Mem W w (H ++ [.row e s f W.heap.size (.slice none 0 0) []]) :=
  h.new (Held.refl w) _ (Own.nil w) (fun b hb => by simp [Ck.row, Value.ownBlock] at hb)
theorem neRow (h : Mem W w H) (i j : Nat) {b : Nat} {cs : Array Value} {t : TypeId} {v : Value} {L : List α} (hi : H[i]? = some (.box b cs t)) (hj : H[j]? = some (.row e s f base v L)) (hij : i ≠ j) : v.ownBlock ≠ some b := fun q => h.apart hi hj hij b (by simp [Ck.box]) (by simp [Ck.row, q])
theorem putRow (h : Mem W w H) (i : Nat) {g n cap : Nat} {L : List α} (hi : H[i]? = some (.row e s f base (.slice (some ⟨g, 0, none⟩) n cap) L)) (hf : ∀ x, (f x).length = s) {k : Nat} (hk : k < L.length) {j : Nat} (hj : j < s) (u : Value) (x : α) (hx : f x = (f L[k]).set j u) :
    Mem W (w.setCell ⟨g, k * s + j, none⟩ u) (H.set i (.row e s f base (.slice (some ⟨g, 0, none⟩) n cap) (L.set k x))) := by
  refine h.upd hi _ ((Below.refl 0 w).setCell (Nat.zero_le _) u) (fun b' _ hb' => Below.heap_setCell w _ _ _ (by simpa [Ck.row, Value.ownBlock] using hb')) ?_ (fun b' hb' => .inl hb')
  exact Own.put hf (h.row i hi) hk hj u x hx
/-- An element of a row: its value, its cells. -/
theorem slot (h : Mem W w H) (i : Nat) {A : Option Addr} {n cap : Nat} {L : List α} (hi : H[i]? = some (.row e s f base (.slice A n cap) L)) (hf : ∀ x, (f x).length = s) (hs : 0 < s) {k : Nat} (hk : k < L.length) :
    ∃ g x, A = some ⟨g, 0, none⟩ ∧ W.heap.size ≤ g ∧ g < w.heap.size ∧ L[k]? = some x ∧ ∀ j, j < s → w.frozen? ⟨g, k * s + j, none⟩ = false ∧ ∀ v, (f x)[j]? = some v → w.cell? ⟨g, k * s + j, none⟩ = some v := by
  obtain ⟨g, hA, _, h2, h3⟩ := Own.slot hf (h.row i hi) hs hk
  exact ⟨g, L[k], hA, h.ge hi g (by simp [Ck.row, Value.ownBlock, hA]), h2, List.getElem?_eq_getElem hk, h3⟩
theorem putAt (h : Mem W w H) (i : Nat) {g n cap : Nat} {L : List α} (hi : H[i]? = some (.row e s f base (.slice (some ⟨g, 0, none⟩) n cap) L)) (hf : ∀ x, (f x).length = s) {k : Nat} {y : α} (hk : L[k]? = some y) {j : Nat} (hj : j < s) (u : Value) (x : α) (hx : f x = (f y).set j u) :
    Mem W (w.setCell ⟨g, k * s + j, none⟩ u) (H.set i (.row e s f base (.slice (some ⟨g, 0, none⟩) n cap) (L.set k x))) := by
  obtain ⟨hlt, rfl⟩ := List.getElem?_eq_some_iff.1 hk
  exact h.putRow i hi hf hlt hj u x hx
/-- What an append leaves. -/
theorem app (h : Mem W w H) (i : Nat) {v v' : Value} {L L' : List α} (hi : H[i]? = some (.row e s f base v L)) (hg : w.grownBy w' v.ownBlock) (ho : Own e s f base w' v' L') (hb : ∀ b, v'.ownBlock = some b → v.ownBlock = some b ∨ w.heap.size ≤ b) : Mem W w' (H.set i (.row e s f base v' L')) := by
  refine h.upd hi _ ⟨hg.os, hg.tape, hg.output, hg.size, fun k hk => by omega⟩ (fun b hlt hb' => hg.block b hlt (fun q => hb' (by simp [Ck.row, ← q]))) ho (fun b hb' => ?_)
  simp only [Ck.row, Option.mem_toList] at hb' ⊢
  exact hb b hb'
/-- A slice that make lays. -/
theorem wp_make (h : Mem W w H) {P : Program} {ops : Array Oper} {rest : List Oper} {o : Oper} {a : Act} {Q : Exit → Act → World → Prop} (hgd : o.guard = none) (l c : Operand) (t : TypeId) (hop : o.op = Op.makeSlice t l c)
    (z : Value) (bytes : Nat) (ht : P.underlying t = some (.slice e)) (hinfo : (P.info? e).map (fun i => (i.zero, i.size, i.bytes)) = some (some z, s, bytes)) (x0 : α) (hs0 : 0 < s) (hf : ∀ x, (f x).length = s) (hz : z.cells.toList = f x0)
    (kl kc : IntKind) (LL C : Int) (n : Nat) (hl : a.eval l = .int kl LL) (hc : a.eval c = .int kc C) (hL : LL = (n : Int)) (hC : C = (n : Int)) (hb : bytes * n ≤ 281474976710656) (hm : n ≤ maxLen)
    (k : ∀ w', Mem W w' (H ++ [.row e s f W.heap.size (.slice (some ⟨w.heap.size, 0, none⟩) n n) (List.replicate n x0)]) → Held w w' → wpList P ops Q rest (a.put o.dst (.slice (some ⟨w.heap.size, 0, none⟩) n n)) w') :
    wpList P ops Q (o :: rest) a w := by
  obtain ⟨i0, hi, hz0, hz1, hz2⟩ := info_parts hinfo
  refine wpList_make_full w hgd l c t hop w.heap.size e i0 z s ht hi hz0 hz1 kl kc LL C n hl hc hL hC (by rw [hz2]; exact hb) hm (Nat.le_refl _) ?_
  intro w' h1 h2
  have hh : Held w w' := ⟨h2.os, h2.tape, h2.output, h2.size, fun k hk => h2.block k hk (by simp)⟩
  refine k w' (h.own hh ?_) hh
  unfold Own
  rw [List.length_replicate, ← made_flat hf hs0 x0 z hz n]
  exact h1
/-- An append of one element to a row of the call's own. -/
theorem wp_app (h : Mem W w H) (i : Nat) {v : Value} {L : List α} (hi : H[i]? = some (.row e s f W.heap.size v L)) {P : Program} {ops : Array Oper} {rest : List Oper} {o : Oper} {a : Act} {Q : Exit → Act → World → Prop} (hgd : o.guard = none) (sl x : Operand) (t : TypeId)
    (ho : o.op = .call { callee := .builtin .append, args := #[sl, x], argTypes := #[t, t] }) (z : Value) (bytes : Nat) (ht : P.underlying t = some (.slice e)) (hinfo : (P.info? e).map (fun i => (i.zero, i.size, i.bytes)) = some (some z, s, bytes))
    (hzs : z.cells.size = s) (hs0 : 0 < s) (hf : ∀ x, (f x).length = s) (hf1 : ∀ x, ∀ u ∈ f x, u.oneCell' = true) (d : α) (ad : Addr) (c : Nat)
    (hs : a.eval sl = v) (hx : a.eval x = .slice (some ad) 1 c) (hnews : ∀ j u, (f d)[j]? = some u → w.cell? (ad.add j) = some u)
    (n : Nat) (hn : L.length = n) (hb : (n + 1) * bytes ≤ 140737488355328) (hb1 : 1 ≤ bytes)
    (k : ∀ g cap w', Mem W w' (H.set i (.row e s f W.heap.size (.slice (some ⟨g, 0, none⟩) (n + 1) cap) (L ++ [d]))) → wpList P ops Q rest (a.put o.dst (.slice (some ⟨g, 0, none⟩) (n + 1) cap)) w') :
    wpList P ops Q (o :: rest) a w := by
  subst hn
  refine Own.app w hgd sl x t ho z bytes ht hinfo hzs hs0 hf hf1 W.heap.size v L d ad c hs (h.row i hi) hx hnews hb hb1 h.le ?_
  intro g cap w' h1 h2 h3 h4
  refine k g cap w' (h.app i hi h2 h1 (fun b hb' => ?_))
  simp only [Value.ownBlock] at hb'
  injection hb' with hb'
  subst hb'
  rcases h3 with h3 | h3
  · exact .inl h3
  · exact .inr (by omega)
end
end Mem
end Go.Proofs.Ytncgihbnfmpdbaa
