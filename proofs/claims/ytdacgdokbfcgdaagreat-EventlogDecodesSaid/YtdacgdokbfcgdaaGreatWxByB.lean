/-
  Bytes in a block of the call's own that is known by its cells alone (a converted string's block): append of a string, the string of them.
-/
import Derived.Test.YtdacgdokbfcgdaaGreatW13
import Derived.Test.YtdacgdokbfcgdaaGreatW1
import Derived.Lib.AppendStr
import Derived.Laws.IdiomCopy
set_option linter.unusedVariables false
set_option maxRecDepth 100000
namespace Go.Proofs.YtdacgdokbfcgdaaGreat
open Go.RowKit Go.Lib
namespace ByB
theorem block_setCells (b : Nat) : ∀ (vs : List Value) (o : Nat) (w : World) (k : Nat), k ≠ b → (w.setCells b o vs).heap[k]? = w.heap[k]?
  | [], _, _, _, _ => rfl
  | v :: r, o, w, k, hk => by
    unfold World.setCells
    rw [block_setCells b r (o + 1) _ k hk]
    simp only [World.setCell]
    rw [Array.getElem?_modify, if_neg (fun e => hk e.symm)]
theorem size_setCells (b : Nat) : ∀ (vs : List Value) (o : Nat) (w : World), (w.setCells b o vs).heap.size = w.heap.size ∧ (w.setCells b o vs).os = w.os ∧ (w.setCells b o vs).tape = w.tape ∧ (w.setCells b o vs).output = w.output
  | [], _, _ => ⟨rfl, rfl, rfl, rfl⟩
  | v :: r, o, w => by
    unfold World.setCells
    obtain ⟨h1, h2, h3, h4⟩ := size_setCells b r (o + 1) (w.setCell ⟨b, o, none⟩ v)
    refine ⟨?_, h2, h3, h4⟩
    rw [h1]; simp [World.setCell]
theorem some_setCells (b : Nat) : ∀ (vs : List Value) (o : Nat) (w : World) (x : Addr), (w.cell? x).isSome = true → ((w.setCells b o vs).cell? x).isSome = true
  | [], _, _, _, h => h
  | v :: r, o, w, x, h => by
    unfold World.setCells
    refine some_setCells b r (o + 1) _ x ?_
    by_cases e : x = ⟨b, o, none⟩
    · subst e
      obtain ⟨u, hu⟩ := Option.isSome_iff_exists.1 h
      rw [World.cell?_setCell_same (h := hu)]; rfl
    · rw [World.cell?_setCell_other (h := fun e' => e (by first | exact e' | exact e'.symm))]; exact h
/-- Bytes in a block of the call's own. -/
structure BOwn (base : Nat) (w : World) (v : Value) (l : List UInt8) : Prop where
  out : ∃ g cap, v = .slice (some ⟨g, 0, none⟩) l.length cap ∧ base ≤ g ∧ g < w.heap.size ∧ l.length ≤ cap ∧ cap ≤ maxLen ∧ (∀ j (h : j < l.length), w.cell? ⟨g, j, none⟩ = some (.int .u8 (l[j].toNat : Int))) ∧ ∀ j, j < cap → (w.cell? ⟨g, j, none⟩).isSome = true ∧ w.frozen? ⟨g, j, none⟩ = false
theorem BOwn.held {base : Nat} {w w' : World} {v : Value} {l : List UInt8} (h : BOwn base w v l) (k : Held w w') : BOwn base w' v l := by
  obtain ⟨g, cap, h1, h2, h3, h4, h5, h6, h7⟩ := h.out
  have hb := k.block g h3
  exact ⟨g, cap, h1, h2, Nat.lt_of_lt_of_le h3 k.le, h4, h5, fun j hj => by rw [World.cell?_of_block hb]; exact h6 j hj, fun j hj => by rw [World.cell?_of_block hb, World.frozen?_of_block hb]; exact h7 j hj⟩
theorem addr0 (g j : Nat) : (⟨g, 0, none⟩ : Addr).add j = ⟨g, j, none⟩ := by unfold Addr.add; split <;> simp_all
/-- '[]byte(s)'. -/
theorem of_string (s : ByteArray) (w : World) (hs : s.size ≤ 1000000000000) : ∃ v w', (convert 9 37 (.string s)).run Tryz.prog w = .ok v w' ∧ BOwn w.heap.size w' v s.data.toList ∧ Held w w' := by
  have hr := run_bytes_of_string (P := Tryz.prog) w 9 37 5 s Tryz.underlying9 Tryz.underlying37 Tryz.underlying5
  have hge := grownCap_ge w s.size 0 5
  have hle : grownCap w s.size 0 5 ≤ maxLen := grownCap_le_maxLen _ _ _ _ (by unfold maxLen; omega)
  generalize grownCap w s.size 0 5 = cap at hr hge hle
  have hsz : (bytesRow s cap).size = cap := by unfold bytesRow; simp; omega
  have hl : s.data.toList.length = s.size := by simp
  refine ⟨_, _, hr, ⟨w.heap.size, cap, by rw [hl], Nat.le_refl _, by simp, by rw [hl]; exact hge, hle, fun j hj => ?_, fun j hj => ?_⟩, (Held.refl w).drew.alloc _⟩
  · rw [show (w.drew.alloc (.cells (bytesRow s cap) 5 ((bytesRow s cap).size, (bytesRow s cap).size + 1))).cell? ⟨w.heap.size, j, none⟩ = (bytesRow s cap)[j]? from World.cell?_alloc_mark (w := w.drew) ..]
    have := bytesRow_at s cap j (by rw [hl] at hj; exact hj)
    rw [this]; rfl
  · refine ⟨?_, ?_⟩
    · rw [show (w.drew.alloc (.cells (bytesRow s cap) 5 ((bytesRow s cap).size, (bytesRow s cap).size + 1))).cell? ⟨w.heap.size, j, none⟩ = (bytesRow s cap)[j]? from World.cell?_alloc_mark (w := w.drew) ..]
      rw [Array.getElem?_eq_getElem (by rw [hsz]; exact hj)]; rfl
    · rw [show (w.drew.alloc (.cells (bytesRow s cap) 5 ((bytesRow s cap).size, (bytesRow s cap).size + 1))).frozen? ⟨w.heap.size, j, none⟩ = _ from World.frozen?_alloc_mark (w := w.drew) ..]
      simp; omega
/-- The string of the bytes. -/
theorem back {base : Nat} {w : World} {v : Value} {l : List UInt8} (h : BOwn base w v l) : (convert 37 9 v).run Tryz.prog w = .ok (.string ⟨l.toArray⟩) w := by
  obtain ⟨g, cap, rfl, _, _, _, _, h6, _⟩ := h.out
  exact Strs.bytes_back w ⟨g, 0, none⟩ cap l fun j hj => by rw [addr0]; exact h6 j hj
theorem app_run {base : Nat} {w : World} {v : Value} {l : List UInt8} (h : BOwn base w v l) (hb : base ≤ w.heap.size) (t : ByteArray) (ht : l.length + t.size ≤ 1000000000000) (ty : TypeId) :
    ∃ v' w', (Builtin.append_ #[37, 9] ty #[v, .string t]).run Tryz.prog w = .ok v' w' ∧ BOwn base w' v' (l ++ t.data.toList) ∧ (∀ W, Held W w → W.heap.size ≤ base → Held W w') := by
  obtain ⟨g, cap, rfl, h2, h3, h4, h5, h6, h7⟩ := h.out
  obtain ⟨i0, hi, hz0, hz1, hz2⟩ := info_parts Strs.Tryzinfo_u8
  have hl : t.data.toList.length = t.size := by simp
  have hsl : (strCells t).length = t.size := strCells_length t
  have hsat : ∀ j (hj : j < t.size), (strCells t)[j]? = some (.int .u8 (t.data.toList[j]'(by omega)).toNat) := fun j hj => by
    unfold strCells; rw [List.getElem?_map, List.getElem?_eq_getElem (by omega)]; rfl
  by_cases hroom : l.length + t.size ≤ cap
  · have hf := run_firstCells_string (P := Tryz.prog) w 1 t
    have hst := run_storeCells_cells (P := Tryz.prog) g l.length (strCells t) 0 w (fun j hj => by rw [hsl] at hj; exact (h7 _ (by omega)).1) (fun j hj => by rw [hsl] at hj; exact (h7 _ (by omega)).2) (strCells_oneCell t)
    simp only [Nat.add_zero] at hst
    refine ⟨.slice (some ⟨g, 0, none⟩) (l.length + t.size) cap, w.setCells g l.length (strCells t), ?_, ⟨g, cap, by rw [List.length_append, hl], h2, by rw [(size_setCells g _ _ w).1]; exact h3, by rw [List.length_append, hl]; exact hroom, h5, fun j hj => ?_, fun j hj => ⟨some_setCells g _ _ w _ (h7 j hj).1, by rw [World.frozen?_setCells]; exact (h7 j hj).2⟩⟩, fun W hW hWb => ?_⟩
    · simp [Builtin.append_, run_underlying Tryz.underlying37, run_underlying Tryz.underlying9, sizeOf, typeInfo, hi, hz1, Builtin.lenOf, hroom, hf, Addr.add_lit, hst]
    · by_cases hjl : j < l.length
      · rw [World.cell?_setCells_out g _ _ w _ (fun _ _ => .inl (by simp only; exact hjl)), List.getElem_append_left hjl]
        exact h6 j hjl
      · have hjt : j - l.length < t.size := by rw [List.length_append, hl] at hj; omega
        have h8 := World.cell?_setCells_in g (strCells t) l.length w (fun k hk => by rw [hsl] at hk; exact (h7 _ (by omega)).1) (j - l.length) (by rw [hsl]; exact hjt)
        rw [show l.length + (j - l.length) = j by omega] at h8
        rw [h8, List.getElem_append_right (by omega)]
        have h9 := hsat (j - l.length) hjt
        rw [List.getElem?_eq_getElem (by rw [hsl]; exact hjt)] at h9
        exact h9
    · obtain ⟨z1, z2, z3, z4⟩ := size_setCells g (strCells t) l.length w
      exact ⟨z2.trans hW.os, z3.trans hW.tape, z4.trans hW.output, by rw [z1]; exact hW.size, fun k hk => by rw [block_setCells g _ _ w k (by omega)]; exact hW.block k hk⟩
  · have hr := run_append_grow_string (P := Tryz.prog) w 37 9 ty 5 i0 (.int .u8 0) Tryz.underlying37 Tryz.underlying9 hi hz0 ⟨g, 0, none⟩ l.length cap (Strs.by8 l) (by rw [hz1]; simp [Strs.by8]) (fun j u hj => by obtain ⟨hk, rfl⟩ := Strs.by8_at hj; rw [addr0]; exact h6 j hk) t (by omega) (by omega) (by rw [hz2]; exact growslice_fits (by omega) (by omega))
    have hge := grownCap_ge w (l.length + t.size) cap 5
    have hle : grownCap w (l.length + t.size) cap 5 ≤ maxLen := grownCap_le_maxLen _ _ _ _ (by unfold maxLen; omega)
    generalize grownCap w (l.length + t.size) cap 5 = c2 at hr hge hle
    have hz : (Value.int IntKind.u8 0).cells.size = 1 := rfl
    have hC : ∀ j, j < c2 → ∃ u, ((Strs.by8 l).toArray ++ (strCells t).toArray ++ Builtin.zeroCells (Value.int IntKind.u8 0).cells (c2 - (l.length + t.size)))[j]? = some u := fun j hj => by
      exact ⟨_, Array.getElem?_eq_getElem (by simp [Strs.by8, hsl, Builtin.zeroCells, hz]; omega)⟩
    refine ⟨_, _, hr, ⟨w.heap.size, c2, by rw [List.length_append, hl], hb, by simp, by rw [List.length_append, hl]; exact hge, hle, fun j hj => ?_, fun j hj => ?_⟩, fun W hW hWb => hW.drew.alloc _⟩
    · rw [List.length_append, hl] at hj
      have hn := heap_alloc_new w.drew (.cells ((Strs.by8 l).toArray ++ (strCells t).toArray ++ Builtin.zeroCells (Value.int IntKind.u8 0).cells (c2 - (l.length + t.size))) 5)
      have hn' : (w.drew.alloc (.cells ((Strs.by8 l).toArray ++ (strCells t).toArray ++ Builtin.zeroCells (Value.int IntKind.u8 0).cells (c2 - (l.length + t.size))) 5)).heap[w.heap.size]? = some _ := hn
      simp only [World.cell?, hn']
      by_cases hjl : j < l.length
      · rw [Array.getElem?_append_left (by simp [Strs.by8]; omega), Array.getElem?_append_left (by simp [Strs.by8]; omega), List.getElem_append_left hjl]
        simp [Strs.by8, hjl]
      · rw [Array.getElem?_append_left (by simp [Strs.by8, hsl]; omega), Array.getElem?_append_right (by simp [Strs.by8]; omega), List.getElem_append_right (by omega)]
        have h9 := hsat (j - l.length) (by omega)
        simpa [Strs.by8] using h9
    · obtain ⟨u, hu⟩ := hC j hj
      have hn' : (w.drew.alloc (.cells ((Strs.by8 l).toArray ++ (strCells t).toArray ++ Builtin.zeroCells (Value.int IntKind.u8 0).cells (c2 - (l.length + t.size))) 5)).heap[w.heap.size]? = some _ := heap_alloc_new w.drew _
      simp only [World.cell?, World.frozen?, hn']
      exact ⟨by rw [hu]; rfl, by simp⟩
end ByB
end Go.Proofs.YtdacgdokbfcgdaaGreat
