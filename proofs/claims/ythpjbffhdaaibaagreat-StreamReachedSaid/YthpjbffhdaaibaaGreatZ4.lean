/-
  A map with strings as keys that the call itself made: what it holds, as a function of the key; lookup, store, delete. (Over any program.)
  A map of lists of positions, each list in a block of its own: what a window over a string remembers. (Over any program.)
  Contracts of compression (chapter 20), part A: the group of a window, the tokens of a run (both), the reference's match.
-/
import Derived.WalkKit
import Derived.Maps.Own
import Derived.Test.YthpjbffhdaaibaaGreatZ1
import Derived.ArgAppend
import Derived.Maps.AppendAt
import Derived.Test.YthpjbffhdaaibaaGreatZ3
import Derived.Lib.Strings
import Derived.Deep.RegionHeld3
import Derived.BigQuiet
import Derived.Deep.QuietTactic
namespace Go.Proofs.YthpjbffhdaaibaaGreat.Sm
open Go Go.ChangeMaps Go.MapKept
open Go.Maps (Keyed string_keyed)
open Go.WideMaps (keyOf_string_mk)
set_option linter.unusedVariables false
/-- The entries are a map of the function D. -/
def Ent (es : Array MapEntry) (D : ByteArray → Option Value) : Prop :=
  (∀ e ∈ es.toList, ∃ k : ByteArray, e.key = .string k ∧ k.size ≤ maxLen) ∧ es.toList.Pairwise (fun e f => e.key ≠ f.key) ∧ ∀ k v, D k = some v ↔ ∃ e ∈ es.toList, e.key = .string k ∧ e.val = v
theorem ent_empty : Ent #[] (fun _ => none) := ⟨by simp, by simp, by simp⟩
section
variable {P : Program} {kt : TypeId} {w : World} {b clock : Nat} {es : Array MapEntry} {D : ByteArray → Option Value}
theorem keys (hk : P.underlying kt = some .string) (h : Ent es D) : ∀ e ∈ es.toList, ∃ l, keyOf P kt e.key = some l := by
  intro e he
  obtain ⟨k, hk', hs⟩ := h.1 e he
  exact ⟨_, by rw [hk']; exact keyOf_string_mk hk hs⟩
theorem none_of (h : Ent es D) {k : ByteArray} (hn : ∀ e ∈ es.toList, e.key ≠ .string k) : D k = none := by
  cases hd : D k with
  | none => rfl
  | some v =>
    obtain ⟨e, he, h1, _⟩ := (h.2.2 k v).1 hd
    exact absurd h1 (hn e he)
theorem some_of (h : Ent es D) {k : ByteArray} {j : Nat} {e : MapEntry} (hj : es.toList[j]? = some e) (hk : e.key = .string k) : D k = some e.val :=
  (h.2.2 k e.val).2 ⟨e, List.mem_of_getElem? hj, hk, rfl⟩
/-- 'm[k]'. -/
theorem look {t e : TypeId} (hk : P.underlying kt = some .string) (ht : P.underlying t = some (.map kt e)) {z : Value} (hz : (zeroValue e).run P w = .ok z w) (hb : w.heap[b]? = some (.map es clock)) (h : Ent es D) (k : ByteArray) (hs : k.size ≤ maxLen) :
    (Instr.lookup t (.map (some b)) (.string k) false).run P w = .ok ((D k).getD z) w := by
  have K := string_keyed hk
  have hkey := keyOf_string_mk hk hs
  rcases K.find w hkey es.toList (keys hk h) with ⟨h1, h2⟩ | ⟨j, e0, h1, h2, h3⟩
  · rw [none_of h h2]
    simp [Instr.lookup, run_underlying ht, MapKept.run_getObj_map hb, K.check w es.isEmpty hkey, h1, hz, Result.andThen]
  · rw [some_of h h2 h3]
    simp [Instr.lookup, run_underlying ht, MapKept.run_getObj_map hb, K.check w es.isEmpty hkey, h1, Result.andThen]
def upd (D : ByteArray → Option Value) (k : ByteArray) (v : Option Value) : ByteArray → Option Value := fun k' => if k' = k then v else D k'
/-- 'm[k] = v'. -/
theorem store {t e : TypeId} (hk : P.underlying kt = some .string) (ht : P.underlying t = some (.map kt e)) (hb : w.heap[b]? = some (.map es clock)) (h : Ent es D) (k : ByteArray) (hs : k.size ≤ maxLen) (v : Value) :
    ∃ es' clock', (Instr.mapUpdate t (.map (some b)) (.string k) v).run P w = .ok () (setBlock w b (.map es' clock')) ∧ Ent es' (upd D k (some v)) := by
  have K := string_keyed hk
  have hkey := keyOf_string_mk hk hs
  rcases K.find w hkey es.toList (keys hk h) with ⟨h1, h2⟩ | ⟨j, e0, h1, h2, h3⟩
  · refine ⟨es.push ⟨.string k, v, clock⟩, clock + 1, ?_, ?_, ?_, ?_⟩
    · simp [Instr.mapUpdate, run_underlying ht, MapKept.run_getObj_map hb, K.check w false hkey, h1, MapKept.run_setObj_map _ hb, Result.andThen, setBlock]
    · intro x hx
      simp only [Array.toList_push, List.mem_append, List.mem_singleton] at hx
      rcases hx with hx | rfl
      · exact h.1 x hx
      · exact ⟨k, rfl, hs⟩
    · rw [Array.toList_push, List.pairwise_append]
      refine ⟨h.2.1, by simp, fun x hx y hy => ?_⟩
      rw [List.mem_singleton] at hy
      subst hy
      exact h2 x hx
    · intro k' v'
      unfold upd
      split
      · rename_i e1
        subst e1
        rw [Array.toList_push]
        constructor
        · intro h4
          injection h4 with h4
          subst h4
          exact ⟨_, List.mem_append_right _ (List.mem_singleton_self _), rfl, rfl⟩
        · rintro ⟨x, hx, h5, h6⟩
          rcases List.mem_append.1 hx with hx | hx
          · exact absurd h5 (h2 x hx)
          · rw [List.mem_singleton] at hx; subst hx; rw [← h6]
      · rename_i e1
        rw [h.2.2 k' v', Array.toList_push]
        constructor
        · rintro ⟨x, hx, h5⟩; exact ⟨x, List.mem_append_left _ hx, h5⟩
        · rintro ⟨x, hx, h5, h6⟩
          rcases List.mem_append.1 hx with hx | hx
          · exact ⟨x, hx, h5, h6⟩
          · rw [List.mem_singleton] at hx; subst hx
            injection h5 with h5
            exact absurd h5.symm e1
  · have hjl : j < es.toList.length := (List.getElem?_eq_some_iff.1 h2).1
    have hj : es[j]? = some e0 := by simpa using h2
    have hlist : (es.modify j (fun e' => { e' with key := .string k, val := v })).toList = es.toList.set j { e0 with key := .string k, val := v } := by rw [Array.toList_modify, modify_eq_set _ _ _ _ h2]
    have hst : (Instr.keyThatStays e0.key (.string k)).run P w = .ok (.string k) w := by rw [h3]; exact K.stays w hkey
    have who : ∀ x, x ∈ es.toList.set j { e0 with key := .string k, val := v } ↔ x = { e0 with key := .string k, val := v } ∨ (x ∈ es.toList ∧ x.key ≠ .string k) := by
      intro x
      rw [List.mem_iff_getElem?]
      constructor
      · rintro ⟨i, hi⟩
        rw [List.getElem?_set] at hi
        split at hi
        · rename_i e1
          injection hi with hi
          exact .inl hi.symm
        · rename_i e1
          refine .inr ⟨List.mem_of_getElem? hi, fun hx => ?_⟩
          have hil : i < es.toList.length := (List.getElem?_eq_some_iff.1 hi).1
          have hxi := (List.getElem?_eq_some_iff.1 hi).2
          have hxj := (List.getElem?_eq_some_iff.1 h2).2
          have hp := List.pairwise_iff_getElem.1 h.2.1
          rcases Nat.lt_or_gt_of_ne e1 with hlt | hlt
          · exact hp j i hjl hil hlt (by rw [hxj, hxi, h3, hx])
          · exact hp i j hil hjl hlt (by rw [hxj, hxi, h3, hx])
      · rintro (rfl | ⟨hx, hne⟩)
        · exact ⟨j, by rw [List.getElem?_set_self hjl]⟩
        · obtain ⟨i, hi⟩ := List.mem_iff_getElem?.1 hx
          refine ⟨i, ?_⟩
          rw [List.getElem?_set_ne]
          · exact hi
          · rintro rfl
            rw [h2] at hi
            injection hi with hi
            subst hi
            exact hne h3
    refine ⟨es.modify j (fun e' => { e' with key := .string k, val := v }), clock, ?_, ?_, ?_, ?_⟩
    · simp [Instr.mapUpdate, run_underlying ht, MapKept.run_getObj_map hb, K.check w false hkey, h1, hj, hst, MapKept.run_setObj_map _ hb, Result.andThen, setBlock]
    · intro x hx
      rw [hlist, who] at hx
      rcases hx with rfl | ⟨hx, _⟩
      · exact ⟨k, rfl, hs⟩
      · exact h.1 x hx
    · rw [hlist]
      have hp := List.pairwise_iff_getElem.1 h.2.1
      have hxj := (List.getElem?_eq_some_iff.1 h2).2
      refine List.pairwise_iff_getElem.2 fun i i' hi hi' hlt => ?_
      rw [List.length_set] at hi hi'
      have h9 := hp i i' hi hi' hlt
      rw [List.getElem_set, List.getElem_set]
      split
      · rename_i e1
        subst e1
        rw [if_neg (by omega)]
        intro e9; apply h9; rw [hxj, h3]; exact e9
      · split
        · rename_i e2
          subst e2
          intro e9; apply h9; rw [hxj, h3]; exact e9
        · exact h9
    · intro k' v'
      rw [hlist]
      unfold upd
      split
      · rename_i e1
        subst e1
        constructor
        · intro h4
          injection h4 with h4
          subst h4
          exact ⟨_, (who _).2 (.inl rfl), rfl, rfl⟩
        · rintro ⟨x, hx, h5, h6⟩
          rcases (who x).1 hx with rfl | ⟨hx, hne⟩
          · exact congrArg some h6
          · exact absurd h5 hne
      · rename_i e1
        rw [h.2.2 k' v']
        constructor
        · rintro ⟨x, hx, h5, h6⟩
          exact ⟨x, (who x).2 (.inr ⟨hx, by rw [h5]; intro e; injection e with e; exact e1 e⟩), h5, h6⟩
        · rintro ⟨x, hx, h5, h6⟩
          rcases (who x).1 hx with rfl | ⟨hx, hne⟩
          · injection h5 with h5
            exact absurd h5.symm e1
          · exact ⟨x, hx, h5, h6⟩
/-- 'delete(m, k)'. -/
theorem del {t e ty : TypeId} (hk : P.underlying kt = some .string) (ht : P.underlying t = some (.map kt e)) (hb : w.heap[b]? = some (.map es clock)) (h : Ent es D) (k : ByteArray) (hs : k.size ≤ maxLen) :
    ∃ es', (Builtin.delete_ #[t, kt] ty #[.map (some b), .string k]).run P w = .ok (.tuple #[]) (setBlock w b (.map es' clock)) ∧ Ent es' (upd D k none) := by
  have K := string_keyed hk
  have hkey := keyOf_string_mk hk hs
  rcases K.find w hkey es.toList (keys hk h) with ⟨h1, h2⟩ | ⟨j, e0, h1, h2, h3⟩
  · refine ⟨es, ?_, h.1, h.2.1, ?_⟩
    · simp [Builtin.delete_, run_underlying ht, MapKept.run_getObj_map hb, K.check w es.isEmpty hkey, h1, MapKept.run_setObj_map _ hb, Result.andThen, setBlock]
    · intro k' v'
      unfold upd
      split
      · rename_i e1
        subst e1
        exact ⟨(fun h => nomatch h), fun ⟨x, hx, h5, _⟩ => absurd h5 (h2 x hx)⟩
      · exact h.2.2 k' v'
  · have hjl : j < es.toList.length := (List.getElem?_eq_some_iff.1 h2).1
    have hlist : (es.eraseIdxIfInBounds j).toList = es.toList.eraseIdx j := by
      unfold Array.eraseIdxIfInBounds
      rw [dif_pos (by simpa using hjl)]
      simp
    have who : ∀ x, x ∈ es.toList.eraseIdx j ↔ (x ∈ es.toList ∧ x.key ≠ .string k) := by
      intro x
      have hp := List.pairwise_iff_getElem.1 h.2.1
      have hxj := (List.getElem?_eq_some_iff.1 h2).2
      rw [List.mem_eraseIdx_iff_getElem]
      constructor
      · rintro ⟨i, hi, hne, rfl⟩
        refine ⟨List.getElem_mem hi, fun hx => ?_⟩
        rcases Nat.lt_or_gt_of_ne hne with hlt | hlt
        · exact hp i j hi hjl hlt (by rw [hxj, h3, hx])
        · exact hp j i hjl hi hlt (by rw [hxj, h3, hx])
      · rintro ⟨hx, hne⟩
        obtain ⟨i, hi, rfl⟩ := List.mem_iff_getElem.1 hx
        refine ⟨i, hi, ?_, rfl⟩
        rintro rfl
        rw [hxj] at hne
        exact hne h3
    refine ⟨es.eraseIdxIfInBounds j, ?_, ?_, ?_, ?_⟩
    · simp [Builtin.delete_, run_underlying ht, MapKept.run_getObj_map hb, K.check w es.isEmpty hkey, h1, MapKept.run_setObj_map _ hb, Result.andThen, setBlock]
    · intro x hx
      rw [hlist, who] at hx
      exact h.1 x hx.1
    · rw [hlist]
      exact h.2.1.sublist (List.eraseIdx_sublist _ _)
    · intro k' v'
      rw [hlist]
      unfold upd
      split
      · rename_i e1
        subst e1
        exact ⟨(fun h => nomatch h), fun ⟨x, hx, h5, _⟩ => absurd h5 ((who x).1 hx).2⟩
      · rename_i e1
        rw [h.2.2 k' v']
        constructor
        · rintro ⟨x, hx, h5, h6⟩
          exact ⟨x, (who x).2 ⟨hx, by rw [h5]; intro e; injection e with e; exact e1 e⟩, h5, h6⟩
        · rintro ⟨x, hx, h5, h6⟩
          exact ⟨x, ((who x).1 hx).1, h5, h6⟩
end
end Go.Proofs.YthpjbffhdaaibaaGreat.Sm

namespace Go.Proofs.YthpjbffhdaaibaaGreat.Win
open Go Go.ChangeMaps Go.MapKept Go.RowKit
set_option linter.unusedVariables false
/-- The slice v holds the numbers xs, in block b, from some cell on. -/
def Lst (e : TypeId) (w : World) (v : Value) (xs : List Nat) (b : Nat) : Prop :=
  ∃ off cap cells, v = .slice (some ⟨b, off, none⟩) xs.length cap ∧ w.heap[b]? = some (.cells cells e (0, 0)) ∧ xs.length ≤ cap ∧ cap ≤ maxLen ∧ off + cap ≤ cells.size ∧
    ∀ j (h : j < xs.length), cells[off + j]? = some (.int .i64 (xs[j] : Int))
/-- Behind w, w' has the same blocks but those of F. -/
structure Kept (F : Nat → Prop) (w w' : World) : Prop where
  os : w'.os = w.os
  tape : w'.tape = w.tape
  output : w'.output = w.output
  size : w.heap.size ≤ w'.heap.size
  block : ∀ b, b < w.heap.size → ¬ F b → w'.heap[b]? = w.heap[b]?
theorem Kept.refl (F : Nat → Prop) (w : World) : Kept F w w := ⟨rfl, rfl, rfl, Nat.le_refl _, fun _ _ _ => rfl⟩
theorem Kept.trans {F G : Nat → Prop} {a b c : World} (h : Kept F a b) (k : Kept G b c) (hG : ∀ x, G x → F x ∨ a.heap.size ≤ x) : Kept F a c :=
  ⟨k.os.trans h.os, k.tape.trans h.tape, k.output.trans h.output, Nat.le_trans h.size k.size, fun x hx hf => (k.block x (Nat.lt_of_lt_of_le hx h.size) (fun hg => by rcases hG x hg with h1 | h1; exact hf h1; omega)).trans (h.block x hx hf)⟩
theorem Kept.mono {F G : Nat → Prop} {a b : World} (h : Kept F a b) (hG : ∀ x, x < a.heap.size → F x → G x) : Kept G a b :=
  ⟨h.os, h.tape, h.output, h.size, fun x hx hf => h.block x hx (fun h1 => hf (hG x hx h1))⟩
theorem Kept.of_held {F : Nat → Prop} {a b : World} (h : Held a b) : Kept F a b := ⟨h.os, h.tape, h.output, h.size, fun x hx _ => h.block x hx⟩
theorem Kept.drewN {F : Nat → Prop} {a b : World} (h : Kept F a b) (n : Nat) : Kept F a (b.drewN n) := by
  cases n with
  | zero => exact h
  | succ n => exact ⟨h.os, h.tape, h.output, h.size, h.block⟩
theorem Kept.held {F : Nat → Prop} {W a b : World} (h : Kept F a b) (hw : Held W a) (hF : ∀ x, F x → W.heap.size ≤ x) : Held W b :=
  ⟨h.os.trans hw.os, h.tape.trans hw.tape, h.output.trans hw.output, Nat.le_trans hw.size h.size, fun x hx => (h.block x (Nat.lt_of_lt_of_le hx hw.size) (fun hf => by have := hF x hf; omega)).trans (hw.block x hx)⟩
theorem Kept.cell {F : Nat → Prop} {a b : World} (h : Kept F a b) {p : Addr} {v : Value} (hp : a.cell? p = some v) (hF : ¬ F p.block) : b.cell? p = some v := by
  rw [World.cell?_of_block (h.block p.block (lt_of_cell hp) hF)]; exact hp
theorem Lst.of_block {e : TypeId} {w w' : World} {v : Value} {xs : List Nat} {b : Nat} (h : Lst e w v xs b) (hb : w'.heap[b]? = w.heap[b]?) : Lst e w' v xs b := by
  obtain ⟨off, cap, cells, h1, h2, h3⟩ := h
  exact ⟨off, cap, cells, h1, hb.trans h2, h3⟩
theorem Lst.lt {e : TypeId} {w : World} {v : Value} {xs : List Nat} {b : Nat} (h : Lst e w v xs b) : b < w.heap.size := by
  obtain ⟨off, cap, cells, h1, h2, h3⟩ := h
  exact (Array.getElem?_eq_some_iff.1 h2).1
theorem lst_of_row {e : TypeId} {w : World} {base : Nat} {v : Value} {xs : List Nat} (hx : 0 < xs.length) (h : w.ownsRow base e 1 v xs.length (xs.map fun x : Nat => Value.int .i64 (x : Int))) : ∃ b, base ≤ b ∧ Lst e w v xs b ∧ v.ownBlock = some b := by
  rcases h.2 with ⟨rfl, h0⟩ | ⟨g, cap, cur, rfl, hg, hh, hn, hm, hc, ht⟩
  · omega
  · refine ⟨g, hg, ⟨0, cap, cur, rfl, hh, hn, hm, by omega, fun j hj => ?_⟩, rfl⟩
    have h1 : (cur.toList.take (xs.length * 1))[j]? = some (Value.int .i64 (xs[j] : Int)) := by
      rw [ht, List.getElem?_map, List.getElem?_eq_getElem hj]; rfl
    rw [List.getElem?_take, if_pos (by omega)] at h1
    rw [Nat.zero_add]
    simpa using h1
/-- 'append(v, x)'. -/
theorem app {Pr : Program} {w : World} {t ty e : TypeId} (ht : Pr.underlying t = some (.slice e)) (hi : (Pr.info? e).map (fun i => (i.zero, i.size, i.bytes)) = some (some (.int .i64 0), 1, 8))
    {v : Value} {xs : List Nat} (hv : (v = .slice none 0 0 ∧ xs = []) ∨ ∃ b, Lst e w v xs b) {x : Nat} {ad : Addr} {c : Nat} (hc : w.cell? ad = some (.int .i64 (x : Int))) (hl : xs.length < 1000000000000) :
    ∃ v' w' b', (Builtin.append_ #[t, t] ty #[v, .slice (some ad) 1 c]).run Pr w = .ok v' w' ∧ Lst e w' v' (xs ++ [x]) b' ∧ (w.heap.size ≤ b' ∨ v.ownBlock = some b') ∧ w.grownBy w' v.ownBlock := by
  obtain ⟨i0, hi0, hz0, hz1, hz2⟩ := info_parts hi
  have hnews : ∀ j u, ([Value.int .i64 (x : Int)])[j]? = some u → w.cell? (ad.add j) = some u := by
    intro j u hu
    match j, hu with
    | 0, hu => simp at hu; subst hu; simpa [Addr.add] using hc
    | j + 1, hu => simp at hu
  have h1 : ∀ u ∈ [Value.int .i64 (x : Int)], u.oneCell' = true := by simp [Value.oneCell']
  rcases hv with ⟨rfl, rfl⟩ | ⟨b, off, cap, cells, rfl, hb, hn, hm, ho, hcell⟩
  · obtain ⟨v', w', hr, hown, hg, _, _⟩ := run_append_own_at (P := Pr) w w.heap.size t ty e i0 (.int .i64 0) 1 8 ht hi0 hz0 hz1 hz2 rfl (by decide) (.slice none 0 0) 0 [] (World.ownsRow_nil _ _ _ _) ad 1 c [.int .i64 (x : Int)] rfl hnews h1 (by unfold maxLen; omega) (by omega) (Nat.le_refl _)
    obtain ⟨b, hb1, hb2, _⟩ := lst_of_row (xs := [x]) (by simp) hown
    exact ⟨v', w', b, hr, hb2, .inl hb1, hg⟩
  · by_cases hroom : xs.length + 1 ≤ cap
    · have hr := run_append_room_cells (P := Pr) (ty := ty) w t e i0 ht hi0 b off xs.length cap ad 1 c [.int .i64 (x : Int)] (by rw [hz1]; rfl) hnews h1 hroom
        (fun j hj => by
          simp only [List.length_singleton] at hj
          obtain rfl : j = 0 := by omega
          rw [hz1]
          have h2 : off + xs.length * 1 + 0 < cells.size := by omega
          simp only [World.cell?, hb]
          rw [Array.getElem?_eq_getElem h2]; rfl)
        (fun j hj => by simp [World.frozen?, hb])
      rw [hz1] at hr
      simp only [Nat.mul_one, World.setCells] at hr
      have hset : (w.setCell ⟨b, off + xs.length, none⟩ (.int .i64 (x : Int))).heap[b]? = some (.cells (cells.setIfInBounds (off + xs.length) (.int .i64 (x : Int))) e (0, 0)) := by
        simp only [World.setCell]
        rw [Array.getElem?_modify, if_pos rfl, hb]; rfl
      refine ⟨_, _, b, hr, ?_, .inr rfl, ?_⟩
      · refine ⟨off, cap, _, by simp, hset, by simpa using hroom, hm, by simpa using ho, fun j hj => ?_⟩
        rw [List.length_append, List.length_singleton] at hj
        rw [Array.getElem?_setIfInBounds]
        by_cases hjx : j = xs.length
        · subst hjx
          rw [if_pos rfl, if_pos (by omega)]
          simp
        · rw [if_neg (by omega), hcell j (by omega), List.getElem_append_left (by omega)]
      · refine ⟨rfl, rfl, rfl, by simp [World.setCell], fun k hk hne => ?_⟩
        simp only [World.setCell]
        rw [Array.getElem?_modify, if_neg]
        intro e
        subst e
        exact hne rfl
    · obtain ⟨v', w', hr, hown, hg⟩ := run_append_arg_grows (P := Pr) (ty := ty) w t e i0 (.int .i64 0) 1 8 ht hi0 hz0 hz1 hz2 rfl (by decide) ⟨b, off, none⟩ xs.length cap (xs.map fun x : Nat => Value.int .i64 (x : Int)) (by simp)
        (fun j u hu => by
          rw [List.getElem?_map] at hu
          rcases hx : xs[j]? with _ | y
          · rw [hx] at hu; cases hu
          · rw [hx] at hu
            injection hu with hu
            subst hu
            obtain ⟨hj, rfl⟩ := List.getElem?_eq_some_iff.1 hx
            have := hcell j hj
            rw [Addr.add_lit]
            simp only [World.cell?, hb]
            exact this)
        ad 1 c [.int .i64 (x : Int)] rfl hnews (by omega) (by unfold maxLen; omega) (by omega)
      obtain ⟨b', hb1, hb2, _⟩ := lst_of_row (xs := xs ++ [x]) (by simp) (by simpa using hown)
      exact ⟨v', w', b', hr, hb2, .inl hb1, ⟨hg.os, hg.tape, hg.output, hg.size, fun k hk _ => hg.block k hk (by simp)⟩⟩
theorem keyEq {k k' : ByteArray} (h : k.data.toList = k'.data.toList) : k = k' := by
  cases k; cases k'; simp at h; rw [h]
/-- Block m is a map of lists of positions: at the key k the list P k (none where that is empty); all that it uses lies in the blocks F. -/
structure Is (e : TypeId) (w : World) (m : Nat) (F : Nat → Prop) (P : List UInt8 → List Nat) (es : Array MapEntry) (clock : Nat) (V : ByteArray → Option (Value × Nat)) : Prop where
  own : F m
  lt : ∀ b, F b → b < w.heap.size
  blk : w.heap[m]? = some (.map es clock)
  ent : Sm.Ent es (fun k => (V k).map (·.1))
  nokey : ∀ k, V k = none → P k.data.toList = []
  atkey : ∀ k v b, V k = some (v, b) → P k.data.toList ≠ [] ∧ F b ∧ Lst e w v (P k.data.toList) b
  apart : ∀ k k' v v' b, V k = some (v, b) → V k' = some (v', b) → k = k'
def val (V : ByteArray → Option (Value × Nat)) (k : ByteArray) : Value := ((V k).map (·.1)).getD (.slice none 0 0)
namespace Is
variable {e : TypeId} {w : World} {m : Nat} {F : Nat → Prop} {P : List UInt8 → List Nat} {es : Array MapEntry} {clock : Nat} {V : ByteArray → Option (Value × Nat)}
theorem kept {G : Nat → Prop} {w' : World} (h : Is e w m F P es clock V) (k : Kept G w w') (hG : ∀ b, F b → ¬ G b) : Is e w' m F P es clock V :=
  ⟨h.own, fun b hb => Nat.lt_of_lt_of_le (h.lt b hb) k.size, (k.block m (h.lt m h.own) (hG m h.own)).trans h.blk, h.ent, h.nokey,
    fun x v b hv => ⟨(h.atkey x v b hv).1, (h.atkey x v b hv).2.1, (h.atkey x v b hv).2.2.of_block (k.block b (h.lt b (h.atkey x v b hv).2.1) (hG b (h.atkey x v b hv).2.1))⟩, h.apart⟩
theorem held {w' : World} (h : Is e w m F P es clock V) (k : Held w w') : Is e w' m F P es clock V := h.kept (G := fun _ => False) (Kept.of_held k) (fun _ _ h => h)
theorem look {Pr : Program} {kt t st : TypeId} (hk : Pr.underlying kt = some .string) (ht : Pr.underlying t = some (.map kt st)) (hz : ∀ w, (zeroValue st).run Pr w = .ok (.slice none 0 0) w) (h : Is e w m F P es clock V) (k : ByteArray) (hs : k.size ≤ maxLen) {w' : World} (hw : w'.heap[m]? = w.heap[m]?) :
    (Instr.lookup t (.map (some m)) (.string k) false).run Pr w' = .ok (val V k) w' :=
  Sm.look hk ht (hz w') (hw.trans h.blk) h.ent k hs
theorem val_is (h : Is e w m F P es clock V) (k : ByteArray) : (val V k = .slice none 0 0 ∧ P k.data.toList = [] ∧ V k = none) ∨ ∃ b, V k = some (val V k, b) ∧ F b ∧ P k.data.toList ≠ [] ∧ Lst e w (val V k) (P k.data.toList) b := by
  rcases hv : V k with _ | ⟨v, b⟩
  · exact .inl ⟨by simp [val, hv], h.nokey k hv, rfl⟩
  · have := h.atkey k v b hv
    have e1 : val V k = v := by simp [val, hv]
    rw [e1]
    exact .inr ⟨b, rfl, this.2.1, this.1, this.2.2⟩
def up (P : List UInt8 → List Nat) (k : List UInt8) (l : List Nat) : List UInt8 → List Nat := fun k' => if k' = k then l else P k'
/-- A store at k of a slice that holds l, in the block that k had or in a new one; all other blocks of the map's as they were. -/
theorem put {w' : World} (h : Is e w m F P es clock V) (k : ByteArray) {v : Value} {l : List Nat} {b : Nat} (hl : l ≠ []) (hv : Lst e w' v l b) (hb : w.heap.size ≤ b ∨ ∃ v0, V k = some (v0, b)) (hg : Kept (fun x => some x = (val V k).ownBlock) w w')
    {es' : Array MapEntry} {clock' : Nat} (hent : Sm.Ent es' (Sm.upd (fun k => (V k).map (·.1)) k (some v))) :
    Is e (setBlock w' m (.map es' clock')) m (fun x => F x ∨ x = b) (up P k.data.toList l) es' clock' (fun k' => if k' = k then some (v, b) else V k') := by
  have hmw : ¬ some m = (val V k).ownBlock := by
    intro e1
    rcases h.val_is k with ⟨h1, _⟩ | ⟨b1, h1, _, _, h2⟩
    · rw [h1] at e1; cases e1
    · obtain ⟨off, cap, cells, h3, h4, _⟩ := h2
      rw [h3] at e1
      injection e1 with e1
      subst e1
      rw [h.blk] at h4; cases h4
  have hm' : w'.heap[m]? = some (.map es clock) := (hg.block m (h.lt m h.own) hmw).trans h.blk
  have hother : ∀ i, i ≠ m → (setBlock w' m (.map es' clock')).heap[i]? = w'.heap[i]? := fun i hi => heap_setBlock_other hm' _ hi
  have hbm : b ≠ m := by
    rintro rfl
    obtain ⟨off, cap, cells, h3, h4, _⟩ := hv
    rw [hm'] at h4; cases h4
  have hsz : (setBlock w' m (.map es' clock')).heap.size = w'.heap.size := by simp [setBlock]
  have hown : ∀ k' v' b', V k' = some (v', b') → k' ≠ k → b' ≠ b ∧ ¬ some b' = (val V k).ownBlock := by
    intro k' v' b' hv' hne
    have hlt' := h.lt b' (h.atkey k' v' b' hv').2.1
    refine ⟨?_, ?_⟩
    · rintro rfl
      rcases hb with hb | ⟨v0, hb⟩
      · omega
      · exact hne (h.apart _ _ _ _ _ hv' hb)
    · intro e1
      rcases h.val_is k with ⟨h1, _⟩ | ⟨b1, h1, _, _, h2⟩
      · rw [h1] at e1; cases e1
      · obtain ⟨off, cap, cells, h3, h4, _⟩ := h2
        rw [h3] at e1
        injection e1 with e1
        subst e1
        exact hne (h.apart _ _ _ _ _ hv' h1)
  refine ⟨.inl h.own, ?_, heap_setBlock_same hm' _, ?_, ?_, ?_, ?_⟩
  · intro x hx
    rw [hsz]
    rcases hx with hx | rfl
    · exact Nat.lt_of_lt_of_le (h.lt x hx) hg.size
    · exact hv.lt
  · have e1 : (fun k' => ((if k' = k then some (v, b) else V k') : Option (Value × Nat)).map (·.1)) = Sm.upd (fun k => (V k).map (·.1)) k (some v) := by
      funext k'
      unfold Sm.upd
      split <;> rfl
    rw [e1]; exact hent
  · intro k' hv'
    split at hv'
    · cases hv'
    · rename_i hne
      unfold up
      rw [if_neg (fun e1 => hne (keyEq e1))]
      exact h.nokey k' hv'
  · intro k' v' b' hv'
    split at hv'
    · rename_i e1
      injection hv' with hv'
      injection hv' with h1 h2
      subst h1 h2 e1
      unfold up
      rw [if_pos rfl]
      exact ⟨hl, .inr rfl, hv.of_block (hother _ hbm)⟩
    · rename_i hne
      unfold up
      rw [if_neg (fun e1 => hne (keyEq e1))]
      have h1 := h.atkey k' v' b' hv'
      have h2 := hown k' v' b' hv' hne
      have hne' : b' ≠ m := by
        rintro rfl
        obtain ⟨off, cap, cells, h3, h4, _⟩ := h1.2.2
        rw [h.blk] at h4; cases h4
      exact ⟨h1.1, .inl h1.2.1, h1.2.2.of_block ((hother _ hne').trans (hg.block b' (h.lt b' h1.2.1) h2.2))⟩
  · intro k1 k2 v1 v2 b' h1 h2
    split at h1
    · rename_i e1
      injection h1 with h1
      injection h1 with h1 h1'
      subst h1'
      split at h2
      · rename_i e2; rw [e1, e2]
      · rename_i e2; exact absurd rfl (hown k2 v2 b h2 e2).1
    · rename_i e1
      split at h2
      · rename_i e2
        injection h2 with h2
        injection h2 with h2 h2'
        subst h2'
        exact absurd rfl (hown k1 v1 b h1 e1).1
      · exact h.apart _ _ _ _ _ h1 h2
/-- 'delete' at k. -/
theorem del (h : Is e w m F P es clock V) (k : ByteArray) {es' : Array MapEntry} (hent : Sm.Ent es' (Sm.upd (fun k => (V k).map (·.1)) k none)) :
    Is e (setBlock w m (.map es' clock)) m F (up P k.data.toList []) es' clock (fun k' => if k' = k then none else V k') := by
  have hother : ∀ i, i ≠ m → (setBlock w m (.map es' clock)).heap[i]? = w.heap[i]? := fun i hi => heap_setBlock_other h.blk _ hi
  refine ⟨h.own, fun x hx => by simpa [setBlock] using h.lt x hx, heap_setBlock_same h.blk _, ?_, ?_, ?_, ?_⟩
  · have e1 : (fun k' => ((if k' = k then none else V k') : Option (Value × Nat)).map (·.1)) = Sm.upd (fun k => (V k).map (·.1)) k none := by
      funext k'
      unfold Sm.upd
      split <;> rfl
    rw [e1]; exact hent
  · intro k' hv'
    unfold up
    split at hv'
    · rename_i e1; subst e1; rw [if_pos rfl]
    · rename_i hne
      rw [if_neg (fun e1 => hne (keyEq e1))]
      exact h.nokey k' hv'
  · intro k' v' b' hv'
    split at hv'
    · cases hv'
    · rename_i hne
      unfold up
      rw [if_neg (fun e1 => hne (keyEq e1))]
      have h1 := h.atkey k' v' b' hv'
      have hne' : b' ≠ m := by
        rintro rfl
        obtain ⟨off, cap, cells, h3, h4, _⟩ := h1.2.2
        rw [h.blk] at h4; cases h4
      exact ⟨h1.1, h1.2.1, h1.2.2.of_block (hother _ hne')⟩
  · intro k1 k2 v1 v2 b' h1 h2
    split at h1
    · cases h1
    · split at h2
      · cases h2
      · exact h.apart _ _ _ _ _ h1 h2
end Is
/-- .. the entries unnamed. -/
def Win (e : TypeId) (w : World) (m : Nat) (F : Nat → Prop) (P : List UInt8 → List Nat) : Prop := ∃ es clock V, Is e w m F P es clock V
theorem Win.congr {e : TypeId} {w : World} {m : Nat} {F : Nat → Prop} {P Q : List UInt8 → List Nat} (h : Win e w m F P) (hP : ∀ g, P g = Q g) : Win e w m F Q := by
  have : P = Q := funext hP
  rw [← this]; exact h
theorem Win.made {e : TypeId} (w : World) : Win e (w.alloc (.map #[] 0)) w.heap.size (fun b => b = w.heap.size) (fun _ => []) :=
  ⟨#[], 0, fun _ => none, rfl, fun b hb => by subst hb; simp, (MapKept.heap_alloc w _).1, Sm.ent_empty, fun _ _ => rfl, fun _ _ _ h => by (cases h), fun _ _ _ _ _ h => by (cases h)⟩
theorem kept_set {w : World} {m clock : Nat} {es : Array MapEntry} (h : w.heap[m]? = some (.map es clock)) (o : Obj) : Kept (fun x => x = m) w (setBlock w m o) :=
  ⟨rfl, rfl, rfl, by simp [setBlock], fun b _ hb => heap_setBlock_other h _ hb⟩
namespace Is
variable {e : TypeId} {w : World} {m : Nat} {F : Nat → Prop} {P : List UInt8 → List Nat} {es : Array MapEntry} {clock : Nat} {V : ByteArray → Option (Value × Nat)}
theorem val_block (h : Is e w m F P es clock V) (k : ByteArray) (b : Nat) (hb : some b = (val V k).ownBlock) : F b := by
  rcases h.val_is k with ⟨h1, _⟩ | ⟨b1, _, h2, _, off, cap, cells, h3, _⟩
  · rw [h1] at hb; cases hb
  · rw [h3] at hb
    injection hb with hb
    subst hb; exact h2
/-- 'm[k] = append(m[k], x)'. -/
theorem add {Pr : Program} {kt mt t ty : TypeId} (hk : Pr.underlying kt = some .string) (hm : Pr.underlying mt = some (.map kt t)) (ht : Pr.underlying t = some (.slice e)) (hi : (Pr.info? e).map (fun i => (i.zero, i.size, i.bytes)) = some (some (.int .i64 0), 1, 8))
    (h : Is e w m F P es clock V) (k : ByteArray) (hks : k.size ≤ maxLen) (x : Nat) {ad : Addr} {c : Nat} (hc : w.cell? ad = some (.int .i64 (x : Int))) (hl : (P k.data.toList).length < 1000000000000) :
    ∃ v' w2 w3 F3, (Builtin.append_ #[t, t] ty #[val V k, .slice (some ad) 1 c]).run Pr w = .ok v' w2 ∧ (Instr.mapUpdate mt (.map (some m)) (.string k) v').run Pr w2 = .ok () w3 ∧
      Win e w3 m F3 (up P k.data.toList (P k.data.toList ++ [x])) ∧ (∀ b, F3 b → F b ∨ w.heap.size ≤ b) ∧ Kept F w w2 ∧ Kept F w w3 := by
  have hv := h.val_is k
  obtain ⟨v', w2, b', hr, hl2, hb', hg⟩ := app (Pr := Pr) (ty := ty) (c := c) ht hi (v := val V k) (xs := P k.data.toList) (by rcases hv with ⟨h1, h2, _⟩ | ⟨b, _, _, _, h4⟩; exact .inl ⟨h1, h2⟩; exact .inr ⟨b, h4⟩) hc hl
  have hkw : Kept (fun x => some x = (val V k).ownBlock) w w2 := ⟨hg.os, hg.tape, hg.output, hg.size, fun b hb hn => hg.block b hb hn⟩
  have hkF : Kept F w w2 := hkw.mono (fun b _ hb => h.val_block k b hb)
  have hm2 : w2.heap[m]? = some (.map es clock) := by
    rw [hkw.block m (h.lt m h.own) ?_]
    · exact h.blk
    · intro e1
      rcases hv with ⟨h1, _⟩ | ⟨b1, _, _, _, off, cap, cells, h3, h4, _⟩
      · rw [h1] at e1; cases e1
      · rw [h3] at e1
        injection e1 with e1
        subst e1
        rw [h.blk] at h4; cases h4
  obtain ⟨es', clock', hst, hent⟩ := Sm.store hk hm hm2 h.ent k hks v'
  have hput := h.put (clock' := clock') k (v := v') (l := P k.data.toList ++ [x]) (b := b') (by simp) hl2 (by
    rcases hb' with hb' | hb'
    · exact .inl hb'
    · rcases hv with ⟨h1, _⟩ | ⟨b1, h2, _, _, off, cap, cells, h3, _⟩
      · rw [h1] at hb'; cases hb'
      · refine .inr ⟨val V k, ?_⟩
        rw [h3] at hb'
        injection hb' with hb'
        rw [← hb']; exact h2) hkw hent
  refine ⟨v', w2, _, _, hr, hst, ⟨_, _, _, hput⟩, ?_, hkF, ?_⟩
  · rintro b (hb | rfl)
    · exact .inl hb
    · rcases hb' with hb' | hb'
      · exact .inr hb'
      · exact .inl (h.val_block k b hb'.symm)
  · exact hkF.trans (kept_set hm2 _) (fun b hb => by subst hb; exact .inl h.own)
/-- 'm[k] = m[k][1:]', more than one element there. -/
theorem tail {Pr : Program} {kt mt t : TypeId} (hk : Pr.underlying kt = some .string) (hm : Pr.underlying mt = some (.map kt t)) (h : Is e w m F P es clock V) (k : ByteArray) (hks : k.size ≤ maxLen) (x : Nat) (xs : List Nat) (hP : P k.data.toList = x :: xs) (hne : xs ≠ []) :
    ∃ b off cap w3 F3, val V k = .slice (some ⟨b, off, none⟩) (xs.length + 1) cap ∧ xs.length + 1 ≤ cap ∧ cap ≤ maxLen ∧ (Instr.mapUpdate mt (.map (some m)) (.string k) (.slice (some ⟨b, off + 1, none⟩) xs.length (cap - 1))).run Pr w = .ok () w3 ∧
      Win e w3 m F3 (up P k.data.toList xs) ∧ (∀ b, F3 b → F b) ∧ Kept F w w3 := by
  rcases h.val_is k with ⟨_, h2, _⟩ | ⟨b, h1, h2, _, off, cap, cells, h3, h4, h5, h6, h7, h8⟩
  · rw [hP] at h2; cases h2
  · rw [hP] at h3 h5 h8
    obtain ⟨es', clock', hst, hent⟩ := Sm.store hk hm h.blk h.ent k hks (.slice (some ⟨b, off + 1, none⟩) xs.length (cap - 1))
    have hl : Lst e w (.slice (some ⟨b, off + 1, none⟩) xs.length (cap - 1)) xs b := by
      simp only [List.length_cons] at h5 h8
      refine ⟨off + 1, cap - 1, cells, rfl, h4, by omega, by omega, by omega, fun j hj => ?_⟩
      have := h8 (j + 1) (by omega)
      rw [show off + 1 + j = off + (j + 1) by omega]
      simpa using this
    have hput := h.put (clock' := clock') k (v := .slice (some ⟨b, off + 1, none⟩) xs.length (cap - 1)) (l := xs) (b := b) hne hl (.inr ⟨_, h1⟩) (Kept.refl _ _) hent
    refine ⟨b, off, cap, _, _, h3, by simpa using h5, h6, hst, ⟨_, _, _, hput⟩, ?_, (kept_set h.blk _).mono (fun x _ hx => by subst hx; exact h.own)⟩
    rintro b' (hb | rfl)
    · exact hb
    · exact h2
/-- 'delete(m, k)'. -/
theorem drop {Pr : Program} {kt mt t ty : TypeId} (hk : Pr.underlying kt = some .string) (hm : Pr.underlying mt = some (.map kt t)) (h : Is e w m F P es clock V) (k : ByteArray) (hks : k.size ≤ maxLen) :
    ∃ w3, (Builtin.delete_ #[mt, kt] ty #[.map (some m), .string k]).run Pr w = .ok (.tuple #[]) w3 ∧ Win e w3 m F (up P k.data.toList []) ∧ Kept F w w3 := by
  obtain ⟨es', hr, hent⟩ := Sm.del (ty := ty) hk hm h.blk h.ent k hks
  exact ⟨_, hr, ⟨_, _, _, h.del k hent⟩, (kept_set h.blk _).mono (fun x _ hx => by subst hx; exact h.own)⟩
end Is
end Go.Proofs.YthpjbffhdaaibaaGreat.Win

set_option linter.unusedVariables false
set_option maxRecDepth 100000
namespace Go.Proofs.YthpjbffhdaaibaaGreat
open Go.RowKit
open By
open Go.Lib (extract_data)
namespace Cp
theorem size_len (s : ByteArray) : s.data.toList.length = s.size := by simp
theorem ex_list (s : ByteArray) (a b : Nat) : (s.extract a b).data.toList = (s.data.toList.drop a).take (b - a) := extract_data s a b
theorem group_some (wb : Nat) (s : ByteArray) (i : Nat) (w : World) (hc : w.cell? ⟨wb, 0, none⟩ = some (.string s)) (hs : (s.size : Int) ≤ 1099511627776) (hi : i + 4 ≤ s.size) :
    Calls Tryz.prog 99 #[.pointer (some ⟨wb, 0, none⟩), .int .i64 i] w fun e w' => e = .returned (.tuple #[.string (s.extract i (i + 4)), .bool true]) ∧ w = w' := by
  have h1 : ¬ ((i : Int) < 0) := by omega
  go_enter Tryz.func99, Tryz.ntmps99
  go_wp2
  go_ret2
  exact ⟨rfl, rfl⟩
theorem group_none (wb : Nat) (s : ByteArray) (i : Int) (w : World) (hc : w.cell? ⟨wb, 0, none⟩ = some (.string s)) (hs : (s.size : Int) ≤ 1099511627776) (hi : i < 0 ∨ (s.size : Int) < i + 4) (h1 : -1099511627776 ≤ i) (h2 : i ≤ 1099511627776) :
    Calls Tryz.prog 99 #[.pointer (some ⟨wb, 0, none⟩), .int .i64 i] w fun e w' => e = .returned (.tuple #[.string ⟨#[]⟩, .bool false]) ∧ w = w' := by
  by_cases h0 : i < 0
  · clear hi
    go_enter Tryz.func99, Tryz.ntmps99
    go_wp2
    go_ret2
    exact ⟨rfl, rfl⟩
  · have h3 : (s.size : Int) < i + 4 := by omega
    clear hi
    go_enter Tryz.func99, Tryz.ntmps99
    go_wp2
    go_ret2
    exact ⟨rfl, rfl⟩
theorem byte_n (n : Nat) (h1 : 1 ≤ n) (h2 : n ≤ 128) : (n : Int) - 1 = ((UInt8.ofNat (n - 1)).toNat : Int) := by
  simp [UInt8.toNat_ofNat']; omega
theorem min_eq1 (a b : Nat) : min a b = if b < a then b else a := by split <;> omega
/-- What a function leaves that appends to bytes of the call's own. -/
def Out (B : Nat) (v : Value) (L : List UInt8) (w : World) (e : Ending) (w' : World) : Prop := ∃ v', e = .returned v' ∧ w'.ownsRow B 5 1 v' L.length (by8 L) ∧ Win.Kept (fun x => some x = v.ownBlock) w w' ∧ Moved w v v'
theorem Out.mk {B : Nat} {v : Value} {L : List UInt8} {w w' : World} (v' : Value) {M : List UInt8} (hM : M = L) (h : w'.ownsRow B 5 1 v' M.length (by8 M)) (hk : Win.Kept (fun x => some x = v.ownBlock) w w') (hm : Moved w v v') : Out B v L w (.returned v') w' := by
  subst hM; exact ⟨v', rfl, h, hk, hm⟩
theorem grown_kept {w wr w1 : World} {v u v1 : Value} {o : Obj} (hk : Win.Kept (fun x => some x = v.ownBlock) w wr) (hm : Moved w v u) (hg : (wr.alloc o).grownBy w1 u.ownBlock) (hm1 : Moved (wr.alloc o) u v1) : Win.Kept (fun x => some x = v.ownBlock) w w1 ∧ Moved w v v1 := by
  have hs := hk.size
  refine ⟨⟨hg.os.trans hk.os, hg.tape.trans hk.tape, hg.output.trans hk.output, by have := hg.size; simp at this; omega, fun b hb hne => ?_⟩, hm.trans hm1 (by simp; omega)⟩
  rw [hg.block b (by simp; omega) ?_, ← hk.block b hb hne]
  · exact Below.heap_alloc wr o b (by omega)
  · intro e
    rcases hm b e.symm with h1 | h1
    · exact hne h1.symm
    · omega
theorem grown_kept0 {w wr w1 : World} {v u v1 : Value} (hk : Win.Kept (fun x => some x = v.ownBlock) w wr) (hm : Moved w v u) (hg : wr.grownBy w1 u.ownBlock) (hm1 : Moved wr u v1) : Win.Kept (fun x => some x = v.ownBlock) w w1 ∧ Moved w v v1 := by
  have hs := hk.size
  refine ⟨⟨hg.os.trans hk.os, hg.tape.trans hk.tape, hg.output.trans hk.output, by have := hg.size; omega, fun b hb hne => ?_⟩, hm.trans hm1 (by omega)⟩
  rw [hg.block b (by omega) ?_, ← hk.block b hb hne]
  intro e
  rcases hm b e.symm with h1 | h1
  · exact hne h1.symm
  · omega
theorem lits_any (v : Value) (l : List UInt8) (s : ByteArray) (w : World) (B : Nat) (hown : w.ownsRow B 5 1 v l.length (by8 l)) (hB : B ≤ w.heap.size) (hs : s.size ≤ 1099511627776) (hl : l.length ≤ 10995116277760) :
    Calls Tryz.prog 70 #[v, .string s] w (Out B v (l ++ lits s.data.toList) w) := by
  go_enter Tryz.func70, Tryz.ntmps70
  go_wp2
  go_loopw [0, 1] (fun o r wr => ∃ (m : List UInt8) (t : ByteArray), r = .string t ∧ t.size ≤ s.size ∧ m.length + 2 * t.size ≤ l.length + 2 * s.size ∧ m ++ lits t.data.toList = l ++ lits s.data.toList ∧ wr.ownsRow B 5 1 o m.length (by8 m) ∧ Win.Kept (fun x => some x = v.ownBlock) w wr ∧ Moved w v o)
    (fun _ r _ => match r with | .string t => t.size | _ => 0)
  case atStart => exact ⟨l, s, rfl, Nat.le_refl _, Nat.le_refl _, rfl, hown, Win.Kept.refl _ _, Moved.refl _ _⟩
  case round =>
    obtain ⟨m, t, rfl, ht, hm, he, hown1, hk, hmv⟩ := hrel
    have HE := Lib.hid he
    have HK := Lib.hid hk
    have HM := Lib.hid hmv
    have HO := Lib.hid hown1
    have hsz := hk.size
    clear he hk hmv
    have ht' : (t.size : Int) ≤ 1099511627776 := by omega
    by_cases h0 : t.size = 0
    · have h0' : ¬ (0 : Int) < (t.size : Int) := by omega
      have HF : Hid (m = l ++ lits s.data.toList) := by
        have h1 : t.data.toList = [] := List.eq_nil_of_length_eq_zero (by rw [size_len]; exact h0)
        have h2 := HE.out
        rw [h1, lits_nil, List.append_nil] at h2
        exact h2
      clear h0
      go_wp2
      go_ret
      exact Out.mk u0 HF.out HO.out HK.out HM.out
    · have h0' : (0 : Int) < (t.size : Int) := by omega
      have HL : Hid (∀ n, n = min 128 t.size → (m ++ [UInt8.ofNat (n - 1)] ++ (t.extract 0 n).data.toList) ++ lits (t.extract n t.size).data.toList = l ++ lits s.data.toList) := by
        intro n hn
        have h1 := lits_step (l := t.data.toList) (by rw [size_len]; omega)
        rw [size_len, ← hn] at h1
        rw [← HE.out, h1, ex_list, ex_list, List.drop_zero, Nat.sub_zero, List.take_of_length_le (l := t.data.toList.drop n) (by rw [List.length_drop, size_len]; omega)]
        simp
      have hb9 : ∀ n : Nat, n = min 128 t.size → 1 ≤ n ∧ n ≤ 128 ∧ n ≤ t.size := fun n hn => by omega
      by_cases hlt : (t.size : Int) < 128
      · go_wp2_with (first | (at_builtin; refine app_u8M _ rfl _ _ rfl B _ m [UInt8.ofNat (t.size - 1)] ⟨wr.heap.size, 0, none⟩ 1 1 rfl (hown1.alloc _) rfl rfl (one_cell _ _ _ (byte_n _ (by omega) (by omega)) _) (by omega) (by simp; omega) ?_; intro v1 w1 hown2 hg1 hm1) | (at_builtin; refine app_strM _ rfl _ _ rfl B _ (m ++ [UInt8.ofNat (t.size - 1)]) _ rfl hown2 rfl (by simp; omega) (by have := hg1.size; simp at this; omega) ?_; intro v2 w2 hown3 hg2 hm2))
        go_roundw
        case rel =>
          have g1 := grown_kept HK.out HM.out hg1 hm1
          have g2 := grown_kept0 g1.1 g1.2 hg2 hm2
          exact ⟨m ++ [UInt8.ofNat (t.size - 1)] ++ t.data.toList, ByteArray.empty, rfl, by simp, by simp; omega, by have h := HL.out t.size (by omega); simp at h ⊢; exact h, hown3, g2.1, g2.2⟩
        case measure => simp; omega
      · go_wp2_with (first | (at_builtin; refine app_u8M _ rfl _ _ rfl B _ m [UInt8.ofNat (128 - 1)] ⟨wr.heap.size, 0, none⟩ 1 1 rfl (hown1.alloc _) rfl rfl (one_cell _ _ _ (by decide) _) (by omega) (by simp; omega) ?_; intro v1 w1 hown2 hg1 hm1) | (at_builtin; refine app_strM _ rfl _ _ rfl B _ (m ++ [UInt8.ofNat (128 - 1)]) _ rfl hown2 rfl (by simp; omega) (by have := hg1.size; simp at this; omega) ?_; intro v2 w2 hown3 hg2 hm2))
        go_roundw
        case rel =>
          have g1 := grown_kept HK.out HM.out hg1 hm1
          have g2 := grown_kept0 g1.1 g1.2 hg2 hm2
          exact ⟨m ++ [UInt8.ofNat (128 - 1)] ++ (t.extract 0 128).data.toList, t.extract 128 t.size, rfl, by simp; omega, by simp; omega, HL.out _ (by omega), hown3, g2.1, g2.2⟩
        case measure => simp; omega
theorem held_grown {W w w1 : World} {v : Value} {e : TypeId} {size n : Nat} {xs : List Value} {o : Obj} (hb : Held W w) (hown : w.ownsRow W.heap.size e size v n xs) (hg : (w.alloc o).grownBy w1 v.ownBlock) : Held W w1 := below_app hb hb.size hown hg
theorem held_grown0 {W w w1 : World} {v : Value} {e : TypeId} {size n : Nat} {xs : List Value} (hb : Held W w) (hown : w.ownsRow W.heap.size e size v n xs) (hg : w.grownBy w1 v.ownBlock) : Held W w1 := by
  refine Below.grown hb hg hb.size ?_
  intro k hk
  obtain ⟨_, h⟩ := hown
  rcases h with ⟨rfl, _⟩ | ⟨g, cap, cur, rfl, hg', _⟩
  · simp [Value.ownBlock] at hk
  · simp [Value.ownBlock] at hk; omega
theorem lits_ref (s : ByteArray) (w : World) (hs : s.size ≤ 1099511627776) :
    Calls Tryz.prog 75 #[.string s] w fun e w' => e = .returned (.string ⟨(lits s.data.toList).toArray⟩) ∧ Held w w' := by
  go_enter Tryz.func75, Tryz.ntmps75
  go_wp2
  go_loopw [0, 3] (fun r o wr => ∃ (m : List UInt8) (t : ByteArray), r = .string t ∧ t.size ≤ s.size ∧ m.length + 2 * t.size ≤ 2 * s.size ∧ m ++ lits t.data.toList = lits s.data.toList ∧ wr.ownsRow w.heap.size 5 1 o m.length (by8 m) ∧ Held w wr)
    (fun r _ _ => match r with | .string t => t.size | _ => 0)
  case atStart => exact ⟨[], s, rfl, Nat.le_refl _, by simp, by simp, World.ownsRow_nil _ _ _ _, Held.refl _⟩
  case round =>
    obtain ⟨m, t, rfl, ht, hm, he, hown1, hk⟩ := hrel
    have HE := Lib.hid he
    have HK := Lib.hid hk
    have HO := Lib.hid hown1
    have hsz := hk.size
    clear he hk
    have ht' : (t.size : Int) ≤ 1099511627776 := by omega
    by_cases h0 : t.size = 0
    · have h0' : ¬ (0 : Int) < (t.size : Int) := by omega
      have HF : Hid (m = lits s.data.toList) := by
        have h1 : t.data.toList = [] := List.eq_nil_of_length_eq_zero (by rw [size_len]; exact h0)
        have h2 := HE.out
        rw [h1, lits_nil, List.append_nil] at h2
        exact h2
      have hcv := conv_own hown1
      clear h0
      go_wp2
      go_ret
      exact ⟨by rw [← HF.out]; rfl, HK.out⟩
    · have h0' : (0 : Int) < (t.size : Int) := by omega
      have HL : Hid (∀ n, n = min 128 t.size → (m ++ [UInt8.ofNat (n - 1)] ++ (t.extract 0 n).data.toList) ++ lits (t.extract n t.size).data.toList = lits s.data.toList) := by
        intro n hn
        have h1 := lits_step (l := t.data.toList) (by rw [size_len]; omega)
        rw [size_len, ← hn] at h1
        rw [← HE.out, h1, ex_list, ex_list, List.drop_zero, Nat.sub_zero, List.take_of_length_le (l := t.data.toList.drop n) (by rw [List.length_drop, size_len]; omega)]
        simp
      by_cases hlt : (128 : Int) < (t.size : Int)
      · have hlt1 : (128 : Int) ≤ (t.size : Int) := by omega
        go_wp2
        go_region_held3 (fun _ => True) (trivial)
          (first | (refine app_u8S _ (by rfl) _ _ (by rfl) w.heap.size _ m [UInt8.ofNat (128 - 1)] ⟨wr.heap.size, 0, none⟩ 1 1 (by rfl) (hown1.alloc _) (by rfl) rfl (one_cell _ _ _ (by decide) _) (by omega) (by simp; omega) ?_; intro v1 w1 hown2 hg1 hm1) | (refine app_strS _ (by rfl) _ _ (by rfl) w.heap.size _ (m ++ [UInt8.ofNat (128 - 1)]) _ (by rfl) hown2 (by rfl) (by simp; omega) (by have := hg1.size; simp at this; omega) ?_; intro v2 w2 hown3 hg2 hm2))
        go_wp2
        go_roundw
        case rel =>
          have g1 := held_grown HK.out HO.out ⟨hg1.os, hg1.tape, hg1.output, hg1.size, hg1.block⟩
          have g2 := held_grown0 g1 hown2 hg2
          exact ⟨m ++ [UInt8.ofNat (128 - 1)] ++ (t.extract 0 128).data.toList, t.extract 128 t.size, rfl, by simp; omega, by simp; omega, HL.out _ (by omega), hown3, g2⟩
        case measure => simp; omega
      · have hw1 : IntKind.i64.wrap ((t.size : Int) - 1) = (t.size : Int) - 1 := IntWalk.i64_in _ (by omega)
        have hw2 : IntKind.u8.wrap ((t.size : Int) - 1) = (t.size : Int) - 1 := IntWalk.u8_in _ (by omega)
        go_wp2
        go_region_held3 (fun _ => True) (trivial)
          (first | (refine app_u8S _ (by rfl) _ _ (by rfl) w.heap.size _ m [UInt8.ofNat (t.size - 1)] ⟨wr.heap.size, 0, none⟩ 1 1 (by rfl) (hown1.alloc _) (by rfl) rfl (one_cell _ _ _ (byte_n _ (by omega) (by omega)) _) (by omega) (by simp; omega) ?_; intro v1 w1 hown2 hg1 hm1) | (refine app_strS _ (by rfl) _ _ (by rfl) w.heap.size _ (m ++ [UInt8.ofNat (t.size - 1)]) _ (by rfl) hown2 (by rfl) (by simp; omega) (by have := hg1.size; simp at this; omega) ?_; intro v2 w2 hown3 hg2 hm2))
        go_wp2
        go_roundw
        case rel =>
          have g1 := held_grown HK.out HO.out ⟨hg1.os, hg1.tape, hg1.output, hg1.size, hg1.block⟩
          have g2 := held_grown0 g1 hown2 hg2
          exact ⟨m ++ [UInt8.ofNat (t.size - 1)] ++ t.data.toList, ByteArray.empty, rfl, by simp, by simp; omega, by have h := HL.out t.size (by omega); simp at h ⊢; exact h, hown3, g2⟩
        case measure => simp; omega
/-- How far the match at distance k goes: one step more. -/
theorem lcp_next {a b : List UInt8} {n : Nat} (h : n ≤ lcp a b) : n < lcp a b ↔ ∃ c, a[n]? = some c ∧ b[n]? = some c := by
  induction a generalizing b n with
  | nil => simp [lcp]
  | cons x a ih =>
    cases b with
    | nil => simp [lcp]
    | cons y b =>
      unfold lcp at h ⊢
      split at h
      · rename_i e
        subst e
        rw [if_pos rfl]
        cases n with
        | zero => simp
        | succ n =>
          have := ih (b := b) (n := n) (by omega)
          simp only [List.getElem?_cons_succ]
          rw [← this]; omega
      · rename_i e
        rw [if_neg e]
        obtain rfl : n = 0 := by omega
        simp only [Nat.lt_irrefl, List.getElem?_cons_zero, Option.some.injEq, false_iff]
        rintro ⟨c, rfl, h2⟩
        exact e h2.symm
theorem at_drop (s : ByteArray) (i n : Nat) (h : i + n < s.size) : (s.data.toList.drop i)[n]? = some s[i + n] := by
  rw [List.getElem?_drop, List.getElem?_eq_getElem (by simpa using h)]; rfl
/-- The test of the loops over a match: m bytes agree. -/
theorem more (s : ByteArray) (i k m : Nat) (hk : k ≤ i) (hk1 : 1 ≤ k) (h : i + m < s.size) (hm : m ≤ lcp (s.data.toList.drop i) (s.data.toList.drop (i - k))) :
    m < lcp (s.data.toList.drop i) (s.data.toList.drop (i - k)) ↔ s[i + m] = s[i - k + m] := by
  rw [lcp_next hm, at_drop s i m h, at_drop s (i - k) m (by omega)]
  constructor
  · rintro ⟨c, h1, h2⟩; injection h1 with h1; injection h2 with h2; rw [h1, h2]
  · intro e; exact ⟨_, rfl, by rw [e]⟩
theorem lcp_end (s : ByteArray) (i k m : Nat) (h : s.size ≤ i + m) (hm : m ≤ lcp (s.data.toList.drop i) (s.data.toList.drop (i - k))) : m = lcp (s.data.toList.drop i) (s.data.toList.drop (i - k)) := by
  have := lcp_le (s.data.toList.drop i) (s.data.toList.drop (i - k))
  rw [List.length_drop, size_len] at this; omega
theorem ret_two {a b c d : Int} (h : a = b) (h' : c = d) : Ending.returned (.tuple #[.int .i64 a, .int .i64 c]) = .returned (.tuple #[.int .i64 b, .int .i64 d]) := by rw [h, h']
theorem best_pos {s : List UInt8} {i j q : Nat} (hq : q = mlen s i (j + 1)) (h : (best s i j).2 < q) : best s i (j + 1) = (j + 1, q) := by
  unfold best; rw [if_pos (by omega), hq]
theorem best_neg {s : List UInt8} {i j q : Nat} (hq : q = mlen s i (j + 1)) (h : ¬ (best s i j).2 < q) : best s i (j + 1) = best s i j := by
  conv => lhs; unfold best
  rw [if_neg (by omega)]
theorem match_ref (s : ByteArray) (i : Nat) (w : World) (hs : (s.size : Int) ≤ 1099511627776) (hi : i ≤ s.size) :
    Calls Tryz.prog 74 #[.string s, .int .i64 i] w fun e w' => e = .returned (.tuple #[.int .i64 (mat s.data.toList i).1, .int .i64 (mat s.data.toList i).2]) ∧ Held w w' := by
  go_enter Tryz.func74, Tryz.ntmps74
  go_wp2
  go_loopw [6, 7, 8] (fun d n k wr => ∃ j : Nat, j ≤ 255 ∧ j ≤ i ∧ k = .int .i64 (j + 1 : Nat) ∧ d = .int .i64 (best s.data.toList i j).1 ∧ n = .int .i64 (best s.data.toList i j).2 ∧ Held w wr) (fun _ _ k _ => 256 - (intOf k).toNat)
  case atStart => exact ⟨0, by omega, by omega, rfl, rfl, rfl, Held.refl _⟩
  case round =>
    obtain ⟨j, hj1, hj2, rfl, rfl, rfl, hk⟩ := hrel
    have hb := best_spec s.data.toList i j
    rw [size_len] at hb
    have hb2 := hb.2.1
    have HB := Lib.hid hb
    clear hb
    have HK := Lib.hid hk
    clear hk
    by_cases hlt : j < 255 ∧ j < i
    · obtain ⟨h1, h2⟩ := hlt
      go_wp2
      obtain ⟨wA, hwA⟩ : ∃ wA : World, wA = wr := ⟨_, rfl⟩
      rw [← hwA] at HK ⊢
      clear hwA
      go_loopw [9] (fun m wr => ∃ q : Nat, q ≤ 67 ∧ q ≤ lcp (s.data.toList.drop i) (s.data.toList.drop (i - (j + 1))) ∧ m = .int .i64 q ∧ Held w wr) (fun m _ => 67 - (intOf m).toNat)
      case atStart => exact ⟨0, by omega, by omega, rfl, HK.out⟩
      case round =>
        obtain ⟨q, hq, hqc, rfl, hkk⟩ := hrel
        have HQ := Lib.hid hqc
        have HKK := Lib.hid hkk
        clear hqc hkk
        by_cases ha : (q : Int) < 67
        · by_cases hb : (i : Int) + q < s.size
          · have e1 : IntKind.i64.wrap ((i : Int) + q) = (i : Int) + q := IntWalk.i64_in _ (by omega)
            have e2 : IntKind.i64.wrap ((i : Int) + q - (j + 1)) = (i : Int) + q - (j + 1) := IntWalk.i64_in _ (by omega)
            have e3 : (0 : Int) ≤ (i : Int) + q := by omega
            have e4 := idx s ((i : Int) + q) (i + q) (by omega) (by omega)
            have e5 := idx s ((i : Int) + q - (j + 1)) (i - (j + 1) + q) (by omega) (by omega)
            have hm := more s i (j + 1) q (by omega) (by omega) (by omega) HQ.out
            by_cases hc : s[i + q]'(by omega) = s[i - (j + 1) + q]'(by omega)
            · have HN := Lib.hid (hm.2 hc)
              rw [← hc] at e5
              clear hm hc
              generalize (s[i + q]'(by omega)).toNat = x at e4 e5
              go_wp2
              go_quiet (fail)
              go_wp2
              go_roundw
              case rel => exact ⟨q + 1, by omega, HN.out, by go_num, HKK.out.drewN _⟩
              case measure => simp [intOf]; omega
            · have HN : Hid (q = mlen s.data.toList i (j + 1)) := by
                have h9 := HQ.out
                have : ¬ q < _ := fun h => hc (hm.1 h)
                unfold mlen; show _ = _; omega
              have hne : ¬ (s[i + q]'(by omega)).toNat = (s[i - (j + 1) + q]'(by omega)).toNat := fun h => hc (UInt8.toNat_inj.1 h)
              clear hm hc
              generalize (s[i + q]'(by omega)).toNat = x at e4 hne
              generalize (s[i - (j + 1) + q]'(by omega)).toNat = y at e5 hne
              have hne' : ((x : Int) == (y : Int)) = false := by simp; omega
              clear hne
              go_wp2
              go_quiet (fail)
              go_wp2
              all_goals
                go_roundw
                case rel => first | exact ⟨j + 1, by omega, by omega, by go_num, by (rw [best_pos HN.out (by omega)]) <;> go_num, by (rw [best_pos HN.out (by omega)]) <;> rfl, HKK.out.drewN _⟩ | exact ⟨j + 1, by omega, by omega, by go_num, by (rw [best_neg HN.out (by omega)]) <;> rfl, by (rw [best_neg HN.out (by omega)]) <;> rfl, HKK.out.drewN _⟩
                case measure => simp [intOf]; omega
          · have HN : Hid (q = mlen s.data.toList i (j + 1)) := by
              have h9 := lcp_end s i (j + 1) q (by omega) HQ.out
              unfold mlen; show _ = _; omega
            have e1 : IntKind.i64.wrap ((i : Int) + q) = (i : Int) + q := IntWalk.i64_in _ (by omega)
            have hb' : decide ((i : Int) + q < s.size) = false := by simpa using hb
            go_wp2
            go_quiet (fail)
            go_wp2
            all_goals
              go_roundw
              case rel => first | exact ⟨j + 1, by omega, by omega, by go_num, by (rw [best_pos HN.out (by omega)]) <;> go_num, by (rw [best_pos HN.out (by omega)]) <;> rfl, HKK.out.drewN _⟩ | exact ⟨j + 1, by omega, by omega, by go_num, by (rw [best_neg HN.out (by omega)]) <;> rfl, by (rw [best_neg HN.out (by omega)]) <;> rfl, HKK.out.drewN _⟩
              case measure => simp [intOf]; omega
        · have HN : Hid (q = mlen s.data.toList i (j + 1)) := by
            have h9 := HQ.out
            unfold mlen; show _ = _; omega
          obtain rfl : q = 67 := by omega
          go_wp2
          go_quiet (fail)
          go_wp2
          all_goals
            go_roundw
            case rel => first | exact ⟨j + 1, by omega, by omega, by go_num, by (rw [best_pos HN.out (by omega)]) <;> go_num, by (rw [best_pos HN.out (by omega)]) <;> rfl, HKK.out.drewN _⟩ | exact ⟨j + 1, by omega, by omega, by go_num, by (rw [best_neg HN.out (by omega)]) <;> rfl, by (rw [best_neg HN.out (by omega)]) <;> rfl, HKK.out.drewN _⟩
            case measure => simp [intOf]; omega
    · have HM : Hid (mat s.data.toList i = floor4 (best s.data.toList i j)) := by
        have hj : j = min 255 i := by omega
        show _ = _; unfold mat; rw [← hj]
      generalize hbb : best s.data.toList i j = bb at hb2 HM
      clear hbb HB
      obtain ⟨d, n⟩ := bb
      by_cases h4 : n < 4
      · have HE : Hid (mat s.data.toList i = (0, 0)) := by rw [HM.out]; exact if_pos h4
        by_cases h6 : j < 255
        · have h7 : i = j := by omega
          subst h7
          go_wp2
          go_ret2
          exact ⟨by rw [HE.out]; rfl, HK.out⟩
        · obtain rfl : j = 255 := by omega
          go_wp2
          go_ret2
          exact ⟨by rw [HE.out]; rfl, HK.out⟩
      · have HE : Hid (mat s.data.toList i = (d, n)) := by rw [HM.out]; exact if_neg h4
        by_cases h6 : j < 255
        · have h7 : i = j := by omega
          subst h7
          go_wp2
          go_ret2
          exact ⟨by rw [HE.out]; rfl, HK.out⟩
        · obtain rfl : j = 255 := by omega
          go_wp2
          go_ret2
          exact ⟨by rw [HE.out]; rfl, HK.out⟩
end Cp
end Go.Proofs.YthpjbffhdaaibaaGreat
