/-
  A map with strings as keys that the call itself made: what it holds, as a function of the key; lookup, store, delete. (Over any program.)
-/
import Derived.WalkKit
import Derived.Maps.Own
namespace Go.Proofs.Ytgfbfmgdlbdlhaa.Sm
open Go Go.ChangeMaps Go.MapKept
open Go.Maps (Keyed string_keyed)
open Go.WideMaps (keyOf_string_mk)
set_option linter.unusedVariables false
/-- The entries are a map of the function D. -/
def Ent (es : Array MapEntry) (D : ByteArray → Option Value) : Prop :=
  (∀ e ∈ es.toList, ∃ k : ByteArray, e.key = .string k ∧ k.size ≤ maxLen) ∧ es.toList.Pairwise (fun e f => e.key ≠ f.key) ∧ ∀ k v, D k = some v ↔ ∃ e ∈ es.toList, e.key = .string k ∧ e.val = v
theorem ent_empty : Ent #[] (fun _ => none) := ⟨by simp, by simp, by simp⟩
section
variable {P : Program} {kt : TypeId} {w : World} {b clock : Nat} {es : Array MapEntry} {D : ByteArray → Option Value}
theorem keys (hk : P.underlying kt = some .string) (h : Ent es D) : ∀ e ∈ es.toList, ∃ l, keyOf P kt e.key = some l := by
  intro e he
  obtain ⟨k, hk', hs⟩ := h.1 e he
  exact ⟨_, by rw [hk']; exact keyOf_string_mk hk hs⟩
theorem none_of (h : Ent es D) {k : ByteArray} (hn : ∀ e ∈ es.toList, e.key ≠ .string k) : D k = none := by
  cases hd : D k with
  | none => rfl
  | some v =>
    obtain ⟨e, he, h1, _⟩ := (h.2.2 k v).1 hd
    exact absurd h1 (hn e he)
theorem some_of (h : Ent es D) {k : ByteArray} {j : Nat} {e : MapEntry} (hj : es.toList[j]? = some e) (hk : e.key = .string k) : D k = some e.val :=
  (h.2.2 k e.val).2 ⟨e, List.mem_of_getElem? hj, hk, rfl⟩
/-- 'm[k]'. -/
theorem look {t e : TypeId} (hk : P.underlying kt = some .string) (ht : P.underlying t = some (.map kt e)) {z : Value} (hz : (zeroValue e).run P w = .ok z w) (hb : w.heap[b]? = some (.map es clock)) (h : Ent es D) (k : ByteArray) (hs : k.size ≤ maxLen) :
    (Instr.lookup t (.map (some b)) (.string k) false).run P w = .ok ((D k).getD z) w := by
  have K := string_keyed hk
  have hkey := keyOf_string_mk hk hs
  rcases K.find w hkey es.toList (keys hk h) with ⟨h1, h2⟩ | ⟨j, e0, h1, h2, h3⟩
  · rw [none_of h h2]
    simp [Instr.lookup, run_underlying ht, MapKept.run_getObj_map hb, K.check w es.isEmpty hkey, h1, hz, Result.andThen]
  · rw [some_of h h2 h3]
    simp [Instr.lookup, run_underlying ht, MapKept.run_getObj_map hb, K.check w es.isEmpty hkey, h1, Result.andThen]
def upd (D : ByteArray → Option Value) (k : ByteArray) (v : Option Value) : ByteArray → Option Value := fun k' => if k' = k then v else D k'
/-- 'm[k] = v'. -/
theorem store {t e : TypeId} (hk : P.underlying kt = some .string) (ht : P.underlying t = some (.map kt e)) (hb : w.heap[b]? = some (.map es clock)) (h : Ent es D) (k : ByteArray) (hs : k.size ≤ maxLen) (v : Value) :
    ∃ es' clock', (Instr.mapUpdate t (.map (some b)) (.string k) v).run P w = .ok () (setBlock w b (.map es' clock')) ∧ Ent es' (upd D k (some v)) := by
  have K := string_keyed hk
  have hkey := keyOf_string_mk hk hs
  rcases K.find w hkey es.toList (keys hk h) with ⟨h1, h2⟩ | ⟨j, e0, h1, h2, h3⟩
  · refine ⟨es.push ⟨.string k, v, clock⟩, clock + 1, ?_, ?_, ?_, ?_⟩
    · simp [Instr.mapUpdate, run_underlying ht, MapKept.run_getObj_map hb, K.check w false hkey, h1, MapKept.run_setObj_map _ hb, Result.andThen, setBlock]
    · intro x hx
      simp only [Array.toList_push, List.mem_append, List.mem_singleton] at hx
      rcases hx with hx | rfl
      · exact h.1 x hx
      · exact ⟨k, rfl, hs⟩
    · rw [Array.toList_push, List.pairwise_append]
      refine ⟨h.2.1, by simp, fun x hx y hy => ?_⟩
      rw [List.mem_singleton] at hy
      subst hy
      exact h2 x hx
    · intro k' v'
      unfold upd
      split
      · rename_i e1
        subst e1
        rw [Array.toList_push]
        constructor
        · intro h4
          injection h4 with h4
          subst h4
          exact ⟨_, List.mem_append_right _ (List.mem_singleton_self _), rfl, rfl⟩
        · rintro ⟨x, hx, h5, h6⟩
          rcases List.mem_append.1 hx with hx | hx
          · exact absurd h5 (h2 x hx)
          · rw [List.mem_singleton] at hx; subst hx; rw [← h6]
      · rename_i e1
        rw [h.2.2 k' v', Array.toList_push]
        constructor
        · rintro ⟨x, hx, h5⟩; exact ⟨x, List.mem_append_left _ hx, h5⟩
        · rintro ⟨x, hx, h5, h6⟩
          rcases List.mem_append.1 hx with hx | hx
          · exact ⟨x, hx, h5, h6⟩
          · rw [List.mem_singleton] at hx; subst hx
            injection h5 with h5
            exact absurd h5.symm e1
  · have hjl : j < es.toList.length := (List.getElem?_eq_some_iff.1 h2).1
    have hj : es[j]? = some e0 := by simpa using h2
    have hlist : (es.modify j (fun e' => { e' with key := .string k, val := v })).toList = es.toList.set j { e0 with key := .string k, val := v } := by rw [Array.toList_modify, modify_eq_set _ _ _ _ h2]
    have hst : (Instr.keyThatStays e0.key (.string k)).run P w = .ok (.string k) w := by rw [h3]; exact K.stays w hkey
    have who : ∀ x, x ∈ es.toList.set j { e0 with key := .string k, val := v } ↔ x = { e0 with key := .string k, val := v } ∨ (x ∈ es.toList ∧ x.key ≠ .string k) := by
      intro x
      rw [List.mem_iff_getElem?]
      constructor
      · rintro ⟨i, hi⟩
        rw [List.getElem?_set] at hi
        split at hi
        · rename_i e1
          injection hi with hi
          exact .inl hi.symm
        · rename_i e1
          refine .inr ⟨List.mem_of_getElem? hi, fun hx => ?_⟩
          have hil : i < es.toList.length := (List.getElem?_eq_some_iff.1 hi).1
          have hxi := (List.getElem?_eq_some_iff.1 hi).2
          have hxj := (List.getElem?_eq_some_iff.1 h2).2
          have hp := List.pairwise_iff_getElem.1 h.2.1
          rcases Nat.lt_or_gt_of_ne e1 with hlt | hlt
          · exact hp j i hjl hil hlt (by rw [hxj, hxi, h3, hx])
          · exact hp i j hil hjl hlt (by rw [hxj, hxi, h3, hx])
      · rintro (rfl | ⟨hx, hne⟩)
        · exact ⟨j, by rw [List.getElem?_set_self hjl]⟩
        · obtain ⟨i, hi⟩ := List.mem_iff_getElem?.1 hx
          refine ⟨i, ?_⟩
          rw [List.getElem?_set_ne]
          · exact hi
          · rintro rfl
            rw [h2] at hi
            injection hi with hi
            subst hi
            exact hne h3
    refine ⟨es.modify j (fun e' => { e' with key := .string k, val := v }), clock, ?_, ?_, ?_, ?_⟩
    · simp [Instr.mapUpdate, run_underlying ht, MapKept.run_getObj_map hb, K.check w false hkey, h1, hj, hst, MapKept.run_setObj_map _ hb, Result.andThen, setBlock]
    · intro x hx
      rw [hlist, who] at hx
      rcases hx with rfl | ⟨hx, _⟩
      · exact ⟨k, rfl, hs⟩
      · exact h.1 x hx
    · rw [hlist]
      have hp := List.pairwise_iff_getElem.1 h.2.1
      have hxj := (List.getElem?_eq_some_iff.1 h2).2
      refine List.pairwise_iff_getElem.2 fun i i' hi hi' hlt => ?_
      rw [List.length_set] at hi hi'
      have h9 := hp i i' hi hi' hlt
      rw [List.getElem_set, List.getElem_set]
      split
      · rename_i e1
        subst e1
        rw [if_neg (by omega)]
        intro e9; apply h9; rw [hxj, h3]; exact e9
      · split
        · rename_i e2
          subst e2
          intro e9; apply h9; rw [hxj, h3]; exact e9
        · exact h9
    · intro k' v'
      rw [hlist]
      unfold upd
      split
      · rename_i e1
        subst e1
        constructor
        · intro h4
          injection h4 with h4
          subst h4
          exact ⟨_, (who _).2 (.inl rfl), rfl, rfl⟩
        · rintro ⟨x, hx, h5, h6⟩
          rcases (who x).1 hx with rfl | ⟨hx, hne⟩
          · exact congrArg some h6
          · exact absurd h5 hne
      · rename_i e1
        rw [h.2.2 k' v']
        constructor
        · rintro ⟨x, hx, h5, h6⟩
          exact ⟨x, (who x).2 (.inr ⟨hx, by rw [h5]; intro e; injection e with e; exact e1 e⟩), h5, h6⟩
        · rintro ⟨x, hx, h5, h6⟩
          rcases (who x).1 hx with rfl | ⟨hx, hne⟩
          · injection h5 with h5
            exact absurd h5.symm e1
          · exact ⟨x, hx, h5, h6⟩
/-- 'delete(m, k)'. -/
theorem del {t e ty : TypeId} (hk : P.underlying kt = some .string) (ht : P.underlying t = some (.map kt e)) (hb : w.heap[b]? = some (.map es clock)) (h : Ent es D) (k : ByteArray) (hs : k.size ≤ maxLen) :
    ∃ es', (Builtin.delete_ #[t, kt] ty #[.map (some b), .string k]).run P w = .ok (.tuple #[]) (setBlock w b (.map es' clock)) ∧ Ent es' (upd D k none) := by
  have K := string_keyed hk
  have hkey := keyOf_string_mk hk hs
  rcases K.find w hkey es.toList (keys hk h) with ⟨h1, h2⟩ | ⟨j, e0, h1, h2, h3⟩
  · refine ⟨es, ?_, h.1, h.2.1, ?_⟩
    · simp [Builtin.delete_, run_underlying ht, MapKept.run_getObj_map hb, K.check w es.isEmpty hkey, h1, MapKept.run_setObj_map _ hb, Result.andThen, setBlock]
    · intro k' v'
      unfold upd
      split
      · rename_i e1
        subst e1
        exact ⟨(fun h => nomatch h), fun ⟨x, hx, h5, _⟩ => absurd h5 (h2 x hx)⟩
      · exact h.2.2 k' v'
  · have hjl : j < es.toList.length := (List.getElem?_eq_some_iff.1 h2).1
    have hlist : (es.eraseIdxIfInBounds j).toList = es.toList.eraseIdx j := by
      unfold Array.eraseIdxIfInBounds
      rw [dif_pos (by simpa using hjl)]
      simp
    have who : ∀ x, x ∈ es.toList.eraseIdx j ↔ (x ∈ es.toList ∧ x.key ≠ .string k) := by
      intro x
      have hp := List.pairwise_iff_getElem.1 h.2.1
      have hxj := (List.getElem?_eq_some_iff.1 h2).2
      rw [List.mem_eraseIdx_iff_getElem]
      constructor
      · rintro ⟨i, hi, hne, rfl⟩
        refine ⟨List.getElem_mem hi, fun hx => ?_⟩
        rcases Nat.lt_or_gt_of_ne hne with hlt | hlt
        · exact hp i j hi hjl hlt (by rw [hxj, h3, hx])
        · exact hp j i hjl hi hlt (by rw [hxj, h3, hx])
      · rintro ⟨hx, hne⟩
        obtain ⟨i, hi, rfl⟩ := List.mem_iff_getElem.1 hx
        refine ⟨i, hi, ?_, rfl⟩
        rintro rfl
        rw [hxj] at hne
        exact hne h3
    refine ⟨es.eraseIdxIfInBounds j, ?_, ?_, ?_, ?_⟩
    · simp [Builtin.delete_, run_underlying ht, MapKept.run_getObj_map hb, K.check w es.isEmpty hkey, h1, MapKept.run_setObj_map _ hb, Result.andThen, setBlock]
    · intro x hx
      rw [hlist, who] at hx
      exact h.1 x hx.1
    · rw [hlist]
      exact h.2.1.sublist (List.eraseIdx_sublist _ _)
    · intro k' v'
      rw [hlist]
      unfold upd
      split
      · rename_i e1
        subst e1
        exact ⟨(fun h => nomatch h), fun ⟨x, hx, h5, _⟩ => absurd h5 ((who x).1 hx).2⟩
      · rename_i e1
        rw [h.2.2 k' v']
        constructor
        · rintro ⟨x, hx, h5, h6⟩
          exact ⟨x, (who x).2 ⟨hx, by rw [h5]; intro e; injection e with e; exact e1 e⟩, h5, h6⟩
        · rintro ⟨x, hx, h5, h6⟩
          exact ⟨x, ((who x).1 hx).1, h5, h6⟩
end
end Go.Proofs.Ytgfbfmgdlbdlhaa.Sm
