/-
  What journals of small operations are: the common part of two laws (chapter 42).
-/
import Derived.Test.YtmmnanmegdflgaaZxJqD
set_option linter.unusedVariables false
set_option linter.unusedSimpArgs false
set_option maxRecDepth 100000
namespace Go.Proofs.Ytmmnanmegdflgaa
open Go.RowKit Go.BigFrame Go.Sort Go.Lib
theorem Own.one {α : Type} {e : TypeId} {s : Nat} {f : α → List Value} {base : Nat} {w : World} {b : Nat} {cs : Array Value} (x : α) (hb : base ≤ b) (hc : w.heap[b]? = some (.cells cs e (0, 0))) (hcs : cs.toList = f x) (hf : (f x).length = s) : Own e s f base w (.slice (some ⟨b, 0, none⟩) 1 1) [x] := by
  have hsz : cs.size = s := by rw [← hf, ← hcs]; simp
  refine ⟨by simp [hf], .inr ⟨b, 1, cs, rfl, hb, hc, Nat.le_refl _, by unfold maxLen; omega, by omega, ?_⟩⟩
  simp only [List.flatMap_cons, List.flatMap_nil, List.append_nil, List.length_singleton, Nat.one_mul]
  rw [← hcs, List.take_of_length_le (by rw [hcs, hf]; omega)]
theorem Mem.oneRow {W w : World} {H : List Ck} {α : Type} {e : TypeId} {s : Nat} {f : α → List Value} (h : Mem W w H) {b : Nat} (hb : w.heap.size = b) (cs : Array Value) (x : α) (hcs : cs.toList = f x) (hf : (f x).length = s) : Mem W (w.alloc (.cells cs e)) (H ++ [.row e s f W.heap.size (.slice (some ⟨b, 0, none⟩) 1 1) [x]]) := by
  subst hb
  exact h.own ((Held.refl w).alloc _) (Own.one x (Nat.le_refl _) (heap_alloc_new w _) hcs hf)
theorem Own.ownLt {α : Type} {e : TypeId} {s : Nat} {f : α → List Value} {base : Nat} {w : World} {v : Value} {L : List α} (h : Own e s f base w v L) : ∀ b, v.ownBlock = some b → b < w.heap.size := fun b hb => (World.ownsRow.lt h b hb).2
namespace Jn
open Ad Adm Law39 Lg Lgc Strs
/-- The operations so far. -/
def opsL (L : List Int) (j : Nat) : List Man := (L.take j).map mg
theorem opsL_at {L : List Int} {j : Nat} {z : Int} (h : L[j]? = some z) : opsL L (j + 1) = opsL L j ++ [mg z] := by
  obtain ⟨hj, rfl⟩ := List.getElem?_eq_some_iff.1 h
  unfold opsL
  rw [List.take_succ_eq_append_getElem hj, List.map_append]; rfl
theorem opsL_len {L : List Int} {j : Nat} (h : j ≤ L.length) : (opsL L j).length = j := by unfold opsL; rw [List.length_map, List.length_take]; omega
theorem opsL_tiny (L : List Int) (j : Nat) : ∀ o ∈ opsL L j, Tiny o := by
  intro o ho
  obtain ⟨z, _, rfl⟩ := List.mem_map.1 ho
  exact mg_tiny z
theorem opsL_take {L : List Int} {n j : Nat} (h : n ≤ j) : (opsL L j).take n = opsL L n := by
  unfold opsL
  rw [← List.map_take, List.take_take, Nat.min_eq_left h]
def endL (L : List Int) (i : Nat) : Nat := (recs 0 (opsL L i)).length
/-- The state of the loop. -/
structure Lp (L : List Int) (j : Nat) (s : ByteArray) (E : List Int) (G : List RV) : Prop where
  s : s.data.toList = recs 0 (opsL L j)
  el : E.length = j
  e : ∀ i, i < j → E[i]? = some ((endL L (i + 1) : Nat) : Int)
  g : G.length = j + 1
  le : j ≤ L.length
theorem Lp.start (L : List Int) (x : RV) : Lp L 0 ⟨#[]⟩ [] [x] := ⟨rfl, rfl, by omega, rfl, Nat.zero_le _⟩
theorem Lp.sz {L : List Int} {j : Nat} {s : ByteArray} {E : List Int} {G : List RV} (h : Lp L j s E G) (h60 : j ≤ 60) : s.size = endL L j ∧ (s.size : Int) ≤ 2500 := by
  have h1 := nm_len s
  rw [h.s] at h1
  have h2 := tiny_recs (opsL L j) 0 (by rw [opsL_len h.le]; omega) (opsL_tiny L j)
  rw [opsL_len h.le] at h2
  exact ⟨h1.symm, by omega⟩
theorem Lp.step {L : List Int} {j : Nat} {s s' : ByteArray} {E : List Int} {G : List RV} {z : Int} (h : Lp L j s E G) (hz : L[j]? = some z) (hs : s'.data.toList = recs 0 (opsL L (j + 1))) (x : RV) : Lp L (j + 1) s' (E ++ [((endL L (j + 1) : Nat) : Int)]) (G ++ [x]) := by
  refine ⟨hs, by rw [List.length_append, h.el]; rfl, fun i hi => ?_, by rw [List.length_append, h.g]; rfl, (List.getElem?_eq_some_iff.1 hz).1⟩
  by_cases hij : i < j
  · rw [List.getElem?_append_left (by rw [h.el]; exact hij)]; exact h.e i hij
  · have : i = j := by omega
    subst this
    rw [List.getElem?_append_right (by rw [h.el]; omega), h.el, Nat.sub_self]; rfl
theorem Lp.app {L : List Int} {j : Nat} {s : ByteArray} {E : List Int} {G : List RV} {z : Int} (h : Lp L j s E G) (h60 : j ≤ 59) (hz : L[j]? = some z) : appOk s.data.toList (mg z) = true ∧ appd s.data.toList (mg z) = recs 0 (opsL L (j + 1)) := by
  have := tiny_app (opsL_tiny L j) (mg_tiny z) (by rw [opsL_len h.le]; omega)
  rw [h.s, opsL_at hz]
  exact this
theorem endL_mono {L : List Int} {i j : Nat} (h : i ≤ j) : endL L i ≤ endL L j := by
  unfold endL
  have := recs_mono (opsL L j) i
  rw [opsL_take h] at this
  exact this
theorem Regs.start {w : World} {F : Nat → Reg} (h0 : F 0 = ⟨[], []⟩) (e g : Option Nat) : Regs w e g [⟨none, 0, 0, none, 0, 0⟩] F := by
  intro i x hx
  rcases i with _ | i
  · simp at hx
    subst hx
    exact ⟨by rw [h0]; exact on1_zero w, .inl rfl, .inl rfl, .inl rfl, .inl rfl⟩
  · simp at hx
end Jn
end Go.Proofs.Ytmmnanmegdflgaa
