/-
  Pieces of memory: new pieces in front; what Delete and Insert leave; nil slices (over any program).
-/
import Derived.Test.YtncgihbnfmpdbaaMem5
import Derived.Test.YtncgihbnfmpdbaaSlG
set_option linter.unusedVariables false
namespace Go.Proofs.Ytncgihbnfmpdbaa
open Go.RowKit
namespace Mem
variable {W w w' : World} {H : List Ck}
theorem permut {H' : List Ck} (h : Mem W w H) (p : H.Perm H') : Mem W w H' :=
  ⟨h.held, fun c hc => h.ok c (p.mem_iff.2 hc), (p.pairwise_iff (fun {x y} hxy b hb hb' => hxy b hb' hb)).1 h.sep⟩
theorem toFront {c : Ck} (h : Mem W w (H ++ [c])) : Mem W w (c :: H) := h.permut (List.perm_append_comm (l₁ := H) (l₂ := [c]))
theorem rest {c : Ck} (h : Mem W w (c :: H)) : Mem W w H := h.sub (List.sublist_cons_self c H)
/-- A new box, in front. -/
theorem allocF (h : Mem W w H) {b : Nat} (hb : w.heap.size = b) (cs : Array Value) (t : TypeId) : Mem W (w.alloc (.cells cs t)) (.box b cs t :: H) := (h.alloc' hb cs t).toFront
/-- A row that a call has handed back, in front. -/
theorem ownF {α : Type} {e : TypeId} {s : Nat} {f : α → List Value} (h : Mem W w H) (k : Held w w') {v : Value} {L : List α} (o : Own e s f w.heap.size w' v L) : Mem W w' (.row e s f W.heap.size v L :: H) := (h.own k o).toFront
/-- What Delete, Insert leave of a row. -/
theorem gotten {α : Type} {e : TypeId} {s : Nat} {f : α → List Value} {base : Nat} (h : Mem W w H) (i : Nat) {v : Value} {L M : List α} {r : Ending} (hi : H[i]? = some (.row e s f base v L)) (g : Sg.Got e s f base v M w r w') :
    ∃ A cap, r = .returned (.slice A M.length cap) ∧ M.length ≤ cap ∧ Mem W w' (H.set i (.row e s f base (.slice A M.length cap) M)) := by
  obtain ⟨v', rfl, ho, hg, hb⟩ := g
  obtain ⟨A, cap, rfl, hc, _⟩ := ho.shape
  refine ⟨A, cap, rfl, hc, h.app i hi hg ho fun b hb' => ?_⟩
  rcases hb with hb | ⟨g, h1, h2⟩
  · exact .inl (by rw [← hb]; exact hb')
  · rw [h1] at hb'; injection hb' with hb'; subst hb'; exact .inr h2
end Mem
theorem own_nil {α : Type} {e : TypeId} {s : Nat} {f : α → List Value} {base : Nat} {w : World} {n cap : Nat} {L : List α} (h : Own e s f base w (.slice none n cap) L) : n = 0 := by
  rcases h.2 with ⟨he, h0⟩ | ⟨g, cp, cur, he, _⟩
  · injection he
  · injection he with e1; cases e1
end Go.Proofs.Ytncgihbnfmpdbaa
