/-
  Pieces of memory: some of them, in another order (over any program).
-/
import Derived.Test.YtncgihbnfmpdbaaMem
set_option linter.unusedVariables false
namespace Go.Proofs.Ytncgihbnfmpdbaa
open Go.RowKit
namespace Mem
variable {W w w' : World} {H : List Ck}
/-- Some of the pieces, in another order. -/
theorem pick (h : Mem W w H) (is : List Nat) (hd : is.Nodup) {H' : List Ck} (hH : is.map (fun i => H[i]?) = H'.map some) : Mem W w H' := by
  have hlen : is.length = H'.length := by have := congrArg List.length hH; simpa using this
  have hat : ∀ p (h1 : p < is.length) (h2 : p < H'.length), H[is[p]]? = some H'[p] := fun p h1 h2 => by
    have := congrArg (fun l => l[p]?) hH
    simp only [List.getElem?_map, List.getElem?_eq_getElem h1, List.getElem?_eq_getElem h2, Option.map_some] at this
    injection this
  refine ⟨h.held, fun c hc => ?_, List.pairwise_iff_getElem.2 fun p q hp hq hpq => ?_⟩
  · obtain ⟨p, hp, rfl⟩ := List.mem_iff_getElem.1 hc
    have := hat p (by omega) hp
    exact ⟨h.get this, h.ge this⟩
  · refine h.apart (hat p (by omega) hp) (hat q (by omega) hq) fun e => ?_
    have := List.pairwise_iff_getElem.1 hd p q (by omega) (by omega) hpq
    exact this e
theorem sel (h : Mem W w H) (is : List Nat) (hd : is.Nodup) : Mem W w (is.filterMap fun i => H[i]?) := by
  have key : ∀ l : List Nat, l.Sublist is → ∀ H', l.filterMap (fun i => H[i]?) = H' → (∀ c ∈ H', ∃ i ∈ l, H[i]? = some c) ∧ (l.Nodup → H'.Pairwise fun c d => ∀ b ∈ c.bs, b ∉ d.bs) := by
    intro l
    induction l with
    | nil => rintro _ H' rfl; exact ⟨by simp, fun _ => by simp⟩
    | cons i l ih =>
      intro hs H' hH
      subst hH
      obtain ⟨h1, h2⟩ := ih (List.Sublist.trans (List.sublist_cons_self i l) hs) _ rfl
      cases hi : H[i]? with
      | none =>
        rw [List.filterMap_cons_none hi]
        exact ⟨fun c hc => by obtain ⟨j, hj, e⟩ := h1 c hc; exact ⟨j, List.mem_cons_of_mem _ hj, e⟩, fun hn => h2 (List.nodup_cons.1 hn).2⟩
      | some c =>
        rw [List.filterMap_cons_some hi]
        refine ⟨fun d hd' => ?_, fun hn => List.pairwise_cons.2 ⟨fun d hd' => ?_, h2 (List.nodup_cons.1 hn).2⟩⟩
        · rcases List.mem_cons.1 hd' with rfl | hd'
          · exact ⟨i, List.mem_cons_self, hi⟩
          · obtain ⟨j, hj, e⟩ := h1 d hd'; exact ⟨j, List.mem_cons_of_mem _ hj, e⟩
        · obtain ⟨j, hj, e⟩ := h1 d hd'
          exact h.apart hi e (fun q => (List.nodup_cons.1 hn).1 (q ▸ hj))
  obtain ⟨h1, h2⟩ := key is (List.Sublist.refl _) _ rfl
  exact ⟨h.held, fun c hc => by obtain ⟨i, _, e⟩ := h1 c hc; exact ⟨h.get e, h.ge e⟩, h2 hd⟩
end Mem
end Go.Proofs.Ytncgihbnfmpdbaa
