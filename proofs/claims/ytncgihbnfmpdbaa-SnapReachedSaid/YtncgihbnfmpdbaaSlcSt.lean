/-
  Contracts of slices.Clone at []string that the call itself made (printed by mkslc.py).
-/
import Derived.Test.YtncgihbnfmpdbaaSlG
import Derived.Test.YtncgihbnfmpdbaaProg
import Derived.WalkSpells
import Derived.WalkLawsBesides
import Derived.Deep.RegionHeld3
import Derived.Outline
import Derived.Lib.SliceRun
set_option linter.unusedVariables false
set_option maxRecDepth 100000
namespace Go.Proofs.Ytncgihbnfmpdbaa
open Go.RowKit
namespace SlcSt
theorem info : (Try.prog.info? 9).map (fun i => (i.zero, i.size, i.bytes)) = some (some (.string ⟨#[]⟩), 1, 16) := by kernel_rfl
theorem zero (w : World) : (zeroValue 9).run Try.prog w = .ok (.string ⟨#[]⟩) w := by kernel_rfl
theorem zcells (n : Nat) : ∀ u ∈ (Builtin.zeroCells (Value.cells (.string ⟨#[]⟩)) n).toList, u.oneCell' = true := by
  intro u hu
  simp only [Builtin.zeroCells, Array.toList_map, List.mem_map] at hu
  obtain ⟨i, _, rfl⟩ := hu
  have hs : (Value.cells (.string ⟨#[]⟩)).size = 1 := rfl
  rw [hs]
  have hm : i % 1 < 1 := Nat.mod_lt _ (by decide)
  generalize i % 1 = k at hm
  match k, hm with
  | 0, _ => rfl
  | k + 1, h => omega
section
variable {α : Type} {f : α → List Value}
theorem clone_any (hf : ∀ x, (f x).length = 1) (hf1 : ∀ x, ∀ u ∈ f x, u.oneCell' = true) (A : Option Addr) (n cap : Nat) (L : List α) (w : World) (h : Sl 1 f w A n L) (hn : A = none → n = 0) (hmax : n ≤ 1099511627776) :
    Calls Try.prog 22 #[.slice A n cap] w (Sg.New 9 1 f L w) := by
  have hlen := h.1
  have q := fun (w : World) (a : Option Addr) (n c n' c' : Nat) => Lib.run_eql_slice_nil (P := Try.prog) w 24 9 a n c n' c' Try.underlying24
  cases A with
  | none =>
    have h0 := hn rfl
    have hL : L = [] := List.eq_nil_of_length_eq_zero (by rw [hlen, h0])
    subst hL h0
    have hfin : Hid (Sg.New 9 1 f ([] : List α) w (.returned (.slice none 0 0)) w) := Sg.New.mk (Own.nil w) (Held.refl w)
    clear h hlen hn
    go_enter Try.func22, Try.ntmps22
    go_wp2
    go_ret
    exact hfin.out
  | some ad =>
    have hnw := Sg.sl_news (s := 1) hf (by decide) (h.held (((Held.refl w).alloc (.cells #[] 9))))
    have HN := Lib.hid hnw
    have HL := Lib.hid hlen
    clear h hlen hn hnw
    go_enter Try.func22, Try.ntmps22
    go_wp2_with (at_builtin; refine Own.apps _ rfl _ _ _ rfl _ 16 Try.underlying24 info rfl (by decide) hf hf1 w ((Held.refl w).alloc _) (.slice (some ⟨w.heap.size, 0, none⟩) 0 0) ([] : List α) L ad n _ rfl (Own.empty (Nat.le_refl _)) rfl HL.out HN.out (by simp; omega) (by decide) ?_; intro v1 w1 hown1 hheld1 _)
    go_ret
    exact Sg.New.mk hown1 hheld1
end
end SlcSt
end Go.Proofs.Ytncgihbnfmpdbaa
