/-
  Contracts of slices.Clone at []api.Paged that the call itself made (printed by mkslc.py).
-/
import Derived.Test.YtgfbfmgdlbdlhaaSlG
import Derived.Test.YtgfbfmgdlbdlhaaProg
import Derived.WalkSpells
import Derived.WalkLawsBesides
import Derived.Deep.RegionHeld3
import Derived.Outline
import Derived.Lib.SliceRun
set_option linter.unusedVariables false
set_option maxRecDepth 100000
namespace Go.Proofs.Ytgfbfmgdlbdlhaa
open Go.RowKit
namespace SlcPg
theorem info : (Try.prog.info? 37).map (fun i => (i.zero, i.size, i.bytes)) = some (some (.agg #[.int .i64 0, .string ⟨#[]⟩, .bool false]), 3, 32) := by kernel_rfl
theorem zero (w : World) : (zeroValue 37).run Try.prog w = .ok (.agg #[.int .i64 0, .string ⟨#[]⟩, .bool false]) w := by kernel_rfl
theorem zcells (n : Nat) : ∀ u ∈ (Builtin.zeroCells (Value.cells (.agg #[.int .i64 0, .string ⟨#[]⟩, .bool false])) n).toList, u.oneCell' = true := by
  intro u hu
  simp only [Builtin.zeroCells, Array.toList_map, List.mem_map] at hu
  obtain ⟨i, _, rfl⟩ := hu
  have hs : (Value.cells (.agg #[.int .i64 0, .string ⟨#[]⟩, .bool false])).size = 3 := rfl
  rw [hs]
  have hm : i % 3 < 3 := Nat.mod_lt _ (by decide)
  generalize i % 3 = k at hm
  match k, hm with
  | 0, _ => rfl
  | 1, _ => rfl
  | 2, _ => rfl
  | k + 3, h => omega
section
variable {α : Type} {f : α → List Value}
theorem clone_any (hf : ∀ x, (f x).length = 3) (hf1 : ∀ x, ∀ u ∈ f x, u.oneCell' = true) (A : Option Addr) (n cap : Nat) (L : List α) (w : World) (h : Sl 3 f w A n L) (hn : A = none → n = 0) (hmax : n ≤ 1099511627776) :
    Calls Try.prog 46 #[.slice A n cap] w (Sg.New 37 3 f L w) := by
  have hlen := h.1
  have q := fun (w : World) (a : Option Addr) (n c n' c' : Nat) => Lib.run_eql_slice_nil (P := Try.prog) w 30 37 a n c n' c' Try.underlying30
  cases A with
  | none =>
    have h0 := hn rfl
    have hL : L = [] := List.eq_nil_of_length_eq_zero (by rw [hlen, h0])
    subst hL h0
    have hfin : Hid (Sg.New 37 3 f ([] : List α) w (.returned (.slice none 0 0)) w) := Sg.New.mk (Own.nil w) (Held.refl w)
    clear h hlen hn
    go_enter Try.func46, Try.ntmps46
    go_wp2
    go_ret
    exact hfin.out
  | some ad =>
    have hnw := Sg.sl_news (s := 3) hf (by decide) (h.held (((Held.refl w).alloc (.cells #[] 37))))
    have HN := Lib.hid hnw
    have HL := Lib.hid hlen
    clear h hlen hn hnw
    go_enter Try.func46, Try.ntmps46
    go_wp2_with (at_builtin; refine Own.apps _ rfl _ _ _ rfl _ 32 Try.underlying30 info rfl (by decide) hf hf1 w ((Held.refl w).alloc _) (.slice (some ⟨w.heap.size, 0, none⟩) 0 0) ([] : List α) L ad n _ rfl (Own.empty (Nat.le_refl _)) rfl HL.out HN.out (by simp; omega) (by decide) ?_; intro v1 w1 hown1 hheld1 _)
    go_ret
    exact Sg.New.mk hown1 hheld1
end
end SlcPg
end Go.Proofs.Ytgfbfmgdlbdlhaa
