/-
  Contracts of slices.Clone at []string that the call itself made (printed by mkslc.py).
-/
import Derived.Test.YthpjbffhdaaibaaZ7
import Derived.Test.YthpjbffhdaaibaaProg
import Derived.WalkSpells
import Derived.WalkLawsBesides
import Derived.Deep.RegionHeld3
import Derived.Outline
import Derived.Lib.SliceRun
set_option linter.unusedVariables false
set_option linter.unusedSimpArgs false
set_option maxRecDepth 100000
namespace Go.Proofs.Ythpjbffhdaaibaa
open Go.RowKit
namespace SlcLs
theorem info : (Try.prog.info? 9).map (fun i => (i.zero, i.size, i.bytes)) = some (some (.string ⟨#[]⟩), 1, 16) := by kernel_rfl
theorem zero (w : World) : (zeroValue 9).run Try.prog w = .ok (.string ⟨#[]⟩) w := by kernel_rfl
theorem zcells (n : Nat) : ∀ u ∈ (Builtin.zeroCells (Value.cells (.string ⟨#[]⟩)) n).toList, u.oneCell' = true := by
  intro u hu
  simp only [Builtin.zeroCells, Array.toList_map, List.mem_map] at hu
  obtain ⟨i, _, rfl⟩ := hu
  have hs : (Value.cells (.string ⟨#[]⟩)).size = 1 := rfl
  rw [hs]
  have hm : i % 1 < 1 := Nat.mod_lt _ (by decide)
  generalize i % 1 = k at hm
  match k, hm with
  | 0, _ => rfl
  | k + 1, h => omega
section
variable {α : Type} {f : α → List Value}
theorem clone_any (hf : ∀ x, (f x).length = 1) (hf1 : ∀ x, ∀ u ∈ f x, u.oneCell' = true) (A : Option Addr) (n cap : Nat) (L : List α) (w : World) (h : Sl 1 f w A n L) (hn : A = none → n = 0) (hmax : n ≤ 1099511627776) :
    Calls Try.prog 53 #[.slice A n cap] w (Sg.New 9 1 f L w) := by
  have hlen := h.1
  have q := fun (w : World) (a : Option Addr) (n c n' c' : Nat) => Lib.run_eql_slice_nil (P := Try.prog) w 44 9 a n c n' c' Try.underlying44
  cases A with
  | none =>
    have h0 := hn rfl
    have hL : L = [] := List.eq_nil_of_length_eq_zero (by rw [hlen, h0])
    subst hL h0
    have hfin : Hid (Sg.New 9 1 f ([] : List α) w (.returned (.slice none 0 0)) w) := Sg.New.mk (Own.nil w) (Held.refl w)
    clear h hlen hn
    go_enter Try.func53, Try.ntmps53
    go_wp2
    go_ret
    exact hfin.out
  | some ad =>
    have hnw := Sg.sl_news (s := 1) hf (by decide) (h.held (((Held.refl w).alloc (.cells #[] 9))))
    have HN := Lib.hid hnw
    have HL := Lib.hid hlen
    clear h hlen hn hnw
    go_enter Try.func53, Try.ntmps53
    go_wp2_with (at_builtin; refine Own.apps _ rfl _ _ _ rfl _ 16 Try.underlying44 info rfl (by decide) hf hf1 w ((Held.refl w).alloc _) (.slice (some ⟨w.heap.size, 0, none⟩) 0 0) ([] : List α) L ad n _ rfl (Own.empty (Nat.le_refl _)) rfl HL.out HN.out (by simp; omega) (by decide) ?_; intro v1 w1 hown1 hheld1 _)
    go_ret
    exact Sg.New.mk hown1 hheld1
/-- Append to a slice whose room is its length: always a new block. -/
theorem grow_new (hf : ∀ x, (f x).length = 1) (hf1 : ∀ x, ∀ u ∈ f x, u.oneCell' = true) (A : Option Addr) (n : Nat) (L M : List α) (w : World) (h : Sl 1 f w A n L) (hA : A = none → n = 0) (ad : Addr) (m c : Nat) (hM : M.length = m) (hm : 0 < m)
    (hnews : ∀ j u, (M.flatMap f)[j]? = some u → w.cell? (ad.add j) = some u) (hmax : n + m ≤ 1000000) :
    ∃ cap w', (Builtin.append_ #[44, 44] 44 #[.slice A n n, .slice (some ad) m c]).run Try.prog w = .ok (.slice (some ⟨w.heap.size, 0, none⟩) (n + m) cap) w' ∧ Own 9 1 f w.heap.size w' (.slice (some ⟨w.heap.size, 0, none⟩) (n + m) cap) (L ++ M) ∧ Held w w' := by
  obtain ⟨i0, hi, hz0, hz1, hz2⟩ := info_parts info
  have hn := h.1
  have hml : (M.flatMap f).length = m * i0.size := by rw [flat_len hf, hM, hz1]
  have hzs : (Value.cells (.string ⟨#[]⟩)).size = 1 := rfl
  have hfl : (L.flatMap f).length = n * 1 := by rw [flat_len hf, hn]
  have hml1 : (M.flatMap f).length = m * 1 := by rw [flat_len hf, hM]
  cases A with
  | none =>
    have h0 := hA rfl
    subst h0
    have hL : L = [] := List.eq_nil_of_length_eq_zero hn
    subst hL
    have hr := run_append_nil (P := Try.prog) w 44 44 9 i0 _ Try.underlying44 hi hz0 ad m c (M.flatMap f) hml hnews hm (by omega) (by rw [hz2]; omega)
    obtain ⟨cn, hcn, hcn2⟩ : ∃ cn, grownCap w m 0 9 = cn ∧ m ≤ cn := ⟨_, rfl, grownCap_ge _ _ _ _⟩
    have hcm : cn ≤ maxLen := by rw [← hcn]; exact grownCap_le_maxLen _ _ _ _ (by unfold maxLen; omega)
    rw [hcn] at hr
    rw [Nat.zero_add]
    refine ⟨cn, _, hr, ⟨by simp [flat_len hf], .inr ⟨_, cn, _, ?_, Nat.le_refl _, heap_alloc_new w.drew _, ?_, hcm, ?_, ?_⟩⟩, (Held.refl w).drew.alloc _⟩
    · simp [hM]
    · simp [hM]; exact hcn2
    · simp [Builtin.zeroCells, hzs, hml1]; omega
    · simp [hM, hml1]
  | some a =>
    have hnw := Sg.sl_news (s := 1) hf (by decide) h
    have hr := run_append_grow (P := Try.prog) w 44 44 9 i0 _ Try.underlying44 hi hz0 a n n (L.flatMap f) (by rw [hfl, hz1]) hnw ad m c (M.flatMap f) hml hnews (by omega) (by omega) (by rw [hz2]; exact growslice_fits (by omega) (by omega))
    obtain ⟨cn, hcn, hcn2⟩ : ∃ cn, grownCap w (n + m) n 9 = cn ∧ n + m ≤ cn := ⟨_, rfl, grownCap_ge _ _ _ _⟩
    have hcm : cn ≤ maxLen := by rw [← hcn]; exact grownCap_le_maxLen _ _ _ _ (by unfold maxLen; omega)
    rw [hcn] at hr
    refine ⟨cn, _, hr, ⟨by simp [flat_len hf], .inr ⟨_, cn, _, ?_, Nat.le_refl _, heap_alloc_new w.drew _, ?_, hcm, ?_, ?_⟩⟩, (Held.refl w).drew.alloc _⟩
    · simp [hM, hn]
    · simp [hM, hn]; exact hcn2
    · simp [Builtin.zeroCells, hzs, hml1, hfl]; omega
    · simp only [Array.toList_append, List.length_append, hM, hn, List.flatMap_append]
      rw [List.take_append_of_le_length (by rw [List.length_append, hml1, hfl]; omega), List.take_of_length_le (by rw [List.length_append, hml1, hfl]; omega)]
end
end SlcLs
end Go.Proofs.Ythpjbffhdaaibaa
