/-
  Contracts of slices.Clone, slices.Delete at []api.Demand that the call itself made (printed by mkslc.py).
-/
import Derived.Test.YtmmjofdienoobaaSlG
import Derived.Test.YtmmjofdienoobaaProg
import Derived.WalkSpells
import Derived.WalkLawsBesides
import Derived.Deep.RegionHeld3
import Derived.Outline
import Derived.Lib.SliceRun
set_option linter.unusedVariables false
set_option maxRecDepth 100000
namespace Go.Proofs.Ytmmjofdienoobaa
open Go.RowKit
namespace SlcDm
theorem info : (Try.prog.info? 43).map (fun i => (i.zero, i.size, i.bytes)) = some (some (.agg #[.int .i64 0, .int .i64 0, .int .i64 0, .int .i64 0]), 4, 32) := by kernel_rfl
theorem zero (w : World) : (zeroValue 43).run Try.prog w = .ok (.agg #[.int .i64 0, .int .i64 0, .int .i64 0, .int .i64 0]) w := by kernel_rfl
theorem zcells (n : Nat) : ∀ u ∈ (Builtin.zeroCells (Value.cells (.agg #[.int .i64 0, .int .i64 0, .int .i64 0, .int .i64 0])) n).toList, u.oneCell' = true := by
  intro u hu
  simp only [Builtin.zeroCells, Array.toList_map, List.mem_map] at hu
  obtain ⟨i, _, rfl⟩ := hu
  have hs : (Value.cells (.agg #[.int .i64 0, .int .i64 0, .int .i64 0, .int .i64 0])).size = 4 := rfl
  rw [hs]
  have hm : i % 4 < 4 := Nat.mod_lt _ (by decide)
  generalize i % 4 = k at hm
  match k, hm with
  | 0, _ => rfl
  | 1, _ => rfl
  | 2, _ => rfl
  | 3, _ => rfl
  | k + 4, h => omega
section
variable {α : Type} {f : α → List Value}
theorem delete_any (hf : ∀ x, (f x).length = 4) (hf1 : ∀ x, ∀ u ∈ f x, u.oneCell' = true) (base : Nat) (v : Value) (L : List α) (i j : Nat) (w : World) (h : Own 43 4 f base w v L) (hij : i < j) (hj : j ≤ L.length) (hmax : (L.length : Int) ≤ 1099511627776) :
    Calls Try.prog 32 #[v, .int .i64 i, .int .i64 j] w (Sg.Got 43 4 f base v (L.take i ++ L.drop j) w) := by
  obtain ⟨i0, hi0, hz0, hz1, hz2⟩ := info_parts info
  obtain ⟨A, cap, rfl⟩ : ∃ A cap, v = .slice A L.length cap := by obtain ⟨A, cap, hv, _⟩ := h.shape; exact ⟨A, cap, hv⟩
  obtain ⟨g, C, rfl, hb, hrow, hlen, htake, _, hcap, hm⟩ := Sg.own_row hf h (by omega)
  obtain ⟨n, hn⟩ : ∃ n, L.length = n := ⟨_, rfl⟩
  rw [hn] at h htake hcap hj hmax ⊢
  have hfl : (L.flatMap f).length = n * 4 := by rw [flat_len hf, hn]
  have hcs : n * 4 ≤ C.length := by rw [hlen]; exact Nat.mul_le_mul_right _ hcap
  -- what is moved
  obtain ⟨news, hnews⟩ : ∃ news, news = (L.flatMap f).drop (j * 4) := ⟨_, rfl⟩
  have hnl : news.length = (n - j) * 4 := by rw [hnews, List.length_drop, hfl]; omega
  have hn1 : ∀ u ∈ news, u.oneCell' = true := by
    intro u hu
    rw [hnews] at hu
    have := List.mem_of_mem_drop hu
    rw [List.mem_flatMap] at this
    obtain ⟨x, _, hx⟩ := this
    exact hf1 x u hx
  have hnC : news = (C.drop (j * 4)).take ((n - j) * 4) := by
    rw [hnews, ← htake, List.drop_take]; congr 1; omega
  obtain ⟨A2, hA2, hnw⟩ : ∃ A2 : Addr, (if cap = j then (⟨g, 0, none⟩ : Addr) else ⟨g, j * 4, none⟩) = A2 ∧ ∀ k u, news[k]? = some u → w.drew.cell? (A2.add k) = some u := by
    by_cases hcj : cap = j
    · refine ⟨_, if_pos hcj, fun k u hk => ?_⟩
      have : news.length = 0 := by rw [hnl]; omega
      rw [List.eq_nil_of_length_eq_zero this] at hk; cases hk
    · refine ⟨_, if_neg hcj, fun k u hk => ?_⟩
      rw [hnC] at hk
      exact Sg.news_at hrow.drew _ _ k u hk
  obtain ⟨w1, hr1, hrow1⟩ := Sg.app_room (P := Try.prog) (ty := 25) Try.underlying25 hi0 hz1 hrow.drew i cap A2 (n - j) (cap - j) news hnl hnw hn1 (by omega) (by rw [hnl, ← Nat.add_mul]; exact Nat.le_trans (Nat.mul_le_mul_right _ (by omega)) hcs)
  have hl1 : (Sg.lay C (i * 4) news).length = C.length := Sg.lay_len (by rw [hnl, ← Nat.add_mul]; exact Nat.le_trans (Nat.mul_le_mul_right _ (by omega)) hcs)
  have hzs : (Value.cells (.agg #[.int .i64 0, .int .i64 0, .int .i64 0, .int .i64 0])).size = 4 := rfl
  obtain ⟨w2, hr2, hrow2⟩ := Sg.clear_row (P := Try.prog) (t := 25) (ty := 0) Try.underlying25 zero (zcells 1) hrow1 ((i + (n - j)) * 4) (n - (i + (n - j))) (cap - (i + (n - j))) (by omega) (zcells _) (by rw [hl1, hzs, ← Nat.add_mul]; exact Nat.le_trans (Nat.mul_le_mul_right _ (by omega)) hcs)
  have hfin : Hid (Sg.Got 43 4 f base (.slice (some ⟨g, 0, none⟩) n cap) (L.take i ++ L.drop j) w (.returned (.slice (some ⟨g, 0, none⟩) (i + (n - j)) cap)) w2) := by
    refine Sg.Got.mk (Sg.row_own hf hrow2 hb ?_ ?_ (by omega) hm ?_) hrow2.grown (.inl rfl)
    · rw [Sg.lay_len (by simp only [Builtin.zeroCells, Array.toList_map, List.length_map]; rw [hl1]; simp [hzs]; rw [← Nat.add_mul]; exact Nat.le_trans (Nat.mul_le_mul_right _ (by omega)) hcs), hl1, hlen]
    · rw [List.length_append, List.length_take, List.length_drop]; omega
    · rw [Sg.lay_low (by rw [hl1]; exact Nat.le_trans (Nat.mul_le_mul_right _ (by omega)) hcs) (Nat.le_refl _)]
      have e1 : (i + (n - j)) * 4 = i * 4 + news.length := by rw [hnl, Nat.add_mul]
      rw [e1, Sg.lay_take (Nat.le_trans (Nat.mul_le_mul_right _ (by omega)) hcs), List.flatMap_append, Sg.flat_take hf L i (by omega), Sg.flat_drop hf L j (by omega), hnews, ← htake, List.take_take, Nat.min_eq_left (Nat.mul_le_mul_right _ (by omega))]
  have hsl : ∀ w', (Instr.slice 25 (.slice (some ⟨g, 0, none⟩) n cap) (some (.int .i64 j)) none none).run Try.prog w' = .ok (.slice (some A2) (n - j) (cap - j)) w' := by
    intro w'
    have := Sg.slice_from (P := Try.prog) Try.underlying25 hi0 hz1 g 0 n cap j hj hcap w'
    rw [Nat.zero_add, hA2] at this
    exact this
  clear hA2
  have b1 : (i : Int) ≤ j := by omega
  have b2 : (j : Int) ≤ n := by omega
  have b3 : (n : Int) ≤ cap := by omega
  have b4 : (cap : Int) ≤ 9223372036854775807 := by unfold maxLen at hm; omega
  have b9 : (i : Int) ≤ cap := by omega
  have b10 : (0 : Int) ≤ i := by omega
  have b5 : ((i : Int) == j) = false := by simp; omega
  have b6 : ¬ (i : Int) = j := by omega
  have b7 : ¬ cap = i + (n - j) := by omega
  have b8 : ((i + (n - j) : Nat) : Int) ≤ n := by omega
  clear hrow hrow1 hrow2 hlen htake hcap hm hfl hcs hnl hn1 hnC hnw hl1 hzs h hi0 hz0 hz1 hz2 hnews
  go_enter Try.func32, Try.ntmps32
  go_wp2
  go_region_held3 (fun _ => True) (trivial) (refine Sg.step_append (by rfl) _ _ _ _ 25 (by rfl) (by rfl) (by rfl) (by rfl) hr1 ?_)
  go_wp2
  go_ret
  exact hfin.out
theorem clone_any (hf : ∀ x, (f x).length = 4) (hf1 : ∀ x, ∀ u ∈ f x, u.oneCell' = true) (A : Option Addr) (n cap : Nat) (L : List α) (w : World) (h : Sl 4 f w A n L) (hn : A = none → n = 0) (hmax : n ≤ 1099511627776) :
    Calls Try.prog 33 #[.slice A n cap] w (Sg.New 43 4 f L w) := by
  have hlen := h.1
  have q := fun (w : World) (a : Option Addr) (n c n' c' : Nat) => Lib.run_eql_slice_nil (P := Try.prog) w 25 43 a n c n' c' Try.underlying25
  cases A with
  | none =>
    have h0 := hn rfl
    have hL : L = [] := List.eq_nil_of_length_eq_zero (by rw [hlen, h0])
    subst hL h0
    have hfin : Hid (Sg.New 43 4 f ([] : List α) w (.returned (.slice none 0 0)) w) := Sg.New.mk (Own.nil w) (Held.refl w)
    clear h hlen hn
    go_enter Try.func33, Try.ntmps33
    go_wp2
    go_ret
    exact hfin.out
  | some ad =>
    have hnw := Sg.sl_news (s := 4) hf (by decide) (h.held (((Held.refl w).alloc (.cells #[] 43))))
    have HN := Lib.hid hnw
    have HL := Lib.hid hlen
    clear h hlen hn hnw
    go_enter Try.func33, Try.ntmps33
    go_wp2_with (at_builtin; refine Own.apps _ rfl _ _ _ rfl _ 32 Try.underlying25 info rfl (by decide) hf hf1 w ((Held.refl w).alloc _) (.slice (some ⟨w.heap.size, 0, none⟩) 0 0) ([] : List α) L ad n _ rfl (Own.empty (Nat.le_refl _)) rfl HL.out HN.out (by simp; omega) (by decide) ?_; intro v1 w1 hown1 hheld1 _)
    go_ret
    exact Sg.New.mk hown1 hheld1
end
end SlcDm
end Go.Proofs.Ytmmjofdienoobaa
