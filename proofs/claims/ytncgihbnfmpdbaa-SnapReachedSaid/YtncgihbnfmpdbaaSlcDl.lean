/-
  Contracts of slices.Clone, slices.Delete, slices.Insert at []api.Delta that the call itself made (printed by mkslc.py).
-/
import Derived.Test.YtncgihbnfmpdbaaSlG
import Derived.Test.YtncgihbnfmpdbaaProg
import Derived.WalkSpells
import Derived.WalkLawsBesides
import Derived.Deep.RegionHeld3
import Derived.Outline
import Derived.Lib.SliceRun
set_option linter.unusedVariables false
set_option maxRecDepth 100000
namespace Go.Proofs.Ytncgihbnfmpdbaa
open Go.RowKit
namespace SlcDl
theorem info : (Try.prog.info? 38).map (fun i => (i.zero, i.size, i.bytes)) = some (some (.agg #[.int .i64 0, .string ⟨#[]⟩]), 2, 24) := by kernel_rfl
theorem zero (w : World) : (zeroValue 38).run Try.prog w = .ok (.agg #[.int .i64 0, .string ⟨#[]⟩]) w := by kernel_rfl
theorem zcells (n : Nat) : ∀ u ∈ (Builtin.zeroCells (Value.cells (.agg #[.int .i64 0, .string ⟨#[]⟩])) n).toList, u.oneCell' = true := by
  intro u hu
  simp only [Builtin.zeroCells, Array.toList_map, List.mem_map] at hu
  obtain ⟨i, _, rfl⟩ := hu
  have hs : (Value.cells (.agg #[.int .i64 0, .string ⟨#[]⟩])).size = 2 := rfl
  rw [hs]
  have hm : i % 2 < 2 := Nat.mod_lt _ (by decide)
  generalize i % 2 = k at hm
  match k, hm with
  | 0, _ => rfl
  | 1, _ => rfl
  | k + 2, h => omega
section
variable {α : Type} {f : α → List Value}
theorem delete_any (hf : ∀ x, (f x).length = 2) (hf1 : ∀ x, ∀ u ∈ f x, u.oneCell' = true) (base : Nat) (v : Value) (L : List α) (i j : Nat) (w : World) (h : Own 38 2 f base w v L) (hij : i < j) (hj : j ≤ L.length) (hmax : (L.length : Int) ≤ 1099511627776) :
    Calls Try.prog 40 #[v, .int .i64 i, .int .i64 j] w (Sg.Got 38 2 f base v (L.take i ++ L.drop j) w) := by
  obtain ⟨i0, hi0, hz0, hz1, hz2⟩ := info_parts info
  obtain ⟨A, cap, rfl⟩ : ∃ A cap, v = .slice A L.length cap := by obtain ⟨A, cap, hv, _⟩ := h.shape; exact ⟨A, cap, hv⟩
  obtain ⟨g, C, rfl, hb, hrow, hlen, htake, _, hcap, hm⟩ := Sg.own_row hf h (by omega)
  obtain ⟨n, hn⟩ : ∃ n, L.length = n := ⟨_, rfl⟩
  rw [hn] at h htake hcap hj hmax ⊢
  have hfl : (L.flatMap f).length = n * 2 := by rw [flat_len hf, hn]
  have hcs : n * 2 ≤ C.length := by rw [hlen]; exact Nat.mul_le_mul_right _ hcap
  -- what is moved
  obtain ⟨news, hnews⟩ : ∃ news, news = (L.flatMap f).drop (j * 2) := ⟨_, rfl⟩
  have hnl : news.length = (n - j) * 2 := by rw [hnews, List.length_drop, hfl]; omega
  have hn1 : ∀ u ∈ news, u.oneCell' = true := by
    intro u hu
    rw [hnews] at hu
    have := List.mem_of_mem_drop hu
    rw [List.mem_flatMap] at this
    obtain ⟨x, _, hx⟩ := this
    exact hf1 x u hx
  have hnC : news = (C.drop (j * 2)).take ((n - j) * 2) := by
    rw [hnews, ← htake, List.drop_take]; congr 1; omega
  obtain ⟨A2, hA2, hnw⟩ : ∃ A2 : Addr, (if cap = j then (⟨g, 0, none⟩ : Addr) else ⟨g, j * 2, none⟩) = A2 ∧ ∀ k u, news[k]? = some u → w.drew.cell? (A2.add k) = some u := by
    by_cases hcj : cap = j
    · refine ⟨_, if_pos hcj, fun k u hk => ?_⟩
      have : news.length = 0 := by rw [hnl]; omega
      rw [List.eq_nil_of_length_eq_zero this] at hk; cases hk
    · refine ⟨_, if_neg hcj, fun k u hk => ?_⟩
      rw [hnC] at hk
      exact Sg.news_at hrow.drew _ _ k u hk
  obtain ⟨w1, hr1, hrow1⟩ := Sg.app_room (P := Try.prog) (ty := 34) Try.underlying34 hi0 hz1 hrow.drew i cap A2 (n - j) (cap - j) news hnl hnw hn1 (by omega) (by rw [hnl, ← Nat.add_mul]; exact Nat.le_trans (Nat.mul_le_mul_right _ (by omega)) hcs)
  have hl1 : (Sg.lay C (i * 2) news).length = C.length := Sg.lay_len (by rw [hnl, ← Nat.add_mul]; exact Nat.le_trans (Nat.mul_le_mul_right _ (by omega)) hcs)
  have hzs : (Value.cells (.agg #[.int .i64 0, .string ⟨#[]⟩])).size = 2 := rfl
  obtain ⟨w2, hr2, hrow2⟩ := Sg.clear_row (P := Try.prog) (t := 34) (ty := 0) Try.underlying34 zero (zcells 1) hrow1 ((i + (n - j)) * 2) (n - (i + (n - j))) (cap - (i + (n - j))) (by omega) (zcells _) (by rw [hl1, hzs, ← Nat.add_mul]; exact Nat.le_trans (Nat.mul_le_mul_right _ (by omega)) hcs)
  have hfin : Hid (Sg.Got 38 2 f base (.slice (some ⟨g, 0, none⟩) n cap) (L.take i ++ L.drop j) w (.returned (.slice (some ⟨g, 0, none⟩) (i + (n - j)) cap)) w2) := by
    refine Sg.Got.mk (Sg.row_own hf hrow2 hb ?_ ?_ (by omega) hm ?_) hrow2.grown (.inl rfl)
    · rw [Sg.lay_len (by simp only [Builtin.zeroCells, Array.toList_map, List.length_map]; rw [hl1]; simp [hzs]; first | (rw [← Nat.add_mul]; exact Nat.le_trans (Nat.mul_le_mul_right _ (by omega)) hcs) | omega), hl1, hlen]
    · rw [List.length_append, List.length_take, List.length_drop]; omega
    · rw [Sg.lay_low (by rw [hl1]; exact Nat.le_trans (Nat.mul_le_mul_right _ (by omega)) hcs) (Nat.le_refl _)]
      have e1 : (i + (n - j)) * 2 = i * 2 + news.length := by rw [hnl, Nat.add_mul]
      rw [e1, Sg.lay_take (Nat.le_trans (Nat.mul_le_mul_right _ (by omega)) hcs), List.flatMap_append, Sg.flat_take hf L i (by omega), Sg.flat_drop hf L j (by omega), hnews, ← htake, List.take_take, Nat.min_eq_left (Nat.mul_le_mul_right _ (by omega))]
  have hsl : ∀ w', (Instr.slice 34 (.slice (some ⟨g, 0, none⟩) n cap) (some (.int .i64 j)) none none).run Try.prog w' = .ok (.slice (some A2) (n - j) (cap - j)) w' := by
    intro w'
    have := Sg.slice_from (P := Try.prog) Try.underlying34 hi0 hz1 g 0 n cap j hj hcap w'
    rw [Nat.zero_add, hA2] at this
    exact this
  clear hA2
  have b1 : (i : Int) ≤ j := by omega
  have b2 : (j : Int) ≤ n := by omega
  have b3 : (n : Int) ≤ cap := by omega
  have b4 : (cap : Int) ≤ 9223372036854775807 := by unfold maxLen at hm; omega
  have b9 : (i : Int) ≤ cap := by omega
  have b10 : (0 : Int) ≤ i := by omega
  have b5 : ((i : Int) == j) = false := by simp; omega
  have b6 : ¬ (i : Int) = j := by omega
  have b7 : ¬ cap = i + (n - j) := by omega
  have b8 : ((i + (n - j) : Nat) : Int) ≤ n := by omega
  clear hrow hrow1 hrow2 hlen htake hcap hm hfl hcs hnl hn1 hnC hnw hl1 hzs h hi0 hz0 hz1 hz2 hnews
  go_enter Try.func40, Try.ntmps40
  go_wp2
  go_region_held3 (fun _ => True) (trivial) (refine Sg.step_append (by rfl) _ _ _ _ 34 (by rfl) (by rfl) (by rfl) (by rfl) hr1 ?_)
  go_wp2
  go_ret
  exact hfin.out
theorem clone_any (hf : ∀ x, (f x).length = 2) (hf1 : ∀ x, ∀ u ∈ f x, u.oneCell' = true) (A : Option Addr) (n cap : Nat) (L : List α) (w : World) (h : Sl 2 f w A n L) (hn : A = none → n = 0) (hmax : n ≤ 1099511627776) :
    Calls Try.prog 53 #[.slice A n cap] w (Sg.New 38 2 f L w) := by
  have hlen := h.1
  have q := fun (w : World) (a : Option Addr) (n c n' c' : Nat) => Lib.run_eql_slice_nil (P := Try.prog) w 34 38 a n c n' c' Try.underlying34
  cases A with
  | none =>
    have h0 := hn rfl
    have hL : L = [] := List.eq_nil_of_length_eq_zero (by rw [hlen, h0])
    subst hL h0
    have hfin : Hid (Sg.New 38 2 f ([] : List α) w (.returned (.slice none 0 0)) w) := Sg.New.mk (Own.nil w) (Held.refl w)
    clear h hlen hn
    go_enter Try.func53, Try.ntmps53
    go_wp2
    go_ret
    exact hfin.out
  | some ad =>
    have hnw := Sg.sl_news (s := 2) hf (by decide) (h.held (((Held.refl w).alloc (.cells #[] 38))))
    have HN := Lib.hid hnw
    have HL := Lib.hid hlen
    clear h hlen hn hnw
    go_enter Try.func53, Try.ntmps53
    go_wp2_with (at_builtin; refine Own.apps _ rfl _ _ _ rfl _ 24 Try.underlying34 info rfl (by decide) hf hf1 w ((Held.refl w).alloc _) (.slice (some ⟨w.heap.size, 0, none⟩) 0 0) ([] : List α) L ad n _ rfl (Own.empty (Nat.le_refl _)) rfl HL.out HN.out (by simp; omega) (by decide) ?_; intro v1 w1 hown1 hheld1 _)
    go_ret
    exact Sg.New.mk hown1 hheld1
set_option maxHeartbeats 4000000 in
theorem insert_any (hf : ∀ x, (f x).length = 2) (hf1 : ∀ x, ∀ u ∈ f x, u.oneCell' = true) (base : Nat) (v : Value) (L : List α) (i : Nat) (x : α) (w : World) (h : Own 38 2 f base w v L) (hi : i ≤ L.length) (hmax : (L.length : Int) ≤ 1099511627776) (hbase : base ≤ w.heap.size)
    (gx : Nat) (hx : w.heap[gx]? = some (.cells (f x).toArray 38 (0, 0))) (hgx : v.ownBlock ≠ some gx) :
    Calls Try.prog 41 #[v, .int .i64 i, .slice (some ⟨gx, 0, none⟩) 1 1] w (Sg.Got 38 2 f base v (L.take i ++ [x] ++ L.drop i) w) := by
  obtain ⟨i0, hi0, hz0, hz1, hz2⟩ := info_parts info
  obtain ⟨A, cap, rfl, hncap, hmcap⟩ := h.shape
  obtain ⟨n, hn⟩ : ∃ n, L.length = n := ⟨_, rfl⟩
  rw [hn] at h hi hmax hncap ⊢
  have hxr : Sg.Row 38 w gx (f x) w := Sg.Row.start hx
  have hxn : ∀ j u, (f x)[j]? = some u → w.cell? ((⟨gx, 0, none⟩ : Addr).add j) = some u := by
    intro j u hu
    rw [Sg.addr_at, Nat.zero_add, hxr.cell]; exact hu
  by_cases hin : i = n
  · -- behind the last
    have hL : L.take i ++ [x] ++ L.drop i = L ++ [x] := by
      subst hin
      rw [← hn, List.take_length, List.drop_length, List.append_nil]
    rw [hL]
    have hrun := run_append_lies (P := Try.prog) w 34 34 base 38 i0 (.agg #[.int .i64 0, .string ⟨#[]⟩]) 2 24 Try.underlying34 hi0 hz0 hz1 hz2 rfl (by decide) (.slice A n cap) n (L.flatMap f) (hn ▸ h) ⟨gx, 0, none⟩ 1 1 (f x) (by rw [hf]) hxn (hf1 x) (by decide) (by unfold maxLen; omega) (by omega) hbase w.heap.size rfl
    obtain ⟨g, cap2, w1, hr1, hown1, hg1, hat1, hlt1⟩ := hrun
    have hfin : Hid (Sg.Got 38 2 f base (.slice A n cap) (L ++ [x]) w (.returned (.slice (some ⟨g, 0, none⟩) (n + 1) cap2)) w1) := by
      refine Sg.Got.mk ?_ hg1 ?_
      · unfold Own
        rw [List.flatMap_append, List.flatMap_singleton, List.length_append, List.length_singleton, hn]
        exact hown1
      · rcases hat1 with h1 | h1
        · exact .inl h1.symm
        · exact .inr ⟨g, rfl, by omega⟩
    have b1 : (n : Int) ≤ cap := by omega
    have b2 : (cap : Int) ≤ 9223372036854775807 := by unfold maxLen at hmcap; omega
    subst hin
    clear hL hn hown1 hg1 hat1 hlt1 h hx hxr hxn hgx hi0 hz0 hz1 hz2
    by_cases hic : cap = i
    · subst hic
      go_enter Try.func41, Try.ntmps41
      go_wp2_with (refine Sg.list_append rfl _ _ _ _ 34 rfl rfl rfl rfl hr1 ?_)
      go_ret
      exact hfin.out
    · go_enter Try.func41, Try.ntmps41
      go_wp2_with (refine Sg.list_append rfl _ _ _ _ 34 rfl rfl rfl rfl hr1 ?_)
      go_ret
      exact hfin.out
  · -- in the midst
    obtain ⟨g, C, rfl, hb, hrow, hlen, htake, _, hcap, hm⟩ := Sg.own_row hf (hn ▸ h) (by omega)
    have hne : gx ≠ g := fun e => hgx (by rw [e]; rfl)
    have hfl : (L.flatMap f).length = n * 2 := by rw [flat_len hf, hn]
    have hcs : n * 2 ≤ C.length := by rw [hlen]; exact Nat.mul_le_mul_right _ hncap
    have hin' : i < n := by omega
    obtain ⟨news, hnews⟩ : ∃ news, news = (C.drop (i * 2)).take ((n - i) * 2) := ⟨_, rfl⟩
    have hnX : news = (L.flatMap f).drop (i * 2) := by
      rw [hnews, ← htake, List.drop_take]; congr 1; omega
    have hnl : news.length = (n - i) * 2 := by rw [hnX, List.length_drop, hfl]; omega
    have hn1 : ∀ u ∈ news, u.oneCell' = true := by
      intro u hu
      rw [hnX] at hu
      have := List.mem_of_mem_drop hu
      rw [List.mem_flatMap] at this
      obtain ⟨y, _, hy⟩ := this
      exact hf1 y u hy
    have hXi : C.take (i * 2) = (L.take i).flatMap f := by
      rw [Sg.flat_take hf L i (by omega), ← htake, List.take_take, Nat.min_eq_left (Nat.mul_le_mul_right _ (by omega))]
    have b1 : (n : Int) ≤ cap := by omega
    have b2 : (cap : Int) ≤ 9223372036854775807 := by unfold maxLen at hmcap; omega
    have b3 : (i : Int) < n := by omega
    have b4 : ¬ (i : Int) = n := by omega
    have b5 : ((i : Int) == n) = false := by simp; omega
    have b6 : ¬ cap = i := by omega
    by_cases hroom : n + 1 ≤ cap
    · have hc2 : (n + 1) * 2 ≤ C.length := by rw [hlen]; exact Nat.mul_le_mul_right _ hroom
      obtain ⟨w1, hr1, hrow1⟩ := Sg.copy_row (P := Try.prog) (t := 34) (t' := 34) (ty := 3) Try.underlying34 hi0 hz1 hrow.drew ((i + 1) * 2) (n - i) (cap - (i + 1)) ⟨g, i * 2, none⟩ (n + 1 - i) (cap - i) (n - i) (by omega) news hnl
        (by rw [hnews]; exact Sg.news_at hrow.drew _ _) hn1 (by rw [hnl, ← Nat.add_mul]; exact Nat.le_trans (Nat.mul_le_mul_right _ (by omega)) hc2)
      have hl1 : (Sg.lay C ((i + 1) * 2) news).length = C.length := Sg.lay_len (by rw [hnl, ← Nat.add_mul]; exact Nat.le_trans (Nat.mul_le_mul_right _ (by omega)) hc2)
      have hxw1 : ∀ j u, (f x)[j]? = some u → w1.cell? ((⟨gx, 0, none⟩ : Addr).add j) = some u := by
        intro j u hu
        rw [Sg.addr_at, Nat.zero_add, World.cell?_of_block (hrow1.rest gx hxr.lt hne)]
        rw [hxr.cell]; exact hu
      have hfx : (f x).length = 1 * 2 := by rw [hf, Nat.one_mul]
      obtain ⟨w2, hr2, hrow2⟩ := Sg.copy_row (P := Try.prog) (t := 34) (t' := 34) (ty := 3) Try.underlying34 hi0 hz1 hrow1 (i * 2) (n + 1 - i) (cap - i) ⟨gx, 0, none⟩ 1 1 1 (by omega) (f x) hfx hxw1 (hf1 x) (by rw [hl1, hfx, ← Nat.add_mul]; exact Nat.le_trans (Nat.mul_le_mul_right _ (by omega)) hc2)
      have hfin : Hid (Sg.Got 38 2 f base (.slice (some ⟨g, 0, none⟩) n cap) (L.take i ++ [x] ++ L.drop i) w (.returned (.slice (some ⟨g, 0, none⟩) (n + 1) cap)) w2) := by
        refine Sg.Got.mk (Sg.row_own hf hrow2 hb ?_ ?_ hroom hm ?_) hrow2.grown (.inl rfl)
        · rw [Sg.lay_len (by rw [hl1, hfx, ← Nat.add_mul]; exact Nat.le_trans (Nat.mul_le_mul_right _ (by omega)) hc2), hl1, hlen]
        · simp only [List.length_append, List.length_take, List.length_drop, List.length_singleton]; omega
        · have hi2 : i * 2 ≤ C.length := Nat.le_trans (Nat.mul_le_mul_right _ (by omega)) hc2
          have hi3 : (i + 1) * 2 ≤ C.length := Nat.le_trans (Nat.mul_le_mul_right _ (by omega)) hc2
          rw [Sg.shift_take hi2 (by rw [hf, Nat.add_mul, Nat.one_mul]) hi3 (by rw [hnl, ← Nat.add_mul]; congr 1; omega), hXi, hnX, ← Sg.flat_drop hf L i (by omega), List.flatMap_append, List.flatMap_append, List.flatMap_singleton]
      have hov : ∀ lb cb, (callFunc 54 #[.slice (some ⟨gx, 0, none⟩) 1 1, .slice (some ⟨g, (i + 1) * 2, none⟩) lb cb]).run Try.prog w = .ok (.value (.bool false)) w := fun lb cb => by
        rw [run_callFunc_extern Try.func54 (by kernel_rfl) (by kernel_rfl) (by kernel_rfl) (e := Extern.SlicesOverlaps.overlaps #[34, 34] #[4]) (by kernel_rfl),
          Lib.run_overlaps_apart w 34 4 38 Try.underlying34 2 (fun w => by simp [sizeOf, typeInfo, hi0, hz1]) ⟨gx, 0, none⟩ ⟨g, (i + 1) * 2, none⟩ 1 1 lb cb hne 38 38 2 C.length
            (by simp [World.shape?, hx, hf]) (by simp [World.shape?, hrow.blk]) (by omega) (by simp [World.frozen?, hx]) (by simp [World.frozen?, hx])]
        rfl
      have b7 : (n : Int) + 1 ≤ cap := by omega
      have b8 : ¬ (cap : Int) < (n : Int) + 1 := by omega
      have b9 : IntKind.i64.wrap ((i : Int) + 1) = (i : Int) + 1 := IntWalk.i64_in _ (by omega)
      have b10 : (0 : Int) ≤ (i : Int) + 1 := by omega
      have b11 : ((i : Int) + 1).toNat = i + 1 := by omega
      have b12 : ¬ cap = i + 1 := by omega
      have b13 : (i : Int) ≤ (n : Int) + 1 := by omega
      have b14 : (i : Int) + 1 ≤ (n : Int) + 1 := by omega
      clear hrow hrow1 hrow2 hlen htake hcap hm hfl hcs hnl hn1 hl1 h hi0 hz0 hz1 hz2 hnews hnX hXi hc2 hxr hxn hx hgx hxw1 hfx hin
      go_enter Try.func41, Try.ntmps41
      go_wp2_with (simp only [hov])
      go_region_held3 (fun _ => True) (trivial) (refine Sg.step_copy (by rfl) _ _ _ _ 3 (by rfl) (by rfl) (by rfl) (by rfl) hr1 ?_)
      go_wp2_with (refine Sg.list_copy rfl _ _ _ _ 3 rfl rfl rfl rfl hr2 ?_)
      go_ret
      exact hfin.out
    · obtain ⟨k, hk⟩ : ∃ k, k = n + 1 - i := ⟨_, rfl⟩
      have hik : i + k = n + 1 := by omega
      have holds : (Builtin.firstCells i0.size i (.slice (some ⟨g, 0, none⟩) i cap)).run Try.prog w.drew = .ok (C.take (i * 2)).toArray w.drew := by
        have h0 : (C.take (i * 2)).length = i * i0.size := by rw [hz1, List.length_take]; exact Nat.min_eq_left (Nat.le_trans (Nat.mul_le_mul_right _ (by omega)) hcs)
        refine run_firstCells_some w.drew i0.size i ⟨g, 0, none⟩ i cap _ h0 (fun j u hu => ?_)
        have := Sg.news_at hrow.drew 0 (i * 2) j u (by simpa using hu)
        exact this
      have hrz := Lib.run_append_grow_zeros (P := Try.prog) w 34 3 34 38 i0 (.agg #[.int .i64 0, .string ⟨#[]⟩]) .i64 .i64 Try.underlying34 Try.underlying3 hi0 hz0 (some ⟨g, 0, none⟩) i cap (C.take (i * 2)) holds k (by omega) (by rw [hz1]; decide) (by omega) (by omega) (by rw [hz2]; omega) (by rw [hz2]; exact growslice_fits (by omega) (by omega))
      rw [hik] at hrz
      obtain ⟨cn, hcn, hcn2⟩ : ∃ cn, grownCap w (n + 1) cap 38 = cn ∧ n + 1 ≤ cn := ⟨_, rfl, grownCap_ge _ _ _ _⟩
      have hcm : cn ≤ maxLen := by rw [← hcn]; exact grownCap_le_maxLen _ _ _ _ (by unfold maxLen; omega)
      rw [hcn] at hrz
      obtain ⟨cur, hcur⟩ : ∃ cur, cur = (C.take (i * 2)).toArray ++ Builtin.zeroCells (Value.cells (.agg #[.int .i64 0, .string ⟨#[]⟩])) k ++ Builtin.zeroCells (Value.cells (.agg #[.int .i64 0, .string ⟨#[]⟩])) (cn - (n + 1)) := ⟨_, rfl⟩
      rw [← hcur] at hrz
      have hcl : cur.toList.length = cn * 2 := by
        have hzs : (Value.cells (.agg #[.int .i64 0, .string ⟨#[]⟩])).size = 2 := rfl
        rw [hcur]
        simp only [Array.toList_append, List.length_append, Array.length_toList, Builtin.zeroCells, Array.size_map, Array.size_range, hzs, List.length_take]
        rw [Nat.min_eq_left (Nat.le_trans (Nat.mul_le_mul_right _ (by omega)) hcs), ← Nat.add_mul, ← Nat.add_mul]
        congr 1; omega
      have hct : cur.toList.take (i * 2) = C.take (i * 2) := by
        have h0 : (C.take (i * 2)).length = i * 2 := by rw [List.length_take]; exact Nat.min_eq_left (Nat.le_trans (Nat.mul_le_mul_right _ (by omega)) hcs)
        rw [hcur]
        simp only [Array.toList_append, List.append_assoc]
        rw [List.take_append_of_le_length (by omega), List.take_of_length_le (by omega)]
      obtain ⟨w1, hw1⟩ : ∃ w1, w1 = w.drew.alloc (.cells cur 38) := ⟨_, rfl⟩
      rw [← hw1] at hrz
      have hheld : Held w w1 := by rw [hw1]; exact (Held.refl w).drew.alloc _
      have hrow0 : Sg.Row 38 w1 w.heap.size cur.toList w1 := Sg.Row.start (by rw [hw1]; exact heap_alloc_new w.drew _)
      clear hw1 hcur hcn holds
      have hgn : g < w.heap.size := hrow.lt
      have hxn0 : gx < w.heap.size := hxr.lt
      have hfx : (f x).length = 1 * 2 := by rw [hf, Nat.one_mul]
      have hcap1 : (i + 1) * 2 ≤ cur.toList.length := by rw [hcl]; exact Nat.mul_le_mul_right _ (by omega)
      have hi2 : i * 2 + (f x).length ≤ cur.toList.length := by rw [hfx, ← Nat.add_mul]; exact hcap1
      have hxw1 : ∀ j u, (f x)[j]? = some u → w1.cell? ((⟨gx, 0, none⟩ : Addr).add j) = some u := fun j u hu => hheld.cell (hxn j u hu)
      obtain ⟨w2, hr1, hrow1⟩ := Sg.copy_row (P := Try.prog) (t := 34) (t' := 34) (ty := 3) Try.underlying34 hi0 hz1 hrow0 (i * 2) (n + 1 - i) (cn - i) ⟨gx, 0, none⟩ 1 1 1 (by omega) (f x) hfx hxw1 (hf1 x) hi2
      have hnw2 : ∀ j u, news[j]? = some u → w2.drew.cell? ((⟨g, i * 2, none⟩ : Addr).add j) = some u := by
        intro j u hu
        rw [hnews] at hu
        have h1 := hheld.cell (Sg.news_at hrow (i * 2) ((n - i) * 2) j u hu)
        rw [Sg.addr_at] at h1 ⊢
        show w2.cell? _ = _
        rw [World.cell?_of_block (hrow1.rest g (Nat.lt_of_lt_of_le hgn hheld.le) (by show g ≠ _; omega))]
        exact h1
      have hl1 : (Sg.lay cur.toList (i * 2) (f x)).length = cur.toList.length := Sg.lay_len hi2
      obtain ⟨w3, hr2, hrow2⟩ := Sg.copy_row (P := Try.prog) (t := 34) (t' := 34) (ty := 3) Try.underlying34 hi0 hz1 hrow1.drew ((i + 1) * 2) (n - i) (cn - (i + 1)) ⟨g, i * 2, none⟩ (n - i) (cap - i) (n - i) (by omega) news hnl hnw2 hn1 (by rw [hl1, hnl, ← Nat.add_mul, hcl]; exact Nat.mul_le_mul_right _ (by omega))
      have hfin : Hid (Sg.Got 38 2 f base (.slice (some ⟨g, 0, none⟩) n cap) (L.take i ++ [x] ++ L.drop i) w (.returned (.slice (some ⟨w.heap.size, 0, none⟩) (n + 1) cn)) w3) := by
        refine Sg.Got.mk (Sg.row_own hf hrow2 hbase ?_ ?_ hcn2 hcm ?_) ?_ (.inr ⟨_, rfl, Nat.le_refl _⟩)
        · rw [Sg.lay_len (by rw [hl1, hnl, ← Nat.add_mul, hcl]; exact Nat.mul_le_mul_right _ (by omega)), hl1, hcl]
        · simp only [List.length_append, List.length_take, List.length_drop, List.length_singleton]; omega
        · rw [Sg.fill_take (Nat.le_trans (Nat.mul_le_mul_right _ (by omega)) hcap1) (by rw [hf, Nat.add_mul, Nat.one_mul]) hi2 (by rw [hnl, ← Nat.add_mul]; congr 1; omega), hct, hXi, hnX, ← Sg.flat_drop hf L i (by omega), List.flatMap_append, List.flatMap_append, List.flatMap_singleton]
        · refine ⟨hrow2.os.trans hheld.os, hrow2.tape.trans hheld.tape, hrow2.output.trans hheld.output, Nat.le_trans hheld.le hrow2.size, fun q hq _ => ?_⟩
          rw [hrow2.rest q (Nat.lt_of_lt_of_le hq hheld.le) (by omega)]
          exact hheld.block q hq
      have b7 : (cap : Int) < (n : Int) + 1 := by omega
      have b8 : IntKind.i64.wrap ((i : Int) + 1) = (i : Int) + 1 := IntWalk.i64_in _ (by omega)
      have b9 : (n : Int) + 1 - i = k := by omega
      have b10 : (0 : Int) ≤ (i : Int) + 1 := by omega
      have b11 : ((i : Int) + 1).toNat = i + 1 := by omega
      have b12 : ¬ cn = i + 1 := by omega
      have b13 : ¬ cn = i := by omega
      have b14 : (i : Int) ≤ (n : Int) + 1 := by omega
      have b15 : (i : Int) + 1 ≤ (n : Int) + 1 := by omega
      have b16 : (i : Int) ≤ cap := by omega
      have b17 : ((n : Int) + 1) ≤ cn := by omega
      have b18 : (cn : Int) ≤ 9223372036854775807 := by unfold maxLen at hcm; omega
      clear hrow hrow0 hrow1 hrow2 hlen htake hcap hm hfl hcs hnl hn1 hl1 h hi0 hz0 hz1 hz2 hnews hnX hXi hxr hxn hx hgx hxw1 hfx hin hcl hct hnw2 hi2 hcap1 hk hik
      go_enter Try.func41, Try.ntmps41
      go_wp2_with (first | (refine Sg.list_append rfl _ _ _ _ 34 rfl rfl rfl rfl hrz ?_) | (refine Sg.list_copy rfl _ _ _ _ 3 rfl rfl rfl rfl hr1 ?_))
      go_region_held3 (fun _ => True) (trivial) (refine Sg.step_copy (by rfl) _ _ _ _ 3 (by rfl) (by rfl) (by rfl) (by rfl) hr2 ?_)
      go_wp2
      go_ret
      exact hfin.out
end
end SlcDl
end Go.Proofs.Ytncgihbnfmpdbaa
