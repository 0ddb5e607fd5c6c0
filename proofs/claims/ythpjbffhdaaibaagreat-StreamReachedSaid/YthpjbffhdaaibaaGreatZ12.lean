/-
  Contracts: the search among early segments (chapter 24).
  Contracts of slices.Delete, slices.Insert at []api.Early that the call itself made (printed by mkslc.py).
  Contracts: Take of the program (chapter 24).
  Contracts: the comparisons of the reference, on equal data (chapter 24).
-/
import Derived.Test.YthpjbffhdaaibaaGreatZ11
import Derived.Test.YthpjbffhdaaibaaGreatZ8
import Derived.Test.YthpjbffhdaaibaaGreatProg
import Derived.WalkSpells
import Derived.WalkLawsBesides
import Derived.Deep.RegionHeld3
import Derived.Outline
import Derived.Lib.SliceRun
import Derived.Lib.QuietBelow
import Derived.BigQuiet
import Derived.RegionTactic
import Derived.BigRegion
set_option linter.unusedVariables false
set_option linter.unusedSimpArgs false
set_option maxRecDepth 100000
namespace Go.Proofs.YthpjbffhdaaibaaGreat
open Go.RowKit Go.BigFrame Go.Sort Go.Lib
namespace St
open Enc Uv Lg Lgc Strs
def cmpN (x y : Nat) : Int := if x < y then -1 else if y < x then 1 else 0
theorem nan_any (x : Nat) (w : World) : Calls Tryz.prog 88 #[.int .u64 (x : Int)] w fun e w' => e = .returned (.bool false) ∧ w = w' := by
  go_enter Tryz.func88, Tryz.ntmps88
  go_wp2
  go_ret
  exact ⟨rfl, rfl⟩
theorem cmp_any (x y : Nat) (w : World) : Calls Tryz.prog 62 #[.int .u64 (x : Int), .int .u64 (y : Int)] w fun e w' => e = .returned (.int .i64 (cmpN x y)) ∧ w = w' := by
  rcases Nat.lt_trichotomy x y with h | h | h
  · have h1 : (x : Int) < y := by omega
    have HC : Is (cmpN x y) (-1) := ⟨by unfold cmpN; rw [if_pos h]⟩
    go_enter Tryz.func62, Tryz.ntmps62
    go_wp2_with (go_at_call 88; refine (nan_any _ _).mono ?_; rintro e w' ⟨rfl, rfl⟩)
    go_ret
    exact ⟨by rw [HC.out]; rfl, rfl⟩
  · subst h
    have HC : Is (cmpN x x) 0 := ⟨by unfold cmpN; rw [if_neg (by omega), if_neg (by omega)]⟩
    go_enter Tryz.func62, Tryz.ntmps62
    go_wp2_with (go_at_call 88; refine (nan_any _ _).mono ?_; rintro e w' ⟨rfl, rfl⟩)
    go_ret
    exact ⟨by rw [HC.out]; rfl, rfl⟩
  · have h1 : ¬ (x : Int) < y := by omega
    have h2 : (y : Int) < x := by omega
    have HC : Is (cmpN x y) 1 := ⟨by unfold cmpN; rw [if_neg (by omega), if_pos h]⟩
    go_enter Tryz.func62, Tryz.ntmps62
    go_wp2_with (go_at_call 88; refine (nan_any _ _).mono ?_; rintro e w' ⟨rfl, rfl⟩)
    go_ret
    exact ⟨by rw [HC.out]; rfl, rfl⟩
theorem key_any (s f kn : Nat) (A : Option Addr) (n cap : Nat) (y : Nat) (w : World) : Calls Tryz.prog 61 #[.agg #[.int .u64 (s : Int), .int .u64 (f : Int), .int .u64 (kn : Int), .slice A n cap], .int .u64 (y : Int)] w fun e w' => e = .returned (.int .i64 (cmpN s y)) ∧ Held w w' := by
  have HC := Lib.hid fun w => cmp_any s y w
  generalize cmpN s y = c at HC ⊢
  go_enter Tryz.func61, Tryz.ntmps61
  go_wp2_with (go_at_call 62; refine (HC.out _).mono ?_; rintro e w' ⟨rfl, rfl⟩)
  go_ret
  exact ⟨rfl, (Held.refl w).alloc _⟩
theorem before_is {n i : Nat} : ∀ {l : List Er}, i ≤ l.length → (∀ k (h : k < l.length), k < i → l[k].s < n) → (∀ h : i < l.length, ¬ l[i].s < n) → before n l = i := by
  induction i with
  | zero =>
    intro l _ _ h
    cases l with
    | nil => rfl
    | cons y l =>
      have h0 : ¬ y.s < n := h (Nat.zero_lt_succ _)
      rw [before_cons, if_neg h0]
  | succ i ih =>
    intro l hl h1 h2
    cases l with
    | nil => simp at hl
    | cons y l =>
      have h0 : y.s < n := h1 0 (Nat.zero_lt_succ _) (Nat.zero_lt_succ _)
      rw [before_cons, if_pos h0]
      congr 1
      refine ih (by simpa using hl) (fun k hk hki => ?_) (fun h => ?_)
      · exact h1 (k + 1) (by simpa using hk) (by omega)
      · exact h2 (by simpa using h)
theorem has_is {n i : Nat} {l : List Er} (hp : l.Pairwise fun x y => x.s < y.s) (h1 : ∀ k (h : k < l.length), k < i → l[k].s < n) (h2 : ∀ k (h : k < l.length), i ≤ k → ¬ l[k].s < n) : has n l = if h : i < l.length then decide (l[i].s = n) else false := by
  unfold has
  split
  · rename_i hi
    by_cases e : l[i].s = n
    · rw [decide_eq_true e, List.any_eq_true]
      exact ⟨_, List.getElem_mem hi, decide_eq_true e⟩
    · rw [decide_eq_false e, List.any_eq_false]
      intro x hx
      obtain ⟨k, hk, rfl⟩ := List.mem_iff_getElem.1 hx
      simp only [decide_eq_true_eq]
      intro q
      by_cases hki : k < i
      · have := h1 k hk hki; omega
      · by_cases hke : k = i
        · subst hke; exact e q
        · have := List.pairwise_iff_getElem.1 hp i k hi hk (by omega)
          have := h2 i hi (Nat.le_refl _)
          omega
  · rename_i hi
    rw [List.any_eq_false]
    intro x hx
    obtain ⟨k, hk, rfl⟩ := List.mem_iff_getElem.1 hx
    simp only [decide_eq_true_eq]
    have := h1 k hk (by omega)
    omega
theorem asc_pair {n : Nat} : ∀ {l : List Er} {a : Nat}, asc n a l = true → l.Pairwise (fun x y => x.s < y.s) ∧ ∀ x ∈ l, a < x.s
  | [], _, _ => ⟨List.Pairwise.nil, fun x hx => by simp at hx⟩
  | x :: l, a, h => by
    unfold asc at h
    simp only [Bool.and_eq_true, decide_eq_true_eq] at h
    obtain ⟨h1, h2⟩ := asc_pair h.2
    exact ⟨List.pairwise_cons.2 ⟨h2, h1⟩, fun y hy => by
      rcases List.mem_cons.1 hy with rfl | hy
      · exact h.1.1.1
      · have := h2 y hy; omega⟩
/-- A call tells where a number stands among the early ones, and whether it is there. -/
def FindTo (E : List Er) (y : Nat) (w : World) (e : Ending) (w' : World) : Prop := e = .returned (.tuple #[.int .i64 ((before y E : Nat) : Int), .bool (has y E)]) ∧ Held w w'
set_option maxHeartbeats 1000000 in
theorem search_any (A : Option Addr) (n cap : Nat) (L : List ErR) (y : Nat) (w : World) (h : Sl 4 erC w A n L) (hn : n ≤ 1000000) (hp : (ers L).Pairwise fun x y => x.s < y.s) :
    Calls Tryz.prog 60 #[.slice A n cap, .int .u64 (y : Int), .func (.func 61) #[] #[]] w (FindTo (ers L) y w) := by
  have HG := Lib.hid h
  have hL : L.length = n := h.1
  have HL : Is (ers L).length n := ⟨by rw [ers_len]; exact hL⟩
  have HS := Lib.hid hp
  have HE : Hid (∀ k (h1 : k < (ers L).length) (h2 : k < L.length), (ers L)[k] = L[k].e) := fun k h1 h2 => List.getElem_map ErR.e
  have HLL : Is L.length n := ⟨hL⟩
  clear h hp hL
  go_enter Tryz.func60, Tryz.ntmps60
  go_wp2
  go_loopw [9, 10] (fun a b wr => ∃ i j : Nat, a = .int .i64 i ∧ b = .int .i64 j ∧ i ≤ j ∧ j ≤ n ∧ Hid (∀ k (hk : k < (ers L).length), k < i → (ers L)[k].s < y) ∧ Hid (∀ k (hk : k < (ers L).length), j ≤ k → ¬ (ers L)[k].s < y) ∧ Held w wr) (fun a b _ => (RowKit.intOf b).toNat - (RowKit.intOf a).toNat)
  case atStart => exact ⟨0, n, rfl, rfl, Nat.zero_le _, Nat.le_refl _, (fun k _ h => absurd h (Nat.not_lt_zero _) : ∀ k (hk : k < (ers L).length), k < 0 → (ers L)[k].s < y), (fun k hk h => absurd hk (by rw [HL.out]; omega) : ∀ k (hk : k < (ers L).length), n ≤ k → ¬ (ers L)[k].s < y), Held.refl w⟩
  case round =>
    obtain ⟨i, j, rfl, rfl, hij, hjn, L1, L2, hh⟩ := hrel
    by_cases hlt : i < j
    · have hm : (i + j) / 2 < n := by omega
      obtain ⟨b, off, s', f', kn', A', n', cap', es', rfl, lb, hp, p0, p1, p2, p3⟩ := erAt HG.out hh hm
      have HC : ∀ w, Hid (Calls Tryz.prog 61 #[.agg #[.int .u64 (s' : Int), .int .u64 (f' : Int), .int .u64 (kn' : Int), .slice A' n' cap'], .int .u64 (y : Int)] w fun e w' => e = .returned (.int .i64 (cmpN s' y)) ∧ Held w w') := fun w => key_any s' f' kn' A' n' cap' y w
      generalize hmid : (i + j) / 2 = mid at *
      have hm1 : i ≤ mid := by omega
      have hm2 : mid < j := by omega
      have hml : mid < (ers L).length := by rw [HL.out]; exact hm
      have hml2 : mid < L.length := by rw [HLL.out]; exact hm
      have hpe : (ers L)[mid].s = s' := by
        rw [HE.out mid hml hml2]
        rw [List.getElem?_eq_getElem hml2] at hp
        injection hp with hp; rw [hp]; rfl
      have HPE := Lib.hid hpe
      have HM1 : Hid (s' < y → ∀ k (hk : k < (ers L).length), k < mid + 1 → (ers L)[k].s < y) := fun h k hk hkm => by
        by_cases q : k = mid
        · subst q; rw [HPE.out]; exact h
        · have := List.pairwise_iff_getElem.1 HS.out k mid hk hml (by omega)
          have := HPE.out
          omega
      have HM2 : Hid (¬ s' < y → ∀ k (hk : k < (ers L).length), mid ≤ k → ¬ (ers L)[k].s < y) := fun h k hk hkm => by
        by_cases q : k = mid
        · subst q; rw [HPE.out]; exact h
        · have := List.pairwise_iff_getElem.1 HS.out mid k hml hk (by omega)
          have := HPE.out
          omega
      have z1 : (0 : Int) ≤ i := by omega
      have z2 : (mid : Int) < n := by omega
      have z3 : (0 : Int) ≤ mid := by omega
      have HMD := Lib.hid hmid
      clear hp hpe HPE hml hml2
      by_cases hcv : s' < y
      · have HCV : Is (cmpN s' y) (-1) := ⟨by unfold cmpN; rw [if_pos hcv]⟩
        rw [HCV.out] at HC
        go_wp2_with (go_at_call 61; (with_reducible refine (HC _).out.mono ?_); rintro e w5 ⟨rfl, h5⟩)
        go_roundw
        case rel => exact ⟨mid + 1, j, by go_num, rfl, by omega, hjn, (HM1.out hcv : ∀ k (hk : k < (ers L).length), k < mid + 1 → (ers L)[k].s < y), L2, hh.step h5⟩
        case measure => simp [RowKit.intOf]; omega
      · obtain ⟨cv, hcve⟩ : ∃ cv, cmpN s' y = cv := ⟨_, rfl⟩
        have hcv0 : ¬ cv < 0 := by rw [← hcve]; unfold cmpN; rw [if_neg hcv]; split <;> decide
        rw [hcve] at HC
        clear hcve
        go_wp2_with (go_at_call 61; (with_reducible refine (HC _).out.mono ?_); rintro e w5 ⟨rfl, h5⟩)
        go_roundw
        case rel => exact ⟨i, mid, rfl, by go_num, by omega, by omega, L1, (HM2.out hcv : ∀ k (hk : k < (ers L).length), mid ≤ k → ¬ (ers L)[k].s < y), hh.step h5⟩
        case measure => simp [RowKit.intOf]; omega
    · obtain rfl : j = i := by omega
      have HPOS : Is (before y (ers L)) j := ⟨before_is (by rw [HL.out]; exact hjn) L1.out fun h => L2.out j h (Nat.le_refl _)⟩
      have HHAS : Is (has y (ers L)) (if h : j < (ers L).length then decide ((ers L)[j].s = y) else false) := ⟨has_is HS.out L1.out L2.out⟩
      by_cases hjl : j < n
      · obtain ⟨b, off, s', f', kn', A', n', cap', es', rfl, lb, hp, p0, p1, p2, p3⟩ := erAt HG.out hh hjl
        have HC : ∀ w, Hid (Calls Tryz.prog 61 #[.agg #[.int .u64 (s' : Int), .int .u64 (f' : Int), .int .u64 (kn' : Int), .slice A' n' cap'], .int .u64 (y : Int)] w fun e w' => e = .returned (.int .i64 (cmpN s' y)) ∧ Held w w') := fun w => key_any s' f' kn' A' n' cap' y w
        have hml : j < (ers L).length := by rw [HL.out]; exact hjl
        have hml2 : j < L.length := by rw [HLL.out]; exact hjl
        have hpe : (ers L)[j].s = s' := by
          rw [HE.out j hml hml2]
          rw [List.getElem?_eq_getElem hml2] at hp
          injection hp with hp; rw [hp]; rfl
        have HH : Is (has y (ers L)) (cmpN s' y == 0) := ⟨by
          rw [HHAS.out, dif_pos hml, hpe]
          unfold cmpN
          by_cases e : s' = y
          · subst e; simp
          · rw [decide_eq_false e]
            split
            · rfl
            · rw [if_pos (by omega)]; rfl⟩
        obtain ⟨cv, hcve⟩ : ∃ cv, cmpN s' y = cv := ⟨_, rfl⟩
        rw [hcve] at HC HH
        have z2 : (j : Int) < n := by omega
        have z3 : (0 : Int) ≤ j := by omega
        have nlt : ¬ (j : Int) < j := by omega
        clear hp L1 L2 hpe hml hml2 HHAS hcve
        go_wp2_with (go_at_call 61; (with_reducible refine (HC _).out.mono ?_); rintro e w5 ⟨rfl, h5⟩)
        go_ret2
        refine ⟨?_, hh.step h5⟩
        rw [HPOS.out, HH.out]; rfl
      · have z2 : ¬ (j : Int) < n := by omega
        have nlt : ¬ (j : Int) < j := by omega
        have HH : Is (has y (ers L)) false := ⟨by rw [HHAS.out, dif_neg (by rw [HL.out]; exact hjl)]⟩
        have hz2 : decide ((j : Int) < n) = false := decide_eq_false z2
        clear L1 L2 HHAS
        go_wp2
        go_ret2
        refine ⟨?_, hh⟩
        rw [HPOS.out, HH.out]; rfl
end St
end Go.Proofs.YthpjbffhdaaibaaGreat

set_option linter.unusedVariables false
set_option maxRecDepth 100000
namespace Go.Proofs.YthpjbffhdaaibaaGreat
open Go.RowKit
namespace SlcEr
theorem info : (Tryz.prog.info? 72).map (fun i => (i.zero, i.size, i.bytes)) = some (some (.agg #[.int .u64 0, .int .u64 0, .int .u64 0, .slice none 0 0]), 4, 48) := by kernel_rfl
theorem zero (w : World) : (zeroValue 72).run Tryz.prog w = .ok (.agg #[.int .u64 0, .int .u64 0, .int .u64 0, .slice none 0 0]) w := by kernel_rfl
theorem zcells (n : Nat) : ∀ u ∈ (Builtin.zeroCells (Value.cells (.agg #[.int .u64 0, .int .u64 0, .int .u64 0, .slice none 0 0])) n).toList, u.oneCell' = true := by
  intro u hu
  simp only [Builtin.zeroCells, Array.toList_map, List.mem_map] at hu
  obtain ⟨i, _, rfl⟩ := hu
  have hs : (Value.cells (.agg #[.int .u64 0, .int .u64 0, .int .u64 0, .slice none 0 0])).size = 4 := rfl
  rw [hs]
  have hm : i % 4 < 4 := Nat.mod_lt _ (by decide)
  generalize i % 4 = k at hm
  match k, hm with
  | 0, _ => rfl
  | 1, _ => rfl
  | 2, _ => rfl
  | 3, _ => rfl
  | k + 4, h => omega
section
variable {α : Type} {f : α → List Value}
theorem delete_any (hf : ∀ x, (f x).length = 4) (hf1 : ∀ x, ∀ u ∈ f x, u.oneCell' = true) (base : Nat) (v : Value) (L : List α) (i j : Nat) (w : World) (h : Own 72 4 f base w v L) (hij : i < j) (hj : j ≤ L.length) (hmax : (L.length : Int) ≤ 1099511627776) :
    Calls Tryz.prog 64 #[v, .int .i64 i, .int .i64 j] w (Sg.Got 72 4 f base v (L.take i ++ L.drop j) w) := by
  obtain ⟨i0, hi0, hz0, hz1, hz2⟩ := info_parts info
  obtain ⟨A, cap, rfl⟩ : ∃ A cap, v = .slice A L.length cap := by obtain ⟨A, cap, hv, _⟩ := h.shape; exact ⟨A, cap, hv⟩
  obtain ⟨g, C, rfl, hb, hrow, hlen, htake, _, hcap, hm⟩ := Sg.own_row hf h (by omega)
  obtain ⟨n, hn⟩ : ∃ n, L.length = n := ⟨_, rfl⟩
  rw [hn] at h htake hcap hj hmax ⊢
  have hfl : (L.flatMap f).length = n * 4 := by rw [flat_len hf, hn]
  have hcs : n * 4 ≤ C.length := by rw [hlen]; exact Nat.mul_le_mul_right _ hcap
  -- what is moved
  obtain ⟨news, hnews⟩ : ∃ news, news = (L.flatMap f).drop (j * 4) := ⟨_, rfl⟩
  have hnl : news.length = (n - j) * 4 := by rw [hnews, List.length_drop, hfl]; omega
  have hn1 : ∀ u ∈ news, u.oneCell' = true := by
    intro u hu
    rw [hnews] at hu
    have := List.mem_of_mem_drop hu
    rw [List.mem_flatMap] at this
    obtain ⟨x, _, hx⟩ := this
    exact hf1 x u hx
  have hnC : news = (C.drop (j * 4)).take ((n - j) * 4) := by
    rw [hnews, ← htake, List.drop_take]; congr 1; omega
  obtain ⟨A2, hA2, hnw⟩ : ∃ A2 : Addr, (if cap = j then (⟨g, 0, none⟩ : Addr) else ⟨g, j * 4, none⟩) = A2 ∧ ∀ k u, news[k]? = some u → w.drew.cell? (A2.add k) = some u := by
    by_cases hcj : cap = j
    · refine ⟨_, if_pos hcj, fun k u hk => ?_⟩
      have : news.length = 0 := by rw [hnl]; omega
      rw [List.eq_nil_of_length_eq_zero this] at hk; cases hk
    · refine ⟨_, if_neg hcj, fun k u hk => ?_⟩
      rw [hnC] at hk
      exact Sg.news_at hrow.drew _ _ k u hk
  obtain ⟨w1, hr1, hrow1⟩ := Sg.app_room (P := Tryz.prog) (ty := 29) Tryz.underlying29 hi0 hz1 hrow.drew i cap A2 (n - j) (cap - j) news hnl hnw hn1 (by omega) (by rw [hnl, ← Nat.add_mul]; exact Nat.le_trans (Nat.mul_le_mul_right _ (by omega)) hcs)
  have hl1 : (Sg.lay C (i * 4) news).length = C.length := Sg.lay_len (by rw [hnl, ← Nat.add_mul]; exact Nat.le_trans (Nat.mul_le_mul_right _ (by omega)) hcs)
  have hzs : (Value.cells (.agg #[.int .u64 0, .int .u64 0, .int .u64 0, .slice none 0 0])).size = 4 := rfl
  obtain ⟨w2, hr2, hrow2⟩ := Sg.clear_row (P := Tryz.prog) (t := 29) (ty := 0) Tryz.underlying29 zero (zcells 1) hrow1 ((i + (n - j)) * 4) (n - (i + (n - j))) (cap - (i + (n - j))) (by omega) (zcells _) (by rw [hl1, hzs, ← Nat.add_mul]; exact Nat.le_trans (Nat.mul_le_mul_right _ (by omega)) hcs)
  have hfin : Hid (Sg.Got 72 4 f base (.slice (some ⟨g, 0, none⟩) n cap) (L.take i ++ L.drop j) w (.returned (.slice (some ⟨g, 0, none⟩) (i + (n - j)) cap)) w2) := by
    refine Sg.Got.mk (Sg.row_own hf hrow2 hb ?_ ?_ (by omega) hm ?_) hrow2.grown (.inl rfl)
    · rw [Sg.lay_len (by simp only [Builtin.zeroCells, Array.toList_map, List.length_map]; rw [hl1]; simp [hzs]; first | (rw [← Nat.add_mul]; exact Nat.le_trans (Nat.mul_le_mul_right _ (by omega)) hcs) | omega), hl1, hlen]
    · rw [List.length_append, List.length_take, List.length_drop]; omega
    · rw [Sg.lay_low (by rw [hl1]; exact Nat.le_trans (Nat.mul_le_mul_right _ (by omega)) hcs) (Nat.le_refl _)]
      have e1 : (i + (n - j)) * 4 = i * 4 + news.length := by rw [hnl, Nat.add_mul]
      rw [e1, Sg.lay_take (Nat.le_trans (Nat.mul_le_mul_right _ (by omega)) hcs), List.flatMap_append, Sg.flat_take hf L i (by omega), Sg.flat_drop hf L j (by omega), hnews, ← htake, List.take_take, Nat.min_eq_left (Nat.mul_le_mul_right _ (by omega))]
  have hsl : ∀ w', (Instr.slice 29 (.slice (some ⟨g, 0, none⟩) n cap) (some (.int .i64 j)) none none).run Tryz.prog w' = .ok (.slice (some A2) (n - j) (cap - j)) w' := by
    intro w'
    have := Sg.slice_from (P := Tryz.prog) Tryz.underlying29 hi0 hz1 g 0 n cap j hj hcap w'
    rw [Nat.zero_add, hA2] at this
    exact this
  clear hA2
  have b1 : (i : Int) ≤ j := by omega
  have b2 : (j : Int) ≤ n := by omega
  have b3 : (n : Int) ≤ cap := by omega
  have b4 : (cap : Int) ≤ 9223372036854775807 := by unfold maxLen at hm; omega
  have b9 : (i : Int) ≤ cap := by omega
  have b10 : (0 : Int) ≤ i := by omega
  have b5 : ((i : Int) == j) = false := by simp; omega
  have b6 : ¬ (i : Int) = j := by omega
  have b7 : ¬ cap = i + (n - j) := by omega
  have b8 : ((i + (n - j) : Nat) : Int) ≤ n := by omega
  clear hrow hrow1 hrow2 hlen htake hcap hm hfl hcs hnl hn1 hnC hnw hl1 hzs h hi0 hz0 hz1 hz2 hnews
  go_enter Tryz.func64, Tryz.ntmps64
  go_wp2
  go_region_held3 (fun _ => True) (trivial) (refine Sg.step_append (by rfl) _ _ _ _ 29 (by rfl) (by rfl) (by rfl) (by rfl) hr1 ?_)
  go_wp2
  go_ret
  exact hfin.out
set_option maxHeartbeats 4000000 in
theorem insert_any (hf : ∀ x, (f x).length = 4) (hf1 : ∀ x, ∀ u ∈ f x, u.oneCell' = true) (base : Nat) (v : Value) (L : List α) (i : Nat) (x : α) (w : World) (h : Own 72 4 f base w v L) (hi : i ≤ L.length) (hmax : (L.length : Int) ≤ 1099511627776) (hbase : base ≤ w.heap.size)
    (gx : Nat) (hx : w.heap[gx]? = some (.cells (f x).toArray 72 (0, 0))) (hgx : v.ownBlock ≠ some gx) :
    Calls Tryz.prog 63 #[v, .int .i64 i, .slice (some ⟨gx, 0, none⟩) 1 1] w (Sg.Got 72 4 f base v (L.take i ++ [x] ++ L.drop i) w) := by
  obtain ⟨i0, hi0, hz0, hz1, hz2⟩ := info_parts info
  obtain ⟨A, cap, rfl, hncap, hmcap⟩ := h.shape
  obtain ⟨n, hn⟩ : ∃ n, L.length = n := ⟨_, rfl⟩
  rw [hn] at h hi hmax hncap ⊢
  have hxr : Sg.Row 72 w gx (f x) w := Sg.Row.start hx
  have hxn : ∀ j u, (f x)[j]? = some u → w.cell? ((⟨gx, 0, none⟩ : Addr).add j) = some u := by
    intro j u hu
    rw [Sg.addr_at, Nat.zero_add, hxr.cell]; exact hu
  by_cases hin : i = n
  · -- behind the last
    have hL : L.take i ++ [x] ++ L.drop i = L ++ [x] := by
      subst hin
      rw [← hn, List.take_length, List.drop_length, List.append_nil]
    rw [hL]
    have hrun := run_append_lies (P := Tryz.prog) w 29 29 base 72 i0 (.agg #[.int .u64 0, .int .u64 0, .int .u64 0, .slice none 0 0]) 4 48 Tryz.underlying29 hi0 hz0 hz1 hz2 rfl (by decide) (.slice A n cap) n (L.flatMap f) (hn ▸ h) ⟨gx, 0, none⟩ 1 1 (f x) (by rw [hf]) hxn (hf1 x) (by decide) (by unfold maxLen; omega) (by omega) hbase w.heap.size rfl
    obtain ⟨g, cap2, w1, hr1, hown1, hg1, hat1, hlt1⟩ := hrun
    have hfin : Hid (Sg.Got 72 4 f base (.slice A n cap) (L ++ [x]) w (.returned (.slice (some ⟨g, 0, none⟩) (n + 1) cap2)) w1) := by
      refine Sg.Got.mk ?_ hg1 ?_
      · unfold Own
        rw [List.flatMap_append, List.flatMap_singleton, List.length_append, List.length_singleton, hn]
        exact hown1
      · rcases hat1 with h1 | h1
        · exact .inl h1.symm
        · exact .inr ⟨g, rfl, by omega⟩
    have b1 : (n : Int) ≤ cap := by omega
    have b2 : (cap : Int) ≤ 9223372036854775807 := by unfold maxLen at hmcap; omega
    subst hin
    clear hL hn hown1 hg1 hat1 hlt1 h hx hxr hxn hgx hi0 hz0 hz1 hz2
    by_cases hic : cap = i
    · subst hic
      go_enter Tryz.func63, Tryz.ntmps63
      go_wp2_with (refine Sg.list_append rfl _ _ _ _ 29 rfl rfl rfl rfl hr1 ?_)
      go_ret
      exact hfin.out
    · go_enter Tryz.func63, Tryz.ntmps63
      go_wp2_with (refine Sg.list_append rfl _ _ _ _ 29 rfl rfl rfl rfl hr1 ?_)
      go_ret
      exact hfin.out
  · -- in the midst
    obtain ⟨g, C, rfl, hb, hrow, hlen, htake, _, hcap, hm⟩ := Sg.own_row hf (hn ▸ h) (by omega)
    have hne : gx ≠ g := fun e => hgx (by rw [e]; rfl)
    have hfl : (L.flatMap f).length = n * 4 := by rw [flat_len hf, hn]
    have hcs : n * 4 ≤ C.length := by rw [hlen]; exact Nat.mul_le_mul_right _ hncap
    have hin' : i < n := by omega
    obtain ⟨news, hnews⟩ : ∃ news, news = (C.drop (i * 4)).take ((n - i) * 4) := ⟨_, rfl⟩
    have hnX : news = (L.flatMap f).drop (i * 4) := by
      rw [hnews, ← htake, List.drop_take]; congr 1; omega
    have hnl : news.length = (n - i) * 4 := by rw [hnX, List.length_drop, hfl]; omega
    have hn1 : ∀ u ∈ news, u.oneCell' = true := by
      intro u hu
      rw [hnX] at hu
      have := List.mem_of_mem_drop hu
      rw [List.mem_flatMap] at this
      obtain ⟨y, _, hy⟩ := this
      exact hf1 y u hy
    have hXi : C.take (i * 4) = (L.take i).flatMap f := by
      rw [Sg.flat_take hf L i (by omega), ← htake, List.take_take, Nat.min_eq_left (Nat.mul_le_mul_right _ (by omega))]
    have b1 : (n : Int) ≤ cap := by omega
    have b2 : (cap : Int) ≤ 9223372036854775807 := by unfold maxLen at hmcap; omega
    have b3 : (i : Int) < n := by omega
    have b4 : ¬ (i : Int) = n := by omega
    have b5 : ((i : Int) == n) = false := by simp; omega
    have b6 : ¬ cap = i := by omega
    by_cases hroom : n + 1 ≤ cap
    · have hc2 : (n + 1) * 4 ≤ C.length := by rw [hlen]; exact Nat.mul_le_mul_right _ hroom
      obtain ⟨w1, hr1, hrow1⟩ := Sg.copy_row (P := Tryz.prog) (t := 29) (t' := 29) (ty := 3) Tryz.underlying29 hi0 hz1 hrow.drew ((i + 1) * 4) (n - i) (cap - (i + 1)) ⟨g, i * 4, none⟩ (n + 1 - i) (cap - i) (n - i) (by omega) news hnl
        (by rw [hnews]; exact Sg.news_at hrow.drew _ _) hn1 (by rw [hnl, ← Nat.add_mul]; exact Nat.le_trans (Nat.mul_le_mul_right _ (by omega)) hc2)
      have hl1 : (Sg.lay C ((i + 1) * 4) news).length = C.length := Sg.lay_len (by rw [hnl, ← Nat.add_mul]; exact Nat.le_trans (Nat.mul_le_mul_right _ (by omega)) hc2)
      have hxw1 : ∀ j u, (f x)[j]? = some u → w1.cell? ((⟨gx, 0, none⟩ : Addr).add j) = some u := by
        intro j u hu
        rw [Sg.addr_at, Nat.zero_add, World.cell?_of_block (hrow1.rest gx hxr.lt hne)]
        rw [hxr.cell]; exact hu
      have hfx : (f x).length = 1 * 4 := by rw [hf, Nat.one_mul]
      obtain ⟨w2, hr2, hrow2⟩ := Sg.copy_row (P := Tryz.prog) (t := 29) (t' := 29) (ty := 3) Tryz.underlying29 hi0 hz1 hrow1 (i * 4) (n + 1 - i) (cap - i) ⟨gx, 0, none⟩ 1 1 1 (by omega) (f x) hfx hxw1 (hf1 x) (by rw [hl1, hfx, ← Nat.add_mul]; exact Nat.le_trans (Nat.mul_le_mul_right _ (by omega)) hc2)
      have hfin : Hid (Sg.Got 72 4 f base (.slice (some ⟨g, 0, none⟩) n cap) (L.take i ++ [x] ++ L.drop i) w (.returned (.slice (some ⟨g, 0, none⟩) (n + 1) cap)) w2) := by
        refine Sg.Got.mk (Sg.row_own hf hrow2 hb ?_ ?_ hroom hm ?_) hrow2.grown (.inl rfl)
        · rw [Sg.lay_len (by rw [hl1, hfx, ← Nat.add_mul]; exact Nat.le_trans (Nat.mul_le_mul_right _ (by omega)) hc2), hl1, hlen]
        · simp only [List.length_append, List.length_take, List.length_drop, List.length_singleton]; omega
        · have hi2 : i * 4 ≤ C.length := Nat.le_trans (Nat.mul_le_mul_right _ (by omega)) hc2
          have hi3 : (i + 1) * 4 ≤ C.length := Nat.le_trans (Nat.mul_le_mul_right _ (by omega)) hc2
          rw [Sg.shift_take hi2 (by rw [hf, Nat.add_mul, Nat.one_mul]) hi3 (by rw [hnl, ← Nat.add_mul]; congr 1; omega), hXi, hnX, ← Sg.flat_drop hf L i (by omega), List.flatMap_append, List.flatMap_append, List.flatMap_singleton]
      have hov : ∀ lb cb, (callFunc 89 #[.slice (some ⟨gx, 0, none⟩) 1 1, .slice (some ⟨g, (i + 1) * 4, none⟩) lb cb]).run Tryz.prog w = .ok (.value (.bool false)) w := fun lb cb => by
        rw [run_callFunc_extern Tryz.func89 (by kernel_rfl) (by kernel_rfl) (by kernel_rfl) (e := Extern.SlicesOverlaps.overlaps #[29, 29] #[4]) (by kernel_rfl),
          Lib.run_overlaps_apart w 29 4 72 Tryz.underlying29 4 (fun w => by simp [sizeOf, typeInfo, hi0, hz1]) ⟨gx, 0, none⟩ ⟨g, (i + 1) * 4, none⟩ 1 1 lb cb hne 72 72 4 C.length
            (by simp [World.shape?, hx, hf]) (by simp [World.shape?, hrow.blk]) (by omega) (by simp [World.frozen?, hx]) (by simp [World.frozen?, hx])]
        rfl
      have b7 : (n : Int) + 1 ≤ cap := by omega
      have b8 : ¬ (cap : Int) < (n : Int) + 1 := by omega
      have b9 : IntKind.i64.wrap ((i : Int) + 1) = (i : Int) + 1 := IntWalk.i64_in _ (by omega)
      have b10 : (0 : Int) ≤ (i : Int) + 1 := by omega
      have b11 : ((i : Int) + 1).toNat = i + 1 := by omega
      have b12 : ¬ cap = i + 1 := by omega
      have b13 : (i : Int) ≤ (n : Int) + 1 := by omega
      have b14 : (i : Int) + 1 ≤ (n : Int) + 1 := by omega
      clear hrow hrow1 hrow2 hlen htake hcap hm hfl hcs hnl hn1 hl1 h hi0 hz0 hz1 hz2 hnews hnX hXi hc2 hxr hxn hx hgx hxw1 hfx hin
      go_enter Tryz.func63, Tryz.ntmps63
      go_wp2_with (simp only [hov])
      go_region_held3 (fun _ => True) (trivial) (refine Sg.step_copy (by rfl) _ _ _ _ 3 (by rfl) (by rfl) (by rfl) (by rfl) hr1 ?_)
      go_wp2_with (refine Sg.list_copy rfl _ _ _ _ 3 rfl rfl rfl rfl hr2 ?_)
      go_ret
      exact hfin.out
    · obtain ⟨k, hk⟩ : ∃ k, k = n + 1 - i := ⟨_, rfl⟩
      have hik : i + k = n + 1 := by omega
      have holds : (Builtin.firstCells i0.size i (.slice (some ⟨g, 0, none⟩) i cap)).run Tryz.prog w.drew = .ok (C.take (i * 4)).toArray w.drew := by
        have h0 : (C.take (i * 4)).length = i * i0.size := by rw [hz1, List.length_take]; exact Nat.min_eq_left (Nat.le_trans (Nat.mul_le_mul_right _ (by omega)) hcs)
        refine run_firstCells_some w.drew i0.size i ⟨g, 0, none⟩ i cap _ h0 (fun j u hu => ?_)
        have := Sg.news_at hrow.drew 0 (i * 4) j u (by simpa using hu)
        exact this
      have hrz := Lib.run_append_grow_zeros (P := Tryz.prog) w 29 3 29 72 i0 (.agg #[.int .u64 0, .int .u64 0, .int .u64 0, .slice none 0 0]) .i64 .i64 Tryz.underlying29 Tryz.underlying3 hi0 hz0 (some ⟨g, 0, none⟩) i cap (C.take (i * 4)) holds k (by omega) (by rw [hz1]; decide) (by omega) (by omega) (by rw [hz2]; omega) (by rw [hz2]; exact growslice_fits (by omega) (by omega))
      rw [hik] at hrz
      obtain ⟨cn, hcn, hcn2⟩ : ∃ cn, grownCap w (n + 1) cap 72 = cn ∧ n + 1 ≤ cn := ⟨_, rfl, grownCap_ge _ _ _ _⟩
      have hcm : cn ≤ maxLen := by rw [← hcn]; exact grownCap_le_maxLen _ _ _ _ (by unfold maxLen; omega)
      rw [hcn] at hrz
      obtain ⟨cur, hcur⟩ : ∃ cur, cur = (C.take (i * 4)).toArray ++ Builtin.zeroCells (Value.cells (.agg #[.int .u64 0, .int .u64 0, .int .u64 0, .slice none 0 0])) k ++ Builtin.zeroCells (Value.cells (.agg #[.int .u64 0, .int .u64 0, .int .u64 0, .slice none 0 0])) (cn - (n + 1)) := ⟨_, rfl⟩
      rw [← hcur] at hrz
      have hcl : cur.toList.length = cn * 4 := by
        have hzs : (Value.cells (.agg #[.int .u64 0, .int .u64 0, .int .u64 0, .slice none 0 0])).size = 4 := rfl
        rw [hcur]
        simp only [Array.toList_append, List.length_append, Array.length_toList, Builtin.zeroCells, Array.size_map, Array.size_range, hzs, List.length_take]
        rw [Nat.min_eq_left (Nat.le_trans (Nat.mul_le_mul_right _ (by omega)) hcs), ← Nat.add_mul, ← Nat.add_mul]
        congr 1; omega
      have hct : cur.toList.take (i * 4) = C.take (i * 4) := by
        have h0 : (C.take (i * 4)).length = i * 4 := by rw [List.length_take]; exact Nat.min_eq_left (Nat.le_trans (Nat.mul_le_mul_right _ (by omega)) hcs)
        rw [hcur]
        simp only [Array.toList_append, List.append_assoc]
        rw [List.take_append_of_le_length (by omega), List.take_of_length_le (by omega)]
      obtain ⟨w1, hw1⟩ : ∃ w1, w1 = w.drew.alloc (.cells cur 72) := ⟨_, rfl⟩
      rw [← hw1] at hrz
      have hheld : Held w w1 := by rw [hw1]; exact (Held.refl w).drew.alloc _
      have hrow0 : Sg.Row 72 w1 w.heap.size cur.toList w1 := Sg.Row.start (by rw [hw1]; exact heap_alloc_new w.drew _)
      clear hw1 hcur hcn holds
      have hgn : g < w.heap.size := hrow.lt
      have hxn0 : gx < w.heap.size := hxr.lt
      have hfx : (f x).length = 1 * 4 := by rw [hf, Nat.one_mul]
      have hcap1 : (i + 1) * 4 ≤ cur.toList.length := by rw [hcl]; exact Nat.mul_le_mul_right _ (by omega)
      have hi2 : i * 4 + (f x).length ≤ cur.toList.length := by rw [hfx, ← Nat.add_mul]; exact hcap1
      have hxw1 : ∀ j u, (f x)[j]? = some u → w1.cell? ((⟨gx, 0, none⟩ : Addr).add j) = some u := fun j u hu => hheld.cell (hxn j u hu)
      obtain ⟨w2, hr1, hrow1⟩ := Sg.copy_row (P := Tryz.prog) (t := 29) (t' := 29) (ty := 3) Tryz.underlying29 hi0 hz1 hrow0 (i * 4) (n + 1 - i) (cn - i) ⟨gx, 0, none⟩ 1 1 1 (by omega) (f x) hfx hxw1 (hf1 x) hi2
      have hnw2 : ∀ j u, news[j]? = some u → w2.drew.cell? ((⟨g, i * 4, none⟩ : Addr).add j) = some u := by
        intro j u hu
        rw [hnews] at hu
        have h1 := hheld.cell (Sg.news_at hrow (i * 4) ((n - i) * 4) j u hu)
        rw [Sg.addr_at] at h1 ⊢
        show w2.cell? _ = _
        rw [World.cell?_of_block (hrow1.rest g (Nat.lt_of_lt_of_le hgn hheld.le) (by show g ≠ _; omega))]
        exact h1
      have hl1 : (Sg.lay cur.toList (i * 4) (f x)).length = cur.toList.length := Sg.lay_len hi2
      obtain ⟨w3, hr2, hrow2⟩ := Sg.copy_row (P := Tryz.prog) (t := 29) (t' := 29) (ty := 3) Tryz.underlying29 hi0 hz1 hrow1.drew ((i + 1) * 4) (n - i) (cn - (i + 1)) ⟨g, i * 4, none⟩ (n - i) (cap - i) (n - i) (by omega) news hnl hnw2 hn1 (by rw [hl1, hnl, ← Nat.add_mul, hcl]; exact Nat.mul_le_mul_right _ (by omega))
      have hfin : Hid (Sg.Got 72 4 f base (.slice (some ⟨g, 0, none⟩) n cap) (L.take i ++ [x] ++ L.drop i) w (.returned (.slice (some ⟨w.heap.size, 0, none⟩) (n + 1) cn)) w3) := by
        refine Sg.Got.mk (Sg.row_own hf hrow2 hbase ?_ ?_ hcn2 hcm ?_) ?_ (.inr ⟨_, rfl, Nat.le_refl _⟩)
        · rw [Sg.lay_len (by rw [hl1, hnl, ← Nat.add_mul, hcl]; exact Nat.mul_le_mul_right _ (by omega)), hl1, hcl]
        · simp only [List.length_append, List.length_take, List.length_drop, List.length_singleton]; omega
        · rw [Sg.fill_take (Nat.le_trans (Nat.mul_le_mul_right _ (by omega)) hcap1) (by rw [hf, Nat.add_mul, Nat.one_mul]) hi2 (by rw [hnl, ← Nat.add_mul]; congr 1; omega), hct, hXi, hnX, ← Sg.flat_drop hf L i (by omega), List.flatMap_append, List.flatMap_append, List.flatMap_singleton]
        · refine ⟨hrow2.os.trans hheld.os, hrow2.tape.trans hheld.tape, hrow2.output.trans hheld.output, Nat.le_trans hheld.le hrow2.size, fun q hq _ => ?_⟩
          rw [hrow2.rest q (Nat.lt_of_lt_of_le hq hheld.le) (by omega)]
          exact hheld.block q hq
      have b7 : (cap : Int) < (n : Int) + 1 := by omega
      have b8 : IntKind.i64.wrap ((i : Int) + 1) = (i : Int) + 1 := IntWalk.i64_in _ (by omega)
      have b9 : (n : Int) + 1 - i = k := by omega
      have b10 : (0 : Int) ≤ (i : Int) + 1 := by omega
      have b11 : ((i : Int) + 1).toNat = i + 1 := by omega
      have b12 : ¬ cn = i + 1 := by omega
      have b13 : ¬ cn = i := by omega
      have b14 : (i : Int) ≤ (n : Int) + 1 := by omega
      have b15 : (i : Int) + 1 ≤ (n : Int) + 1 := by omega
      have b16 : (i : Int) ≤ cap := by omega
      have b17 : ((n : Int) + 1) ≤ cn := by omega
      have b18 : (cn : Int) ≤ 9223372036854775807 := by unfold maxLen at hcm; omega
      clear hrow hrow0 hrow1 hrow2 hlen htake hcap hm hfl hcs hnl hn1 hl1 h hi0 hz0 hz1 hz2 hnews hnX hXi hxr hxn hx hgx hxw1 hfx hin hcl hct hnw2 hi2 hcap1 hk hik
      go_enter Tryz.func63, Tryz.ntmps63
      go_wp2_with (first | (refine Sg.list_append rfl _ _ _ _ 29 rfl rfl rfl rfl hrz ?_) | (refine Sg.list_copy rfl _ _ _ _ 3 rfl rfl rfl rfl hr1 ?_))
      go_region_held3 (fun _ => True) (trivial) (refine Sg.step_copy (by rfl) _ _ _ _ 3 (by rfl) (by rfl) (by rfl) (by rfl) hr2 ?_)
      go_wp2
      go_ret
      exact hfin.out
end
end SlcEr
end Go.Proofs.YthpjbffhdaaibaaGreat

set_option linter.unusedVariables false
set_option linter.unusedSimpArgs false
set_option maxRecDepth 100000
namespace Go.Proofs.YthpjbffhdaaibaaGreat
open Go.RowKit Go.BigFrame Go.Sort Go.Lib
namespace St
open Enc Uv Lg Lgc Strs
/-- A call hands back a receiver of its own, the segments that are delivered, and whether the packet was taken. -/
def TakeTo (B : Nat) (x : Rcv × List Seg × Bool) (w : World) (e : Ending) (w' : World) : Prop := ∃ A n cap DA dn dc RE RD, e = .returned (.tuple #[.agg #[.int .u64 x.1.n, .int .u64 x.1.kn, .slice A n cap], .slice DA dn dc, .bool x.2.2]) ∧ ers RE = x.1.e ∧ gs RD = x.2.1 ∧
  Mem w w' [.row 72 4 erC w.heap.size (.slice A n cap) RE, .row 25 3 segC w.heap.size (.slice DA dn dc) RD] ∧ Ers B w' RE ∧ Sgs B w' RD
theorem TakeTo.mk {B b kn : Nat} {x : Rcv × List Seg × Bool} {w w' : World} {A DA : Option Addr} {n cap dn dc : Nat} {RE : List ErR} {RD : List SR} {ok : Bool} (hx : x = (⟨b, kn, ers RE⟩, gs RD, ok))
    (hm : Mem w w' [.row 72 4 erC w.heap.size (.slice A n cap) RE, .row 25 3 segC w.heap.size (.slice DA dn dc) RD]) (he : Ers B w' RE) (hs : Sgs B w' RD) : TakeTo B x w (.returned (.tuple #[.agg #[.int .u64 b, .int .u64 kn, .slice A n cap], .slice DA dn dc, .bool ok])) w' := by
  subst hx; exact ⟨A, n, cap, DA, dn, dc, RE, RD, rfl, rfl, rfl, hm, he, hs⟩
theorem ers_ins {y f kn : Nat} {A : Option Addr} {n cap : Nat} {es : List Ent} {R : List ErR} : ers (R.take (before y (ers R)) ++ [⟨y, f, kn, A, n, cap, es⟩] ++ R.drop (before y (ers R))) = ins ⟨y, f, kn, es⟩ (ers R) := by
  unfold ins ers
  rw [List.map_append, List.map_append, List.map_take, List.map_drop]
  simp [ErR.e, SR.g]
theorem Ers.drop {B : Nat} {w : World} {R : List ErR} (h : Ers B w R) (k : Nat) : Ers B w (R.drop k) := fun y hy => h y (List.mem_of_mem_drop hy)
theorem Ers.take {B : Nat} {w : World} {R : List ErR} (h : Ers B w R) (k : Nat) : Ers B w (R.take k) := fun y hy => h y (List.mem_of_mem_take hy)
theorem Ers.cat {B : Nat} {w : World} {R R' : List ErR} (h : Ers B w R) (h' : Ers B w R') : Ers B w (R ++ R') := fun y hy => (List.mem_append.1 hy).elim (h y) (h' y)
theorem Ers.one {B : Nat} {w : World} {x : ErR} (h : Sg B w x.x) (hs : x.s < 18446744073709551616) : Ers B w [x] := fun y hy => by rw [List.mem_singleton] at hy; subst hy; exact ⟨h, hs⟩
theorem Sgs.put3 {B b : Nat} {w : World} {R : List SR} (h : Sgs B w R) (k : Blk B w b) (x0 x1 x2 : Value) : Sgs B (((w.setCell ⟨b, 0, none⟩ x0).setCell ⟨b, 1, none⟩ x1).setCell ⟨b, 2, none⟩ x2) R :=
  ((h.put1 k 0 x0).put1 k.put 1 x1).put1 k.put.put 2 x2
/-- So far the early segments have been delivered. -/
def Dr (n kn : Nat) (E0 : List Er) (nx k : Nat) (E : List Er) (D : List Seg) : Prop := (drain n kn E0).1 = (drain nx k E).1 ∧ (drain n kn E0).2 = D ++ (drain nx k E).2
theorem Dr.start (n kn : Nat) (E0 : List Er) : Dr n kn E0 n kn E0 [] := ⟨rfl, rfl⟩
theorem Dr.step {n kn nx k : Nat} {E0 E : List Er} {x : Er} {D : List Seg} (h : Dr n kn E0 nx k (x :: E) D) (hs : x.s = nx) (hf : x.g.f = k) : Dr n kn E0 (nx + 1) x.g.kn E (D ++ [x.g]) := by
  obtain ⟨h1, h2⟩ := h
  rw [drain, if_pos hs, if_pos hf] at h1 h2
  exact ⟨h1, by rw [h2]; simp⟩
theorem Dr.brk {n kn nx k : Nat} {E0 E : List Er} {x : Er} {D : List Seg} (h : Dr n kn E0 nx k (x :: E) D) (hs : x.s = nx) (hf : ¬ x.g.f = k) : (drain n kn E0) = (⟨nx, k, E⟩, D) := by
  obtain ⟨h1, h2⟩ := h
  rw [drain, if_pos hs, if_neg hf] at h1 h2
  exact Prod.ext h1 (by rw [h2]; simp)
theorem Dr.stop {n kn nx k : Nat} {E0 E : List Er} {D : List Seg} (h : Dr n kn E0 nx k E D) (hs : ∀ x l, E = x :: l → ¬ x.s = nx) : (drain n kn E0) = (⟨nx, k, E⟩, D) := by
  obtain ⟨h1, h2⟩ := h
  cases E with
  | nil => exact Prod.ext h1 (by rw [h2]; simp [drain])
  | cons x l =>
    rw [drain, if_neg (hs x l rfl)] at h1 h2
    exact Prod.ext h1 (by rw [h2]; simp)
def slLen : Value → Nat
  | .slice _ n _ => n
  | _ => 0
set_option maxHeartbeats 8000000 in
theorem take_any (b kn : Nat) (A : Option Addr) (n cap : Nat) (L : List ErR) (s : ByteArray) (B : Nat) (w : World) (hB : B ≤ w.heap.size) (h : Sl 4 erC w A n L) (hg : Ers B w L) (hn : n ≤ 1000000) (hs : (s.size : Int) ≤ 1000000000000) :
    Calls Tryz.prog 26 #[.agg #[.int .u64 b, .int .u64 kn, .slice A n cap], .string s] w (TakeTo B (take ⟨b, kn, ers L⟩ s.data.toList) w) := by
  have HL : Is L.length n := ⟨h.1⟩
  have HBB := Lib.hid hB
  have hn2 : (n : Int) ≤ 1000000 := by omega
  have hql : (ers L).length = n := by rw [ers_len]; exact h.1
  have hol := opened_len s.data.toList 68
  have hon := opened_lt s.data.toList 68
  have HO := fun w => openBody_any s 68 hs w
  have HP : Is (take ⟨b, kn, ers L⟩ s.data.toList) (take1 ⟨b, kn, ers L⟩ (opened s.data.toList 68)) := ⟨rfl⟩
  obtain ⟨p, hp⟩ : ∃ p, take ⟨b, kn, ers L⟩ s.data.toList = p := ⟨_, rfl⟩
  obtain ⟨o, ho⟩ : ∃ o, opened s.data.toList 68 = o := ⟨_, rfl⟩
  rw [ho] at HO HP hol hon
  obtain ⟨on, orest, ook⟩ := o
  have HO1 := Lib.hid HO
  rw [hp] at HP ⊢
  rw [len_eq] at hol
  simp only at hol hon
  have HP1 : Is p (if (!ook || !receiving ⟨b, kn, ers L⟩ || decide (b + 8 ≤ on)) = true then (⟨b, kn, ers L⟩, [], false) else take3 ⟨b, kn, ers L⟩ on (unbody orest)) := ⟨HP.out⟩
  have hsq : receiving ⟨b, kn, ers L⟩ = true → n ≤ 7 ∧ b ≤ 4611686018427387904 ∧ (ers L).Pairwise fun x y => x.s < y.s := fun e => by
    unfold receiving at e
    simp only [Bool.and_eq_true, decide_eq_true_eq] at e
    rw [← hql]; exact ⟨e.1.2, e.1.1.2, (asc_pair e.2).1⟩
  have HSQ := Lib.hid hsq
  obtain ⟨sv, hsv⟩ : ∃ sv, receiving ⟨b, kn, ers L⟩ = sv := ⟨_, rfl⟩
  have M0 : Hid (Mem w ((w.alloc (.cells #[.int .u64 b, .int .u64 kn, .slice A n cap] 31)).alloc (.cells #[.int .u64 0, .int .u64 0, .slice none 0 0] 31)) [.box w.heap.size #[.int .u64 b, .int .u64 kn, .slice A n cap] 31, .box (w.heap.size + 1) #[.int .u64 0, .int .u64 0, .slice none 0 0] 31]) :=
    ((Mem.start w).alloc' (b := w.heap.size) rfl _ _).alloc' (b := w.heap.size + 1) (by simp) _ _
  obtain ⟨w1, hw1⟩ : ∃ w1, ((w.alloc (.cells #[.int .u64 b, .int .u64 kn, .slice A n cap] 31)).alloc (.cells #[.int .u64 0, .int .u64 0, .slice none 0 0] 31)) = w1 := ⟨_, rfl⟩
  have HW1 := Lib.hid hw1
  rw [hw1] at M0
  have HCP := Lib.hid (copyReceiver_any b kn A n cap L B w1 (Nat.le_trans hB M0.out.held.le) (h.held M0.out.held) (hg.held M0.out.held) hn)
  have HSN := Lib.hid fun (w' : World) (k : Held w w') => receiving_any b kn A n cap L B w' (h.held k) (hg.held k) hn
  rw [hsv] at HP1 HSQ
  simp only [hsv] at HSN
  clear hp ho HO HP hsv hw1 h hg hB hql hsq
  obtain ⟨⟨c0, c1, c2⟩, _, hl0⟩ := M0.out.box3 0 rfl
  go_enter Tryz.func26, Tryz.ntmps26
  go_wp2_with fail
  rw [HW1.out]
  refine HCP.out.mono ?_
  rintro e w2 ⟨A2, n2, cap2, rfl, ⟨R, hR, oR, sR⟩, h2⟩
  dsimp only at hR ⊢
  have hRl : R.length = n := by have := congrArg List.length hR; rw [ers_len, ers_len, HL.out] at this; exact this
  obtain rfl : n2 = n := by rw [← hRl]; exact (Own.reads erC_len oR).2.1
  have HRL : Is R.length n2 := ⟨hRl⟩
  have HR := Lib.hid hR
  have M2 := Lib.hid ((M0.out.own h2 oR).alloc #[.int .u64 b, .int .u64 kn, .slice A2 n2 cap2] 31)
  have S2 := Lib.hid (sR.held ((Held.refl w2).alloc (.cells #[.int .u64 b, .int .u64 kn, .slice A2 n2 cap2] 31)))
  clear hR oR sR h2 HCP HW1 M0 c0 c1 c2 hl0 hRl
  go_wp2_with fail
  refine (HO1.out _).mono ?_
  rintro e w3 ⟨rs, rfl, hrs, h3⟩
  dsimp only at hrs ⊢
  have HRS : Is rs.data.toList orest := ⟨hrs⟩
  have hrl : rs.size = orest.length := by rw [← hrs, len_eq]
  have M3 := Lib.hid (M2.out.keep h3)
  have S3 := Lib.hid (S2.out.held h3)
  clear h3 HO1 M2 S2 hrs
  obtain ⟨⟨a0, a1, a2⟩, _, hla⟩ := M3.out.box3 0 rfl
  cases ook
  · have HP2 : Is p (⟨b, kn, ers L⟩, [], false) := ⟨HP1.out⟩
    clear HP1
    obtain ⟨⟨c0, c1, c2⟩, ⟨f0, f1, f2⟩, hl0⟩ := M3.out.box3 1 rfl
    obtain ⟨⟨d0, d1, d2⟩, _, hl1⟩ := M3.out.box3 3 rfl
    have hn02 : ¬ w.heap.size + 1 = w2.heap.size := M3.out.ne 1 3 rfl rfl (by decide)
    have hn20 : ¬ w2.heap.size = w.heap.size + 1 := fun e => hn02 e.symm
    go_wp2
    have MF := M3.out.put3 1 rfl (.int .u64 b) (.int .u64 kn) (.slice A2 n2 cap2)
    refine bodyPost_ret (Bx.res_ctt Tryz.results26 rfl (rcv_load (MF.blk 1 rfl))) rfl ?_
    exact TakeTo.mk (by rw [HP2.out, HR.out]; rfl) ((MF.sel [2] (by decide)).nilRow) (S3.out.put3 (Blk.of M3.out 1 rfl (by decide) HBB.out) _ _ _) (Sgs.nil _ _)
  go_wp2_with fail
  refine (HSN.out _ M3.out.held).mono ?_
  rintro e w4 ⟨rfl, h4⟩
  have M4 := Lib.hid (M3.out.keep h4)
  have S4 := Lib.hid (S3.out.held h4)
  clear h4 HSN M3 S3 a0 a1 a2 hla
  obtain ⟨⟨a0, a1, a2⟩, _, hla⟩ := M4.out.box3 0 rfl
  cases sv
  · have HP2 : Is p (⟨b, kn, ers L⟩, [], false) := ⟨HP1.out⟩
    clear HP1
    obtain ⟨⟨c0, c1, c2⟩, ⟨f0, f1, f2⟩, hl0⟩ := M4.out.box3 1 rfl
    obtain ⟨⟨d0, d1, d2⟩, _, hl1⟩ := M4.out.box3 3 rfl
    have hn02 : ¬ w.heap.size + 1 = w2.heap.size := M4.out.ne 1 3 rfl rfl (by decide)
    have hn20 : ¬ w2.heap.size = w.heap.size + 1 := fun e => hn02 e.symm
    go_wp2
    have MF := M4.out.put3 1 rfl (.int .u64 b) (.int .u64 kn) (.slice A2 n2 cap2)
    refine bodyPost_ret (Bx.res_ctt Tryz.results26 rfl (rcv_load (MF.blk 1 rfl))) rfl ?_
    exact TakeTo.mk (by rw [HP2.out, HR.out]; rfl) ((MF.sel [2] (by decide)).nilRow) (S4.out.put3 (Blk.of M4.out 1 rfl (by decide) HBB.out) _ _ _) (Sgs.nil _ _)
  obtain ⟨hn7, hb62, hpw⟩ := HSQ.out rfl
  have HPW := Lib.hid hpw
  have HB62 := Lib.hid hb62
  have hb8 : (b : Int) + 8 ≤ 18446744073709551615 := by omega
  have hb80 : (0 : Int) ≤ (b : Int) + 8 := by omega
  clear hpw hb62
  by_cases t1 : (b : Int) + 8 ≤ on
  · have HP2 : Is p (⟨b, kn, ers L⟩, [], false) := ⟨by rw [HP1.out, if_pos (by simp; omega)]⟩
    clear HP1
    obtain ⟨⟨c0, c1, c2⟩, ⟨f0, f1, f2⟩, hl0⟩ := M4.out.box3 1 rfl
    obtain ⟨⟨d0, d1, d2⟩, _, hl1⟩ := M4.out.box3 3 rfl
    have hn02 : ¬ w.heap.size + 1 = w2.heap.size := M4.out.ne 1 3 rfl rfl (by decide)
    have hn20 : ¬ w2.heap.size = w.heap.size + 1 := fun e => hn02 e.symm
    go_wp2
    have MF := M4.out.put3 1 rfl (.int .u64 b) (.int .u64 kn) (.slice A2 n2 cap2)
    refine bodyPost_ret (Bx.res_ctt Tryz.results26 rfl (rcv_load (MF.blk 1 rfl))) rfl ?_
    exact TakeTo.mk (by rw [HP2.out, HR.out]; rfl) ((MF.sel [2] (by decide)).nilRow) (S4.out.put3 (Blk.of M4.out 1 rfl (by decide) HBB.out) _ _ _) (Sgs.nil _ _)
  have t1d : decide ((b : Int) + 8 ≤ on) = false := decide_eq_false t1
  have HP3 : Is p (take3 ⟨b, kn, ers L⟩ on (unbody orest)) := ⟨by rw [HP1.out, if_neg (by simp; omega)]⟩
  have HD := Lib.hid fun w => decodeS_any rs (by omega) w
  rw [HRS.out] at HD
  obtain ⟨u, hu⟩ : ∃ u, unbody orest = u := ⟨_, rfl⟩
  rw [hu] at HD HP3
  obtain ⟨⟨gf, gk, ges⟩, gc⟩ := u
  clear HP1 hu HRS
  go_wp2_with fail
  refine (HD.out _).mono ?_
  rintro e w5 ⟨GA, gn, gcap, rfl, hgs, h5⟩
  dsimp only at hgs ⊢
  have M5 := Lib.hid ((M4.out.keep h5).alloc #[.int .u64 gf, .int .u64 gk, .slice GA gn gcap] 25)
  have S5 := Lib.hid ((S4.out.held h5).held ((Held.refl w5).alloc (.cells #[.int .u64 gf, .int .u64 gk, .slice GA gn gcap] 25)))
  have G5 := Lib.hid ((hgs B).held ((Held.refl w5).alloc (.cells #[.int .u64 gf, .int .u64 gk, .slice GA gn gcap] 25)))
  clear h5 hgs HD M4 S4 a0 a1 a2 hla
  by_cases t2 : ¬ gc = 0
  · have t2b : (gc == 0) = false := by rw [beq_eq_false_iff_ne]; exact t2
    have HP2 : Is p (⟨b, kn, ers L⟩, [], false) := ⟨by rw [HP3.out]; unfold take3; rw [if_pos t2]⟩
    clear HP3 HPW HSQ t2 t1d hb8 hb80 t1
    obtain ⟨⟨c0, c1, c2⟩, ⟨f0, f1, f2⟩, hl0⟩ := M5.out.box3 1 rfl
    obtain ⟨⟨d0, d1, d2⟩, _, hl1⟩ := M5.out.box3 3 rfl
    have hn02 : ¬ w.heap.size + 1 = w2.heap.size := M5.out.ne 1 3 rfl rfl (by decide)
    have hn20 : ¬ w2.heap.size = w.heap.size + 1 := fun e => hn02 e.symm
    go_wp2
    have MF := M5.out.put3 1 rfl (.int .u64 b) (.int .u64 kn) (.slice A2 n2 cap2)
    refine bodyPost_ret (Bx.res_ctt Tryz.results26 rfl (rcv_load (MF.blk 1 rfl))) rfl ?_
    exact TakeTo.mk (by rw [HP2.out, HR.out]; rfl) ((MF.sel [2] (by decide)).nilRow) (S5.out.put3 (Blk.of M5.out 1 rfl (by decide) HBB.out) _ _ _) (Sgs.nil _ _)
  have t2 := Decidable.not_not.1 t2
  subst t2
  have HP4 : Is p (if (decide (on < b) || has on (ers L)) = true then (⟨b, kn, ers L⟩, [], true) else ((drain b kn (ins ⟨on, gf, gk, ges⟩ (ers L))).1, (drain b kn (ins ⟨on, gf, gk, ges⟩ (ers L))).2, true)) := ⟨by rw [HP3.out]; unfold take3; rw [if_neg (by simp)]⟩
  clear HP3
  have HSR := Lib.hid (search_any A2 n2 cap2 R on _ (Own.reads erC_len (M5.out.row 2 rfl)).1 hn (by rw [HR.out]; exact HPW.out))
  rw [HR.out] at HSR
  have hbl := before_le on (ers L)
  rw [ers_len, HL.out] at hbl
  have HBF : Is (before on (ers R)) (before on (ers L)) := ⟨by rw [HR.out]⟩
  obtain ⟨at_, hat⟩ : ∃ at_, before on (ers L) = at_ := ⟨_, rfl⟩
  obtain ⟨hv, hhv⟩ : ∃ hv, has on (ers L) = hv := ⟨_, rfl⟩
  unfold FindTo at HSR
  rw [hat] at hbl HBF
  simp only [hat, hhv] at HSR
  rw [hhv] at HP4
  obtain ⟨⟨d0, d1, d2⟩, _, hl1⟩ := M5.out.box3 3 rfl
  clear hat hhv
  go_wp2_with fail
  refine HSR.out.mono ?_
  rintro e w6 ⟨rfl, h6⟩
  have M6 := Lib.hid (M5.out.keep h6)
  have S6 := Lib.hid (S5.out.held h6)
  have G6 := Lib.hid (G5.out.held h6)
  clear h6 HSR M5 S5 G5 d0 d1 d2 hl1
  obtain ⟨⟨a0, a1, a2⟩, _, hla⟩ := M6.out.box3 0 rfl
  by_cases t3 : (on : Int) < b
  · have HP2 : Is p (⟨b, kn, ers L⟩, [], true) := ⟨by rw [HP4.out, if_pos (by simp; omega)]⟩
    clear HP4
    obtain ⟨⟨c0, c1, c2⟩, ⟨f0, f1, f2⟩, hl0⟩ := M6.out.box3 1 rfl
    obtain ⟨⟨d0, d1, d2⟩, _, hl1⟩ := M6.out.box3 3 rfl
    have hn02 : ¬ w.heap.size + 1 = w2.heap.size := M6.out.ne 1 3 rfl rfl (by decide)
    have hn20 : ¬ w2.heap.size = w.heap.size + 1 := fun e => hn02 e.symm
    go_wp2
    have MF := M6.out.put3 1 rfl (.int .u64 b) (.int .u64 kn) (.slice A2 n2 cap2)
    refine bodyPost_ret (Bx.res_ctt Tryz.results26 rfl (rcv_load (MF.blk 1 rfl))) rfl ?_
    exact TakeTo.mk (by rw [HP2.out, HR.out]; rfl) ((MF.sel [2] (by decide)).nilRow) (S6.out.put3 (Blk.of M6.out 1 rfl (by decide) HBB.out) _ _ _) (Sgs.nil _ _)
  have t3d : decide ((on : Int) < b) = false := decide_eq_false t3
  have t3n : decide (on < b) = false := decide_eq_false (by omega)
  rw [t3n, Bool.false_or] at HP4
  cases hv
  rotate_left
  · have HP2 : Is p (⟨b, kn, ers L⟩, [], true) := ⟨HP4.out⟩
    clear HP4
    obtain ⟨⟨c0, c1, c2⟩, ⟨f0, f1, f2⟩, hl0⟩ := M6.out.box3 1 rfl
    obtain ⟨⟨d0, d1, d2⟩, _, hl1⟩ := M6.out.box3 3 rfl
    have hn02 : ¬ w.heap.size + 1 = w2.heap.size := M6.out.ne 1 3 rfl rfl (by decide)
    have hn20 : ¬ w2.heap.size = w.heap.size + 1 := fun e => hn02 e.symm
    go_wp2
    have MF := M6.out.put3 1 rfl (.int .u64 b) (.int .u64 kn) (.slice A2 n2 cap2)
    refine bodyPost_ret (Bx.res_ctt Tryz.results26 rfl (rcv_load (MF.blk 1 rfl))) rfl ?_
    exact TakeTo.mk (by rw [HP2.out, HR.out]; rfl) ((MF.sel [2] (by decide)).nilRow) (S6.out.put3 (Blk.of M6.out 1 rfl (by decide) HBB.out) _ _ _) (Sgs.nil _ _)
  have HP5 : Is p ((drain b kn (ins ⟨on, gf, gk, ges⟩ (ers L))).1, (drain b kn (ins ⟨on, gf, gk, ges⟩ (ers L))).2, true) := ⟨HP4.out⟩
  clear HP4
  obtain ⟨⟨d0, d1, d2⟩, _, hl1⟩ := M6.out.box3 3 rfl
  obtain ⟨⟨b0, b1, b2⟩, _, hl2⟩ := M6.out.box3 4 rfl
  have M7 := Lib.hid (M6.out.alloc #[.int .u64 on, .int .u64 gf, .int .u64 gk, .slice GA gn gcap] 72)
  have S7 := Lib.hid (S6.out.held ((Held.refl w6).alloc (.cells #[.int .u64 on, .int .u64 gf, .int .u64 gk, .slice GA gn gcap] 72)))
  have G7 := Lib.hid (G6.out.held ((Held.refl w6).alloc (.cells #[.int .u64 on, .int .u64 gf, .int .u64 gk, .slice GA gn gcap] 72)))
  have HI := Lib.hid (SlcEr.insert_any erC_len erC_one w.heap.size (.slice A2 n2 cap2) R at_ ⟨on, gf, gk, GA, gn, gcap, ges⟩ (w6.alloc (.cells #[.int .u64 on, .int .u64 gf, .int .u64 gk, .slice GA gn gcap] 72)) (M7.out.row 2 rfl) (by rw [HRL.out]; exact hbl) (by rw [HRL.out]; omega) M7.out.held.le w6.heap.size (M7.out.blk 5 rfl) (M7.out.neRow 5 2 rfl rfl (by decide)))
  clear M6 S6 G6 t1 t1d hb8 hb80 HSQ HPW
  go_wp2_with fail
  clear d0 d1 d2 hl1 b0 b1 b2 hl2 a0 a1 a2 hla
  refine HI.out.mono ?_
  rintro e w8 hgot
  obtain ⟨v', _, _, hgr, _⟩ := id hgot
  have kk := Chg.own (T := 70) (B := B) (M7.out.row 2 rfl) (by decide) HBB.out hgr
  obtain ⟨A8, cap8, rfl, hcp, M8'⟩ := M7.out.gotten 2 rfl hgot
  obtain ⟨E0, hE0⟩ : ∃ E0, R.take at_ ++ [(⟨on, gf, gk, GA, gn, gcap, ges⟩ : ErR)] ++ R.drop at_ = E0 := ⟨_, rfl⟩
  have hE0l : E0.length = n2 + 1 := by
    rw [← hE0, List.length_append, List.length_append, List.length_take, List.length_drop, HRL.out, List.length_singleton]; omega
  have S8 := Lib.hid (show Ers B w8 E0 by rw [← hE0]; exact ((((S7.out.chg kk).take at_).cat (Ers.one (G7.out.chg kk) hon)).cat ((S7.out.chg kk).drop at_)))
  have HE0 : Is (ers E0) (ins ⟨on, gf, gk, ges⟩ (ers L)) := ⟨by rw [← hE0, ← HR.out, ← HBF.out]; exact ers_ins⟩
  rw [hE0, hE0l] at M8' hcp
  rw [hE0, hE0l]
  have M8 := Lib.hid M8'
  have HEL : Is E0.length (n2 + 1) := ⟨hE0l⟩
  have HP6 : Is p ((drain b kn (ers E0)).1, (drain b kn (ers E0)).2, true) := ⟨by rw [HE0.out]; exact HP5.out⟩
  clear HI hgot hgr kk M8' M7 S7 G7 hE0 hE0l HP5 HBF HE0
  have M9 := Lib.hid ((((M8.out.put 3 rfl 2 (.slice A8 (n2 + 1) cap8)).nilRow (e := 25) (s := 3) (f := segC)).sel [1, 3, 2, 6] (by decide) : Mem w _ [.box (w.heap.size + 1) #[.int .u64 0, .int .u64 0, .slice none 0 0] 31, .box w2.heap.size #[.int .u64 b, .int .u64 kn, .slice A8 (n2 + 1) cap8] 31, .row 72 4 erC w.heap.size (.slice A8 (n2 + 1) cap8) E0, .row 25 3 segC w.heap.size (.slice none 0 0) []]))
  have S9 := Lib.hid (S8.out.put1 (Blk.of M8.out 3 rfl (by decide) HBB.out) 2 (.slice A8 (n2 + 1) cap8))
  obtain ⟨⟨c0, c1, c2⟩, ⟨f0, f1, f2⟩, hl0⟩ := M8.out.box3 3 rfl
  clear M8 S8
  go_wp2
  clear c0 c1 c2 f0 f1 f2 hl0
  go_loopw [15] (fun v wr => ∃ (E : List ErR) (D : List SR) (nx k m ce : Nat) (AE : Option Addr), Dr b kn (ers E0) nx k (ers E) (gs D) ∧ E.length = m ∧ D.length + m = n2 + 1 ∧ nx = b + D.length ∧ slLen v = D.length ∧ Mem w wr [.box (w.heap.size + 1) #[.int .u64 0, .int .u64 0, .slice none 0 0] 31, .box w2.heap.size #[.int .u64 nx, .int .u64 k, .slice AE m ce] 31, .row 72 4 erC w.heap.size (.slice AE m ce) E, .row 25 3 segC w.heap.size v D] ∧ Ers B wr E ∧ Sgs B wr D) (fun v _ => n2 + 1 - slLen v)
  case atStart => exact ⟨E0, [], b, kn, n2 + 1, cap8, A8, Dr.start _ _ _, HEL.out, by simp, rfl, rfl, M9.out, S9.out, Sgs.nil _ _⟩
  case round =>
    obtain ⟨E, D, nx, k, m, ce, AE, hdr, hEm, hDm, hnx, hsl, hM, hE, hD⟩ := hrel
    obtain ⟨DA, dc, rfl, hdc, _⟩ := (hM.row 3 rfl).shape
    have HDR := Lib.hid hdr
    have HEM : Is E.length m := ⟨hEm⟩
    have hDR : Hid (drain b kn (ers E0) = drain b kn (ers E0)) := rfl
    have M := Lib.hid hM
    have SE := Lib.hid hE
    have SD := Lib.hid hD
    obtain ⟨dl, hdl⟩ : ∃ dl, D.length = dl := ⟨_, rfl⟩
    have HDL : Is D.length dl := ⟨hdl⟩
    rw [hdl] at hDm hnx hdc M ⊢
    have HNX : Is nx (b + dl) := ⟨hnx⟩
    have hnx1 : (nx : Int) + 1 ≤ 18446744073709551615 := by have := HB62.out; omega
    have hnx0 : (0 : Int) ≤ (nx : Int) + 1 := by omega
    have HP7 : Is p ((drain b kn (ers E0)).1, (drain b kn (ers E0)).2, true) := ⟨HP6.out⟩
    have hml : m ≤ n2 + 1 := by omega
    have HDM := Lib.hid hDm
    clear hdr hEm hsl hM hE hD hdl hnx M9 S9 hDm HP6 hDR
    obtain ⟨⟨c0, c1, c2⟩, _, hl0⟩ := M.out.box3 1 rfl
    by_cases hm0 : m = 0
    · have hmp : ¬ (0 : Int) < m := by omega
      have hmd : decide ((0 : Int) < m) = false := decide_eq_false hmp
      have hST : Hid (drain b kn (ers E0) = (⟨nx, k, ers E⟩, gs D)) := HDR.out.stop fun x l e => by
        have := congrArg List.length e
        rw [ers_len, HEM.out, hm0] at this
        simp at this
      have k0 := cell_regrown c0
      have k2 := cell_regrown c2
      clear HDR
      subst hm0
      go_wp2
      refine wp_region_quiet_below (by kernel_rfl) (by kernel_rfl) ?_
      repeat (go_big_quiet_step (fail))
      refine wpQuiet_nil ?_
      intro w7 hw'
      obtain ⟨⟨dq, osq⟩, hw''⟩ := hw'
      have h7 : Held wr w7 := by rw [hw'']; exact below_regrown _ dq osq
      have M7 := Lib.hid (M.out.keep h7)
      have SE7 := Lib.hid (SE.out.held h7)
      have SD7 := Lib.hid (SD.out.held h7)
      clear hw'' h7 M SE SD k0 k2 c0 c1 c2 hl0
      obtain ⟨⟨c0, c1, c2⟩, ⟨f0, f1, f2⟩, hl0⟩ := M7.out.box3 0 rfl
      obtain ⟨⟨d0, d1, d2⟩, _, hl1⟩ := M7.out.box3 1 rfl
      have hn02 : ¬ w.heap.size + 1 = w2.heap.size := M7.out.ne 0 1 rfl rfl (by decide)
      have hn20 : ¬ w2.heap.size = w.heap.size + 1 := fun e => hn02 e.symm
      go_wp2
      have MF := M7.out.put3 0 rfl (.int .u64 nx) (.int .u64 k) (.slice AE 0 ce)
      refine bodyPost_ret (Bx.res_ctt Tryz.results26 rfl (rcv_load (MF.blk 0 rfl))) rfl ?_
      exact TakeTo.mk (by rw [HP7.out, hST.out]) (MF.sel [2, 3] (by decide)) (SE7.out.put3 (Blk.of M7.out 0 rfl (by decide) HBB.out) _ _ _) (SD7.out.put3 (Blk.of M7.out 0 rfl (by decide) HBB.out) _ _ _)
    have hmp : (0 : Int) < m := by omega
    have hmd : decide ((0 : Int) < m) = true := decide_eq_true hmp
    obtain ⟨x, E', rfl⟩ : ∃ x E', E = x :: E' := by
      cases E with
      | nil => exact absurd HEM.out.symm hm0
      | cons x E' => exact ⟨x, E', rfl⟩
    obtain ⟨xs, xf, xk, XA, xn, xc, xes⟩ := x
    have hm1 : 0 < m := by omega
    obtain ⟨g, x, rfl, hge, hgl2, hx, hxc⟩ := M.out.slot 2 rfl erC_len (by decide) (k := 0) (by rw [HEM.out]; exact hm1)
    simp only [List.getElem?_cons_zero, Option.some.injEq] at hx
    subst hx
    have x0 : wr.cell? ⟨g, 0, none⟩ = some (.int .u64 xs) := by have := (hxc 0 (by decide)).2 _ rfl; simpa using this
    have x1 : wr.cell? ⟨g, 1, none⟩ = some (.int .u64 xf) := by have := (hxc 1 (by decide)).2 _ rfl; simpa using this
    have x2 : wr.cell? ⟨g, 2, none⟩ = some (.int .u64 xk) := by have := (hxc 2 (by decide)).2 _ rfl; simpa using this
    have x3 : wr.cell? ⟨g, 3, none⟩ = some (.slice XA xn xc) := by have := (hxc 3 (by decide)).2 _ rfl; simpa using this
    clear hxc hge
    have k0 := cell_regrown c0
    have k2 := cell_regrown c2
    have kx := cell_regrown x0
    by_cases hs : ¬ xs = nx
    · have hsb : ((xs : Int) == nx) = false := by rw [beq_eq_false_iff_ne]; omega
      have hsc : (xs == nx) = false := by rw [beq_eq_false_iff_ne]; exact hs
      have hST : Hid (drain b kn (ers E0) = (⟨nx, k, ers (⟨xs, xf, xk, XA, xn, xc, xes⟩ :: E')⟩, gs D)) := HDR.out.stop fun x l e => by
        injection e with e _
        rw [← e]; exact hs
      clear HDR hs hm0
      go_wp2
      refine wp_region_quiet_below (by kernel_rfl) (by kernel_rfl) ?_
      repeat (go_big_quiet_step (fail))
      refine wpQuiet_nil ?_
      intro w7 hw'
      obtain ⟨⟨dq, osq⟩, hw''⟩ := hw'
      have h7 : Held wr w7 := by rw [hw'']; exact below_regrown _ dq osq
      have M7 := Lib.hid (M.out.keep h7)
      have SE7 := Lib.hid (SE.out.held h7)
      have SD7 := Lib.hid (SD.out.held h7)
      clear hw'' h7 M SE SD k0 k2 kx c0 c1 c2 hl0 x0 x1 x2 x3
      obtain ⟨⟨c0, c1, c2⟩, ⟨f0, f1, f2⟩, hl0⟩ := M7.out.box3 0 rfl
      obtain ⟨⟨d0, d1, d2⟩, _, hl1⟩ := M7.out.box3 1 rfl
      have hn02 : ¬ w.heap.size + 1 = w2.heap.size := M7.out.ne 0 1 rfl rfl (by decide)
      have hn20 : ¬ w2.heap.size = w.heap.size + 1 := fun e => hn02 e.symm
      go_wp2
      have MF := M7.out.put3 0 rfl (.int .u64 nx) (.int .u64 k) (.slice (some ⟨g, 0, none⟩) m ce)
      refine bodyPost_ret (Bx.res_ctt Tryz.results26 rfl (rcv_load (MF.blk 0 rfl))) rfl ?_
      exact TakeTo.mk (by rw [HP7.out, hST.out]) (MF.sel [2, 3] (by decide)) (SE7.out.put3 (Blk.of M7.out 0 rfl (by decide) HBB.out) _ _ _) (SD7.out.put3 (Blk.of M7.out 0 rfl (by decide) HBB.out) _ _ _)
    have hs := Decidable.not_not.1 hs
    subst hs
    have hsb : ((xs : Int) == xs) = true := by simp
    clear hm0
    go_wp2
    refine wp_region_quiet_below (by kernel_rfl) (by kernel_rfl) ?_
    repeat (go_big_quiet_step (fail))
    refine wpQuiet_nil ?_
    intro w7 hw'
    obtain ⟨⟨dq, osq⟩, hw''⟩ := hw'
    have h7 : Held wr w7 := by rw [hw'']; exact below_regrown _ dq osq
    have M7 := Lib.hid ((M.out.keep h7).alloc #[.int .u64 xf, .int .u64 xk, .slice XA xn xc] 25)
    have h7b := (Held.refl w7).alloc (.cells #[.int .u64 xf, .int .u64 xk, .slice XA xn xc] 25)
    have SE7 := Lib.hid ((SE.out.held h7).held h7b)
    have SD7 := Lib.hid ((SD.out.held h7).held h7b)
    have SX := Lib.hid (SE7.out ⟨xs, xf, xk, XA, xn, xc, xes⟩ (by simp)).1
    obtain ⟨y0, y1, y2, y3⟩ : w7.cell? ⟨g, 0, none⟩ = some (.int .u64 xs) ∧ w7.cell? ⟨g, 1, none⟩ = some (.int .u64 xf) ∧ w7.cell? ⟨g, 2, none⟩ = some (.int .u64 xk) ∧ w7.cell? ⟨g, 3, none⟩ = some (.slice XA xn xc) := ⟨h7.cell x0, h7.cell x1, h7.cell x2, h7.cell x3⟩
    have e0 := h7.cell c0
    have e1 := h7.cell c1
    have e2 := h7.cell c2
    have hgl3 : g < w7.heap.size := Nat.lt_of_lt_of_le hgl2 h7.le
    have hgn : ¬ g = w7.heap.size := by omega
    have htl : w2.heap.size < w7.heap.size := Nat.lt_of_lt_of_le hl0 h7.le
    have htn : ¬ w2.heap.size = w7.heap.size := by omega
    obtain ⟨⟨d0, d1, d2⟩, ⟨df0, df1, df2⟩, hld⟩ := M7.out.box3 1 rfl
    have HD := SlcEr.delete_any erC_len erC_one w.heap.size (.slice (some ⟨g, 0, none⟩) m ce) (⟨xs, xf, xk, XA, xn, xc, xes⟩ :: E') 0 1 (w7.alloc (.cells #[.int .u64 xf, .int .u64 xk, .slice XA xn xc] 25)) (M7.out.row 2 rfl) (by omega) (by rw [HEM.out]; omega) (by rw [HEM.out]; omega)
    rw [show ((0 : Nat) : Int) = 0 from rfl, show ((1 : Nat) : Int) = 1 from rfl] at HD
    have HDD := Lib.hid HD
    clear HD hw'' h7 h7b M SE SD k0 k2 kx c0 c1 c2 hl0 x0 x1 x2 x3
    go_wp2_with fail
    refine HDD.out.mono ?_
    rintro e w8 hgot
    obtain ⟨v', _, _, hgr, _⟩ := id hgot
    have kk := Chg.own (T := 70) (B := B) (M7.out.row 2 rfl) (by decide) HBB.out hgr
    obtain ⟨A8, cap8, rfl, hcp, M8'⟩ := M7.out.gotten 2 rfl hgot
    have hE' : List.take 0 ((⟨xs, xf, xk, XA, xn, xc, xes⟩ : ErR) :: E') ++ List.drop 1 (⟨xs, xf, xk, XA, xn, xc, xes⟩ :: E') = E' := rfl
    rw [hE'] at M8' hcp ⊢
    obtain ⟨m1, hm1e⟩ : ∃ m1, m = m1 + 1 := ⟨m - 1, by omega⟩
    have hEl : E'.length = m1 := by have := HEM.out; rw [List.length_cons] at this; omega
    have HEL2 : Is E'.length m1 := ⟨hEl⟩
    rw [hEl] at M8' hcp ⊢
    have M8 := Lib.hid M8'
    have SE8 := Lib.hid (show Ers B w8 E' from fun y hy => (SE7.out.chg kk) y (List.mem_cons_of_mem _ hy))
    have SD8 := Lib.hid (SD7.out.chg kk)
    have SX8 := Lib.hid (SX.out.chg kk)
    have HDM2 : Hid (dl + (m1 + 1) = n2 + 1) := show _ = _ by have := HDM.out; omega
    clear HDD hgot hgr kk M8' M7 SE7 SD7 SX y0 y1 y2 y3 e0 e1 e2 d0 d1 d2 df0 df1 df2 hld hE' hEl hm1e HDM
    have M9 := Lib.hid (M8.out.put 1 rfl 2 (.slice A8 m1 cap8))
    have SE9 := Lib.hid (SE8.out.put1 (Blk.of M8.out 1 rfl (by decide) HBB.out) 2 (.slice A8 m1 cap8))
    have SD9 := Lib.hid (SD8.out.put1 (Blk.of M8.out 1 rfl (by decide) HBB.out) 2 (.slice A8 m1 cap8))
    have SX9 := Lib.hid (SX8.out.chg ((Blk.of M8.out 1 rfl (by decide) HBB.out).chg 2 (.slice A8 m1 cap8)))
    obtain ⟨⟨d0, d1, d2⟩, ⟨df0, df1, df2⟩, hld⟩ := M8.out.box3 1 rfl
    obtain ⟨⟨s0, s1, s2⟩, _, hls⟩ := M8.out.box3 4 rfl
    have hts : ¬ w2.heap.size = w7.heap.size := M8.out.ne 1 4 rfl rfl (by decide)
    have hst : ¬ w7.heap.size = w2.heap.size := fun e => hts e.symm
    by_cases hk : ¬ xf = k
    · have hkb : ((xf : Int) == k) = false := by rw [beq_eq_false_iff_ne]; omega
      have hkc : (xf == k) = false := by rw [beq_eq_false_iff_ne]; exact hk
      have hST : Hid (drain b kn (ers E0) = (⟨xs, k, ers E'⟩, gs D)) := HDR.out.brk rfl hk
      have M10 := Lib.hid ((M9.out.take 4 : Mem w _ [.box (w.heap.size + 1) #[.int .u64 0, .int .u64 0, .slice none 0 0] 31, .box w2.heap.size #[.int .u64 xs, .int .u64 k, .slice A8 m1 cap8] 31, .row 72 4 erC w.heap.size (.slice A8 m1 cap8) E', .row 25 3 segC w.heap.size (.slice DA dl dc) D]))
      clear HDR hk M8 SE8 SD8 SX8 hnx1 hnx0
      obtain ⟨⟨c0, c1, c2⟩, ⟨f0, f1, f2⟩, hl0⟩ := M10.out.box3 0 rfl
      obtain ⟨⟨d0, d1, d2⟩, _, hl1⟩ := M10.out.box3 1 rfl
      have hn02 : ¬ w.heap.size + 1 = w2.heap.size := M10.out.ne 0 1 rfl rfl (by decide)
      have hn20 : ¬ w2.heap.size = w.heap.size + 1 := fun e => hn02 e.symm
      go_wp2
      have MF := M10.out.put3 0 rfl (.int .u64 xs) (.int .u64 k) (.slice A8 m1 cap8)
      refine bodyPost_ret (Bx.res_ctt Tryz.results26 rfl (rcv_load (MF.blk 0 rfl))) rfl ?_
      exact TakeTo.mk (by rw [HP7.out, hST.out]) (MF.sel [2, 3] (by decide)) (SE9.out.put3 (Blk.of M10.out 0 rfl (by decide) HBB.out) _ _ _) (SD9.out.put3 (Blk.of M10.out 0 rfl (by decide) HBB.out) _ _ _)
    have hk := Decidable.not_not.1 hk
    subst hk
    have hDS := Lib.hid (HDR.out.step rfl rfl)
    have MA := Lib.hid (M9.out.skip (.cells #[.int .u64 xf, .int .u64 xk, .slice XA xn xc] 25))
    have hA := (Held.refl (w8.setCell ⟨w2.heap.size, 2, none⟩ (.slice A8 m1 cap8))).alloc (.cells #[.int .u64 xf, .int .u64 xk, .slice XA xn xc] 25)
    have SEA := Lib.hid (SE9.out.held hA)
    have SDA := Lib.hid (SD9.out.held hA)
    have SXA := Lib.hid (SX9.out.held hA)
    have hdl2 : dl ≤ 100 := by have := HDM2.out; omega
    clear hA M8 SE8 SD8 SX8 HDR SE9 SD9 SX9
    go_wp2_with (at_builtin; refine Mem.wp_appC MA.out 3 rfl rfl _ _ _ rfl _ 40 Tryz.underlying26 info_seg rfl (by decide) segC_len segC_one ⟨xf, xk, XA, xn, xc, xes⟩ ⟨w8.heap.size, 0, none⟩ 1 rfl rfl (cells_new _ (by simp) _ _) dl HDL.out (by omega) (by decide) ?_; intro g4 cp4 w9 MB' kb; have MB := Lib.hid MB'; have KB := Lib.hid kb; obtain ⟨⟨p0, p1, p2⟩, ⟨pf0, pf1, pf2⟩, pl⟩ := MB'.box3 1 rfl; obtain ⟨⟨q0, q1, q2⟩, _, ql⟩ := MB'.box3 4 rfl; clear MB' kb)
    have kk := KB.out 70 B (by decide) HBB.out
    have MC := Lib.hid (MB.out.put 1 rfl 0 (.int .u64 ((xs + 1 : Nat) : Int)))
    have SEB := Lib.hid (SEA.out.chg kk)
    have SDB := Lib.hid ((SDA.out.chg kk).snoc (SXA.out.chg kk))
    have SEC := Lib.hid (SEB.out.put1 (Blk.of MB.out 1 rfl (by decide) HBB.out) 0 (.int .u64 ((xs + 1 : Nat) : Int)))
    have SDC := Lib.hid (SDB.out.put1 (Blk.of MB.out 1 rfl (by decide) HBB.out) 0 (.int .u64 ((xs + 1 : Nat) : Int)))
    have MD := Lib.hid (MC.out.put 1 rfl 1 (.int .u64 xk))
    have SED := Lib.hid (SEC.out.put1 (Blk.of MC.out 1 rfl (by decide) HBB.out) 1 (.int .u64 xk))
    have SDD := Lib.hid (SDC.out.put1 (Blk.of MC.out 1 rfl (by decide) HBB.out) 1 (.int .u64 xk))
    go_roundw
    case rel =>
      refine ⟨E', D ++ [(⟨xf, xk, XA, xn, xc, xes⟩ : SR)], xs + 1, xk, m1, cap8, A8, ?_, HEL2.out, ?_, ?_, ?_, ?_, SED.out, SDD.out⟩
      · have := hDS.out
        unfold gs at this ⊢
        rw [List.map_append]
        exact this
      · rw [List.length_append, HDL.out, List.length_singleton]; have := HDM2.out; omega
      · rw [List.length_append, HDL.out, List.length_singleton]; have := HNX.out; omega
      · rw [List.length_append, HDL.out, List.length_singleton]; rfl
      · exact MD.out.take 4
    case measure =>
      have := HDM2.out
      simp only [slLen]; omega
end St
end Go.Proofs.YthpjbffhdaaibaaGreat

set_option linter.unusedVariables false
set_option linter.unusedSimpArgs false
set_option maxRecDepth 100000
namespace Go.Proofs.YthpjbffhdaaibaaGreat
open Go.RowKit Go.BigFrame Go.Sort Go.Lib
namespace St
open Enc Uv Lg Lgc
theorem run_equalIn_ent (d : Nat) (t : Nat) (k n : Int) (s : ByteArray) (w : World) : (Op.equalIn (d + 4) 70 (.agg #[.int .u64 (t : Int), .int .i64 k, .int .u32 n, .string s]) (.agg #[.int .u64 (t : Int), .int .i64 k, .int .u32 n, .string s])).run Tryz.prog w = .ok true w := by
  have hs : Program.stoodInHeld Tryz.prog 70 = false := by kernel_rfl
  have hs2 : Program.stoodInHeld Tryz.prog 68 = false := by kernel_rfl
  unfold Op.equalIn
  simp [run_underlying Tryz.underlying70, hs, go_sem]
theorem neq_ent_same (t : Nat) (k n : Int) (s : ByteArray) (w : World) : (binOp .neq 70 (.agg #[.int .u64 (t : Int), .int .i64 k, .int .u32 n, .string s]) (.agg #[.int .u64 (t : Int), .int .i64 k, .int .u32 n, .string s])).run Tryz.prog w = .ok (.bool false) w := by
  simp only [binOp]
  simp [Op.equal, Op.maxDepth, run_equalIn_ent 9996]
def TrueTo (w : World) (e : Ending) (w' : World) : Prop := e = .returned (.bool true) ∧ Held w w'
set_option maxHeartbeats 1000000 in
theorem sameE_any (A1 A2 : Option Addr) (n c1 c2 : Nat) (L : List Ent) (w : World) (h1 : Sl 4 entC w A1 n L) (h2 : Sl 4 entC w A2 n L) (hn : n ≤ 1000000) :
    Calls Tryz.prog 49 #[.slice A1 n c1, .slice A2 n c2] w (TrueTo w) := by
  have H1 := Lib.hid h1
  have H2 := Lib.hid h2
  clear h1 h2
  go_enter Tryz.func49, Tryz.ntmps49
  go_wp2
  go_loopw [5] (fun i wr => ∃ q : Nat, i = .int .i64 (q : Int) ∧ q ≤ n ∧ Held w wr) (fun i _ => n - (RowKit.intOf i).toNat)
  case atStart => exact ⟨0, rfl, Nat.zero_le _, Held.refl _⟩
  case round =>
    obtain ⟨q, rfl, hq, hh⟩ := hrel
    have HH := Lib.hid hh
    by_cases hlt : q < n
    · obtain ⟨b1, o1, t, k, nn, d, rfl, _, hx, x0, x1, x2, x3⟩ := entAt H1.out hh (k := q) hlt
      obtain ⟨b2, o2, t', k', nn', d', rfl, _, hy, y0, y1, y2, y3⟩ := entAt H2.out hh (k := q) hlt
      rw [hx] at hy
      injection hy with hy
      injection hy with e1 e2 e3 e4
      subst e1 e2 e3 e4
      have z2 : (q : Int) < n := by omega
      have z3 : (0 : Int) ≤ q := by omega
      have j0 : ¬ (q : Int) < 0 := by omega
      have hne := neq_ent_same t k nn d
      clear hx hh
      go_wp2
      go_big_quiet (fail)
      go_wp2
      go_roundw
      case rel => exact ⟨q + 1, by go_num, by omega, HH.out.step ((Held.refl _).drewN _)⟩
      case measure => (simp [RowKit.intOf]) <;> omega
    · obtain rfl : q = n := by omega
      have z2 : ¬ (q : Int) < q := by omega
      go_wp2
      go_ret
      exact ⟨rfl, hh⟩
theorem gs_nth {R1 R2 : List SR} (h : gs R1 = gs R2) {k : Nat} {x y : SR} (hx : R1[k]? = some x) (hy : R2[k]? = some y) : x.f = y.f ∧ x.kn = y.kn ∧ x.es = y.es := by
  have e := congrArg (fun l => l[k]?) h
  simp only [gs, List.getElem?_map, hx, hy, Option.map_some] at e
  injection e with e
  simp only [SR.g] at e
  injection e with e1 e2 e3
  exact ⟨e1, e2, e3⟩
set_option maxHeartbeats 2000000 in
theorem sameS_any (A1 A2 : Option Addr) (n c1 c2 : Nat) (R1 R2 : List SR) (B : Nat) (w : World) (h1 : Sl 3 segC w A1 n R1) (h2 : Sl 3 segC w A2 n R2) (s1 : Sgs B w R1) (s2 : Sgs B w R2) (hg : gs R1 = gs R2) (hn : n ≤ 1000000) :
    Calls Tryz.prog 12 #[.slice A1 n c1, .slice A2 n c2] w (TrueTo w) := by
  have H1 := Lib.hid h1
  have H2 := Lib.hid h2
  have S1 := Lib.hid s1
  have S2 := Lib.hid s2
  have HG := Lib.hid hg
  clear h1 h2 s1 s2 hg
  go_enter Tryz.func12, Tryz.ntmps12
  go_wp2
  go_loopw [5] (fun i wr => ∃ q : Nat, i = .int .i64 (q : Int) ∧ q ≤ n ∧ Held w wr) (fun i _ => n - (RowKit.intOf i).toNat)
  case atStart => exact ⟨0, rfl, Nat.zero_le _, Held.refl _⟩
  case round =>
    obtain ⟨q, rfl, hq, hh⟩ := hrel
    have HH := Lib.hid hh
    by_cases hlt : q < n
    · obtain ⟨b1, o1, f, kn, XA, xn, xc, es, rfl, _, hx, x0, x1, x2⟩ := segAt H1.out hh (k := q) hlt
      obtain ⟨b2, o2, f', kn', YA, yn, yc, es', rfl, _, hy, y0, y1, y2⟩ := segAt H2.out hh (k := q) hlt
      obtain ⟨e1, e2, e3⟩ := gs_nth HG.out hx hy
      simp only at e1 e2 e3
      subst e1 e2 e3
      have g1 := S1.out.at_ hx
      have g2 := S2.out.at_ hy
      obtain rfl : yn = xn := by have e := g1.sl.1; have e' := g2.sl.1; simp only at e e'; omega
      have z2 : (q : Int) < n := by omega
      have z3 : (0 : Int) ≤ q := by omega
      have j0 : ¬ (q : Int) < 0 := by omega
      have k0 := cell_regrown x0
      have k1 := cell_regrown x1
      have k2 := cell_regrown x2
      have l0 := cell_regrown y0
      have l1 := cell_regrown y1
      have l2 := cell_regrown y2
      have cE := Lib.hid fun d os => Calls.regrown_of (d := d) (os := os) (sameE_any XA YA yn xc yc es (grow (redrawn wr d) os) (g1.sl.held (hh.step (below_regrown wr d os))) (g2.sl.held (hh.step (below_regrown wr d os))) (by have := g1.n; simp only at this; omega))
      clear hx hy hh g1 g2 x0 x1 x2 y0 y1 y2
      go_wp2
      refine wp_region_quiet_below (by kernel_rfl) (by kernel_rfl) ?_
      repeat (go_big_quiet_step (first | (go_at_call 49; with_reducible exact cE.out _ _)))
      refine wpQuiet_nil ?_
      intro w7 hw'
      obtain ⟨⟨dq, osq⟩, hw''⟩ := hw'
      have h7 : Held wr w7 := by rw [hw'']; exact below_regrown _ dq osq
      clear hw'' k0 k1 k2 l0 l1 l2 cE
      go_wp2
      go_roundw
      case rel => exact ⟨q + 1, by go_num, by omega, HH.out.step h7⟩
      case measure => (simp [RowKit.intOf]) <;> omega
    · obtain rfl : q = n := by omega
      have z2 : ¬ (q : Int) < q := by omega
      go_wp2
      go_ret
      exact ⟨rfl, hh⟩
/-- Equal lists of segments: equally many. -/
theorem gs_same {R1 R2 : List SR} (h : gs R1 = gs R2) : R1.length = R2.length := by
  have := congrArg List.length h
  unfold gs at this
  rwa [List.length_map, List.length_map] at this
set_option maxHeartbeats 1000000 in
theorem sameSnd_any (b t kn : Nat) (A1 A2 : Option Addr) (n c1 c2 : Nat) (R1 R2 : List SR) (B : Nat) (w : World) (h1 : Sl 3 segC w A1 n R1) (h2 : Sl 3 segC w A2 n R2) (s1 : Sgs B w R1) (s2 : Sgs B w R2) (hg : gs R1 = gs R2) (hn : n ≤ 1000000) :
    Calls Tryz.prog 30 #[.agg #[.int .u64 b, .int .u64 t, .int .u64 kn, .slice A1 n c1], .agg #[.int .u64 b, .int .u64 t, .int .u64 kn, .slice A2 n c2]] w (TrueTo w) := by
  have HA := ((Held.refl w).alloc (.cells #[.int .u64 b, .int .u64 t, .int .u64 kn, .slice A1 n c1] 28)).alloc (.cells #[.int .u64 b, .int .u64 t, .int .u64 kn, .slice A2 n c2] 28)
  have HC := Lib.hid (sameS_any A1 A2 n c1 c2 R1 R2 B _ (h1.held HA) (h2.held HA) (s1.held HA) (s2.held HA) hg hn)
  have HAA := Lib.hid HA
  clear h1 h2 s1 s2 hg HA
  go_enter Tryz.func30, Tryz.ntmps30
  go_wp2_with fail
  refine HC.out.mono ?_
  rintro e w2 ⟨rfl, h2⟩
  have W2 := Lib.hid (HAA.out.step h2)
  clear h2
  go_wp2
  go_ret
  exact ⟨rfl, W2.out⟩
end St
end Go.Proofs.YthpjbffhdaaibaaGreat
