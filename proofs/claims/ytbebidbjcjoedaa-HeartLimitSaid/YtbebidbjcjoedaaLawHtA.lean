/-
  Chapter 27: a detector never suspects a peer that is heard often enough, and always one that is not: the walk.
-/
import Derived.Test.YtbebidbjcjoedaaLawHt
import Derived.Test.YtbebidbjcjoedaaRw
import Derived.Test.YtbebidbjcjoedaaMkR
namespace Go.Proofs.Ytbebidbjcjoedaa
open Go.RowKit Go.Sort
set_option linter.unusedVariables false
set_option linter.unusedSimpArgs false
set_option maxRecDepth 100000
namespace Htc
open Ht Lgc Rw
theorem beat_new {l s : Int} {n m : Nat} (h1 : 1 ≤ l) (h2 : l ≤ 20) (h3 : 0 ≤ s) (h4 : s ≤ l) (h : n < m) : beat ⟨l, s, n⟩ m = (⟨l, 0, m⟩, true) := by
  have hv : vdet ⟨l, s, n⟩ = true := by simp [vdet, h1, h2, h3, h4]
  unfold beat
  rw [hv, if_neg]
  rintro (h | h)
  · cases h
  · exact absurd h (by show ¬ m ≤ n; omega)
theorem tick_silent {l sil : Int} {n : Nat} (h1 : 1 ≤ l) (h2 : l ≤ 20) (h3 : 0 ≤ sil) : tick ⟨l, min sil l, n⟩ = ⟨l, min (sil + 1) l, n⟩ := by
  have hv : vdet ⟨l, min sil l, n⟩ = true := by rw [vdet_iff]; simp only; omega
  unfold tick
  rw [hv]
  by_cases h : sil < l
  · rw [if_pos ⟨rfl, by show min sil l < l; omega⟩, show min sil l = sil by omega, show min (sil + 1) l = sil + 1 by omega]
  · rw [if_neg (by rintro ⟨_, h4⟩; exact absurd h4 (by show ¬ min sil l < l; omega)), show min sil l = l by omega, show min (sil + 1) l = l by omega]
theorem susp_silent {l sil : Int} {n : Nat} (h1 : 1 ≤ l) (h2 : l ≤ 20) (h3 : 0 ≤ sil) : susp ⟨l, min sil l, n⟩ = decide (l ≤ sil) := by
  have hv : vdet ⟨l, min sil l, n⟩ = true := by rw [vdet_iff]; simp only; omega
  unfold susp
  rw [hv]
  simp only [Bool.true_and]
  by_cases h : l ≤ sil
  · rw [decide_eq_true h, decide_eq_true (by omega)]
  · rw [decide_eq_false h, decide_eq_false (by omega)]
theorem tdiv4_bd {x : Int} (h1 : -9223372036854775808 ≤ x) (h2 : x ≤ 9223372036854775807) : -9223372036854775808 ≤ x.tdiv 4 ∧ x.tdiv 4 ≤ 9223372036854775807 := by
  by_cases h : 0 ≤ x
  · rw [Int.tdiv_eq_ediv_of_nonneg h]; omega
  · obtain ⟨y, hy⟩ : ∃ y, x = -y := ⟨-x, by omega⟩
    subst hy
    rw [Int.neg_tdiv, Int.tdiv_eq_ediv_of_nonneg (by omega)]; omega
theorem newD_ok {l : Int} (h1 : 1 ≤ l) (h2 : l ≤ 20) : newD l = (⟨l, 0, 0⟩, true) := by
  have hv : vdet ⟨l, 0, 0⟩ = true := by rw [vdet_iff]; simp only; omega
  unfold newD; rw [if_pos hv]
set_option maxHeartbeats 2000000 in
theorem alive (a0 : Int) (o1 : Option Addr) (len1 cap1 : Nat) (z1 : List Int) (w0 : (Lit.int .i64 a0).wf = true) (W : World) (w1 : IsRow .i64 W o1 len1 cap1 z1) :
    Calls Try.prog 5 #[.int .i64 a0, .slice o1 len1 cap1] W fun e w' => e = .returned (.bool true) ∧ Below W.heap.size W w' := by
  have ha := bd_i64 w0
  obtain ⟨L, hL, hmax, hwf, hcell⟩ := w1.view
  clear w0 w1
  have hmx : (len1 : Int) ≤ 9223372036854775807 := by unfold maxLen at hmax; omega
  by_cases h1 : a0 < 1
  · go_enter Try.func5, Try.ntmps5
    go_wp2_with (go_at_call 7; refine (awake_any _).mono ?_; rintro e w1 ⟨rfl, hb⟩)
    go_ret
    exact ⟨rfl, hb⟩
  by_cases h2 : (20 : Int) < a0
  · go_enter Try.func5, Try.ntmps5
    go_wp2_with (go_at_call 7; refine (awake_any _).mono ?_; rintro e w1 ⟨rfl, hb⟩)
    go_ret
    exact ⟨rfl, hb⟩
  by_cases h3 : (100 : Int) < len1
  · go_enter Try.func5, Try.ntmps5
    go_wp2_with (go_at_call 7; refine (awake_any _).mono ?_; rintro e w1 ⟨rfl, hb⟩)
    go_ret
    exact ⟨rfl, hb⟩
  have cN : Hid (∀ w, Calls Try.prog 8 #[.int .i64 a0] w fun e w' => e = .returned (.tuple #[.agg #[.int .i64 a0, .int .i64 0, .int .u64 0], .bool true]) ∧ Held w w') := fun w => by
    have := new_any a0 w; rw [newD_ok (by omega) (by omega)] at this; exact this
  have HC := Lib.hid hcell
  have HL := Lib.hid hL
  have HWF := Lib.hid hwf
  clear hcell hL hwf hmax
  go_enter Try.func5, Try.ntmps5
  go_wp2_with fail
  refine (cN.out _).mono ?_
  rintro e w1 ⟨rfl, h⟩
  have HW1 := Lib.hid (h.alloc (.cells #[.int .i64 a0, .int .i64 0, .int .u64 0] 24))
  have D1 : Hid (DB (w1.alloc (.cells #[.int .i64 a0, .int .i64 0, .int .u64 0] 24)) w1.heap.size a0 0 0) := DB.new _ _ _ _
  have hb := h.le
  clear h cN
  go_wp2_with fail
  generalize w1.alloc (.cells #[.int .i64 a0, .int .i64 0, .int .u64 0] 24) = wa at HW1 D1 ⊢
  generalize w1.heap.size = B at D1 hb ⊢
  go_loopw [7, 8, 9] (fun nu si i wr => ∃ (k num : Nat) (sil : Int), k ≤ len1 ∧ i = .int .i64 k ∧ nu = .int .u64 num ∧ si = .int .i64 sil ∧ num ≤ 3 * k ∧ 0 ≤ sil ∧ sil ≤ k ∧ DB wr B a0 (min sil a0) num ∧ Held W wr) (fun _ _ i _ => len1 - (intOf i).toNat)
  case atStart => exact ⟨0, 0, 0, by omega, rfl, rfl, rfl, by omega, by omega, by omega, by rw [show min (0 : Int) a0 = 0 by omega]; exact D1.out, HW1.out⟩
  case round =>
    obtain ⟨k, num, sil, hk, rfl, rfl, rfl, hnum, hs0, hsk, hD, hW⟩ := hrel
    by_cases hlt : k < len1
    · obtain ⟨b, off, rfl, hbW, hcc⟩ := HC.out.resolve_left (by omega)
      have hkL : k < L.length := by rw [HL.out]; exact hlt
      have hxw := bd_i64 (HWF.out _ (List.getElem_mem hkL))
      have q0 := hW.cell (hcc k hkL)
      generalize L[k] = x at hxw q0
      clear hcc hkL
      obtain ⟨rd, hrd⟩ : ∃ r, Mk.round x 4 = r := ⟨_, rfl⟩
      have HRD := Lib.hid hrd
      clear hrd
      obtain ⟨⟨c0, c1, c2⟩, ⟨f0, f1, f2⟩, lt⟩ := hD.facts
      have HX := Lib.hid hD.bx
      have HW := Lib.hid hW
      by_cases hr : rd = 0
      · have hr' : (rd == 0) = true := by simp [hr]
        clear hr
        go_wp2_with fail
        refine (Mk.round_any _ _ (by omega) (by omega) (by decide) (by decide) _).mono ?_
        rintro e w3 ⟨rfl, rfl⟩
        rw [HRD.out]
        go_wp2_with fail
        have htd := tdiv4_bd hxw.1 hxw.2
        refine (Mk.round_any _ _ htd.1 htd.2 (by decide) (by decide) _).mono ?_
        rintro e w3 ⟨rfl, rfl⟩
        have hrb := Mk.round_bd (x.tdiv 4) 3 (by decide)
        generalize Mk.round (x.tdiv 4) 3 = r3 at hrb ⊢
        obtain ⟨r, rfl⟩ := Int.eq_ofNat_of_zero_le hrb.1
        clear htd hxw
        have cB : Hid (∀ w, Calls Try.prog 10 #[.agg #[.int .i64 a0, .int .i64 (min sil a0), .int .u64 num], .int .u64 ((num : Int) + 1 + r)] w fun e w' => e = .returned (.tuple #[.agg #[.int .i64 a0, .int .i64 0, .int .u64 ((num : Int) + 1 + r)], .bool true]) ∧ Held w w') := fun w => by
          have := beat_any a0 (min sil a0) num (num + 1 + r) (by omega) (by omega) w
          rw [beat_new (by omega) (by omega) (by omega) (by omega) (by omega)] at this
          simpa [detV] using this
        have cS : Hid (∀ w, Calls Try.prog 18 #[.agg #[.int .i64 a0, .int .i64 0, .int .u64 ((num : Int) + 1 + r)]] w fun e w' => e = .returned (.bool false) ∧ Held w w') := fun w => by
          have := susp_any a0 0 (num + 1 + r) w
          rw [show susp ⟨a0, 0, num + 1 + r⟩ = false by
            have := susp_silent (l := a0) (sil := 0) (n := num + 1 + r) (by omega) (by omega) (by omega)
            rw [show min (0 : Int) a0 = 0 by omega] at this
            rw [this]; simp; omega] at this
          simpa using this
        generalize min sil a0 = ms at *
        go_wp2_with fail
        refine (cB.out _).mono ?_
        rintro e w4 ⟨rfl, h4⟩
        obtain ⟨lx, sx, nx, hx0⟩ := HX.out
        have hx4 := hx0.held (h4.alloc (.cells #[.int .i64 a0, .int .i64 0, .int .u64 ((num : Int) + 1 + r)] 24))
        have X4 := Lib.hid hx4.bx
        have h5 := Lib.hid (HW.out.step (h4.alloc (.cells #[.int .i64 a0, .int .i64 0, .int .u64 ((num : Int) + 1 + r)] 24)))
        clear c0 c1 c2 f0 f1 f2 lt
        obtain ⟨⟨c0, c1, c2⟩, ⟨f0, f1, f2⟩, lt⟩ := hx4.facts
        clear hx0 hx4 h4
        go_wp2_with fail
        have D5 : Hid (DB ((((w4.alloc (.cells #[.int .i64 a0, .int .i64 0, .int .u64 ((num : Int) + 1 + r)] 24)).setCell ⟨B, 0, none⟩ (.int .i64 a0)).setCell ⟨B, 1, none⟩ (.int .i64 0)).setCell ⟨B, 2, none⟩ (.int .u64 ((num : Int) + 1 + r))) B a0 0 ((num : Int) + 1 + r)) := DB.put X4.out
        have H5 := Lib.hid (held_put h5.out hb (.int .i64 a0) (.int .i64 0) (.int .u64 ((num : Int) + 1 + r)))
        generalize (((w4.alloc (.cells #[.int .i64 a0, .int .i64 0, .int .u64 ((num : Int) + 1 + r)] 24)).setCell ⟨B, 0, none⟩ (.int .i64 a0)).setCell ⟨B, 1, none⟩ (.int .i64 0)).setCell ⟨B, 2, none⟩ (.int .u64 ((num : Int) + 1 + r)) = w5 at D5 H5 ⊢
        clear c0 c1 c2 f0 f1 f2 lt
        refine (cS.out _).mono ?_
        rintro e w6 ⟨rfl, h6⟩
        have D6 := D5.out.held h6
        obtain ⟨⟨c0, c1, c2⟩, _, lt⟩ := D6.facts
        have hD6 := Lib.hid D6
        have H6 := Lib.hid (H5.out.step h6)
        clear D6 h6
        go_wp2
        go_roundw
        case rel => exact ⟨k + 1, num + 1 + r, 0, by omega, by go_num, by go_num, rfl, by omega, by omega, by omega, by rw [show min (0 : Int) a0 = 0 by omega]; simpa using hD6.out, H6.out⟩
        case measure => simp [intOf]; omega
      · have hr' : (rd == 0) = false := by simp [hr]
        clear hr
        have cT : Hid (∀ w, Calls Try.prog 16 #[.agg #[.int .i64 a0, .int .i64 (min sil a0), .int .u64 num]] w fun e w' => e = .returned (.agg #[.int .i64 a0, .int .i64 (min (sil + 1) a0), .int .u64 num]) ∧ Held w w') := fun w => by
          have := tick_any a0 (min sil a0) num w
          rw [tick_silent (by omega) (by omega) (by omega)] at this
          exact this
        have cS : Hid (∀ w, Calls Try.prog 18 #[.agg #[.int .i64 a0, .int .i64 (min (sil + 1) a0), .int .u64 num]] w fun e w' => e = .returned (.bool (decide (a0 ≤ sil + 1))) ∧ Held w w') := fun w => by
          have := susp_any a0 (min (sil + 1) a0) num w
          rw [susp_silent (by omega) (by omega) (by omega)] at this
          exact this
        generalize min sil a0 = ms at *
        obtain ⟨ms', hms'⟩ : ∃ m, min (sil + 1) a0 = m := ⟨_, rfl⟩
        have HMS := Lib.hid hms'
        rw [hms'] at cT cS
        clear hms'
        go_wp2_with fail
        refine (Mk.round_any _ _ (by omega) (by omega) (by decide) (by decide) _).mono ?_
        rintro e w3 ⟨rfl, rfl⟩
        rw [HRD.out]
        clear hxw
        go_wp2_with fail
        refine (cT.out _).mono ?_
        rintro e w4 ⟨rfl, h4⟩
        obtain ⟨lx, sx, nx, hx0⟩ := HX.out
        have hx4 := hx0.held h4
        have X4 := Lib.hid hx4.bx
        have h5 := Lib.hid (HW.out.step h4)
        clear c0 c1 c2 f0 f1 f2 lt
        obtain ⟨⟨c0, c1, c2⟩, ⟨f0, f1, f2⟩, lt⟩ := hx4.facts
        clear hx0 hx4 h4
        go_wp2_with fail
        have D5 : Hid (DB (((w4.setCell ⟨B, 0, none⟩ (.int .i64 a0)).setCell ⟨B, 1, none⟩ (.int .i64 ms')).setCell ⟨B, 2, none⟩ (.int .u64 num)) B a0 ms' num) := DB.put X4.out
        have H5 := Lib.hid (held_put h5.out hb (.int .i64 a0) (.int .i64 ms') (.int .u64 num))
        generalize ((w4.setCell ⟨B, 0, none⟩ (.int .i64 a0)).setCell ⟨B, 1, none⟩ (.int .i64 ms')).setCell ⟨B, 2, none⟩ (.int .u64 num) = w5 at D5 H5 ⊢
        clear c0 c1 c2 f0 f1 f2 lt
        refine (cS.out _).mono ?_
        rintro e w6 ⟨rfl, h6⟩
        have D6 := D5.out.held h6
        obtain ⟨⟨c0, c1, c2⟩, _, lt⟩ := D6.facts
        have hD6 := Lib.hid D6
        have H6 := Lib.hid (H5.out.step h6)
        clear D6 h6
        by_cases hge : a0 ≤ sil + 1
        · rw [decide_eq_true hge]
          go_wp2
          go_roundw
          case rel => exact ⟨k + 1, num, sil + 1, by omega, by go_num, rfl, by go_num, by omega, by omega, by omega, by rw [HMS.out]; exact hD6.out, H6.out⟩
          case measure => simp [intOf]; omega
        · rw [decide_eq_false hge]
          go_wp2
          go_roundw
          case rel => exact ⟨k + 1, num, sil + 1, by omega, by go_num, rfl, by go_num, by omega, by omega, by omega, by rw [HMS.out]; exact hD6.out, H6.out⟩
          case measure => simp [intOf]; omega
    · obtain rfl : k = len1 := by omega
      go_wp2_with (go_at_call 7; refine (awake_any _).mono ?_; rintro e w1 ⟨rfl, hb⟩)
      go_ret
      exact ⟨rfl, hW.step hb⟩
end Htc
end Go.Proofs.Ytbebidbjcjoedaa
