/-
  The laws on fields and on sign extension: the walks.
-/
import Derived.Test.YtpgllpoclokcmaaAwk1
namespace Go.Proofs.Ytpgllpoclokcmaa
open Go.RowKit
set_option linter.unusedVariables false
set_option maxRecDepth 100000
namespace LawD
open Rw
theorem fields (x v l n : Int) (wx : (Lit.int .u32 x).wf = true) (wv : (Lit.int .u32 v).wf = true) (wl : (Lit.int .i64 l).wf = true) (wn : (Lit.int .i64 n).wf = true) (w : World) :
    Calls Try.prog 11 #[.int .u32 x, .int .u32 v, .int .i64 l, .int .i64 n] w fun e w' => e = .returned (.bool true) ∧ Below w.heap.size w w' := by
  have hx := bd_u32 wx
  have hv := bd_u32 wv
  have hl := bd_i64 wl
  have hn := bd_i64 wn
  clear wx wv wl wn
  obtain ⟨X, rfl⟩ := Int.eq_ofNat_of_zero_le hx.1
  obtain ⟨V, rfl⟩ := Int.eq_ofNat_of_zero_le hv.1
  have hx2 := hx.2
  have hv2 := hv.2
  clear hx hv
  go_enter Try.func11, Try.ntmps11
  go_wp2_with (first | (go_at_call 24; refine (Words.sext_any _ _ (by omega) (by omega) (by omega) _).mono ?_; rintro e w' ⟨rfl, rfl⟩) | (go_at_call 26; refine (Words.sext_ref_any _ _ (by omega) (by omega) (by omega) _).mono ?_; rintro e w' ⟨rfl, rfl⟩) | (go_at_call 25; refine (Words.fld_any _ _ _ (by omega) (by omega) _).mono ?_; rintro e w' ⟨rfl, rfl⟩) | (go_at_call 27; refine (Words.fld_ref_any _ _ _ (by omega) (by omega) _).mono ?_; rintro e w' ⟨rfl, rfl⟩) | (go_at_call 28; refine (Words.set_any _ _ _ _ (by omega) (by omega) (by omega) _).mono ?_; rintro e w' ⟨rfl, rfl⟩) | (go_at_call 29; refine (Words.set_ref_any _ _ _ _ (by omega) (by omega) (by omega) _).mono ?_; rintro e w' ⟨rfl, rfl⟩) | (go_at_call 15; refine (Law1.awake_any _).mono ?_; rintro e w3 ⟨rfl, hb3⟩))
  go_ret
  exact ⟨rfl, hb3⟩
theorem parts (x v l n : Int) (wx : (Lit.int .u32 x).wf = true) (wv : (Lit.int .u32 v).wf = true) (wl : (Lit.int .i64 l).wf = true) (wn : (Lit.int .i64 n).wf = true) (w : World) :
    Calls Try.prog 12 #[.int .u32 x, .int .u32 v, .int .i64 l, .int .i64 n] w fun e w' => e = .returned (.bool true) ∧ Below w.heap.size w w' := by
  have hx := bd_u32 wx
  have hv := bd_u32 wv
  have hl := bd_i64 wl
  have hn := bd_i64 wn
  clear wx wv wl wn
  obtain ⟨X, rfl⟩ := Int.eq_ofNat_of_zero_le hx.1
  obtain ⟨V, rfl⟩ := Int.eq_ofNat_of_zero_le hv.1
  have hx2 := hx.2
  have hv2 := hv.2
  clear hx hv
  by_cases h1 : l < 0
  · go_enter Try.func12, Try.ntmps12
    go_wp2_with (go_at_call 15; refine (Law1.awake_any _).mono ?_; rintro e w3 ⟨rfl, hb3⟩)
    go_ret
    exact ⟨rfl, hb3⟩
  by_cases h2 : 31 < l
  · go_enter Try.func12, Try.ntmps12
    go_wp2_with (go_at_call 15; refine (Law1.awake_any _).mono ?_; rintro e w3 ⟨rfl, hb3⟩)
    go_ret
    exact ⟨rfl, hb3⟩
  by_cases h3 : n < 1
  · go_enter Try.func12, Try.ntmps12
    go_wp2_with (go_at_call 15; refine (Law1.awake_any _).mono ?_; rintro e w3 ⟨rfl, hb3⟩)
    go_ret
    exact ⟨rfl, hb3⟩
  by_cases h4 : 32 - l < n
  · go_enter Try.func12, Try.ntmps12
    go_wp2_with (go_at_call 15; refine (Law1.awake_any _).mono ?_; rintro e w3 ⟨rfl, hb3⟩)
    go_ret
    exact ⟨rfl, hb3⟩
  · obtain ⟨i, rfl⟩ := Int.eq_ofNat_of_zero_le (a := l) (by omega)
    obtain ⟨k, rfl⟩ := Int.eq_ofNat_of_zero_le (a := n) (by omega)
    have hmin : (min (k : Int) 32).toNat = k := by omega
    have e1 : ∀ y z, Words.setA y (i : Int) (k : Int) z = Bw.setf y i k z := by
      intro y z; unfold Words.setA; rw [if_neg (by omega), hmin]; rfl
    have e2 : ∀ y, Words.fldA y (i : Int) (k : Int) = Bw.fld y i k := by
      intro y; unfold Words.fldA; rw [if_neg (by omega), hmin]; rfl
    have e3 : ∀ y, Words.fldA y (0 : Int) (k : Int) = Bw.fld y 0 k := by
      intro y; unfold Words.fldA; rw [if_neg (by omega), hmin]; rfl
    have f1 : Words.fldA (Words.setA X (i : Int) (k : Int) V) (i : Int) (k : Int) = Words.fldA V 0 (k : Int) := by
      rw [e2, e1, e3]; exact Bw.fld_setf X i k V (by omega)
    have f2 : Words.setA X (i : Int) (k : Int) (Words.fldA X (i : Int) (k : Int)) = X := by
      rw [e2, e1]; exact Bw.setf_fld X i k (by omega)
    have f3 : Words.setA (Words.setA X (i : Int) (k : Int) V) (i : Int) (k : Int) (Words.fldA X (i : Int) (k : Int)) = X := by
      rw [e2, e1, e1]; exact Bw.setf_back X i k V (by omega)
    have b1 : ((Words.setA X (i : Int) (k : Int) V : Nat) : Int) ≤ 4294967295 := by
      rw [e1]; have := Bw.setf_lt X i k V (by omega); omega
    have b2 : ((Words.fldA X (i : Int) (k : Int) : Nat) : Int) ≤ 4294967295 := by
      rw [e2]; have := Bw.fld_lt X i k (by omega); omega
    clear e1 e2 e3 hmin
    go_enter Try.func12, Try.ntmps12
    go_wp2_with (first | (go_at_call 25; refine (Words.fld_any _ _ _ (by omega) (by omega) _).mono ?_; rintro e w' ⟨rfl, rfl⟩) | (go_at_call 28; refine (Words.set_any _ _ _ _ (by omega) (by omega) (by omega) _).mono ?_; rintro e w' ⟨rfl, rfl⟩) | (go_at_call 15; refine (Law1.awake_any _).mono ?_; rintro e w3 ⟨rfl, hb3⟩))
    go_ret
    exact ⟨rfl, hb3⟩
theorem signs (x n : Int) (wx : (Lit.int .u32 x).wf = true) (wn : (Lit.int .i64 n).wf = true) (w : World) :
    Calls Try.prog 10 #[.int .u32 x, .int .i64 n] w fun e w' => e = .returned (.bool true) ∧ Below w.heap.size w w' := by
  have hx := bd_u32 wx
  have hn := bd_i64 wn
  clear wx wn
  obtain ⟨X, rfl⟩ := Int.eq_ofNat_of_zero_le hx.1
  have hx2 := hx.2
  clear hx
  by_cases h1 : n < 1
  · go_enter Try.func10, Try.ntmps10
    go_wp2_with (go_at_call 15; refine (Law1.awake_any _).mono ?_; rintro e w3 ⟨rfl, hb3⟩)
    go_ret
    exact ⟨rfl, hb3⟩
  by_cases h2 : 32 < n
  · go_enter Try.func10, Try.ntmps10
    go_wp2_with (go_at_call 15; refine (Law1.awake_any _).mono ?_; rintro e w3 ⟨rfl, hb3⟩)
    go_ret
    exact ⟨rfl, hb3⟩
  obtain ⟨k, rfl⟩ := Int.eq_ofNat_of_zero_le (a := n) (by omega)
  have hk1 : 1 ≤ k := by omega
  have hk2 : k ≤ 32 := by omega
  -- what sign extension gives
  have s1 : Words.sextA X (k : Int) = if k = 32 then X else Bw.sext X k := by
    unfold Words.sextA; rw [if_neg (by omega)]
    by_cases h : k = 32
    · rw [if_pos (by omega), if_pos h]
    · rw [if_neg (by omega), if_neg h]; rfl
  have hY : Words.sextA X (k : Int) < 4294967296 := by
    rw [s1]; split
    · omega
    · exact Bw.sext_lt X k (by omega)
  have tb : ∀ i, (Words.sextA X (k : Int)).testBit i = (decide (i < 32) && X.testBit (min i (k - 1))) := by
    intro i; rw [s1]; split
    · rename_i h
      by_cases hi : i < 32
      · rw [show min i (k - 1) = i by omega]; simp [hi]
      · rw [Bw.tb_big (by omega) (by omega)]; simp [hi]
    · rename_i h; exact Bw.tb_sext X k i hk1 (by omega)
  have idem : Words.sextA (Words.sextA X (k : Int)) (k : Int) = Words.sextA X (k : Int) := by
    have s2 : ∀ Y, Words.sextA Y (k : Int) = if k = 32 then Y else Bw.sext Y k := by
      intro Y; unfold Words.sextA; rw [if_neg (by omega)]
      by_cases h : k = 32
      · rw [if_pos (by omega), if_pos h]
      · rw [if_neg (by omega), if_neg h]; rfl
    rw [s2 (Words.sextA X (k : Int))]; split
    · rfl
    · apply Nat.eq_of_testBit_eq; intro i
      rw [Bw.tb_sext _ k i hk1 (by omega), tb, tb]
      by_cases hi : i < 32
      · have : min i (k - 1) < 32 := by omega
        have e : min (min i (k - 1)) (k - 1) = min i (k - 1) := by omega
        simp [hi, this, e]
      · simp [hi]
  have hf : ∀ Y (l m : Nat), l ≤ 31 → 1 ≤ m → m ≤ 32 → Words.fldA Y (l : Int) (m : Int) = Bw.fld Y l m := by
    intro Y l m hl h1 h2; unfold Words.fldA; rw [if_neg (by omega), show (min (m : Int) 32).toNat = m by omega]; rfl
  have low : Words.fldA (Words.sextA X (k : Int)) 0 (k : Int) = Words.fldA X 0 (k : Int) := by
    have a := hf (Words.sextA X (k : Int)) 0 k (by omega) hk1 hk2
    have b := hf X 0 k (by omega) hk1 hk2
    rw [show ((0 : Nat) : Int) = 0 from rfl] at a b
    rw [a, b]
    apply Nat.eq_of_testBit_eq; intro i
    rw [Bw.tb_fld, Bw.tb_fld, tb]
    by_cases hi : i < k
    · have : i < 32 := by omega
      have e : min (0 + i) (k - 1) = 0 + i := by omega
      simp [hi, this]; simp at e; rw [e]
    · simp [hi]
  have up : ∀ i : Nat, k ≤ i → i < 32 → Words.fldA (Words.sextA X (k : Int)) (i : Int) 1 = Words.fldA X ((k : Int) - 1) 1 := by
    intro i h1 h2
    have a := hf (Words.sextA X (k : Int)) i 1 (by omega) (by omega) (by omega)
    have b := hf X (k - 1) 1 (by omega) (by omega) (by omega)
    rw [show ((1 : Nat) : Int) = 1 from rfl] at a b
    rw [show ((k - 1 : Nat) : Int) = (k : Int) - 1 by omega] at b
    rw [a, b]
    apply Nat.eq_of_testBit_eq; intro j
    rw [Bw.tb_fld, Bw.tb_fld, tb]
    by_cases hj : j < 1
    · obtain rfl : j = 0 := by omega
      have e : min (i + 0) (k - 1) = k - 1 + 0 := by omega
      have e2 : i + 0 < 32 := by omega
      rw [e]; simp; omega
    · simp [hj]
  have UP := Lib.hid up
  have hY' : ((Words.sextA X (k : Int) : Nat) : Int) ≤ 4294967295 := by omega
  clear tb s1 hf up hY
  go_enter Try.func10, Try.ntmps10
  go_wp2_with (first | (go_at_call 24; refine (Words.sext_any _ _ (by omega) (by omega) (by omega) _).mono ?_; rintro e w' ⟨rfl, rfl⟩) | (go_at_call 25; refine (Words.fld_any _ _ _ (by omega) (by omega) _).mono ?_; rintro e w' ⟨rfl, rfl⟩))
  go_loop [7] (fun i => ∃ j : Nat, k ≤ j ∧ j ≤ 32 ∧ i = .int .i64 j) (fun i => 32 - (intOf i).toNat)
  case atStart => exact ⟨k, Nat.le_refl _, hk2, rfl⟩
  case round =>
    obtain ⟨j, hj1, hj2, rfl⟩ := hrel
    by_cases hlt : (j : Int) < 32
    · have u := UP.out j hj1 (by omega)
      go_wp2_with (go_at_call 25; refine (Words.fld_any _ _ _ (by omega) (by omega) _).mono ?_; rintro e w' ⟨rfl, rfl⟩)
      go_round
      case rel => exact ⟨j + 1, by omega, by omega, by go_num⟩
      case measure => simp [intOf]; omega
    · go_wp2_with (first | (go_at_call 24; refine (Words.sext_any _ _ (by omega) (by omega) (by omega) _).mono ?_; rintro e w' ⟨rfl, rfl⟩) | (go_at_call 25; refine (Words.fld_any _ _ _ (by omega) (by omega) _).mono ?_; rintro e w' ⟨rfl, rfl⟩) | (go_at_call 15; refine (Law1.awake_any _).mono ?_; rintro e w3 ⟨rfl, hb3⟩))
      go_ret
      exact ⟨rfl, hb3⟩
end LawD
end Go.Proofs.Ytpgllpoclokcmaa
