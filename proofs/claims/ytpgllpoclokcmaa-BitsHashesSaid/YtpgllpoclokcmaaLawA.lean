/-
  The laws on pseudo-random numbers and on hashes: the walks.
-/
import Derived.Test.YtpgllpoclokcmaaAwk1
namespace Go.Proofs.Ytpgllpoclokcmaa
open Go.RowKit
set_option linter.unusedVariables false
set_option maxRecDepth 100000
namespace LawA
open Rw
def seedAt (x : Int) (k : Nat) : Int := (x + k * 11400714819323198485) % 18446744073709551616
theorem seedAt_zero (x : Int) (h0 : 0 ≤ x) (h1 : x ≤ 18446744073709551615) : seedAt x 0 = x := by unfold seedAt; omega
theorem seedAt_succ (x : Int) (k : Nat) : Words.seedN (seedAt x k) = seedAt x (k + 1) := by
  unfold seedAt Words.seedN; rw [IntKind.wrap_u64]; omega
theorem seedAt_end (x : Int) (k : Nat) : IntKind.u64.wrap (x + IntKind.u64.wrap ((k : Int) * 11400714819323198485)) = seedAt x k := by
  unfold seedAt; rw [IntKind.wrap_u64, IntKind.wrap_u64]; omega
theorem random (x n : Int) (wx : (Lit.int .u64 x).wf = true) (wn : (Lit.int .i64 n).wf = true) (w : World) :
    Calls Try.prog 4 #[.int .u64 x, .int .i64 n] w fun e w' => e = .returned (.bool true) ∧ Below w.heap.size w w' := by
  have hx := bd_u64 wx
  have hn := bd_i64 wn
  clear wx wn
  by_cases h : n < 0 ∨ 200 < n
  · rcases h with h | h
    · go_enter Try.func4, Try.ntmps4
      go_wp2_with (go_at_call 15; refine (Law1.awake_any _).mono ?_; rintro e w1 ⟨rfl, hb⟩)
      go_ret
      exact ⟨rfl, hb⟩
    · by_cases h0 : n < 0
      · omega
      · go_enter Try.func4, Try.ntmps4
        go_wp2_with (go_at_call 15; refine (Law1.awake_any _).mono ?_; rintro e w1 ⟨rfl, hb⟩)
        go_ret
        exact ⟨rfl, hb⟩
  · obtain ⟨m, rfl⟩ := Int.eq_ofNat_of_zero_le (a := n) (by omega)
    have hm : (m : Int) ≤ 200 := by omega
    clear h hn
    have HZ := Lib.hid (seedAt_zero x hx.1 hx.2)
    have HE := Lib.hid (seedAt_end x m)
    go_enter Try.func4, Try.ntmps4
    go_wp2
    go_loop [5, 6, 7] (fun s t i => ∃ k : Nat, k ≤ m ∧ i = .int .i64 k ∧ s = .int .u64 (seedAt x k) ∧ t = .int .u64 (seedAt x k)) (fun _ _ i => m - (intOf i).toNat)
    case atStart => exact ⟨0, Nat.zero_le _, rfl, by rw [HZ.out], by rw [HZ.out]⟩
    case round =>
      obtain ⟨k, hk, rfl, rfl, rfl⟩ := hrel
      by_cases hlt : k < m
      · have HS := Lib.hid (seedAt_succ x k)
        go_wp2_with (first | (go_at_call 16; refine (Words.next_any _ _).mono ?_; rintro e w' ⟨rfl, rfl⟩) | (go_at_call 17; refine (Words.next_ref_any _ _).mono ?_; rintro e w' ⟨rfl, rfl⟩))
        go_round
        case rel => exact ⟨k + 1, by omega, by go_num, by rw [HS.out], by rw [HS.out]⟩
        case measure => simp [intOf]; omega
      · obtain rfl : k = m := by omega
        have he : (seedAt x k == IntKind.u64.wrap (x + IntKind.u64.wrap ((k : Int) * 11400714819323198485))) = true := by rw [HE.out]; simp
        go_wp2_with (go_at_call 15; refine (Law1.awake_any _).mono ?_; rintro e w1 ⟨rfl, hb⟩)
        go_ret
        exact ⟨rfl, hb⟩

theorem hashes (h : Int) (a b : ByteArray) (wh : (Lit.int .u64 h).wf = true) (wa : a.size ≤ maxLen) (wb : b.size ≤ maxLen) (w : World) :
    Calls Try.prog 5 #[.int .u64 h, .string a, .string b] w fun e w' => e = .returned (.bool true) ∧ Below w.heap.size w w' := by
  have hh := bd_u64 wh
  unfold maxLen at wa wb
  obtain ⟨n, rfl⟩ := Int.eq_ofNat_of_zero_le (a := h) (by omega)
  have hn : (n : Int) ≤ 18446744073709551615 := hh.2
  have ha := Hs.hash_lt n a.data.toList (by omega)
  have ha' : ((Hs.hash n a.data.toList : Nat) : Int) ≤ 18446744073709551615 := by omega
  clear wh hh ha
  by_cases h1 : (2000 : Int) < a.size
  · go_enter Try.func5, Try.ntmps5
    go_wp2_with (go_at_call 15; refine (Law1.awake_any _).mono ?_; rintro e w1 ⟨rfl, hb⟩)
    go_ret
    exact ⟨rfl, hb⟩
  · by_cases h2 : (2000 : Int) < b.size
    · go_enter Try.func5, Try.ntmps5
      go_wp2_with (go_at_call 15; refine (Law1.awake_any _).mono ?_; rintro e w1 ⟨rfl, hb⟩)
      go_ret
      exact ⟨rfl, hb⟩
    · have hab : (a ++ b).size ≤ 4000 := by simp; omega
      have he : (((Hs.hash (Hs.hash n a.data.toList) b.data.toList : Nat) : Int) == ((Hs.hash n (a.data.toList ++ b.data.toList) : Nat) : Int)) = true := by rw [Hs.hash_append]; simp
      have hz : Hs.hash n [] = n := rfl
      go_enter Try.func5, Try.ntmps5
      go_wp2_with (first | (go_at_call 18; refine (Strs.hash_any _ _ (by omega) (by first | omega | decide) _).mono ?_; rintro e w' ⟨rfl, rfl⟩) | (go_at_call 19; refine (Strs.hash_ref_any _ _ (by omega) (by omega) _).mono ?_; rintro e w' ⟨rfl, rfl⟩) | (go_at_call 15; refine (Law1.awake_any _).mono ?_; rintro e w1 ⟨rfl, hb⟩))
      go_ret
      exact ⟨rfl, hb⟩
end LawA
end Go.Proofs.Ytpgllpoclokcmaa
