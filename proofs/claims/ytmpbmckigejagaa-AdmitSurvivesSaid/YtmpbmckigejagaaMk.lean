/-
  Contracts: Round and Mix of vmfleetmake.
-/
import Derived.Test.YtmpbmckigejagaaProg
import Derived.Test.YtmpbmckigejagaaRd
import Derived.WalkSpells
import Derived.WalkLawsBesides
import Derived.BigQuiet
import Derived.Deep.QuietTactic
namespace Go.Proofs.Ytmpbmckigejagaa
open Go.RowKit
set_option linter.unusedVariables false
set_option maxRecDepth 100000
namespace Mk
/-- n modulo k, from 0 on (k at least 1). -/
def round (n k : Int) : Int := n % k
theorem round_bd (n k : Int) (h : 1 ≤ k) : 0 ≤ round n k ∧ round n k < k := ⟨Int.emod_nonneg _ (by omega), Int.emod_lt_of_pos _ (by omega)⟩
theorem ret_int {a b : Int} (h : a = b) : Ending.returned (.int .i64 a) = .returned (.int .i64 b) := by rw [h]
theorem round_any (n k : Int) (hn : -9223372036854775808 ≤ n) (hn' : n ≤ 9223372036854775807) (h1 : 1 ≤ k) (h2 : k ≤ 9223372036854775807) (w : World) :
    Calls Try.prog 8 #[.int .i64 n, .int .i64 k] w fun e w' => e = .returned (.int .i64 (round n k)) ∧ w = w' := by
  have hk0 : ¬ k = 0 := by omega
  by_cases h0 : 0 ≤ n
  · have hr : Hid (n % k = round n k) := rfl
    have hb := (round_bd n k h1).1
    have hb' : ¬ n % k < 0 := by unfold round at hb; omega
    clear hb
    go_enter Try.func8, Try.ntmps8
    go_wp2
    go_ret
    exact ⟨ret_int hr.out, rfl⟩
  · obtain ⟨t, ht⟩ : ∃ t, n.tmod k = t := ⟨_, rfl⟩
    have hneg : t = -((-n) % k) := by
      rw [← ht, ← Int.neg_neg n, Int.neg_tmod, Int.tmod_eq_emod_of_nonneg (by omega)]; simp
    have hb1 : 0 ≤ (-n) % k := Int.emod_nonneg _ (by omega)
    have hb2 : (-n) % k < k := Int.emod_lt_of_pos _ (by omega)
    have hr : round n k = if t < 0 then t + k else t := by
      unfold round
      by_cases hz : (-n) % k = 0
      · rw [if_neg (by omega)]
        have : n % k = 0 := by
          have hd := Int.dvd_of_emod_eq_zero hz
          exact Int.emod_eq_zero_of_dvd ((Int.dvd_neg).1 hd)
        omega
      · rw [if_pos (by omega)]
        have e : n = t + k + k * (-((-n) / k) - 1) := by
          have := Int.mul_ediv_add_emod (-n) k
          rw [Int.mul_sub, Int.mul_neg]; omega
        rw [e, Int.add_mul_emod_self_left, Int.emod_eq_of_lt (by omega) (by omega)]
    have HR := Lib.hid hr
    have ht1 : -t < k := by omega
    have ht2 : t ≤ 0 := by omega
    clear hneg hb1 hb2 hr
    by_cases hs : t < 0
    · go_enter Try.func8, Try.ntmps8
      go_wp2
      go_ret
      exact ⟨ret_int (by rw [HR.out, if_pos hs]), rfl⟩
    · go_enter Try.func8, Try.ntmps8
      go_wp2
      go_ret
      exact ⟨ret_int (by rw [HR.out, if_neg (by omega)]), rfl⟩
theorem and_i64 (a b : Nat) (ha : a < 9223372036854775808) (hb : b < 9223372036854775808) : bits .and .i64 (a : Int) (b : Int) = ((a &&& b : Nat) : Int) := by
  show IntKind.i64.wrap (((BitVec.ofInt 64 (a : Int)) &&& (BitVec.ofInt 64 (b : Int))).toNat : Int) = _
  rw [BitVec.toNat_and, ofInt_u64 a (by omega), ofInt_u64 b (by omega)]
  have h : a &&& b ≤ a := Nat.and_le_left
  exact IntWalk.i64_in _ (by omega)
/-- The generator's value, in the walk's spelling. -/
def seedN (x : Int) : Int := IntKind.u64.wrap (x + 11400714819323198485)
def mixA (s : Int) : Int := IntKind.u64.wrap (bits .xor .u64 s (s / 1073741824) * 13787848793156543929)
def mixB (z : Int) : Int := IntKind.u64.wrap (bits .xor .u64 z (z / 134217728) * 10723151780598845931)
def mixC (z : Int) : Int := bits .xor .u64 z (z / 2147483648)
def nextV (x : Int) : Int := mixC (mixB (mixA (seedN x)))
theorem next_any (x : Int) (w : World) :
    Calls Try.prog 31 #[.int .u64 x] w fun e w' => e = .returned (.tuple #[.int .u64 (nextV x), .int .u64 (seedN x)]) ∧ w = w' := by
  go_enter Try.func31, Try.ntmps31
  go_wp2
  go_ret2
  exact ⟨rfl, rfl⟩
theorem nextV_bd (x : Int) : 0 ≤ nextV x ∧ nextV x ≤ 18446744073709551615 := by
  have hb : ∀ z : Int, 0 ≤ bits .xor .u64 z (z / 2147483648) ∧ bits .xor .u64 z (z / 2147483648) ≤ 18446744073709551615 := by
    intro z
    show 0 ≤ IntKind.u64.wrap _ ∧ IntKind.u64.wrap _ ≤ _
    rw [IntKind.wrap_u64]; omega
  exact hb _
/-- A natural number below 2^63 that is derived from two numbers. -/
def mix (n k : Int) : Nat := (nextV (bits .xor .u64 (IntKind.u64.wrap n) (IntKind.u64.wrap (IntKind.u64.wrap k * 11400714819323198485))) / 2).toNat
theorem mix_lt (n k : Int) : mix n k < 9223372036854775808 := by
  unfold mix; have := nextV_bd (bits .xor .u64 (IntKind.u64.wrap n) (IntKind.u64.wrap (IntKind.u64.wrap k * 11400714819323198485))); omega
theorem mix_any (n k : Int) (w : World) :
    Calls Try.prog 25 #[.int .i64 n, .int .i64 k] w fun e w' => e = .returned (.int .i64 (mix n k)) ∧ w = w' := by
  obtain ⟨x, hx⟩ : ∃ x, nextV (bits .xor .u64 (IntKind.u64.wrap n) (IntKind.u64.wrap (IntKind.u64.wrap k * 11400714819323198485))) = x := ⟨_, rfl⟩
  have hb := nextV_bd (bits .xor .u64 (IntKind.u64.wrap n) (IntKind.u64.wrap (IntKind.u64.wrap k * 11400714819323198485)))
  rw [hx] at hb
  have HM : Hid (((mix n k : Nat) : Int) = x / 2) := show _ = _ by unfold mix; rw [hx]; omega
  have HX := Lib.hid hx
  clear hx
  go_enter Try.func25, Try.ntmps25
  go_wp2_with (go_at_call 31; refine (next_any _ _).mono ?_; rintro e w' ⟨rfl, rfl⟩; rw [HX.out])
  go_ret
  exact ⟨ret_int HM.out.symm, rfl⟩
end Mk
end Go.Proofs.Ytmpbmckigejagaa
