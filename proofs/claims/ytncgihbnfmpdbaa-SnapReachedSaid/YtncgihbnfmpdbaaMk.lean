/-
  Contract: Mix of vmfleetmake.
-/
import Derived.Test.YtncgihbnfmpdbaaMkR
namespace Go.Proofs.Ytncgihbnfmpdbaa
open Go.RowKit
set_option linter.unusedVariables false
set_option maxRecDepth 100000
namespace Mk
theorem and_i64 (a b : Nat) (ha : a < 9223372036854775808) (hb : b < 9223372036854775808) : bits .and .i64 (a : Int) (b : Int) = ((a &&& b : Nat) : Int) := by
  show IntKind.i64.wrap (((BitVec.ofInt 64 (a : Int)) &&& (BitVec.ofInt 64 (b : Int))).toNat : Int) = _
  rw [BitVec.toNat_and, ofInt_u64 a (by omega), ofInt_u64 b (by omega)]
  have h : a &&& b ≤ a := Nat.and_le_left
  exact IntWalk.i64_in _ (by omega)
/-- The generator's value, in the walk's spelling. -/
def seedN (x : Int) : Int := IntKind.u64.wrap (x + 11400714819323198485)
def mixA (s : Int) : Int := IntKind.u64.wrap (bits .xor .u64 s (s / 1073741824) * 13787848793156543929)
def mixB (z : Int) : Int := IntKind.u64.wrap (bits .xor .u64 z (z / 134217728) * 10723151780598845931)
def mixC (z : Int) : Int := bits .xor .u64 z (z / 2147483648)
def nextV (x : Int) : Int := mixC (mixB (mixA (seedN x)))
theorem next_any (x : Int) (w : World) :
    Calls Try.prog 44 #[.int .u64 x] w fun e w' => e = .returned (.tuple #[.int .u64 (nextV x), .int .u64 (seedN x)]) ∧ w = w' := by
  go_enter Try.func44, Try.ntmps44
  go_wp2
  go_ret2
  exact ⟨rfl, rfl⟩
theorem nextV_bd (x : Int) : 0 ≤ nextV x ∧ nextV x ≤ 18446744073709551615 := by
  have hb : ∀ z : Int, 0 ≤ bits .xor .u64 z (z / 2147483648) ∧ bits .xor .u64 z (z / 2147483648) ≤ 18446744073709551615 := by
    intro z
    show 0 ≤ IntKind.u64.wrap _ ∧ IntKind.u64.wrap _ ≤ _
    rw [IntKind.wrap_u64]; omega
  exact hb _
/-- A natural number below 2^63 that is derived from two numbers. -/
def mix (n k : Int) : Nat := (nextV (bits .xor .u64 (IntKind.u64.wrap n) (IntKind.u64.wrap (IntKind.u64.wrap k * 11400714819323198485))) / 2).toNat
theorem mix_lt (n k : Int) : mix n k < 9223372036854775808 := by
  unfold mix; have := nextV_bd (bits .xor .u64 (IntKind.u64.wrap n) (IntKind.u64.wrap (IntKind.u64.wrap k * 11400714819323198485))); omega
theorem mix_any (n k : Int) (w : World) :
    Calls Try.prog 24 #[.int .i64 n, .int .i64 k] w fun e w' => e = .returned (.int .i64 (mix n k)) ∧ w = w' := by
  obtain ⟨x, hx⟩ : ∃ x, nextV (bits .xor .u64 (IntKind.u64.wrap n) (IntKind.u64.wrap (IntKind.u64.wrap k * 11400714819323198485))) = x := ⟨_, rfl⟩
  have hb := nextV_bd (bits .xor .u64 (IntKind.u64.wrap n) (IntKind.u64.wrap (IntKind.u64.wrap k * 11400714819323198485)))
  rw [hx] at hb
  have HM : Hid (((mix n k : Nat) : Int) = x / 2) := show _ = _ by unfold mix; rw [hx]; omega
  have HX := Lib.hid hx
  clear hx
  go_enter Try.func24, Try.ntmps24
  go_wp2_with (go_at_call 44; refine (next_any _ _).mono ?_; rintro e w' ⟨rfl, rfl⟩; rw [HX.out])
  go_ret
  exact ⟨ret_int HM.out.symm, rfl⟩
end Mk
end Go.Proofs.Ytncgihbnfmpdbaa
