/-
  Contract: Round of vmfleetmake.
-/
import Derived.Test.YtncgihbnfmpdbaaProg
import Derived.Test.YtncgihbnfmpdbaaRd
import Derived.WalkSpells
import Derived.WalkLawsBesides
import Derived.BigQuiet
import Derived.Deep.QuietTactic
namespace Go.Proofs.Ytncgihbnfmpdbaa
open Go.RowKit
set_option linter.unusedVariables false
set_option maxRecDepth 100000
namespace Mk
/-- n modulo k, from 0 on (k at least 1). -/
def round (n k : Int) : Int := n % k
theorem round_bd (n k : Int) (h : 1 ≤ k) : 0 ≤ round n k ∧ round n k < k := ⟨Int.emod_nonneg _ (by omega), Int.emod_lt_of_pos _ (by omega)⟩
theorem ret_int {a b : Int} (h : a = b) : Ending.returned (.int .i64 a) = .returned (.int .i64 b) := by rw [h]
theorem round_any (n k : Int) (hn : -9223372036854775808 ≤ n) (hn' : n ≤ 9223372036854775807) (h1 : 1 ≤ k) (h2 : k ≤ 9223372036854775807) (w : World) :
    Calls Try.prog 12 #[.int .i64 n, .int .i64 k] w fun e w' => e = .returned (.int .i64 (round n k)) ∧ w = w' := by
  have hk0 : ¬ k = 0 := by omega
  by_cases h0 : 0 ≤ n
  · have hr : Hid (n % k = round n k) := rfl
    have hb := (round_bd n k h1).1
    have hb' : ¬ n % k < 0 := by unfold round at hb; omega
    clear hb
    go_enter Try.func12, Try.ntmps12
    go_wp2
    go_ret
    exact ⟨ret_int hr.out, rfl⟩
  · obtain ⟨t, ht⟩ : ∃ t, n.tmod k = t := ⟨_, rfl⟩
    have hneg : t = -((-n) % k) := by
      rw [← ht, ← Int.neg_neg n, Int.neg_tmod, Int.tmod_eq_emod_of_nonneg (by omega)]; simp
    have hb1 : 0 ≤ (-n) % k := Int.emod_nonneg _ (by omega)
    have hb2 : (-n) % k < k := Int.emod_lt_of_pos _ (by omega)
    have hr : round n k = if t < 0 then t + k else t := by
      unfold round
      by_cases hz : (-n) % k = 0
      · rw [if_neg (by omega)]
        have : n % k = 0 := by
          have hd := Int.dvd_of_emod_eq_zero hz
          exact Int.emod_eq_zero_of_dvd ((Int.dvd_neg).1 hd)
        omega
      · rw [if_pos (by omega)]
        have e : n = t + k + k * (-((-n) / k) - 1) := by
          have := Int.mul_ediv_add_emod (-n) k
          rw [Int.mul_sub, Int.mul_neg]; omega
        rw [e, Int.add_mul_emod_self_left, Int.emod_eq_of_lt (by omega) (by omega)]
    have HR := Lib.hid hr
    have ht1 : -t < k := by omega
    have ht2 : t ≤ 0 := by omega
    clear hneg hb1 hb2 hr
    by_cases hs : t < 0
    · go_enter Try.func12, Try.ntmps12
      go_wp2
      go_ret
      exact ⟨ret_int (by rw [HR.out, if_pos hs]), rfl⟩
    · go_enter Try.func12, Try.ntmps12
      go_wp2
      go_ret
      exact ⟨ret_int (by rw [HR.out, if_neg (by omega)]), rfl⟩
end Mk
end Go.Proofs.Ytncgihbnfmpdbaa
