/-
  Contracts: Valid of eventlog and of its reference (printed by wip/tools/mkev.py).
-/
import Derived.Test.YtdacgdokbfcgdaaRd
import Derived.Test.YtdacgdokbfcgdaaLgD
namespace Go.Proofs.Ytdacgdokbfcgdaa
open Go.RowKit
set_option linter.unusedVariables false
set_option linter.unusedSimpArgs false
set_option maxRecDepth 100000
namespace Ev
open Lgc
/-- The validity of an event, by its kind, its number and its data. -/
def okE (k n : Int) (e : Bool) (len : Nat) : Bool :=
  if k = 1 ∨ k = 6 then e else if k = 2 then decide (n = 0) && e else if k = 3 then decide (n ≤ 255) && e else
  if k = 4 then (if n = 1 then e || decide (len = 128) else decide (n = 0) && e) else if k = 5 then decide (n = 0) && (decide (1 ≤ len) && decide (len ≤ 128)) else false
def ok (k n : Int) (l : List UInt8) : Bool := okE k n (decide (l = [])) l.length
theorem nil_beq {s : ByteArray} {b : Bool} (h : decide (s.data.toList = []) = b) : (s.toList == []) = b := by
  rw [ByteArray.toList_eq]
  subst h
  cases hs : s.data.toList <;> simp
theorem ret_b {a b : Bool} (h : a = b) : Ending.returned (.bool a) = .returned (.bool b) := by rw [h]
set_option maxHeartbeats 1000000 in
theorem valid_any (k n : Int) (s : ByteArray) (hk : -9223372036854775808 ≤ k) (hk' : k ≤ 9223372036854775807) (hn : 0 ≤ n) (hn' : n ≤ 4294967295) (hs : (s.size : Int) ≤ 9223372036854775807) (w : World) : Calls Try.prog 8 #[.agg #[.int .i64 k, .int .u32 n, .string s]] w fun e w' => e = .returned (.bool (ok k n s.data.toList)) ∧ Held w w' := by
  have H0 := Lib.hid ((Held.refl w).alloc (.cells #[.int .i64 k, .int .u32 n, .string s] 24))
  have hl : s.data.toList.length = s.size := by simp
  obtain ⟨z, hz⟩ : ∃ z, decide (s.data.toList = []) = z := ⟨_, rfl⟩
  have hb := nil_beq hz
  have h0 : z = true → s.size = 0 := fun h => by rw [← hl]; subst h; rw [of_decide_eq_true hz]; rfl
  have h1 : z = false → 1 ≤ s.size := fun h => by
    rw [← hl]; subst h
    have := of_decide_eq_false hz
    cases hx : s.data.toList with
    | nil => exact absurd hx this
    | cons a t => simp
  rw [show ok k n s.data.toList = okE k n z s.size by unfold ok; rw [hz, hl]]
  clear hz hl
  by_cases k1 : k = 1
  · subst k1
    go_enter Try.func8, Try.ntmps8
    go_wp2_with fail
    go_ret
    exact ⟨ret_b (by first | (simp [okE]; done) | (rw [Bool.eq_iff_iff]; simp [okE]; omega)), H0.out⟩
  by_cases k6 : k = 6
  · subst k6
    go_enter Try.func8, Try.ntmps8
    go_wp2_with fail
    go_ret
    exact ⟨ret_b (by first | (simp [okE]; done) | (rw [Bool.eq_iff_iff]; simp [okE]; omega)), H0.out⟩
  by_cases k2 : k = 2
  · subst k2
    by_cases n0 : n = 0
    all_goals
      try subst n0
      go_enter Try.func8, Try.ntmps8
      go_wp2_with fail
      go_ret
      exact ⟨ret_b (by first | (simp [okE, *]; done) | (simp [okE, *]; omega) | (simp [okE, *]; intro h; exact absurd h n0)), H0.out⟩
  by_cases k3 : k = 3
  · subst k3
    by_cases n0 : n ≤ 255
    all_goals
      try subst n0
      go_enter Try.func8, Try.ntmps8
      go_wp2_with fail
      go_ret
      exact ⟨ret_b (by first | (simp [okE, *]; done) | (simp [okE, *]; omega) | (simp [okE, *]; intro h; exact absurd h n0)), H0.out⟩
  by_cases k4 : k = 4
  · subst k4
    by_cases n1 : n = 1
    · subst n1
      cases z
      all_goals
        go_enter Try.func8, Try.ntmps8
        go_wp2_with fail
        go_ret
        exact ⟨ret_b (by first | (simp [okE]; done) | (rw [Bool.eq_iff_iff]; simp [okE]; omega)), H0.out⟩
    · by_cases n0 : n = 0
      · subst n0
        cases z
        all_goals
          go_enter Try.func8, Try.ntmps8
          go_wp2_with fail
          go_ret
          exact ⟨ret_b (by first | (simp [okE]; done) | (rw [Bool.eq_iff_iff]; simp [okE]; omega)), H0.out⟩
      · have n2 : ¬ n ≤ 1 := by omega
        go_enter Try.func8, Try.ntmps8
        go_wp2_with fail
        go_ret
        exact ⟨ret_b (by simp [okE, n0, n1, n2]), H0.out⟩
  by_cases k5 : k = 5
  · subst k5
    by_cases n0 : n = 0
    · subst n0
      by_cases q1 : (1 : Int) ≤ s.size
      all_goals
        go_enter Try.func8, Try.ntmps8
        go_wp2_with fail
        go_ret
        exact ⟨ret_b (by first | (simp [okE]; done) | (rw [Bool.eq_iff_iff]; simp [okE]; omega)), H0.out⟩
    · go_enter Try.func8, Try.ntmps8
      go_wp2_with fail
      go_ret
      exact ⟨ret_b (by simp [okE, n0]), H0.out⟩
  · go_enter Try.func8, Try.ntmps8
    go_wp2_with fail
    go_ret
    exact ⟨ret_b (by simp [okE, k1, k2, k3, k4, k5, k6]), H0.out⟩
set_option maxHeartbeats 1000000 in
theorem valid_ref (k n : Int) (s : ByteArray) (hk : -9223372036854775808 ≤ k) (hk' : k ≤ 9223372036854775807) (hn : 0 ≤ n) (hn' : n ≤ 4294967295) (hs : (s.size : Int) ≤ 9223372036854775807) (w : World) : Calls Try.prog 9 #[.agg #[.int .i64 k, .int .u32 n, .string s]] w fun e w' => e = .returned (.bool (ok k n s.data.toList)) ∧ Held w w' := by
  have H0 := Lib.hid ((Held.refl w).alloc (.cells #[.int .i64 k, .int .u32 n, .string s] 24))
  have hl : s.data.toList.length = s.size := by simp
  obtain ⟨z, hz⟩ : ∃ z, decide (s.data.toList = []) = z := ⟨_, rfl⟩
  have hb := nil_beq hz
  have h0 : z = true → s.size = 0 := fun h => by rw [← hl]; subst h; rw [of_decide_eq_true hz]; rfl
  have h1 : z = false → 1 ≤ s.size := fun h => by
    rw [← hl]; subst h
    have := of_decide_eq_false hz
    cases hx : s.data.toList with
    | nil => exact absurd hx this
    | cons a t => simp
  rw [show ok k n s.data.toList = okE k n z s.size by unfold ok; rw [hz, hl]]
  clear hz hl
  by_cases k1 : k = 1
  · subst k1
    go_enter Try.func9, Try.ntmps9
    go_wp2_with fail
    go_ret
    exact ⟨ret_b (by first | (simp [okE]; done) | (rw [Bool.eq_iff_iff]; simp [okE]; omega)), H0.out⟩
  by_cases k6 : k = 6
  · subst k6
    go_enter Try.func9, Try.ntmps9
    go_wp2_with fail
    go_ret
    exact ⟨ret_b (by first | (simp [okE]; done) | (rw [Bool.eq_iff_iff]; simp [okE]; omega)), H0.out⟩
  by_cases k2 : k = 2
  · subst k2
    by_cases n0 : n = 0
    all_goals
      try subst n0
      go_enter Try.func9, Try.ntmps9
      go_wp2_with fail
      go_ret
      exact ⟨ret_b (by first | (simp [okE, *]; done) | (simp [okE, *]; omega) | (simp [okE, *]; intro h; exact absurd h n0)), H0.out⟩
  by_cases k3 : k = 3
  · subst k3
    by_cases n0 : n ≤ 255
    all_goals
      try subst n0
      go_enter Try.func9, Try.ntmps9
      go_wp2_with fail
      go_ret
      exact ⟨ret_b (by first | (simp [okE, *]; done) | (simp [okE, *]; omega) | (simp [okE, *]; intro h; exact absurd h n0)), H0.out⟩
  by_cases k4 : k = 4
  · subst k4
    by_cases n1 : n = 1
    · subst n1
      cases z
      all_goals
        go_enter Try.func9, Try.ntmps9
        go_wp2_with fail
        go_ret
        exact ⟨ret_b (by first | (simp [okE]; done) | (rw [Bool.eq_iff_iff]; simp [okE]; omega)), H0.out⟩
    · by_cases n0 : n = 0
      · subst n0
        cases z
        all_goals
          go_enter Try.func9, Try.ntmps9
          go_wp2_with fail
          go_ret
          exact ⟨ret_b (by first | (simp [okE]; done) | (rw [Bool.eq_iff_iff]; simp [okE]; omega)), H0.out⟩
      · have n2 : ¬ n ≤ 1 := by omega
        go_enter Try.func9, Try.ntmps9
        go_wp2_with fail
        go_ret
        exact ⟨ret_b (by simp [okE, n0, n1, n2]), H0.out⟩
  by_cases k5 : k = 5
  · subst k5
    by_cases n0 : n = 0
    · subst n0
      by_cases q1 : (1 : Int) ≤ s.size
      all_goals
        go_enter Try.func9, Try.ntmps9
        go_wp2_with fail
        go_ret
        exact ⟨ret_b (by first | (simp [okE]; done) | (rw [Bool.eq_iff_iff]; simp [okE]; omega)), H0.out⟩
    · go_enter Try.func9, Try.ntmps9
      go_wp2_with fail
      go_ret
      exact ⟨ret_b (by simp [okE, n0]), H0.out⟩
  · go_enter Try.func9, Try.ntmps9
    go_wp2_with fail
    go_ret
    exact ⟨ret_b (by simp [okE, k1, k2, k3, k4, k5, k6]), H0.out⟩
end Ev
end Go.Proofs.Ytdacgdokbfcgdaa
