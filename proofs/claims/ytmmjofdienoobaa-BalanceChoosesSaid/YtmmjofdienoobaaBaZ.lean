/-
  Contracts: SameMoves of the reference; '==' on moves.
-/
import Derived.Test.YtmmjofdienoobaaBaY
set_option linter.unusedVariables false
set_option linter.unusedSimpArgs false
set_option maxRecDepth 100000
namespace Go.Proofs.Ytmmjofdienoobaa
open Go.RowKit Go.BigFrame
namespace Ba
open Ad Adm
theorem mv_ext {x y : Mv} : x = y ↔ x.g = y.g ∧ x.f = y.f ∧ x.t = y.t := by
  cases x; cases y; simp
theorem run_equalIn_mv (d : Nat) (x y : Mv) (w : World) : (Op.equalIn (d + 2) 37 (.agg #[.int .i64 x.g, .int .i64 x.f, .int .i64 x.t]) (.agg #[.int .i64 y.g, .int .i64 y.f, .int .i64 y.t])).run Try.prog w = .ok (@decide (x = y) (Classical.propDecidable _)) w := by
  have hs : Program.stoodInHeld Try.prog 37 = false := by kernel_rfl
  unfold Op.equalIn
  simp [run_underlying Try.underlying37, hs, go_sem, mv_ext]
  by_cases h1 : x.g = y.g <;> by_cases h2 : x.f = y.f <;> by_cases h3 : x.t = y.t <;> simp [h1, h2, h3]
theorem run_eql_mv {x y : Mv} {q : Bool} (h : q = true ↔ x = y) (w : World) : (binOp .eql 37 (.agg #[.int .i64 x.g, .int .i64 x.f, .int .i64 x.t]) (.agg #[.int .i64 y.g, .int .i64 y.f, .int .i64 y.t])).run Try.prog w = .ok (.bool q) w := by
  simp only [binOp]
  have hq : @decide (x = y) (Classical.propDecidable _) = q := by
    rw [Bool.eq_iff_iff, h]; simp
  simp [Op.equal, Op.maxDepth, run_equalIn_mv 9998, hq]
theorem run_neq_mv {x y : Mv} {q : Bool} (h : q = true ↔ x = y) (w : World) : (binOp .neq 37 (.agg #[.int .i64 x.g, .int .i64 x.f, .int .i64 x.t]) (.agg #[.int .i64 y.g, .int .i64 y.f, .int .i64 y.t])).run Try.prog w = .ok (.bool (!q)) w := by
  simp only [binOp]
  have hq : @decide (x = y) (Classical.propDecidable _) = q := by
    rw [Bool.eq_iff_iff, h]; simp
  simp [Op.equal, Op.maxDepth, run_equalIn_mv 9998, hq]
theorem sameM_any (A : Option Addr) (n cap : Nat) (B : Option Addr) (m c : Nat) (L : List Mv) (w : World) (h1 : Sl 3 mvC w A n L) (h2 : Sl 3 mvC w B m L) (hn : (n : Int) ≤ 1000000) :
    Calls Try.prog 44 #[.slice A n cap, .slice B m c] w fun e w' => e = .returned (.bool true) ∧ Held w w' := by
  obtain rfl : n = m := h1.1.symm.trans h2.1
  have H1 := Lib.hid h1
  have H2 := Lib.hid h2
  have hq : ((n : Int) != n) = false := by simp
  clear h1 h2
  go_enter Try.func44, Try.ntmps44
  go_wp2
  go_loopw [5] (fun i wr => ∃ k : Nat, i = .int .i64 k ∧ k ≤ n ∧ Held w wr) (fun i _ => n - (intOf i).toNat)
  case atStart => exact ⟨0, rfl, Nat.zero_le _, Held.refl _⟩
  case round =>
    obtain ⟨k, rfl, hk, hw⟩ := hrel
    have HW := Lib.hid hw
    clear hw
    by_cases hlt : (k : Int) < n
    · obtain ⟨b1, o1, x, rfl, _, hx, hc⟩ := H1.out.at_ HW.out (k := k) (by omega)
      have x0 := hc 0 _ rfl
      have x1 := hc 1 _ rfl
      have x2 := hc 2 _ rfl
      rw [Nat.add_zero] at x0
      obtain ⟨b2, o2, y, rfl, _, hy, hd⟩ := H2.out.at_ HW.out (k := k) (by omega)
      have y0 := hd 0 _ rfl
      have y1 := hd 1 _ rfl
      have y2 := hd 2 _ rfl
      rw [Nat.add_zero] at y0
      obtain rfl : x = y := by rw [hx] at hy; injection hy
      have hne := run_neq_mv (x := x) (y := x) (q := true) (by simp)
      have k0 : ¬ (k : Int) < 0 := by omega
      have s1 : (0 : Int) ≤ k := by omega
      clear hc hd hx hy
      go_wp2
      go_big_quiet (fail)
      go_wp2
      go_roundw
      case rel => exact ⟨k + 1, by go_num, by omega, HW.out.step ((Held.refl wr).drewN _)⟩
      case measure => (simp [intOf]) <;> omega
    · go_wp2
      go_ret
      exact ⟨rfl, HW.out⟩
end Ba
end Go.Proofs.Ytmmjofdienoobaa
