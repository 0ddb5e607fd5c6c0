/-
  The laws of chapter 20: patterns that repeat; whatever bytes are read.
-/
import Derived.Test.YtgoiglmpailagaaLawCp
import Derived.Test.YtgoiglmpailagaaMkR
set_option linter.unusedVariables false
set_option maxRecDepth 100000
namespace Go.Proofs.Ytgoiglmpailagaa
open Go.RowKit
open By
open Rw (IsRow bd_i64)
namespace Cp
theorem reps_bytes (t p : ByteArray) (n : Nat) (h : t.data.toList = reps p.data.toList n) : (t ++ p).data.toList = reps p.data.toList (n + 1) := by
  rw [reps, ← h]
  simp
theorem runs_law (p : ByteArray) (m : Int) (hs : p.size ≤ maxLen) (hm : (Lit.int .i64 m).wf = true) (W : World) :
    Calls Try.prog 6 #[.string p, .int .i64 m] W fun e w' => e = .returned (.bool true) ∧ Below W.heap.size W w' := by
  have hs' : (p.size : Int) ≤ 9223372036854775807 := by unfold maxLen at hs; omega
  have hmb := bd_i64 hm
  clear hs hm
  by_cases h1 : (p.size : Int) < 1
  · go_enter Try.func6, Try.ntmps6
    go_wp2_with (go_at_call 8; refine (awk W _ (Held.refl W)).mono ?_; rintro e w1 ⟨rfl, hz1⟩)
    go_ret
    exact ⟨rfl, hz1⟩
  · by_cases h2 : (20 : Int) < p.size
    · go_enter Try.func6, Try.ntmps6
      go_wp2_with (go_at_call 8; refine (awk W _ (Held.refl W)).mono ?_; rintro e w1 ⟨rfl, hz1⟩)
      go_ret
      exact ⟨rfl, hz1⟩
    · by_cases h3 : m < 4
      · go_enter Try.func6, Try.ntmps6
        go_wp2_with (go_at_call 8; refine (awk W _ (Held.refl W)).mono ?_; rintro e w1 ⟨rfl, hz1⟩)
        go_ret
        exact ⟨rfl, hz1⟩
      · by_cases h4 : 60 < m
        · go_enter Try.func6, Try.ntmps6
          go_wp2_with (go_at_call 8; refine (awk W _ (Held.refl W)).mono ?_; rintro e w1 ⟨rfl, hz1⟩)
          go_ret
          exact ⟨rfl, hz1⟩
        · obtain ⟨M, rfl⟩ : ∃ M : Nat, m = M := ⟨m.toNat, by omega⟩
          go_enter Try.func6, Try.ntmps6
          go_wp2
          go_loopw [5, 6] (fun s i wr => ∃ (t : ByteArray) (j : Nat), s = .string t ∧ i = .int .i64 j ∧ j ≤ M ∧ t.data.toList = reps p.data.toList j ∧ Held W wr) (fun _ i _ => M - (intOf i).toNat)
          case atStart => exact ⟨⟨#[]⟩, 0, rfl, rfl, Nat.zero_le _, rfl, Held.refl _⟩
          case round =>
            obtain ⟨t, j, rfl, rfl, hj, ht, hh⟩ := hrel
            have H0 := Lib.hid hh
            have hsz : t.size = j * p.size := by rw [← size_len, ht, reps_len, size_len]
            have hsz2 : t.size ≤ 60 * 20 := by rw [hsz]; exact Nat.mul_le_mul (by omega) (by omega)
            have HT := Lib.hid ht
            have HS := Lib.hid hsz
            clear hh ht hsz
            by_cases hlt : (j : Int) < M
            · go_wp2
              go_roundw
              case rel => exact ⟨t ++ p, j + 1, rfl, by go_num, by omega, reps_bytes t p j HT.out, H0.out⟩
              case measure => (simp [intOf]) <;> omega
            · obtain rfl : j = M := by omega
              obtain ⟨c, hc, hcl, HC, HD⟩ := pack t (by omega)
              have hr := runs (reps_per p.data.toList j (by rw [size_len]; omega)) (by rw [size_len]; omega) (by rw [size_len]; omega) (by rw [reps_len]; exact Nat.mul_le_mul_right _ (by omega))
              rw [← HT.out, ← hcl, size_len, size_len] at hr
              have hr2 : (c.size : Int) ≤ 2 * (p.size : Int) + 2 + 2 * ((t.size : Int) / 67 + 2) := by omega
              have hc2 : (c.size : Int) ≤ 4000 := by omega
              have HCC := Lib.hid HC
              have hD1 := fun w => HD (t.size : Int) w (by omega)
              rw [if_pos (.inl (Int.le_refl _))] at hD1
              have HD1 := Lib.hid hD1
              have ht2 : (t.size : Int) ≤ 1200 := by omega
              clear HC HD hD1 hcl hr hlt
              go_wp2_with fail
              refine (HCC.out _).mono ?_; rintro e w1 ⟨rfl, h1⟩; have H1 := Lib.hid (H0.out.step h1); clear h1
              go_wp2_with fail
              refine (HD1.out _).mono ?_; rintro e w2 ⟨rfl, h2⟩; have H2 := Lib.hid (H1.out.step h2); clear h2
              go_wp2_with (go_at_call 8; refine (awk W _ H2.out).mono ?_; rintro e w4 ⟨rfl, h4⟩)
              go_ret
              exact ⟨rfl, h4⟩
end Cp
end Go.Proofs.Ytgoiglmpailagaa
