/-
  The law package's own check of fixed results returns true; the laws on words.
-/
import Derived.Test.YtpgllpoclokcmaaWords
import Derived.Test.YtpgllpoclokcmaaStr
import Derived.Test.YtpgllpoclokcmaaRw
namespace Go.Proofs.Ytpgllpoclokcmaa
open Go.RowKit
set_option linter.unusedVariables false
set_option maxRecDepth 100000
namespace Law1
open Rw
theorem uv_300 (w : World) : Calls Try.prog 21 #[.string ⟨#[172, 2]⟩] w fun e w' => e = .returned (.tuple #[.int .u64 300, .int .i64 2, .bool true]) ∧ w = w' :=
  (Strs.uv_any ⟨#[172, 2]⟩ (by decide) w).mono fun e w' ⟨he, hw⟩ => ⟨he.trans (by
    have h : Uv.rd 0 0 [172, 2] = some (300, 2) := by decide
    rw [show (ByteArray.mk #[172, 2]).data.toList = [172, 2] from rfl, (Uv.uv_some h).1, (Uv.uv_some h).2.1, (Uv.uv_some h).2.2]; rfl), hw⟩
theorem sext_80 (w : World) : Calls Try.prog 24 #[.int .u32 128, .int .i64 8] w fun e w' => e = .returned (.int .u32 4294967168) ∧ w = w' :=
  (Words.sext_any 128 8 (by decide) (by decide) (by decide) w).mono fun e w' ⟨he, hw⟩ => ⟨he.trans (by
    have h : Words.sextA 128 8 = 4294967168 := by decide
    rw [h]; rfl), hw⟩
theorem div_7 (w : World) : Calls Try.prog 13 #[.int .u32 4294967289, .int .u32 2] w fun e w' => e = .returned (.tuple #[.int .u32 4294967293, .int .u32 4294967295]) ∧ ∃ n, w' = w.drewN n :=
  (Words.div_any 4294967289 2 (by decide) (by decide) (by decide) (by decide) w).mono fun e w' ⟨he, hw⟩ => ⟨he.trans (by
    have h1 : Words.divQ 4294967289 2 = 4294967293 := by decide +kernel
    have h2 : Words.divR 4294967289 2 = 4294967295 := by decide +kernel
    rw [h1, h2]), hw⟩
theorem awake_quiet (w : World) : Calls Try.prog 15 #[] w fun e w' => e = .returned (.bool true) ∧ ∃ n, w' = w.drewN n := by
  go_enter Try.func15, Try.ntmps15
  go_wp2_with (first | (go_at_call 13; refine (div_7 _).mono ?_; rintro e w' ⟨rfl, nq, rfl⟩) | (go_at_call 21; refine (uv_300 _).mono ?_; rintro e w' ⟨rfl, rfl⟩) | (go_at_call 16; refine (Words.next_any _ _).mono ?_; rintro e w' ⟨rfl, rfl⟩) | (go_at_call 17; refine (Words.next_ref_any _ _).mono ?_; rintro e w' ⟨rfl, rfl⟩) | (go_at_call 24; refine (sext_80 _).mono ?_; rintro e w' ⟨rfl, rfl⟩))
  go_ret
  exact ⟨rfl, _, rfl⟩
theorem awake_any (w : World) : Calls Try.prog 15 #[] w fun e w' => e = .returned (.bool true) ∧ Below w.heap.size w w' :=
  (awake_quiet w).mono fun e w' ⟨he, n, hn⟩ => ⟨he, hn ▸ below_drewN (Below.refl _ _) _⟩
end Law1
end Go.Proofs.Ytpgllpoclokcmaa
