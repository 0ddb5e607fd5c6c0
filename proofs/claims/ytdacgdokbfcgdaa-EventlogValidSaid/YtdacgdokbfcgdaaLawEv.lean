/-
  The laws of chapter 19: what they call besides.
-/
import Derived.Test.YtdacgdokbfcgdaaEncE
import Derived.Test.YtdacgdokbfcgdaaLgE
import Derived.Test.YtdacgdokbfcgdaaMkD
import Derived.Test.YtdacgdokbfcgdaaRw
set_option linter.unusedVariables false
set_option linter.unusedSimpArgs false
set_option maxRecDepth 100000
namespace Go.Proofs.Ytdacgdokbfcgdaa
open Go.RowKit Go.BigFrame Go.Sort
namespace Enc
open Lgc Lg Strs
def en1 : Ent := ⟨7, 2, 0, ⟨#[]⟩⟩
theorem en1_ok : ∀ x ∈ [en1], EntOK x := by
  intro x hx
  simp only [List.mem_singleton] at hx
  subst hx
  exact ⟨by decide, by decide, by decide, by decide, by decide, by decide⟩
theorem en1_enc : encode [en1] 5 = ([1, 2, 2], 0) := by decide +kernel
theorem sl1 (x : Ent) (w : World) : Sl 4 entC (w.alloc (.cells #[.int .u64 (x.t : Int), .int .i64 x.k, .int .u32 x.n, .string x.d] 43)) (some ⟨w.heap.size, 0, none⟩) 1 [x] := by
  refine ⟨rfl, .inr ⟨w.heap.size, 0, rfl, by simp, ?_⟩⟩
  intro k hk j v hv
  obtain rfl : k = 0 := by simpa using hk
  match j, hv with
  | 0, hv => simp [entC] at hv; subst hv; simp
  | 1, hv => simp [entC] at hv; subst hv; simp
  | 2, hv => simp [entC] at hv; subst hv; simp
  | 3, hv => simp [entC] at hv; subst hv; simp
  | j + 4, hv => simp [entC] at hv
set_option maxHeartbeats 2000000 in
theorem awake_any (w : World) : Calls Try.prog 7 #[] w fun e w' => e = .returned (.bool true) ∧ Held w w' := by
  have E1 : Hid (∀ w : World, Calls Try.prog 17 #[.slice (some ⟨w.heap.size, 0, none⟩) 1 1, .int .u64 5] (w.alloc (.cells #[.int .u64 7, .int .i64 2, .int .u32 0, .string ⟨#[]⟩] 43))
      fun e w' => e = .returned (.tuple #[.string ⟨#[1, 2, 2]⟩, .int .i64 0]) ∧ Held (w.alloc (.cells #[.int .u64 7, .int .i64 2, .int .u32 0, .string ⟨#[]⟩] 43)) w') := fun w => by
    have := encode_any (some ⟨w.heap.size, 0, none⟩) 1 1 [en1] 5 _ (sl1 en1 w) (by decide) en1_ok (by decide)
    rw [en1_enc] at this
    exact this
  have hpl : (packed 300 [97, 98]).length ≤ 100 := by decide +kernel
  have P1 : Hid (∀ w, Calls Try.prog 10 #[.int .u64 300, .string ⟨#[97, 98]⟩] w fun e w' => e = .returned (.string ⟨(packed 300 [97, 98]).toArray⟩) ∧ Held w w') := fun w => pack_any 300 ⟨#[97, 98]⟩ (by decide) (by decide) w
  have O1 : Hid (∀ w, Calls Try.prog 11 #[.string ⟨(packed 300 [97, 98]).toArray⟩] w fun e w' => e = .returned (.tuple #[.int .u64 300, .string ⟨#[97, 98]⟩, .int .i64 0]) ∧ Held w w') := fun w => by
    have := open_any ⟨(packed 300 [97, 98]).toArray⟩ (by rw [ba_size]; omega) w
    rw [show (⟨(packed 300 [97, 98]).toArray⟩ : ByteArray).data.toList = packed 300 [97, 98] by simp, opens_packed 300 [97, 98] (by decide) (by decide)] at this
    exact this
  have V1 : Hid (∀ w, Calls Try.prog 8 #[.agg #[.int .i64 2, .int .u32 0, .string ⟨#[]⟩]] w fun e w' => e = .returned (.bool true) ∧ Held w w') := fun w => Ev.valid_any 2 0 ⟨#[]⟩ (by decide) (by decide) (by decide) (by decide) (by decide) w
  clear hpl
  generalize packed 300 [97, 98] = pk at P1 O1
  go_enter Try.func7, Try.ntmps7
  go_wp2_with fail
  refine (E1.out _).mono ?_
  rintro e w1 ⟨rfl, h1⟩
  have W1 := Lib.hid (((Held.refl w).alloc (.cells #[.int .u64 7, .int .i64 2, .int .u32 0, .string ⟨#[]⟩] 43)).step h1)
  clear h1 E1
  go_wp2_with fail
  refine (P1.out _).mono ?_
  rintro e w2 ⟨rfl, h2⟩
  have W2 := Lib.hid (W1.out.step h2)
  clear h2 P1 W1
  go_wp2_with fail
  refine (O1.out _).mono ?_
  rintro e w3 ⟨rfl, h3⟩
  have W3 := Lib.hid (W2.out.step h3)
  clear h3 O1 W2
  go_wp2_with fail
  refine (V1.out _).mono ?_
  rintro e w4 ⟨rfl, h4⟩
  have W4 := Lib.hid (W3.out.step h4)
  clear h4 V1 W3
  go_wp2
  go_ret
  exact ⟨rfl, W4.out⟩
end Enc
end Go.Proofs.Ytdacgdokbfcgdaa
