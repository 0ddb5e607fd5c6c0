/-
  Chapter 19: opening any bytes; validity of events: the walks.
-/
import Derived.Test.YtdacgdokbfcgdaaLawEv
import Derived.Test.YtdacgdokbfcgdaaMkR
set_option linter.unusedVariables false
set_option linter.unusedSimpArgs false
set_option maxRecDepth 100000
namespace Go.Proofs.Ytdacgdokbfcgdaa
open Go.RowKit Go.BigFrame Go.Sort
namespace Enc
open Lgc Lg Rw
set_option maxHeartbeats 4000000 in
theorem opensL (s : ByteArray) (b : Bool) (a3 a4 : Int) (ws : s.size ≤ 9223372036854775807) (w3 : (Lit.int .u64 a3).wf = true) (w4 : (Lit.int .i64 a4).wf = true) (W : World) :
    Calls Try.prog 5 #[.string s, .bool b, .int .u64 a3, .int .i64 a4] W fun e w' => e = .returned (.bool true) ∧ Below W.heap.size W w' := by
  have b1 := bd_u64 w3
  have b3 := bd_i64 w4
  clear w3 w4
  obtain ⟨n, rfl⟩ := Int.eq_ofNat_of_zero_le b1.1
  by_cases h300 : (300 : Int) < s.size
  · go_enter Try.func5, Try.ntmps5
    go_wp2_with (go_at_call 7; refine (awake_any _).mono ?_; rintro e w1 ⟨rfl, hh⟩)
    go_ret
    exact ⟨rfl, hh⟩
  have HO : Hid (∀ t : ByteArray, t.size ≤ 1000 → ∃ (x : Nat) (y : ByteArray) (z : Int), (∀ w, Calls Try.prog 11 #[.string t] w fun e w' => e = .returned (.tuple #[.int .u64 x, .string y, .int .i64 z]) ∧ Held w w') ∧
      ∀ w, Calls Try.prog 14 #[.string t] w fun e w' => e = .returned (.tuple #[.int .u64 x, .string y, .int .i64 z]) ∧ Held w w') := fun t ht =>
    ⟨_, _, _, fun w => open_any t (by omega) w, fun w => open_ref_any t (by omega) w⟩
  cases b
  · obtain ⟨x, y, z, o1, o2⟩ := HO.out s (by omega)
    have O1 := Lib.hid o1
    have O2 := Lib.hid o2
    clear o1 o2 HO
    go_enter Try.func5, Try.ntmps5
    go_wp2_with (first | (go_at_call 11; refine (O1.out _).mono ?_; rintro e w1 ⟨rfl, h1⟩; have H1 := Lib.hid h1; clear h1) | (go_at_call 14; refine (O2.out _).mono ?_; rintro e w2 ⟨rfl, h2⟩; have H2 := Lib.hid h2; clear h2) | (go_at_call 7; refine (awake_any _).mono ?_; rintro e w7 ⟨rfl, h7⟩))
    go_ret
    exact ⟨rfl, (Held.step H1.out H2.out).step h7⟩
  · have hsl : s.data.toList.length = s.size := len_eq s
    have hput1 := Uv.put_len n (by omega)
    have hput2 := Uv.put_len s.size (by omega)
    have hpl : 1 ≤ (packed n s.data.toList).length ∧ (packed n s.data.toList).length ≤ 400 := by
      unfold packed
      simp only [List.length_append, be8_len, hsl]
      omega
    have c0 : Hid (∀ w, Calls Try.prog 12 #[.int .u64 n, .string s] w fun e w' => e = .returned (.string ⟨(packed n s.data.toList).toArray⟩) ∧ Held w w') := fun w => pack_ref_any n s (by omega) (by omega) w
    obtain ⟨p, hp⟩ : ∃ p : ByteArray, (⟨(packed n s.data.toList).toArray⟩ : ByteArray) = p := ⟨_, rfl⟩
    have hps : p.size = (packed n s.data.toList).length := by rw [← hp]; exact ba_size _
    rw [hp] at c0
    obtain ⟨q, hq⟩ : ∃ m : Nat, Mk.round a4 ((p.size : Int) + 1) = m := ⟨(Mk.round a4 ((p.size : Int) + 1)).toNat, by have := Mk.round_bd a4 ((p.size : Int) + 1) (by omega); omega⟩
    have hqp : q ≤ p.size := by have := Mk.round_bd a4 ((p.size : Int) + 1) (by omega); omega
    have HQ := Lib.hid hq
    have hes : (p.extract 0 q).size = q := by rw [ByteArray.size_extract]; omega
    have htz : (p.extract 0 q ++ s).size ≤ 1000 := by rw [ByteArray.size_append, hes]; omega
    obtain ⟨x, y, z, o1, o2⟩ := HO.out (p.extract 0 q ++ s) htz
    have O1 := Lib.hid o1
    have O2 := Lib.hid o2
    have s2 : (p.size : Int) ≤ 400 := by omega
    have s3 : (q : Int) ≤ p.size := by omega
    have s4 : (0 : Int) ≤ q := by omega
    have HES : Hid ((p.extract 0 q).size = q) := hes
    have htz2 : ((p.extract 0 q).size : Int) ≤ 1000 := by omega
    clear o1 o2 HO hes hq hp hps hpl hsl hput1 hput2
    go_enter Try.func5, Try.ntmps5
    go_wp2_with fail
    refine (c0.out _).mono ?_
    rintro e w0 ⟨rfl, h0⟩
    have H0 := Lib.hid h0
    clear h0
    go_wp2_with (first | (go_at_call 13; refine (Mk.round_any _ _ (by omega) (by omega) (by omega) (by omega) _).mono ?_; rintro e w6 ⟨rfl, rfl⟩; rw [HQ.out]) | (go_at_call 11; refine (O1.out _).mono ?_; rintro e w1 ⟨rfl, h1⟩; have H1 := Lib.hid h1; clear h1) | (go_at_call 14; refine (O2.out _).mono ?_; rintro e w2 ⟨rfl, h2⟩; have H2 := Lib.hid h2; clear h2) | (go_at_call 7; refine (awake_any _).mono ?_; rintro e w7 ⟨rfl, h7⟩))
    go_ret
    exact ⟨rfl, ((Held.step H0.out H1.out).step H2.out).step h7⟩
end Enc
end Go.Proofs.Ytdacgdokbfcgdaa
