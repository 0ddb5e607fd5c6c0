/-
  Chapter 19: sealed segments: the walk.
-/
import Derived.Test.YtdacgdokbfcgdaaLawEv
import Derived.Test.YtdacgdokbfcgdaaFlip
import Derived.Test.YtdacgdokbfcgdaaMkR
set_option linter.unusedVariables false
set_option linter.unusedSimpArgs false
set_option maxRecDepth 100000
namespace Go.Proofs.Ytdacgdokbfcgdaa
open Go.RowKit Go.BigFrame Go.Sort
namespace Enc
open Lgc Lg Rw
set_option maxHeartbeats 4000000 in
theorem seals (a1 : Int) (s : ByteArray) (a3 : Int) (w1 : (Lit.int .u64 a1).wf = true) (ws : s.size ≤ 9223372036854775807) (w3 : (Lit.int .i64 a3).wf = true) (W : World) :
    Calls Try.prog 4 #[.int .u64 a1, .string s, .int .i64 a3] W fun e w' => e = .returned (.bool true) ∧ Below W.heap.size W w' := by
  have b1 := bd_u64 w1
  have b3 := bd_i64 w3
  clear w1 w3
  obtain ⟨n, rfl⟩ := Int.eq_ofNat_of_zero_le b1.1
  by_cases h300 : (300 : Int) < s.size
  · go_enter Try.func4, Try.ntmps4
    go_wp2_with (go_at_call 7; refine (awake_any _).mono ?_; rintro e w1 ⟨rfl, hh⟩)
    go_ret
    exact ⟨rfl, hh⟩
  have hsl : s.data.toList.length = s.size := len_eq s
  have hput1 := Uv.put_len n (by omega)
  have hput2 := Uv.put_len s.size (by omega)
  have hpl : 1 ≤ (packed n s.data.toList).length ∧ (packed n s.data.toList).length ≤ 400 := by
    unfold packed
    simp only [List.length_append, be8_len, hsl]
    omega
  have c1 : Hid (∀ w, Calls Try.prog 10 #[.int .u64 n, .string s] w fun e w' => e = .returned (.string ⟨(packed n s.data.toList).toArray⟩) ∧ Held w w') := fun w => pack_any n s (by omega) (by omega) w
  have c0 : Hid (∀ w, Calls Try.prog 12 #[.int .u64 n, .string s] w fun e w' => e = .returned (.string ⟨(packed n s.data.toList).toArray⟩) ∧ Held w w') := fun w => pack_ref_any n s (by omega) (by omega) w
  have c2 : Hid (∀ w, Calls Try.prog 11 #[.string ⟨(packed n s.data.toList).toArray⟩] w fun e w' => e = .returned (.tuple #[.int .u64 n, .string s, .int .i64 0]) ∧ Held w w') := fun w => by
    have := open_any ⟨(packed n s.data.toList).toArray⟩ (by rw [ba_size]; omega) w
    rw [show (⟨(packed n s.data.toList).toArray⟩ : ByteArray).data.toList = packed n s.data.toList by simp, opens_packed n _ (by omega) (by rw [hsl]; omega)] at this
    unfold OpensTo at this
    rw [show (⟨(n, s.data.toList, (0 : Int)).2.1.toArray⟩ : ByteArray) = s from (str_mk rfl).symm] at this
    exact this
  have c3 : Hid (∀ j (hj : j < (packed n s.data.toList).length) (c : UInt8), (packed n s.data.toList)[j] ≠ c → ∃ (x : Nat) (y : List UInt8) (z : Int), z ≠ 0 ∧ ∀ w, Calls Try.prog 11 #[.string ⟨((packed n s.data.toList).set j c).toArray⟩] w fun e w' => e = .returned (.tuple #[.int .u64 x, .string ⟨y.toArray⟩, .int .i64 z]) ∧ Held w w') := fun j hj c hc => by
    refine ⟨(opens ((packed n s.data.toList).set j c)).1, (opens ((packed n s.data.toList).set j c)).2.1, (opens ((packed n s.data.toList).set j c)).2.2, packed_set n s.data.toList j hj c hc (by rw [hsl]; omega), fun w => ?_⟩
    have := open_any ⟨((packed n s.data.toList).set j c).toArray⟩ (by rw [ba_size, List.length_set]; omega) w
    rw [show (⟨((packed n s.data.toList).set j c).toArray⟩ : ByteArray).data.toList = (packed n s.data.toList).set j c by simp] at this
    exact this
  generalize packed n s.data.toList = pk at hpl c0 c1 c2 c3
  obtain ⟨p, hp⟩ : ∃ p : ByteArray, (⟨pk.toArray⟩ : ByteArray) = p := ⟨_, rfl⟩
  have hpt : p.data.toList = pk := by rw [← hp]
  have hps : p.size = pk.length := by rw [← len_eq, hpt]
  rw [hp] at c0 c1 c2
  have s1 : (1 : Int) ≤ (p.size : Int) := by omega
  have s2 : (p.size : Int) ≤ 400 := by omega
  obtain ⟨at', hat⟩ : ∃ m : Nat, Mk.round a3 (8 * (p.size : Int)) = m := ⟨(Mk.round a3 (8 * (p.size : Int))).toNat, by have := Mk.round_bd a3 (8 * (p.size : Int)) (by omega); omega⟩
  have hab : at' < 8 * p.size := by have := Mk.round_bd a3 (8 * (p.size : Int)) (by omega); omega
  have HAT := Lib.hid hat
  obtain ⟨j, hj⟩ : ∃ j, at' / 8 = j := ⟨_, rfl⟩
  have hjp : j < p.size := by omega
  have hr8 : at' % 8 < 8 := Nat.mod_lt _ (by omega)
  obtain ⟨r, hr⟩ : ∃ r, at' % 8 = r := ⟨_, rfl⟩
  rw [hr] at hr8
  have hne := Flip.turn_ne p[j] r hr8
  have hb := Flip.turn_bits p[j] r hr8
  obtain ⟨xx, yy, zz, hz0, c4⟩ := c3.out j (by omega) (Flip.turn p[j] r) (by
    have : pk[j]'(by omega) = p[j] := by subst hpt; rfl
    rw [this]; exact hne)
  have hz1 : (zz != 0) = true := by simp [hz0]
  have C4 := Lib.hid c4
  clear c4 hz0
  obtain ⟨c, hc⟩ : ∃ c, Flip.turn p[j] r = c := ⟨_, rfl⟩
  rw [hc] at hb C4
  rw [← hpt] at C4
  have i1 : (at' : Int) / 8 = (j : Int) := by omega
  have i2 : (at' : Int) % 8 = (r : Int) := by omega
  have i3 : (at' : Int) ≤ 3200 := by omega
  have i4 : (0 : Int) ≤ (at' : Int) := by omega
  have i5 : (j : Int) < (p.size : Int) := by omega
  have hbq : (p[j].toNat : Int) ≤ 255 := by have := p[j].toNat_lt; omega
  have HFL := Lib.hid (fun w => Flip.facts p w j hjp c)
  clear c3 hp hpt hps hat hr hne hc hpl hsl hput1 hput2
  have I1 := Lib.hid i1
  have I2 := Lib.hid i2
  have HJ := Lib.hid hj
  clear i1 i2 hj
  go_enter Try.func4, Try.ntmps4
  go_wp2_with fail
  refine (c1.out _).mono ?_
  rintro e w1 ⟨rfl, h1⟩
  go_wp2_with fail
  refine (c2.out _).mono ?_
  rintro e w2 ⟨rfl, h2⟩
  go_wp2_with fail
  refine (c0.out _).mono ?_
  rintro e w3 ⟨rfl, h3⟩
  have H3 := Lib.hid ((Held.step h1 h2).step h3)
  clear h1 h2 h3 c0 c1 c2
  obtain ⟨C, cap, hconv, hfz, hcl, hback⟩ := HFL.out w3
  have HBK := Lib.hid hback
  clear hback
  have W5 : Hid (Held W ((w3.alloc (.cells C 5 (C.size, C.size + 1))).setCell ⟨w3.heap.size, j, none⟩ (.int .u8 c.toNat))) := (H3.out.alloc _).set H3.out.le _
  have hbk : (convert 34 9 (.slice (some ⟨w3.heap.size, 0, none⟩) p.size cap)).run Try.prog ((w3.alloc (.cells C 5 (C.size, C.size + 1))).setCell ⟨w3.heap.size, j, none⟩ (.int .u8 c.toNat)).drew =
      .ok (.string ⟨(p.data.toList.set j c).toArray⟩) ((w3.alloc (.cells C 5 (C.size, C.size + 1))).setCell ⟨w3.heap.size, j, none⟩ (.int .u8 c.toNat)).drew := HBK.out 1
  obtain rfl | rfl | rfl | rfl | rfl | rfl | rfl | rfl : r = 0 ∨ r = 1 ∨ r = 2 ∨ r = 3 ∨ r = 4 ∨ r = 5 ∨ r = 6 ∨ r = 7 := by omega
  all_goals
    simp only [Nat.reducePow, Int.cast_ofNat_Int, Int.natCast_one] at hb
    go_wp2_with (first | (go_at_call 13; refine (Mk.round_any _ _ (by omega) (by omega) (by omega) (by omega) _).mono ?_; rintro e w6 ⟨rfl, rfl⟩; rw [HAT.out]; have i1 := I1.out; have i2 := I2.out; have hj := HJ.out) | (go_at_call 11; refine (C4.out _).mono ?_; rintro e w6 ⟨rfl, h6⟩) | (go_at_call 7; refine (awake_any _).mono ?_; rintro e w7 ⟨rfl, h7⟩))
    go_ret
    exact ⟨rfl, (W5.out.drew.step h6).step h7⟩
end Enc
end Go.Proofs.Ytdacgdokbfcgdaa
