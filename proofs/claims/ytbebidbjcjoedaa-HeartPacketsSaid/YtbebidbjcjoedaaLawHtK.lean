/-
  Chapter 27: a heartbeat packet is read back, and one with a flipped bit is not read: the walk.
-/
import Derived.Test.YtbebidbjcjoedaaLawHt
import Derived.Test.YtbebidbjcjoedaaRw
import Derived.Test.YtbebidbjcjoedaaMkR
import Derived.Test.YtbebidbjcjoedaaFlip
namespace Go.Proofs.Ytbebidbjcjoedaa
open Go.RowKit Go.Sort
set_option linter.unusedVariables false
set_option linter.unusedSimpArgs false
set_option maxRecDepth 100000
namespace Htc
open Ht Lgc Rw
theorem packet_len (n k : Nat) (hn : n < 18446744073709551616) (hk : k < 18446744073709551616) : 1 ≤ (packet n k).length ∧ (packet n k).length ≤ 60 := by
  have h1 := Uv.put_len n hn
  have h2 := Uv.put_len k hk
  have h3 := Uv.put_len (72 :: Uv.put k).length (by rw [List.length_cons]; omega)
  unfold packet
  rw [Lg.packed_eq]
  unfold Lg.packS
  simp only [List.length_append, List.length_cons, Lg.be8_len] at h3 ⊢
  omega
theorem parse_set (n k : Nat) (hk : k < 18446744073709551616) (j : Nat) (hj : j < (packet n k).length) (c : UInt8) (hc : (packet n k)[j] ≠ c) : parse ((packet n k).set j c) = (0, 0, false) := by
  apply parse_no
  have h2 := Uv.put_len k hk
  exact Lg.packed_set n (72 :: Uv.put k) j hj c hc (by rw [List.length_cons]; omega)
set_option maxHeartbeats 2000000 in
theorem packets (a1 a2 a3 : Int) (w1 : (Lit.int .u64 a1).wf = true) (w2 : (Lit.int .u64 a2).wf = true) (w3 : (Lit.int .i64 a3).wf = true) (W : World) :
    Calls Try.prog 6 #[.int .u64 a1, .int .u64 a2, .int .i64 a3] W fun e w' => e = .returned (.bool true) ∧ Below W.heap.size W w' := by
  have b1 := bd_u64 w1
  have b2 := bd_u64 w2
  have b3 := bd_i64 w3
  clear w1 w2 w3
  obtain ⟨n, rfl⟩ := Int.eq_ofNat_of_zero_le b1.1
  obtain ⟨k, rfl⟩ := Int.eq_ofNat_of_zero_le b2.1
  have hpl := packet_len n k (by omega) (by omega)
  have c1 : Hid (∀ w, Calls Try.prog 20 #[.int .u64 n, .int .u64 k] w fun e w' => e = .returned (.string ⟨(packet n k).toArray⟩) ∧ Held w w') := fun w => packet_any n k (by omega) (by omega) w
  have c2 : Hid (∀ w, Calls Try.prog 12 #[.string ⟨(packet n k).toArray⟩] w fun e w' => e = .returned (.tuple #[.int .u64 n, .int .u64 k, .bool true]) ∧ Held w w') := fun w => by
    have := parse_any ⟨(packet n k).toArray⟩ (by rw [ba_size]; omega) w
    rw [show (⟨(packet n k).toArray⟩ : ByteArray).data.toList = packet n k by simp, parse_packet n k (by omega) (by omega)] at this
    exact this
  have c3 : Hid (∀ j (hj : j < (packet n k).length) (c : UInt8), (packet n k)[j] ≠ c → ∀ w, Calls Try.prog 12 #[.string ⟨((packet n k).set j c).toArray⟩] w fun e w' => e = .returned (.tuple #[.int .u64 (0 : Nat), .int .u64 (0 : Nat), .bool false]) ∧ Held w w') := fun j hj c hc w => by
    have := parse_any ⟨((packet n k).set j c).toArray⟩ (by rw [ba_size, List.length_set]; omega) w
    rw [show (⟨((packet n k).set j c).toArray⟩ : ByteArray).data.toList = (packet n k).set j c by simp, parse_set n k (by omega) j hj c hc] at this
    exact this
  generalize packet n k = pk at hpl c1 c2 c3
  obtain ⟨p, hp⟩ : ∃ p : ByteArray, (⟨pk.toArray⟩ : ByteArray) = p := ⟨_, rfl⟩
  have hpt : p.data.toList = pk := by rw [← hp]
  have hps : p.size = pk.length := by rw [← len_eq, hpt]
  rw [hp] at c1 c2
  have s1 : (1 : Int) ≤ (p.size : Int) := by omega
  have s2 : (p.size : Int) ≤ 60 := by omega
  have s3 : ((p.size : Int) == 0) = false := beq_eq_false_iff_ne.2 (by omega)
  obtain ⟨at', hat⟩ : ∃ m : Nat, Mk.round a3 (8 * (p.size : Int)) = m := ⟨(Mk.round a3 (8 * (p.size : Int))).toNat, by have := Mk.round_bd a3 (8 * (p.size : Int)) (by omega); omega⟩
  have hab : at' < 8 * p.size := by have := Mk.round_bd a3 (8 * (p.size : Int)) (by omega); omega
  have HAT := Lib.hid hat
  obtain ⟨j, hj⟩ : ∃ j, at' / 8 = j := ⟨_, rfl⟩
  have hjp : j < p.size := by omega
  have hr8 : at' % 8 < 8 := Nat.mod_lt _ (by omega)
  obtain ⟨r, hr⟩ : ∃ r, at' % 8 = r := ⟨_, rfl⟩
  rw [hr] at hr8
  have hne := Flip.turn_ne p[j] r hr8
  have hb := Flip.turn_bits p[j] r hr8
  have c4 := Lib.hid (c3.out j (by omega) (Flip.turn p[j] r) (by
    have : pk[j]'(by omega) = p[j] := by subst hpt; rfl
    rw [this]; exact hne))
  obtain ⟨c, hc⟩ : ∃ c, Flip.turn p[j] r = c := ⟨_, rfl⟩
  rw [hc] at hb c4
  rw [← hpt] at c4
  have i1 : (at' : Int) / 8 = (j : Int) := by omega
  have i2 : (at' : Int) % 8 = (r : Int) := by omega
  have i3 : (at' : Int) ≤ 480 := by omega
  have i4 : (0 : Int) ≤ (at' : Int) := by omega
  have i5 : (j : Int) < (p.size : Int) := by omega
  have hbq : (p[j].toNat : Int) ≤ 255 := by have := p[j].toNat_lt; omega
  have HFL := Lib.hid (fun w => Flip.facts p w j hjp c)
  clear c3 hp hpt hps hat hr hne hc hpl
  have I1 := Lib.hid i1
  have I2 := Lib.hid i2
  have HJ := Lib.hid hj
  clear i1 i2 hj
  go_enter Try.func6, Try.ntmps6
  go_wp2_with fail
  refine (c1.out _).mono ?_
  rintro e w1 ⟨rfl, h1⟩
  go_wp2_with fail
  refine (c2.out _).mono ?_
  rintro e w2 ⟨rfl, h2⟩
  have H2 := Lib.hid (h1.step h2)
  clear h1 h2
  obtain ⟨C, cap, hconv, hfz, hcl, hback⟩ := HFL.out w2
  have HBK := Lib.hid hback
  clear hback
  have W5 : Hid (Held W ((w2.alloc (.cells C 5 (C.size, C.size + 1))).setCell ⟨w2.heap.size, j, none⟩ (.int .u8 c.toNat))) := (H2.out.alloc _).set H2.out.le _
  have hbk : (convert 40 9 (.slice (some ⟨w2.heap.size, 0, none⟩) p.size cap)).run Try.prog ((w2.alloc (.cells C 5 (C.size, C.size + 1))).setCell ⟨w2.heap.size, j, none⟩ (.int .u8 c.toNat)).drew =
      .ok (.string ⟨(p.data.toList.set j c).toArray⟩) ((w2.alloc (.cells C 5 (C.size, C.size + 1))).setCell ⟨w2.heap.size, j, none⟩ (.int .u8 c.toNat)).drew := HBK.out 1
  obtain rfl | rfl | rfl | rfl | rfl | rfl | rfl | rfl : r = 0 ∨ r = 1 ∨ r = 2 ∨ r = 3 ∨ r = 4 ∨ r = 5 ∨ r = 6 ∨ r = 7 := by omega
  all_goals
    simp only [Nat.reducePow, Int.cast_ofNat_Int, Int.natCast_one] at hb
    go_wp2_with (first | (go_at_call 22; refine (Mk.round_any _ _ (by omega) (by omega) (by omega) (by omega) _).mono ?_; rintro e w3 ⟨rfl, rfl⟩; rw [HAT.out]; have i1 := I1.out; have i2 := I2.out; have hj := HJ.out) | (go_at_call 12; refine (c4.out _).mono ?_; rintro e w6 ⟨rfl, h6⟩) | (go_at_call 7; refine (awake_any _).mono ?_; rintro e w7 ⟨rfl, h7⟩))
    go_ret
    exact ⟨rfl, (W5.out.drew.step h6).step h7⟩
end Htc
end Go.Proofs.Ytbebidbjcjoedaa
