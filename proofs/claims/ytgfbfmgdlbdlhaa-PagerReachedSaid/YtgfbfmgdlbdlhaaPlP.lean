/-
  Contracts: Page and Disperse of vmfleetplan: a string of 128 bytes; of zeros for number 0.
-/
import Derived.Test.YtgfbfmgdlbdlhaaMem
import Derived.Test.YtgfbfmgdlbdlhaaMkD
import Derived.Outline
set_option linter.unusedVariables false
set_option linter.unusedSimpArgs false
set_option maxRecDepth 100000
namespace Go.Proofs.Ytgfbfmgdlbdlhaa
open Go.RowKit By
namespace Plan
def b8C (c : UInt8) : List Value := [.int .u8 c.toNat]
theorem b8C_len (x : UInt8) : (b8C x).length = 1 := rfl
theorem b8C_one (x : UInt8) : ∀ u ∈ b8C x, u.oneCell' = true := by
  intro u hu
  simp only [b8C, List.mem_singleton] at hu
  subst hu; rfl
theorem by_row {w : World} {base : Nat} {v : Value} {l : List UInt8} (h : Own 5 1 b8C base w v l) : w.ownsRow base 5 1 v l.length (by8 l) := by
  unfold Own at h
  have e : by8 l = l.flatMap b8C := List.map_eq_flatMap
  rw [e]; exact h
theorem size_mk (l : List UInt8) : (⟨l.toArray⟩ : ByteArray).size = l.length := by simp [ByteArray.size]
theorem u8_ex (x : Int) : ∃ c : UInt8, x % 256 = (c.toNat : Int) := ⟨UInt8.ofNat (x % 256).toNat, by simp [UInt8.toNat_ofNat']; omega⟩
/-- Some string of 128 bytes. -/
def Made (w : World) (e : Ending) (w' : World) : Prop := ∃ d : ByteArray, d.size = 128 ∧ e = .returned (.string d) ∧ Held w w'
set_option maxHeartbeats 4000000 in
theorem disperse_any (n : Int) (w : World) : Calls Try.prog 13 #[.int .i64 n] w (Made w) := by
  go_enter Try.func13, Try.ntmps13
  go_wp2_with (at_make; refine Mem.wp_make (Mem.start w) rfl _ _ 53 rfl (.int .u8 0) 1 Try.underlying53 Tryby_u8 (f := b8C) 0 (by decide) b8C_len rfl .i64 .i64 _ _ 128 rfl rfl rfl rfl (by omega) (by unfold maxLen; omega) ?_; intro w1 M1 h1; have M0 := Lib.hid M1; clear M1 h1)
  go_loopw [4] (fun i wr => ∃ (k : Nat) (l : List UInt8), i = .int .i64 k ∧ k ≤ 128 ∧ l.length = 128 ∧ Mem w wr [.row 5 1 b8C w.heap.size (.slice (some ⟨w.heap.size, 0, none⟩) 128 128) l]) (fun i _ => 128 - (intOf i).toNat)
  case atStart => exact ⟨0, _, rfl, by decide, by simp, M0.out⟩
  case round =>
    obtain ⟨k, l, rfl, hk, hl, M⟩ := hrel
    have M1 := Lib.hid M
    have HL := Lib.hid hl
    clear M M0
    by_cases hlt : (k : Int) < 128
    · obtain ⟨g, c, hg, _, hg2, hc, hsl⟩ := M1.out.slot 0 rfl b8C_len (by decide) (k := k) (by rw [hl]; omega)
      injection hg with hg
      injection hg with hg
      subst hg
      obtain ⟨hfz, hcv⟩ := hsl 0 (by decide)
      have v0 := hcv _ rfl
      rw [Nat.add_zero, Nat.mul_one] at hfz v0
      have HC := Lib.hid hc
      clear hsl hcv hl hc
      obtain ⟨m, hm⟩ : ∃ m, Mk.mix n k = m := ⟨_, rfl⟩
      have HM := Lib.hid hm
      clear hm
      go_wp2_with (go_at_call 26; refine (Mk.mix_any _ _ _).mono ?_; rintro e w' ⟨rfl, rfl⟩; rw [HM.out])
      obtain ⟨y, hy⟩ := u8_ex ((m : Int) / 8)
      have M2 := Lib.hid (M1.out.putAt 0 rfl b8C_len HC.out (j := 0) (by decide) (.int .u8 ((m : Int) / 8 % 256)) y (by rw [hy]; rfl))
      rw [Nat.add_zero, Nat.mul_one] at M2
      clear hy
      go_roundw
      case rel => exact ⟨k + 1, _, by go_num, by omega, by rw [List.length_set]; exact HL.out, M2.out⟩
      case measure => (simp [intOf]) <;> omega
    · obtain rfl : k = 128 := by omega
      have hcv := conv_own (Plan.by_row (M1.out.row 0 rfl))
      go_wp2
      go_ret
      exact ⟨_, by rw [size_mk]; exact HL.out, rfl, M1.out.held⟩
/-- A string of 128 bytes; of zeros for multiples of 7. -/
def MadeP (n : Int) (w : World) (e : Ending) (w' : World) : Prop := ∃ d : ByteArray, d.size = 128 ∧ (n % 7 = 0 → d = ⟨(List.replicate 128 0).toArray⟩) ∧ e = .returned (.string d) ∧ Held w w'
set_option maxHeartbeats 4000000 in
theorem page_any (n : Int) (w : World) (hn : -9223372036854775808 ≤ n ∧ n ≤ 9223372036854775807) : Calls Try.prog 22 #[.int .i64 n] w (MadeP n w) := by
  have HR := Lib.hid (fun w => Mk.round_any n 7 hn.1 hn.2 (by decide) (by decide) w)
  have hb := Mk.round_bd n 7 (by decide)
  obtain ⟨r, hr⟩ : ∃ r, Mk.round n 7 = r := ⟨_, rfl⟩
  rw [hr] at HR hb
  have HRR := Lib.hid hr
  clear hr
  by_cases h0 : r = 0
  · subst h0
    have M00 := Lib.hid (fun (w' : World) (v : Value) (h : Mem w w' [.row 5 1 b8C w.heap.size v (List.replicate 128 0)]) => conv_own (Plan.by_row (h.row 0 rfl)))
    go_enter Try.func22, Try.ntmps22
    go_wp2_with (first | (go_at_call 19; refine (HR.out _).mono ?_; rintro e w' ⟨rfl, rfl⟩; clear HR) | (at_make; refine Mem.wp_make (Mem.start w) rfl _ _ 53 rfl (.int .u8 0) 1 Try.underlying53 Tryby_u8 (f := b8C) 0 (by decide) b8C_len rfl .i64 .i64 _ _ 128 rfl rfl rfl rfl (by omega) (by unfold maxLen; omega) ?_; intro w1 M1 h1; have M0 := Lib.hid M1; have hcv := M00.out _ _ M1; clear M1 h1))
    go_ret
    exact ⟨⟨(List.replicate 128 (0 : UInt8)).toArray⟩, by simp [ByteArray.size], fun _ => rfl, rfl, M0.out.held⟩
  · have h0b : (r == 0) = false := by simp [h0]
    have HNZ : Hid (n % 7 = 0 → False) := fun h => h0 (by rw [← HRR.out]; exact h)
    clear h0 HRR
    by_cases h5 : 5 ≤ r
    · have HDA := Lib.hid (fun w => Mk.data_any n 128 w (by decide))
      go_enter Try.func22, Try.ntmps22
      go_wp2_with (first | (go_at_call 19; refine (HR.out _).mono ?_; rintro e w' ⟨rfl, rfl⟩; clear HR) | (at_make; refine Mem.wp_make (Mem.start w) rfl _ _ 53 rfl (.int .u8 0) 1 Try.underlying53 Tryby_u8 (f := b8C) 0 (by decide) b8C_len rfl .i64 .i64 _ _ 128 rfl rfl rfl rfl (by omega) (by unfold maxLen; omega) ?_; intro w1 M1 h1; have M0 := Lib.hid M1; clear M1 h1) | (go_at_call 39; refine (HDA.out _).mono ?_; rintro e w' ⟨l, hl, rfl, h2⟩; have HE := Lib.hid (And.intro hl h2); clear hl h2))
      go_ret
      exact ⟨_, by rw [size_mk]; exact HE.out.1, fun h => absurd h HNZ.out, rfl, M0.out.held.step HE.out.2⟩
    · go_enter Try.func22, Try.ntmps22
      go_wp2_with (first | (go_at_call 19; refine (HR.out _).mono ?_; rintro e w' ⟨rfl, rfl⟩; clear HR) | (at_make; refine Mem.wp_make (Mem.start w) rfl _ _ 53 rfl (.int .u8 0) 1 Try.underlying53 Tryby_u8 (f := b8C) 0 (by decide) b8C_len rfl .i64 .i64 _ _ 128 rfl rfl rfl rfl (by omega) (by unfold maxLen; omega) ?_; intro w1 M1 h1; have M0 := Lib.hid M1; clear M1 h1))
      go_loopw [5] (fun i wr => ∃ (k : Nat) (l : List UInt8), i = .int .i64 k ∧ k ≤ 128 ∧ l.length = 128 ∧ Mem w wr [.row 5 1 b8C w.heap.size (.slice (some ⟨w.heap.size, 0, none⟩) 128 128) l]) (fun i _ => 128 - (intOf i).toNat)
      case atStart => exact ⟨0, _, rfl, by decide, by simp, M0.out⟩
      case round =>
        obtain ⟨k, l, rfl, hk, hl, M⟩ := hrel
        have M1 := Lib.hid M
        have HL := Lib.hid hl
        clear M M0
        by_cases hlt : (k : Int) < 128
        · obtain ⟨g, c, hg, _, hg2, hc, hsl⟩ := M1.out.slot 0 rfl b8C_len (by decide) (k := k) (by rw [hl]; omega)
          injection hg with hg
          injection hg with hg
          subst hg
          obtain ⟨hfz, hcv⟩ := hsl 0 (by decide)
          have v0 := hcv _ rfl
          rw [Nat.add_zero, Nat.mul_one] at hfz v0
          have HC := Lib.hid hc
          clear hsl hcv hl hc
          have hm1 : 0 ≤ r * (1 + (k : Int) / 64) := Int.mul_nonneg hb.1 (by omega)
          have hm2 : r * (1 + (k : Int) / 64) ≤ 7 * (1 + (k : Int) / 64) := Int.mul_le_mul_of_nonneg_right (by omega) (by omega)
          go_wp2
          obtain ⟨y, hy⟩ := u8_ex (r * (1 + (k : Int) / 64))
          rw [Int.emod_eq_of_lt hm1 (by omega)] at hy
          have M2 := Lib.hid (M1.out.putAt 0 rfl b8C_len HC.out (j := 0) (by decide) (.int .u8 (r * (1 + (k : Int) / 64))) y (by rw [hy]; rfl))
          rw [Nat.add_zero, Nat.mul_one] at M2
          clear hy
          go_roundw
          case rel => exact ⟨k + 1, _, by go_num, by omega, by rw [List.length_set]; exact HL.out, M2.out⟩
          case measure => (simp [intOf]) <;> omega
        · obtain rfl : k = 128 := by omega
          have hcv := conv_own (Plan.by_row (M1.out.row 0 rfl))
          go_wp2
          go_ret
          exact ⟨_, by rw [size_mk]; exact HL.out, fun h => absurd h HNZ.out, rfl, M1.out.held⟩
end Plan
end Go.Proofs.Ytgfbfmgdlbdlhaa
