/-
  Contracts: Data of vmfleetmake, Page and Blocks of vmfleetplan: what they return, exactly.
-/
import Derived.Test.YtncgihbnfmpdbaaMem6
import Derived.Test.YtncgihbnfmpdbaaMkD
import Derived.Outline
set_option linter.unusedVariables false
set_option linter.unusedSimpArgs false
set_option maxRecDepth 100000
namespace Go.Proofs.Ytncgihbnfmpdbaa
open Go.RowKit By
namespace Pl
def dByte (n : Int) (j : Nat) : UInt8 := UInt8.ofNat (Mk.mix n ((j : Int) / 9) % 256)
def dataL (n : Int) (k : Nat) : List UInt8 := (List.range k).map (dByte n)
def dataV (n : Int) (k : Nat) : ByteArray := ⟨(dataL n k).toArray⟩
theorem dataL_next (n : Int) (k : Nat) : dataL n (k + 1) = dataL n k ++ [dByte n k] := by unfold dataL; rw [List.range_succ, List.map_append]; rfl
theorem dataL_len (n : Int) (k : Nat) : (dataL n k).length = k := by unfold dataL; simp
theorem size_of (l : List UInt8) : (⟨l.toArray⟩ : ByteArray).size = l.length := by simp [ByteArray.size]
theorem dataV_size (n : Int) (k : Nat) : (dataV n k).size = k := by unfold dataV; rw [size_of, dataL_len]
theorem data_ex (n : Int) (k : Nat) (w : World) (hk : (k : Int) ≤ 100000) :
    Calls Try.prog 23 #[.int .i64 n, .int .i64 k] w fun e w' => e = .returned (.string (dataV n k)) ∧ Held w w' := by
  go_enter Try.func23, Try.ntmps23
  go_wp2
  go_loopw [5, 6] (fun o i wr => ∃ (l : List UInt8) (j : Nat), i = .int .i64 j ∧ j ≤ k ∧ l = dataL n j ∧ l.length = j ∧ wr.ownsRow w.heap.size 5 1 o l.length (by8 l) ∧ Held w wr) (fun _ i _ => k - (intOf i).toNat)
  case atStart => exact ⟨[], 0, rfl, Nat.zero_le _, rfl, rfl, World.ownsRow_nil _ _ _ _, Held.refl _⟩
  case round =>
    obtain ⟨l, j, rfl, hj, hd, hl, hown, hh⟩ := hrel
    have HH := Lib.hid (And.intro hown hh)
    have hle := hh.le
    have HL := Lib.hid (And.intro hl hd)
    have hl2 : l.length ≤ 100000 := by omega
    clear hh hl hd
    by_cases hlt : (j : Int) < k
    · go_wp2_with (first | (go_at_call 24; refine (Mk.mix_any _ _ _).mono ?_; rintro e w' ⟨rfl, rfl⟩) | (at_builtin; refine app_u8M _ rfl _ _ rfl w.heap.size _ l [dByte n j] ⟨wr.heap.size, 0, none⟩ 1 1 rfl (hown.alloc _) rfl rfl (one_cell _ _ _ (Mk.mod8 _) _) (by omega) (by simp; omega) ?_; intro o4 w4 hown4 hg4 hm4))
      go_roundw
      case rel => exact ⟨l ++ [dByte n j], j + 1, by go_num, by omega, by rw [dataL_next, ← HL.out.2], by rw [List.length_append, HL.out.1]; rfl, hown4, Mk.grown_held HH.out.2 HH.out.1 hg4⟩
      case measure => (simp [intOf]) <;> omega
    · have hcv := conv_own hown
      obtain rfl : j = k := by omega
      go_wp2
      go_ret
      exact ⟨by unfold dataV; rw [← HL.out.2]; rfl, HH.out.2⟩
def b8C (c : UInt8) : List Value := [.int .u8 c.toNat]
theorem b8C_len (x : UInt8) : (b8C x).length = 1 := rfl
theorem b8C_one (x : UInt8) : ∀ u ∈ b8C x, u.oneCell' = true := by
  intro u hu
  simp only [b8C, List.mem_singleton] at hu
  subst hu; rfl
theorem by_row {w : World} {base : Nat} {v : Value} {l : List UInt8} (h : Own 5 1 b8C base w v l) : w.ownsRow base 5 1 v l.length (by8 l) := by
  unfold Own at h
  have e : by8 l = l.flatMap b8C := List.map_eq_flatMap
  rw [e]; exact h
def pByte (r : Int) (j : Nat) : UInt8 := UInt8.ofNat (r * (1 + (j : Int) / 64)).toNat
def pageTo (r : Int) (k : Nat) : List UInt8 := (List.range k).map (pByte r) ++ List.replicate (128 - k) 0
theorem pageTo_len (r : Int) {k : Nat} (hk : k ≤ 128) : (pageTo r k).length = 128 := by unfold pageTo; simp; omega
theorem pageTo_next (r : Int) {k : Nat} (hk : k < 128) : (pageTo r k).set k (pByte r k) = pageTo r (k + 1) := by
  unfold pageTo
  rw [List.range_succ, List.map_append, List.set_append_right _ _ (by simp), show 128 - k = (128 - (k + 1)) + 1 by omega, List.replicate_succ]
  simp
def pageL (n : Int) : List UInt8 := if Mk.round n 7 = 0 then List.replicate 128 0 else if 5 ≤ Mk.round n 7 then dataL n 128 else pageTo (Mk.round n 7) 128
def pageV (n : Int) : ByteArray := ⟨(pageL n).toArray⟩
theorem pageV_size (n : Int) : (pageV n).size = 128 := by
  unfold pageV
  rw [size_of]
  unfold pageL
  split
  · simp
  · split
    · exact dataL_len _ _
    · exact pageTo_len _ (by decide)
set_option maxHeartbeats 4000000 in
theorem page_ex (n : Int) (w : World) (hn : -9223372036854775808 ≤ n ∧ n ≤ 9223372036854775807) : Calls Try.prog 13 #[.int .i64 n] w fun e w' => e = .returned (.string (pageV n)) ∧ Held w w' := by
  have HR := Lib.hid (fun w => Mk.round_any n 7 hn.1 hn.2 (by decide) (by decide) w)
  have hb := Mk.round_bd n 7 (by decide)
  have hpv : pageV n = ⟨(if Mk.round n 7 = 0 then List.replicate 128 0 else if 5 ≤ Mk.round n 7 then dataL n 128 else pageTo (Mk.round n 7) 128).toArray⟩ := rfl
  obtain ⟨r, hr⟩ : ∃ r, Mk.round n 7 = r := ⟨_, rfl⟩
  rw [hr] at HR hb hpv
  have HPV := Lib.hid hpv
  clear hr hpv
  by_cases h0 : r = 0
  · subst h0
    have HPV : Hid (pageV n = ⟨(List.replicate 128 (0 : UInt8)).toArray⟩) := HPV
    have M00 := Lib.hid (fun (w' : World) (v : Value) (h : Mem w w' [.row 5 1 b8C w.heap.size v (List.replicate 128 0)]) => conv_own (by_row (h.row 0 rfl)))
    go_enter Try.func13, Try.ntmps13
    go_wp2_with (first | (go_at_call 12; refine (HR.out _).mono ?_; rintro e w' ⟨rfl, rfl⟩; clear HR) | (at_make; refine Mem.wp_make (Mem.start w) rfl _ _ 44 rfl (.int .u8 0) 1 Try.underlying44 Tryby_u8 (f := b8C) 0 (by decide) b8C_len rfl .i64 .i64 _ _ 128 rfl rfl rfl rfl (by omega) (by unfold maxLen; omega) ?_; intro w1 M1 h1; have M0 := Lib.hid M1; have hcv := M00.out _ _ M1; clear M1 h1))
    go_ret
    exact ⟨by rw [HPV.out]; rfl, M0.out.held⟩
  · have h0b : (r == 0) = false := by simp [h0]
    by_cases h5 : 5 ≤ r
    · have HP2 : Hid (pageV n = dataV n 128) := show _ = _ by rw [HPV.out, if_neg h0, if_pos h5]; rfl
      have HDA := Lib.hid (fun w => data_ex n 128 w (by decide))
      clear h0 HPV
      go_enter Try.func13, Try.ntmps13
      go_wp2_with (first | (go_at_call 12; refine (HR.out _).mono ?_; rintro e w' ⟨rfl, rfl⟩; clear HR) | (at_make; refine Mem.wp_make (Mem.start w) rfl _ _ 44 rfl (.int .u8 0) 1 Try.underlying44 Tryby_u8 (f := b8C) 0 (by decide) b8C_len rfl .i64 .i64 _ _ 128 rfl rfl rfl rfl (by omega) (by unfold maxLen; omega) ?_; intro w1 M1 h1; have M0 := Lib.hid M1; clear M1 h1) | (go_at_call 23; refine (HDA.out _).mono ?_; rintro e w' ⟨rfl, h2⟩; have HE := Lib.hid h2; clear h2))
      go_ret
      exact ⟨by rw [HP2.out]; rfl, M0.out.held.step HE.out⟩
    · have HP2 : Hid (pageV n = ⟨(pageTo r 128).toArray⟩) := show _ = _ by rw [HPV.out, if_neg h0, if_neg h5]
      clear h0 HPV
      go_enter Try.func13, Try.ntmps13
      go_wp2_with (first | (go_at_call 12; refine (HR.out _).mono ?_; rintro e w' ⟨rfl, rfl⟩; clear HR) | (at_make; refine Mem.wp_make (Mem.start w) rfl _ _ 44 rfl (.int .u8 0) 1 Try.underlying44 Tryby_u8 (f := b8C) 0 (by decide) b8C_len rfl .i64 .i64 _ _ 128 rfl rfl rfl rfl (by omega) (by unfold maxLen; omega) ?_; intro w1 M1 h1; have M0 := Lib.hid M1; clear M1 h1))
      go_loopw [5] (fun i wr => ∃ (k : Nat) (l : List UInt8), i = .int .i64 k ∧ k ≤ 128 ∧ l = pageTo r k ∧ Mem w wr [.row 5 1 b8C w.heap.size (.slice (some ⟨w.heap.size, 0, none⟩) 128 128) l]) (fun i _ => 128 - (intOf i).toNat)
      case atStart => exact ⟨0, _, rfl, by decide, rfl, M0.out⟩
      case round =>
        obtain ⟨k, l, rfl, hk, hl, M⟩ := hrel
        have M1 := Lib.hid M
        have HL := Lib.hid hl
        have hll := pageTo_len r hk
        rw [← hl] at hll
        clear M M0
        by_cases hlt : (k : Int) < 128
        · obtain ⟨g, c, hg, _, hg2, hc, hsl⟩ := M1.out.slot 0 rfl b8C_len (by decide) (k := k) (by rw [hll]; omega)
          injection hg with hg
          injection hg with hg
          subst hg
          obtain ⟨hfz, hcv⟩ := hsl 0 (by decide)
          have v0 := hcv _ rfl
          rw [Nat.add_zero, Nat.mul_one] at hfz v0
          have HC := Lib.hid hc
          clear hsl hcv hl hc
          have hm1 : 0 ≤ r * (1 + (k : Int) / 64) := Int.mul_nonneg hb.1 (by omega)
          have hm2 : r * (1 + (k : Int) / 64) ≤ 7 * (1 + (k : Int) / 64) := Int.mul_le_mul_of_nonneg_right (by omega) (by omega)
          go_wp2
          have hy : r * (1 + (k : Int) / 64) = ((pByte r k).toNat : Int) := by unfold pByte; rw [UInt8.toNat_ofNat']; omega
          have M2 := Lib.hid (M1.out.putAt 0 rfl b8C_len HC.out (j := 0) (by decide) (.int .u8 (r * (1 + (k : Int) / 64))) (pByte r k) (by rw [hy]; rfl))
          rw [Nat.add_zero, Nat.mul_one] at M2
          clear hy
          go_roundw
          case rel => exact ⟨k + 1, _, by go_num, by omega, by rw [HL.out]; exact pageTo_next r (by omega), M2.out⟩
          case measure => (simp [intOf]) <;> omega
        · obtain rfl : k = 128 := by omega
          have hcv := conv_own (by_row (M1.out.row 0 rfl))
          go_wp2
          go_ret
          exact ⟨by rw [HP2.out]; rfl, M1.out.held⟩
end Pl
end Go.Proofs.Ytncgihbnfmpdbaa
