/-
  Contracts: sealed segments: Open of eventlog and of its reference.
-/
import Derived.Test.YtdacgdokbfcgdaaLgD
import Derived.BigQuiet
set_option linter.unusedVariables false
set_option maxRecDepth 100000
namespace Go.Proofs.Ytdacgdokbfcgdaa
open Go.RowKit Go.Sort
namespace Lgc
open Lg Strs
def OpensTo (r : Nat × List UInt8 × Int) (w : World) (e : Ending) (w' : World) : Prop := e = .returned (.tuple #[.int .u64 r.1, .string ⟨r.2.1.toArray⟩, .int .i64 r.2.2]) ∧ Held w w'
theorem opens_form {l : List UInt8} (h : ((opR l).2.2 || decide ((opR l).2.1.length ≠ 8)) = true) : opens l = (0, [], 1900) := by unfold opens; rw [if_pos h]
theorem opens_sum {l : List UInt8} (h : ¬ ((opR l).2.2 || decide ((opR l).2.1.length ≠ 8)) = true) (h2 : be8 (Hs.hash HS (l.take (l.length - 8))) ≠ (opR l).2.1) : opens l = (0, [], 1903) := by unfold opens; rw [if_neg h, if_pos h2]
theorem opens_yes {l : List UInt8} (h : ¬ ((opR l).2.2 || decide ((opR l).2.1.length ≠ 8)) = true) (h2 : ¬ be8 (Hs.hash HS (l.take (l.length - 8))) ≠ (opR l).2.1) : opens l = ((numR l false).1, (opR l).1, 0) := by unfold opens; rw [if_neg h, if_neg h2]
theorem bytesR_drop {n : Nat} {l : List UInt8} {b : Bool} (h : (bytesR n l b).2.2 = false) : (bytesR n l b).2.1.length ≤ l.length := (bytesR_len n l b).2
theorem opR_len (l : List UInt8) : (opR l).2.1.length ≤ l.length := by
  unfold opR dataR
  exact Nat.le_trans (bytesR_len _ _ _).2 (Nat.le_trans (numR_len _ _) (numR_len _ _))
theorem ret_op {n : Int} {s : ByteArray} {l : List UInt8} {e : Int} (h : s.data.toList = l) : Ending.returned (.tuple #[.int .u64 n, .string s, .int .i64 e]) = .returned (.tuple #[.int .u64 n, .string ⟨l.toArray⟩, .int .i64 e]) := by rw [str_mk h]
set_option maxHeartbeats 1000000 in
theorem open_any (s : ByteArray) (hs : (s.size : Int) ≤ 1000000000000) (w : World) : Calls Try.prog 11 #[.string s] w (OpensTo (opens s.data.toList) w) := by
  have hle := opR_len s.data.toList
  have hle1 := numR_len s.data.toList false
  rw [len_eq] at hle hle1
  have HF := Lib.hid (@opens_form s.data.toList)
  have HS1 := Lib.hid (@opens_sum s.data.toList)
  have HY := Lib.hid (@opens_yes s.data.toList)
  have HLS := Lib.hid (len_eq s)
  have hnum := Lib.hid (number_any w.heap.size s false (by omega) (w.alloc (.cells #[.string s, .bool false] 49)) (box_new _ _))
  have hop : opR s.data.toList = dataR (numR s.data.toList false).2.1 (numR s.data.toList false).2.2 := rfl
  obtain ⟨⟨n, l1, b1⟩, hN⟩ : ∃ x, numR s.data.toList false = x := ⟨_, rfl⟩
  obtain ⟨⟨d, l2, b2⟩, hO⟩ : ∃ x, opR s.data.toList = x := ⟨_, rfl⟩
  rw [hN] at hop hnum HY hle1
  rw [hO] at hop HF HS1 HY hle
  simp only at hop hnum HF HS1 HY hle hle1
  have HOP := Lib.hid hop
  clear hop hN hO
  go_enter Try.func11, Try.ntmps11
  go_wp2_with fail
  refine hnum.out.mono ?_
  rintro e w1 ⟨rfl, s1, hs1, hb1, hg1⟩
  have hz1 : s1.size ≤ 9223372036854775807 := by rw [← len_eq, hs1]; omega
  have hdat := Lib.hid (data_any w.heap.size s1 b1 hz1 w1 hb1)
  rw [hs1, ← HOP.out] at hdat
  have HW1 : Hid (Held w w1) := held_of ((Held.refl w).alloc _) hg1 (Nat.le_refl _)
  clear hs1 hb1 hg1 hnum
  go_wp2_with fail
  refine hdat.out.mono ?_
  rintro e w2 ⟨t, rfl, ht, s2, hs2, hb2, hg2⟩
  have HW2 : Hid (Held w w2) := held_of HW1.out hg2 (Nat.le_refl _)
  have hz2 : (s2.size : Int) ≤ 1000000000000 := by rw [← len_eq, hs2]; omega
  have hz3 : s2.size ≤ s.size := by rw [← len_eq, hs2]; exact hle
  have c0 : w2.cell? ⟨w.heap.size, 0, none⟩ = some (.string s2) := box_cell hb2 0 rfl
  have c1 : w2.cell? ⟨w.heap.size, 1, none⟩ = some (.bool b2) := box_cell hb2 1 rfl
  have lt := box_lt hb2
  have HT := Lib.hid ht
  have HS2 := Lib.hid hs2
  have hl2 : l2.length = s2.size := by rw [← HS2.out, len_eq]
  have HL2 := Lib.hid hl2
  clear ht hs2 hb2 hg2 hdat hl2 hle hle1
  cases b2
  · by_cases h8 : s2.size = 8
    · have h8' : ((s2.size : Int) != 8) = false := by simp [h8]
      have hz4 : (8 : Int) ≤ (s.size : Int) := by omega
      have hsub : (s.extract 0 (s.size - 8)).data.toList = s.data.toList.take (s.data.toList.length - 8) := by rw [ext_take, len_eq]
      have HSB := Lib.hid hsub
      have H8 := Lib.hid h8
      have k0 := cell_regrown c0
      have HN8 : Hid (¬ (false || decide (l2.length ≠ 8)) = true) := by
        show ¬ _
        have := HL2.out
        rw [this, h8]; simp
      clear hsub h8
      have cA := Lib.hid fun dd os => Calls.regrown_of (d := dd) (os := os) (sum_any (s.extract 0 (s.size - 8)) (by rw [ByteArray.size_extract]; omega) (grow (redrawn w2 dd) os))
      rw [HSB.out] at cA
      have i1 : (0 : Int) ≤ (s.size : Int) - 8 := by omega
      have i2 : IntKind.i64.wrap ((s.size : Int) - 8) = (s.size : Int) - 8 := IntWalk.i64_in _ (by omega)
      have i3 : ((s.size : Int) - 8).toNat = s.size - 8 := by omega
      have htl : s2.toList = l2 := by rw [ByteArray.toList_eq]; exact HS2.out
      generalize be8 (Hs.hash HS (s.data.toList.take (s.data.toList.length - 8))) = q at *
      by_cases hq : q = l2
      · have hne2 : (q == s2.toList) = true := by rw [htl]; simp [hq]
        have H := Lib.hid (HY.out HN8.out (by simp [hq]))
        clear htl hq
        go_wp2
        refine wp_region_quiet_below (by kernel_rfl) (by kernel_rfl) ?_
        repeat (go_big_quiet_step (first | (go_at_call 19; exact cA.out _ _)))
        refine wpQuiet_nil ?_
        intro _ hw'
        obtain ⟨⟨dq, osq⟩, hw''⟩ := hw'
        subst hw''
        go_wp2
        go_ret3
        exact ⟨by rw [H.out]; exact ret_op HT.out, HW2.out.step (below_regrown w2 dq osq)⟩
      · have hne2 : (q == s2.toList) = false := by rw [htl]; simp [hq]
        have H := Lib.hid (HS1.out HN8.out hq)
        clear htl hq
        go_wp2
        refine wp_region_quiet_below (by kernel_rfl) (by kernel_rfl) ?_
        repeat (go_big_quiet_step (first | (go_at_call 19; exact cA.out _ _)))
        refine wpQuiet_nil ?_
        intro _ hw'
        obtain ⟨⟨dq, osq⟩, hw''⟩ := hw'
        subst hw''
        go_wp2
        go_ret3
        exact ⟨by rw [H.out]; rfl, HW2.out.step (below_regrown w2 dq osq)⟩
    · have h8' : ((s2.size : Int) != 8) = true := by simp; omega
      have H := Lib.hid (HF.out (by rw [HL2.out]; simp [h8]))
      clear h8
      go_wp2
      go_ret3
      exact ⟨by rw [H.out]; rfl, HW2.out⟩
  · have H := Lib.hid (HF.out rfl)
    go_wp2
    go_ret3
    exact ⟨by rw [H.out]; rfl, HW2.out⟩
set_option maxHeartbeats 1000000 in
theorem open_ref_any (s : ByteArray) (hs : (s.size : Int) ≤ 1000000000000) (w : World) : Calls Try.prog 14 #[.string s] w (OpensTo (opens s.data.toList) w) := by
  have hle := opR_len s.data.toList
  have hle1 := numR_len s.data.toList false
  rw [len_eq] at hle hle1
  have HF := Lib.hid (@opens_form s.data.toList)
  have HS1 := Lib.hid (@opens_sum s.data.toList)
  have HY := Lib.hid (@opens_yes s.data.toList)
  have HLS := Lib.hid (len_eq s)
  have hnum := Lib.hid (number_ref_any w.heap.size s false (by omega) (w.alloc (.cells #[.string s, .bool false] 55)) (box_new _ _))
  have hop : opR s.data.toList = dataR (numR s.data.toList false).2.1 (numR s.data.toList false).2.2 := rfl
  obtain ⟨⟨n, l1, b1⟩, hN⟩ : ∃ x, numR s.data.toList false = x := ⟨_, rfl⟩
  obtain ⟨⟨d, l2, b2⟩, hO⟩ : ∃ x, opR s.data.toList = x := ⟨_, rfl⟩
  rw [hN] at hop hnum HY hle1
  rw [hO] at hop HF HS1 HY hle
  simp only at hop hnum HF HS1 HY hle hle1
  have HOP := Lib.hid hop
  clear hop hN hO
  go_enter Try.func14, Try.ntmps14
  go_wp2_with fail
  refine hnum.out.mono ?_
  rintro e w1 ⟨rfl, s1, hs1, hb1, hg1⟩
  have hz1 : s1.size ≤ 9223372036854775807 := by rw [← len_eq, hs1]; omega
  have hnum2 := Lib.hid (number_ref_any w.heap.size s1 b1 hz1 w1 hb1)
  rw [hs1] at hnum2
  have hle2 := numR_len l1 b1
  have hlt2 := numR_lt l1 b1
  have HW1 : Hid (Held w w1) := held_of ((Held.refl w).alloc _) hg1 (Nat.le_refl _)
  clear hs1 hb1 hg1 hnum
  have hop := HOP.out
  unfold dataR at hop
  obtain ⟨⟨m, l3, b3⟩, hN2⟩ : ∃ x, numR l1 b1 = x := ⟨_, rfl⟩
  rw [hN2] at hop hnum2 hle2 hlt2
  simp only at hop hnum2 hle2 hlt2
  have HOP2 := Lib.hid hop
  clear hop hN2
  go_wp2_with fail
  refine hnum2.out.mono ?_
  rintro e w1' ⟨rfl, s3, hs3, hb3, hg3⟩
  have hz1' : s3.size ≤ 9223372036854775807 := by rw [← len_eq, hs3]; omega
  have hdat := Lib.hid (bytes_ref_any w.heap.size s3 b3 (m : Int) (by omega) (by omega) hz1' w1' hb3)
  rw [Int.toNat_natCast, hs3, ← HOP2.out] at hdat
  have HW1' : Hid (Held w w1') := held_of HW1.out hg3 (Nat.le_refl _)
  clear hs3 hb3 hg3 hnum2
  go_wp2_with fail
  refine hdat.out.mono ?_
  rintro e w2 ⟨t, rfl, ht, s2, hs2, hb2, hg2⟩
  have HW2 : Hid (Held w w2) := held_of HW1'.out hg2 (Nat.le_refl _)
  have hz2 : (s2.size : Int) ≤ 1000000000000 := by rw [← len_eq, hs2]; omega
  have hz3 : s2.size ≤ s.size := by rw [← len_eq, hs2]; exact hle
  have c0 : w2.cell? ⟨w.heap.size, 0, none⟩ = some (.string s2) := box_cell hb2 0 rfl
  have c1 : w2.cell? ⟨w.heap.size, 1, none⟩ = some (.bool b2) := box_cell hb2 1 rfl
  have lt := box_lt hb2
  have HT := Lib.hid ht
  have HS2 := Lib.hid hs2
  have hl2 : l2.length = s2.size := by rw [← HS2.out, len_eq]
  have HL2 := Lib.hid hl2
  clear ht hs2 hb2 hg2 hdat hl2 hle hle1
  cases b2
  · by_cases h8 : s2.size = 8
    · have h8' : ((s2.size : Int) != 8) = false := by simp [h8]
      have hz4 : (8 : Int) ≤ (s.size : Int) := by omega
      have hsub : (s.extract 0 (s.size - 8)).data.toList = s.data.toList.take (s.data.toList.length - 8) := by rw [ext_take, len_eq]
      have HSB := Lib.hid hsub
      have H8 := Lib.hid h8
      have k0 := cell_regrown c0
      have HN8 : Hid (¬ (false || decide (l2.length ≠ 8)) = true) := by
        show ¬ _
        have := HL2.out
        rw [this, h8]; simp
      clear hsub h8
      have hlt := Hs.hash_lt HS (s.data.toList.take (s.data.toList.length - 8)) (by decide)
      have cA := Lib.hid fun dd os => Calls.regrown_of (d := dd) (os := os) ((hash_ref_any HS (s.extract 0 (s.size - 8)) (by decide) (by rw [ByteArray.size_extract]; omega) (grow (redrawn w2 dd) os)).mono fun e w' ⟨he, hw⟩ => ⟨he, hw ▸ Below.refl _ _⟩)
      rw [HSB.out] at cA
      have cB := Lib.hid fun dd os => Calls.regrown_of (d := dd) (os := os) (eight_any (Hs.hash HS (s.data.toList.take (s.data.toList.length - 8))) (by omega) (grow (redrawn w2 dd) os))
      clear hlt
      have i1 : (0 : Int) ≤ (s.size : Int) - 8 := by omega
      have i2 : IntKind.i64.wrap ((s.size : Int) - 8) = (s.size : Int) - 8 := IntWalk.i64_in _ (by omega)
      have i3 : ((s.size : Int) - 8).toNat = s.size - 8 := by omega
      have htl : s2.toList = l2 := by rw [ByteArray.toList_eq]; exact HS2.out
      generalize be8 (Hs.hash HS (s.data.toList.take (s.data.toList.length - 8))) = q at *
      generalize Hs.hash HS (s.data.toList.take (s.data.toList.length - 8)) = hh at cA cB
      by_cases hq : q = l2
      · have hne2 : (q == s2.toList) = true := by rw [htl]; simp [hq]
        have H := Lib.hid (HY.out HN8.out (by simp [hq]))
        clear htl hq
        go_wp2
        refine wp_region_quiet_below (by kernel_rfl) (by kernel_rfl) ?_
        repeat (go_big_quiet_step (first | (go_at_call 24; exact cA.out _ _) | (go_at_call 23; exact cB.out _ _)))
        refine wpQuiet_nil ?_
        intro _ hw'
        obtain ⟨⟨dq, osq⟩, hw''⟩ := hw'
        subst hw''
        go_wp2
        go_ret3
        exact ⟨by rw [H.out]; exact ret_op HT.out, HW2.out.step (below_regrown w2 dq osq)⟩
      · have hne2 : (q == s2.toList) = false := by rw [htl]; simp [hq]
        have H := Lib.hid (HS1.out HN8.out hq)
        clear htl hq
        go_wp2
        refine wp_region_quiet_below (by kernel_rfl) (by kernel_rfl) ?_
        repeat (go_big_quiet_step (first | (go_at_call 24; exact cA.out _ _) | (go_at_call 23; exact cB.out _ _)))
        refine wpQuiet_nil ?_
        intro _ hw'
        obtain ⟨⟨dq, osq⟩, hw''⟩ := hw'
        subst hw''
        go_wp2
        go_ret3
        exact ⟨by rw [H.out]; rfl, HW2.out.step (below_regrown w2 dq osq)⟩
    · have h8' : ((s2.size : Int) != 8) = true := by simp; omega
      have H := Lib.hid (HF.out (by rw [HL2.out]; simp [h8]))
      clear h8
      go_wp2
      go_ret3
      exact ⟨by rw [H.out]; rfl, HW2.out⟩
  · have H := Lib.hid (HF.out rfl)
    go_wp2
    go_ret3
    exact ⟨by rw [H.out]; rfl, HW2.out⟩
end Lgc
end Go.Proofs.Ytdacgdokbfcgdaa
