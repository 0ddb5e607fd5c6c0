/-
  Contracts: sealed segments: Open of eventlog and of its reference.
  Contracts: reader.word, reader.event of the program (chapters 19, 24).
  Contracts: reader.event of the program (chapters 19, 24).
  Contracts: Decode of eventlog (chapters 19, 24).
  Contracts: beyond, encodeLog, encodes of the program (chapter 24).
  Contracts of slices.Clone at []api.Entry that the call itself made (printed by mkslc.py).
-/
import Derived.Test.YthpjbffhdaaibaaGreatZ2
import Derived.BigQuiet
import Derived.Test.YthpjbffhdaaibaaGreatZ3
import Derived.Test.YthpjbffhdaaibaaGreatZ8
import Derived.Deep.DeepCutAuto
import Derived.Outline
import Derived.Test.YthpjbffhdaaibaaGreatZ7
import Derived.Test.YthpjbffhdaaibaaGreatZ6
import Derived.Test.YthpjbffhdaaibaaGreatZ5
import Derived.Test.YthpjbffhdaaibaaGreatProg
import Derived.WalkSpells
import Derived.WalkLawsBesides
import Derived.Deep.RegionHeld3
import Derived.Lib.SliceRun
set_option linter.unusedVariables false
set_option maxRecDepth 100000
namespace Go.Proofs.YthpjbffhdaaibaaGreat
open Go.RowKit Go.Sort
namespace Lgc
open Lg Strs
def OpensTo (r : Nat × List UInt8 × Int) (w : World) (e : Ending) (w' : World) : Prop := e = .returned (.tuple #[.int .u64 r.1, .string ⟨r.2.1.toArray⟩, .int .i64 r.2.2]) ∧ Held w w'
theorem opens_form {l : List UInt8} (h : ((opR l).2.2 || decide ((opR l).2.1.length ≠ 8)) = true) : opens l = (0, [], 1900) := by unfold opens; rw [if_pos h]
theorem opens_sum {l : List UInt8} (h : ¬ ((opR l).2.2 || decide ((opR l).2.1.length ≠ 8)) = true) (h2 : be8 (Hs.hash HS (l.take (l.length - 8))) ≠ (opR l).2.1) : opens l = (0, [], 1903) := by unfold opens; rw [if_neg h, if_pos h2]
theorem opens_yes {l : List UInt8} (h : ¬ ((opR l).2.2 || decide ((opR l).2.1.length ≠ 8)) = true) (h2 : ¬ be8 (Hs.hash HS (l.take (l.length - 8))) ≠ (opR l).2.1) : opens l = ((numR l false).1, (opR l).1, 0) := by unfold opens; rw [if_neg h, if_neg h2]
theorem bytesR_drop {n : Nat} {l : List UInt8} {b : Bool} (h : (bytesR n l b).2.2 = false) : (bytesR n l b).2.1.length ≤ l.length := (bytesR_len n l b).2
theorem opR_len (l : List UInt8) : (opR l).2.1.length ≤ l.length := by
  unfold opR dataR
  exact Nat.le_trans (bytesR_len _ _ _).2 (Nat.le_trans (numR_len _ _) (numR_len _ _))
theorem ret_op {n : Int} {s : ByteArray} {l : List UInt8} {e : Int} (h : s.data.toList = l) : Ending.returned (.tuple #[.int .u64 n, .string s, .int .i64 e]) = .returned (.tuple #[.int .u64 n, .string ⟨l.toArray⟩, .int .i64 e]) := by rw [str_mk h]
set_option maxHeartbeats 1000000 in
theorem open_any (s : ByteArray) (hs : (s.size : Int) ≤ 1000000000000) (w : World) : Calls Tryz.prog 86 #[.string s] w (OpensTo (opens s.data.toList) w) := by
  have hle := opR_len s.data.toList
  have hle1 := numR_len s.data.toList false
  rw [len_eq] at hle hle1
  have HF := Lib.hid (@opens_form s.data.toList)
  have HS1 := Lib.hid (@opens_sum s.data.toList)
  have HY := Lib.hid (@opens_yes s.data.toList)
  have HLS := Lib.hid (len_eq s)
  have hnum := Lib.hid (number_any w.heap.size s false (by omega) (w.alloc (.cells #[.string s, .bool false] 116)) (box_new _ _))
  have hop : opR s.data.toList = dataR (numR s.data.toList false).2.1 (numR s.data.toList false).2.2 := rfl
  obtain ⟨⟨n, l1, b1⟩, hN⟩ : ∃ x, numR s.data.toList false = x := ⟨_, rfl⟩
  obtain ⟨⟨d, l2, b2⟩, hO⟩ : ∃ x, opR s.data.toList = x := ⟨_, rfl⟩
  rw [hN] at hop hnum HY hle1
  rw [hO] at hop HF HS1 HY hle
  simp only at hop hnum HF HS1 HY hle hle1
  have HOP := Lib.hid hop
  clear hop hN hO
  go_enter Tryz.func86, Tryz.ntmps86
  go_wp2_with fail
  refine hnum.out.mono ?_
  rintro e w1 ⟨rfl, s1, hs1, hb1, hg1⟩
  have hz1 : s1.size ≤ 9223372036854775807 := by rw [← len_eq, hs1]; omega
  have hdat := Lib.hid (data_any w.heap.size s1 b1 hz1 w1 hb1)
  rw [hs1, ← HOP.out] at hdat
  have HW1 : Hid (Held w w1) := held_of ((Held.refl w).alloc _) hg1 (Nat.le_refl _)
  clear hs1 hb1 hg1 hnum
  go_wp2_with fail
  refine hdat.out.mono ?_
  rintro e w2 ⟨t, rfl, ht, s2, hs2, hb2, hg2⟩
  have HW2 : Hid (Held w w2) := held_of HW1.out hg2 (Nat.le_refl _)
  have hz2 : (s2.size : Int) ≤ 1000000000000 := by rw [← len_eq, hs2]; omega
  have hz3 : s2.size ≤ s.size := by rw [← len_eq, hs2]; exact hle
  have c0 : w2.cell? ⟨w.heap.size, 0, none⟩ = some (.string s2) := box_cell hb2 0 rfl
  have c1 : w2.cell? ⟨w.heap.size, 1, none⟩ = some (.bool b2) := box_cell hb2 1 rfl
  have lt := box_lt hb2
  have HT := Lib.hid ht
  have HS2 := Lib.hid hs2
  have hl2 : l2.length = s2.size := by rw [← HS2.out, len_eq]
  have HL2 := Lib.hid hl2
  clear ht hs2 hb2 hg2 hdat hl2 hle hle1
  cases b2
  · by_cases h8 : s2.size = 8
    · have h8' : ((s2.size : Int) != 8) = false := by simp [h8]
      have hz4 : (8 : Int) ≤ (s.size : Int) := by omega
      have hsub : (s.extract 0 (s.size - 8)).data.toList = s.data.toList.take (s.data.toList.length - 8) := by rw [ext_take, len_eq]
      have HSB := Lib.hid hsub
      have H8 := Lib.hid h8
      have k0 := cell_regrown c0
      have HN8 : Hid (¬ (false || decide (l2.length ≠ 8)) = true) := by
        show ¬ _
        have := HL2.out
        rw [this, h8]; simp
      clear hsub h8
      have cA := Lib.hid fun dd os => Calls.regrown_of (d := dd) (os := os) (sum_any (s.extract 0 (s.size - 8)) (by rw [ByteArray.size_extract]; omega) (grow (redrawn w2 dd) os))
      rw [HSB.out] at cA
      have i1 : (0 : Int) ≤ (s.size : Int) - 8 := by omega
      have i2 : IntKind.i64.wrap ((s.size : Int) - 8) = (s.size : Int) - 8 := IntWalk.i64_in _ (by omega)
      have i3 : ((s.size : Int) - 8).toNat = s.size - 8 := by omega
      have htl : s2.toList = l2 := by rw [ByteArray.toList_eq]; exact HS2.out
      generalize be8 (Hs.hash HS (s.data.toList.take (s.data.toList.length - 8))) = q at *
      by_cases hq : q = l2
      · have hne2 : (q == s2.toList) = true := by rw [htl]; simp [hq]
        have H := Lib.hid (HY.out HN8.out (by simp [hq]))
        clear htl hq
        go_wp2
        refine wp_region_quiet_below (by kernel_rfl) (by kernel_rfl) ?_
        repeat (go_big_quiet_step (first | (go_at_call 82; exact cA.out _ _)))
        refine wpQuiet_nil ?_
        intro _ hw'
        obtain ⟨⟨dq, osq⟩, hw''⟩ := hw'
        subst hw''
        go_wp2
        go_ret3
        exact ⟨by rw [H.out]; exact ret_op HT.out, HW2.out.step (below_regrown w2 dq osq)⟩
      · have hne2 : (q == s2.toList) = false := by rw [htl]; simp [hq]
        have H := Lib.hid (HS1.out HN8.out hq)
        clear htl hq
        go_wp2
        refine wp_region_quiet_below (by kernel_rfl) (by kernel_rfl) ?_
        repeat (go_big_quiet_step (first | (go_at_call 82; exact cA.out _ _)))
        refine wpQuiet_nil ?_
        intro _ hw'
        obtain ⟨⟨dq, osq⟩, hw''⟩ := hw'
        subst hw''
        go_wp2
        go_ret3
        exact ⟨by rw [H.out]; rfl, HW2.out.step (below_regrown w2 dq osq)⟩
    · have h8' : ((s2.size : Int) != 8) = true := by simp; omega
      have H := Lib.hid (HF.out (by rw [HL2.out]; simp [h8]))
      clear h8
      go_wp2
      go_ret3
      exact ⟨by rw [H.out]; rfl, HW2.out⟩
  · have H := Lib.hid (HF.out rfl)
    go_wp2
    go_ret3
    exact ⟨by rw [H.out]; rfl, HW2.out⟩
set_option maxHeartbeats 1000000 in
theorem open_ref_any (s : ByteArray) (hs : (s.size : Int) ≤ 1000000000000) (w : World) : Calls Tryz.prog 87 #[.string s] w (OpensTo (opens s.data.toList) w) := by
  have hle := opR_len s.data.toList
  have hle1 := numR_len s.data.toList false
  rw [len_eq] at hle hle1
  have HF := Lib.hid (@opens_form s.data.toList)
  have HS1 := Lib.hid (@opens_sum s.data.toList)
  have HY := Lib.hid (@opens_yes s.data.toList)
  have HLS := Lib.hid (len_eq s)
  have hnum := Lib.hid (number_ref_any w.heap.size s false (by omega) (w.alloc (.cells #[.string s, .bool false] 123)) (box_new _ _))
  have hop : opR s.data.toList = dataR (numR s.data.toList false).2.1 (numR s.data.toList false).2.2 := rfl
  obtain ⟨⟨n, l1, b1⟩, hN⟩ : ∃ x, numR s.data.toList false = x := ⟨_, rfl⟩
  obtain ⟨⟨d, l2, b2⟩, hO⟩ : ∃ x, opR s.data.toList = x := ⟨_, rfl⟩
  rw [hN] at hop hnum HY hle1
  rw [hO] at hop HF HS1 HY hle
  simp only at hop hnum HF HS1 HY hle hle1
  have HOP := Lib.hid hop
  clear hop hN hO
  go_enter Tryz.func87, Tryz.ntmps87
  go_wp2_with fail
  refine hnum.out.mono ?_
  rintro e w1 ⟨rfl, s1, hs1, hb1, hg1⟩
  have hz1 : s1.size ≤ 9223372036854775807 := by rw [← len_eq, hs1]; omega
  have hnum2 := Lib.hid (number_ref_any w.heap.size s1 b1 hz1 w1 hb1)
  rw [hs1] at hnum2
  have hle2 := numR_len l1 b1
  have hlt2 := numR_lt l1 b1
  have HW1 : Hid (Held w w1) := held_of ((Held.refl w).alloc _) hg1 (Nat.le_refl _)
  clear hs1 hb1 hg1 hnum
  have hop := HOP.out
  unfold dataR at hop
  obtain ⟨⟨m, l3, b3⟩, hN2⟩ : ∃ x, numR l1 b1 = x := ⟨_, rfl⟩
  rw [hN2] at hop hnum2 hle2 hlt2
  simp only at hop hnum2 hle2 hlt2
  have HOP2 := Lib.hid hop
  clear hop hN2
  go_wp2_with fail
  refine hnum2.out.mono ?_
  rintro e w1' ⟨rfl, s3, hs3, hb3, hg3⟩
  have hz1' : s3.size ≤ 9223372036854775807 := by rw [← len_eq, hs3]; omega
  have hdat := Lib.hid (bytes_ref_any w.heap.size s3 b3 (m : Int) (by omega) (by omega) hz1' w1' hb3)
  rw [Int.toNat_natCast, hs3, ← HOP2.out] at hdat
  have HW1' : Hid (Held w w1') := held_of HW1.out hg3 (Nat.le_refl _)
  clear hs3 hb3 hg3 hnum2
  go_wp2_with fail
  refine hdat.out.mono ?_
  rintro e w2 ⟨t, rfl, ht, s2, hs2, hb2, hg2⟩
  have HW2 : Hid (Held w w2) := held_of HW1'.out hg2 (Nat.le_refl _)
  have hz2 : (s2.size : Int) ≤ 1000000000000 := by rw [← len_eq, hs2]; omega
  have hz3 : s2.size ≤ s.size := by rw [← len_eq, hs2]; exact hle
  have c0 : w2.cell? ⟨w.heap.size, 0, none⟩ = some (.string s2) := box_cell hb2 0 rfl
  have c1 : w2.cell? ⟨w.heap.size, 1, none⟩ = some (.bool b2) := box_cell hb2 1 rfl
  have lt := box_lt hb2
  have HT := Lib.hid ht
  have HS2 := Lib.hid hs2
  have hl2 : l2.length = s2.size := by rw [← HS2.out, len_eq]
  have HL2 := Lib.hid hl2
  clear ht hs2 hb2 hg2 hdat hl2 hle hle1
  cases b2
  · by_cases h8 : s2.size = 8
    · have h8' : ((s2.size : Int) != 8) = false := by simp [h8]
      have hz4 : (8 : Int) ≤ (s.size : Int) := by omega
      have hsub : (s.extract 0 (s.size - 8)).data.toList = s.data.toList.take (s.data.toList.length - 8) := by rw [ext_take, len_eq]
      have HSB := Lib.hid hsub
      have H8 := Lib.hid h8
      have k0 := cell_regrown c0
      have HN8 : Hid (¬ (false || decide (l2.length ≠ 8)) = true) := by
        show ¬ _
        have := HL2.out
        rw [this, h8]; simp
      clear hsub h8
      have hlt := Hs.hash_lt HS (s.data.toList.take (s.data.toList.length - 8)) (by decide)
      have cA := Lib.hid fun dd os => Calls.regrown_of (d := dd) (os := os) ((hash_ref_any HS (s.extract 0 (s.size - 8)) (by decide) (by rw [ByteArray.size_extract]; omega) (grow (redrawn w2 dd) os)).mono fun e w' ⟨he, hw⟩ => ⟨he, hw ▸ Below.refl _ _⟩)
      rw [HSB.out] at cA
      have cB := Lib.hid fun dd os => Calls.regrown_of (d := dd) (os := os) (eight_any (Hs.hash HS (s.data.toList.take (s.data.toList.length - 8))) (by omega) (grow (redrawn w2 dd) os))
      clear hlt
      have i1 : (0 : Int) ≤ (s.size : Int) - 8 := by omega
      have i2 : IntKind.i64.wrap ((s.size : Int) - 8) = (s.size : Int) - 8 := IntWalk.i64_in _ (by omega)
      have i3 : ((s.size : Int) - 8).toNat = s.size - 8 := by omega
      have htl : s2.toList = l2 := by rw [ByteArray.toList_eq]; exact HS2.out
      generalize be8 (Hs.hash HS (s.data.toList.take (s.data.toList.length - 8))) = q at *
      generalize Hs.hash HS (s.data.toList.take (s.data.toList.length - 8)) = hh at cA cB
      by_cases hq : q = l2
      · have hne2 : (q == s2.toList) = true := by rw [htl]; simp [hq]
        have H := Lib.hid (HY.out HN8.out (by simp [hq]))
        clear htl hq
        go_wp2
        refine wp_region_quiet_below (by kernel_rfl) (by kernel_rfl) ?_
        repeat (go_big_quiet_step (first | (go_at_call 84; exact cA.out _ _) | (go_at_call 83; exact cB.out _ _)))
        refine wpQuiet_nil ?_
        intro _ hw'
        obtain ⟨⟨dq, osq⟩, hw''⟩ := hw'
        subst hw''
        go_wp2
        go_ret3
        exact ⟨by rw [H.out]; exact ret_op HT.out, HW2.out.step (below_regrown w2 dq osq)⟩
      · have hne2 : (q == s2.toList) = false := by rw [htl]; simp [hq]
        have H := Lib.hid (HS1.out HN8.out hq)
        clear htl hq
        go_wp2
        refine wp_region_quiet_below (by kernel_rfl) (by kernel_rfl) ?_
        repeat (go_big_quiet_step (first | (go_at_call 84; exact cA.out _ _) | (go_at_call 83; exact cB.out _ _)))
        refine wpQuiet_nil ?_
        intro _ hw'
        obtain ⟨⟨dq, osq⟩, hw''⟩ := hw'
        subst hw''
        go_wp2
        go_ret3
        exact ⟨by rw [H.out]; rfl, HW2.out.step (below_regrown w2 dq osq)⟩
    · have h8' : ((s2.size : Int) != 8) = true := by simp; omega
      have H := Lib.hid (HF.out (by rw [HL2.out]; simp [h8]))
      clear h8
      go_wp2
      go_ret3
      exact ⟨by rw [H.out]; rfl, HW2.out⟩
  · have H := Lib.hid (HF.out rfl)
    go_wp2
    go_ret3
    exact ⟨by rw [H.out]; rfl, HW2.out⟩
end Lgc
end Go.Proofs.YthpjbffhdaaibaaGreat

set_option linter.unusedVariables false
set_option linter.unusedSimpArgs false
set_option maxRecDepth 100000
namespace Go.Proofs.YthpjbffhdaaibaaGreat
open Go.RowKit Go.Lib
namespace Mem
/-- A call that has turned a box of the call's own. -/
theorem callBx {W w w' : World} {H : List Ck} (h : Mem W w H) (i : Nat) {b : Nat} {cs cs' : Array Value} {t : TypeId} (hi : H[i]? = some (.box b cs t)) (hg : w.grownBy w' (some b)) (hb : w'.heap[b]? = some (.cells cs' t (0, 0))) : Mem W w' (H.set i (.box b cs' t)) := by
  refine h.upd hi _ ⟨hg.os, hg.tape, hg.output, hg.size, fun k hk => absurd hk (Nat.not_lt_zero k)⟩ (fun b' hlt hb' => hg.block b' hlt (fun q => hb' (by injection q with q; simp [Ck.box, q]))) hb (fun b' hb' => .inl hb')
end Mem
namespace Enc
open Uv Lg Lgc Strs
def wordR (l : List UInt8) (bad : Bool) : Nat × List UInt8 × Bool := if 4294967295 < (numR l bad).1 then (0, (numR l bad).2.1, true) else numR l bad
theorem wordR_put (x : Nat) (hx : x ≤ 4294967295) (t : List UInt8) : wordR (put x ++ t) false = (x, t, false) := by
  unfold wordR
  rw [numR_put x (by omega) t, if_neg (by simp only; omega)]
theorem word_any (b : Nat) (s : ByteArray) (bad : Bool) (hs : s.size ≤ 9223372036854775807) (w : World) (hb : w.heap[b]? = some (.cells #[.string s, .bool bad] 116 (0, 0))) :
    Calls Tryz.prog 101 #[.pointer (some ⟨b, 0, none⟩)] w (Reads 116 (.int .u32 (wordR s.data.toList bad).1) b (wordR s.data.toList bad).2.1 (wordR s.data.toList bad).2.2 w) := by
  have hlt := numR_lt s.data.toList bad
  have hn := number_any b s bad hs w hb
  obtain ⟨x, t, b2, hnr⟩ : ∃ x t b2, numR s.data.toList bad = (x, t, b2) := ⟨_, _, _, rfl⟩
  have HW : Is (wordR s.data.toList bad) (if 4294967295 < x then (0, t, true) else (x, t, b2)) := ⟨by unfold wordR; rw [hnr]⟩
  rw [hnr] at hn hlt
  have HN := Lib.hid hn
  clear hnr hn
  by_cases h1 : (4294967295 : Int) < x
  · have HW2 : Is (wordR s.data.toList bad) (0, t, true) := ⟨by rw [HW.out, if_pos (by omega)]⟩
    rw [HW2.out]
    go_enter Tryz.func101, Tryz.ntmps101
    go_wp2_with fail
    refine HN.out.mono ?_
    rintro e w1 ⟨rfl, s1, hs1, hb1, hg⟩
    have c1 := box_cell hb1 1 rfl
    have f1 := box_free hb1 1
    have HB := Lib.hid hb1
    have HG := Lib.hid hg
    clear hb1 hg
    go_wp2
    go_ret
    refine ⟨rfl, s1, hs1, ?_, ?_⟩
    · rw [box_set HB.out]; rfl
    · exact grown_trans HG.out (grown_set _ _ _ _)
  · have HW2 : Is (wordR s.data.toList bad) (x, t, b2) := ⟨by rw [HW.out, if_neg (by omega)]⟩
    rw [HW2.out]
    have hx : (x : Int) ≤ 4294967295 := by omega
    go_enter Tryz.func101, Tryz.ntmps101
    go_wp2_with fail
    refine HN.out.mono ?_
    rintro e w1 ⟨rfl, s1, hs1, hb1, hg⟩
    have HB := Lib.hid hb1
    have HG := Lib.hid hg
    clear hb1 hg
    go_wp2
    go_ret
    exact ⟨rfl, s1, hs1, HB.out, HG.out⟩
theorem word_len (l : List UInt8) (b : Bool) : (wordR l b).2.1.length ≤ l.length := by
  have := numR_len l b
  unfold wordR; split <;> exact this
theorem word_lt (l : List UInt8) (b : Bool) : (wordR l b).1 ≤ 4294967295 := by
  unfold wordR; split
  · exact Nat.zero_le _
  · omega
/-- An event, read. -/
structure EvV where
  k : Nat
  n : Nat
  d : List UInt8
  t : List UInt8
  b : Bool
def evR (l : List UInt8) (bad : Bool) : EvV :=
  let k := (wordR l bad).1
  let t1 := (wordR l bad).2.1
  let b1 := (wordR l bad).2.2
  if k = 1 ∨ k = 3 ∨ k = 6 then ⟨k, (wordR t1 b1).1, [], (wordR t1 b1).2.1, (wordR t1 b1).2.2⟩
  else if k = 4 then ⟨k, (wordR t1 b1).1, (dataR (wordR t1 b1).2.1 (wordR t1 b1).2.2).1, (dataR (wordR t1 b1).2.1 (wordR t1 b1).2.2).2.1, (dataR (wordR t1 b1).2.1 (wordR t1 b1).2.2).2.2⟩
  else if k = 5 then ⟨k, 0, (dataR t1 b1).1, (dataR t1 b1).2.1, (dataR t1 b1).2.2⟩
  else ⟨k, 0, [], t1, b1⟩
theorem dataR_put2 (d t : List UInt8) (h : d.length < 18446744073709551616) : dataR (put d.length ++ (d ++ t)) false = (d, t, false) := by
  unfold dataR
  rw [numR_put _ h]
  unfold bytesR
  simp
theorem evR_enc {k n : Int} {d : List UInt8} (hv : Ev.ok k n d = true) (hn : 0 ≤ n ∧ n ≤ 4294967295) (t : List UInt8) : evR (encE k n d ++ t) false = ⟨k.toNat, n.toNat, d, t, false⟩ := by
  obtain ⟨b1, b2, b3⟩ := ok_bd hv
  rcases (by omega : (k = 1 ∨ k = 3 ∨ k = 6) ∨ k = 2 ∨ k = 4 ∨ k = 5) with hk | hk | hk | hk
  · rw [encE_1 hk, List.append_assoc]
    unfold evR
    rw [wordR_put _ (by omega)]
    simp only
    rw [if_pos (by omega), wordR_put _ (by omega), ok_1 hv hk]
  · subst hk
    rw [encE_2 rfl]
    unfold evR
    rw [wordR_put _ (by omega)]
    simp only
    rw [if_neg (by decide), if_neg (by decide), if_neg (by decide), (ok_2 hv).1, (ok_2 hv).2]; rfl
  · subst hk
    rw [encE_4 rfl]
    simp only [List.append_assoc]
    unfold evR
    rw [wordR_put _ (by omega)]
    simp only
    rw [if_neg (by decide), if_pos (by decide), wordR_put _ (by omega), dataR_put2 _ _ (by omega)]
  · subst hk
    rw [encE_5 rfl]
    simp only [List.append_assoc]
    unfold evR
    rw [wordR_put _ (by omega)]
    simp only
    rw [if_neg (by decide), if_neg (by decide), if_pos (by decide), dataR_put2 _ _ (by omega), ok_5 hv]; rfl
def EvTo (b : Nat) (v : EvV) (w : World) (e : Ending) (w' : World) : Prop := ∃ ds : ByteArray, e = .returned (.agg #[.int .i64 (v.k : Int), .int .u32 (v.n : Int), .string ds]) ∧ ds.data.toList = v.d ∧ Lgc.Left 116 b v.t v.b w w'
end Enc
end Go.Proofs.YthpjbffhdaaibaaGreat

set_option linter.unusedVariables false
set_option linter.unusedSimpArgs false
set_option maxRecDepth 100000
namespace Go.Proofs.YthpjbffhdaaibaaGreat
open Go.RowKit Go.Lib
namespace Enc
open Uv Lg Lgc Strs
/-- Three blocks known whole: the reader's, the result's, the event's. -/
structure E3 (w : World) (b r e : Nat) (bc rc ec : Array Value) : Prop where
  hb : w.heap[b]? = some (.cells bc 116 (0, 0))
  hr : w.heap[r]? = some (.cells rc 68 (0, 0))
  he : w.heap[e]? = some (.cells ec 68 (0, 0))
  n1 : r ≠ b
  n2 : e ≠ b
  n3 : e ≠ r
theorem grown_keeps {w w' : World} {b q : Nat} {o : Obj} (hg : w.grownBy w' (some b)) (hq : q ≠ b) (h : w.heap[q]? = some o) : w'.heap[q]? = some o :=
  (hg.block q (Array.getElem?_eq_some_iff.1 h).1 (by intro e; first | exact hq (Option.some.inj e) | exact hq (Option.some.inj e).symm)).trans h
theorem E3.call {w w' : World} {b r e : Nat} {bc bc' rc ec : Array Value} (h : E3 w b r e bc rc ec) (hg : w.grownBy w' (some b)) (hb : w'.heap[b]? = some (.cells bc' 116 (0, 0))) : E3 w' b r e bc' rc ec :=
  ⟨hb, grown_keeps hg h.n1 h.hr, grown_keeps hg h.n2 h.he, h.n1, h.n2, h.n3⟩
theorem E3.putE {w : World} {b r e : Nat} {bc rc ec : Array Value} (h : E3 w b r e bc rc ec) (j : Nat) (v : Value) : E3 (w.setCell ⟨e, j, none⟩ v) b r e bc rc (ec.setIfInBounds j v) :=
  ⟨(Bx.far (Ne.symm h.n2)).trans h.hb, (Bx.far (Ne.symm h.n3)).trans h.hr, Bx.set h.he j v, h.n1, h.n2, h.n3⟩
theorem E3.putR {w : World} {b r e : Nat} {bc rc ec : Array Value} (h : E3 w b r e bc rc ec) (j : Nat) (v : Value) : E3 (w.setCell ⟨r, j, none⟩ v) b r e bc (rc.setIfInBounds j v) ec :=
  ⟨(Bx.far (Ne.symm h.n1)).trans h.hb, Bx.set h.hr j v, (Bx.far h.n3).trans h.he, h.n1, h.n2, h.n3⟩
theorem E3.facts {w : World} {b r e : Nat} {bc rc : Array Value} {x0 x1 x2 : Value} (h : E3 w b r e bc rc #[x0, x1, x2]) : (w.cell? ⟨e, 0, none⟩ = some x0 ∧ w.cell? ⟨e, 1, none⟩ = some x1 ∧ w.cell? ⟨e, 2, none⟩ = some x2) ∧ (w.frozen? ⟨e, 0, none⟩ = false ∧ w.frozen? ⟨e, 1, none⟩ = false ∧ w.frozen? ⟨e, 2, none⟩ = false) ∧ e < w.heap.size :=
  ⟨⟨Bx.cell h.he 0 rfl, Bx.cell h.he 1 rfl, Bx.cell h.he 2 rfl⟩, ⟨Bx.free h.he 0, Bx.free h.he 1, Bx.free h.he 2⟩, Bx.lt h.he⟩
theorem E3.rfacts {w : World} {b r e : Nat} {bc ec : Array Value} {x0 x1 x2 : Value} (h : E3 w b r e bc #[x0, x1, x2] ec) : (w.cell? ⟨r, 0, none⟩ = some x0 ∧ w.cell? ⟨r, 1, none⟩ = some x1 ∧ w.cell? ⟨r, 2, none⟩ = some x2) ∧ (w.frozen? ⟨r, 0, none⟩ = false ∧ w.frozen? ⟨r, 1, none⟩ = false ∧ w.frozen? ⟨r, 2, none⟩ = false) ∧ r < w.heap.size :=
  ⟨⟨Bx.cell h.hr 0 rfl, Bx.cell h.hr 1 rfl, Bx.cell h.hr 2 rfl⟩, ⟨Bx.free h.hr 0, Bx.free h.hr 1, Bx.free h.hr 2⟩, Bx.lt h.hr⟩
theorem E3.rfin {w : World} {b r e : Nat} {bc ec : Array Value} {x0 x1 x2 : Value} (h : E3 w b r e bc #[x0, x1, x2] ec) (y0 y1 y2 : Value) : (((w.setCell ⟨r, 0, none⟩ y0).setCell ⟨r, 1, none⟩ y1).setCell ⟨r, 2, none⟩ y2).heap[r]? = some (.cells #[y0, y1, y2] 68 (0, 0)) ∧ (((w.setCell ⟨r, 0, none⟩ y0).setCell ⟨r, 1, none⟩ y1).setCell ⟨r, 2, none⟩ y2).heap[b]? = some (.cells bc 116 (0, 0)) :=
  ⟨(((h.putR 0 y0).putR 1 y1).putR 2 y2).hr, (((h.putR 0 y0).putR 1 y1).putR 2 y2).hb⟩
theorem ev_load {w : World} {b : Nat} {k n : Int} {d : ByteArray} (h : w.heap[b]? = some (.cells #[.int .i64 k, .int .u32 n, .string d] 68 (0, 0))) : (loadVar 68 ⟨b, 0, none⟩).run Tryz.prog w = .ok (.agg #[.int .i64 k, .int .u32 n, .string d]) w := by
  have c0 := Bx.cell h 0 rfl
  have c1 := Bx.cell h 1 rfl
  have c2 := Bx.cell h 2 rfl
  simp [go_sem, c0, c1, c2]
theorem noWord_any (w : World) : Calls Tryz.prog 102 #[] w fun e w' => e = .returned (.int .u32 0) ∧ w = w' := by
  go_enter Tryz.func102, Tryz.ntmps102
  go_wp2
  go_ret
  exact ⟨rfl, rfl⟩
theorem noData_any (w : World) : Calls Tryz.prog 103 #[] w fun e w' => e = .returned (.string ⟨#[]⟩) ∧ w = w' := by
  go_enter Tryz.func103, Tryz.ntmps103
  go_wp2
  go_ret
  exact ⟨rfl, rfl⟩
theorem grown_new {w w' : World} {r : Option Nat} {q : Nat} (hq : w.heap.size ≤ q) (j : Nat) (v : Value) (h : w.grownBy w' r) : w.grownBy (w'.setCell ⟨q, j, none⟩ v) r :=
  ⟨h.os, h.tape, h.output, by have := h.size; simpa using this, fun k hk hr => (Below.heap_setCell w' _ _ _ (by simp only; omega)).trans (h.block k hk hr)⟩
set_option maxHeartbeats 8000000 in
theorem event_any (b : Nat) (s : ByteArray) (bad : Bool) (hs : s.size ≤ 9223372036854775807) (w : World) (hb : w.heap[b]? = some (.cells #[.string s, .bool bad] 116 (0, 0))) :
    Calls Tryz.prog 77 #[.pointer (some ⟨b, 0, none⟩)] w (EvTo b (evR s.data.toList bad) w) := by
  obtain ⟨l, hl⟩ : ∃ l, s.data.toList = l := ⟨_, rfl⟩
  have hsl : s.size = l.length := by rw [← hl, len_eq]
  obtain ⟨k, t1, b1, hw⟩ : ∃ k t1 b1, wordR l bad = (k, t1, b1) := ⟨_, _, _, rfl⟩
  have hk := word_lt l bad
  have htl := word_len l bad
  rw [hw] at hk htl
  simp only at hk htl
  have hE : evR l bad = if k = 1 ∨ k = 3 ∨ k = 6 then ⟨k, (wordR t1 b1).1, [], (wordR t1 b1).2.1, (wordR t1 b1).2.2⟩
      else if k = 4 then ⟨k, (wordR t1 b1).1, (dataR (wordR t1 b1).2.1 (wordR t1 b1).2.2).1, (dataR (wordR t1 b1).2.1 (wordR t1 b1).2.2).2.1, (dataR (wordR t1 b1).2.1 (wordR t1 b1).2.2).2.2⟩
      else if k = 5 then ⟨k, 0, (dataR t1 b1).1, (dataR t1 b1).2.1, (dataR t1 b1).2.2⟩ else ⟨k, 0, [], t1, b1⟩ := by
    unfold evR; rw [hw]
  obtain ⟨n2, t2, b2, hw2⟩ : ∃ n2 t2 b2, wordR t1 b1 = (n2, t2, b2) := ⟨_, _, _, rfl⟩
  have HW2 : Is (wordR t1 b1) (n2, t2, b2) := ⟨hw2⟩
  obtain ⟨d4, t4, b4, hd4⟩ : ∃ d4 t4 b4, dataR t2 b2 = (d4, t4, b4) := ⟨_, _, _, rfl⟩
  have HD4 : Is (dataR t2 b2) (d4, t4, b4) := ⟨hd4⟩
  obtain ⟨d5, t5, b5, hd5⟩ : ∃ d5 t5 b5, dataR t1 b1 = (d5, t5, b5) := ⟨_, _, _, rfl⟩
  have HD5 : Is (dataR t1 b1) (d5, t5, b5) := ⟨hd5⟩
  rw [hw2, hd5] at hE
  simp only at hE
  rw [hd4] at hE
  simp only at hE
  have HE := Lib.hid hE
  rw [hl]
  have HBX := Lib.hid hb
  have hwd := fun (w' : World) (h : w'.heap[b]? = some (.cells #[.string s, .bool bad] 116 (0, 0))) => word_any b s bad hs w' h
  rw [hl, hw] at hwd
  have HWD := Lib.hid hwd
  have hblt : b < w.heap.size := (Array.getElem?_eq_some_iff.1 hb).1
  have hll : l.length ≤ 9223372036854775807 := by omega
  clear hl hw hE hwd hb hsl hw2 hd4 hd5
  by_cases c1 : k = 1
  · subst c1
    have HEV : Is (evR l bad) ⟨1, n2, [], t2, b2⟩ := ⟨by have := HE.out; simpa using this⟩
    go_enter Tryz.func77, Tryz.ntmps77
    go_wp2_with fail
    refine (HWD.out _ (Bx.held HBX.out ((Held.refl w).alloc _))).mono ?_
    rintro e w1 ⟨rfl, s1, hs1, hb1, hg1⟩
    dsimp only at hs1 hb1 ⊢
    have HS1 : Is s1.data.toList t1 := ⟨hs1⟩
    have hl1 : s1.size ≤ 9223372036854775807 := by
      rw [← len_eq, hs1]; omega
    have hr1 : w1.heap[w.heap.size]? = some (.cells #[.int .i64 0, .int .u32 0, .string ⟨#[]⟩] 68 (0, 0)) := grown_keeps hg1 (Ne.symm (Nat.ne_of_lt hblt)) (Bx.new w _)
    have hs1z : w.heap.size < w1.heap.size := Bx.lt hr1
    have X2 : Hid (E3 (w1.alloc (.cells #[.int .i64 1, .int .u32 0, .string ⟨#[]⟩] 68)) b w.heap.size w1.heap.size #[.string s1, .bool b1] #[.int .i64 0, .int .u32 0, .string ⟨#[]⟩] #[.int .i64 1, .int .u32 0, .string ⟨#[]⟩]) :=
      Lib.hid ⟨Bx.held hb1 ((Held.refl w1).alloc _), Bx.held hr1 ((Held.refl w1).alloc _), Bx.new w1 _, Ne.symm (Nat.ne_of_lt hblt), by omega, by omega⟩
    have G2 := Lib.hid (grown_trans (grown_trans (grown_held (r := some b) ((Held.refl w).alloc (.cells #[.int .i64 0, .int .u32 0, .string ⟨#[]⟩] 68))) hg1) (grown_held (r := some b) ((Held.refl w1).alloc (.cells #[.int .i64 1, .int .u32 0, .string ⟨#[]⟩] 68))))
    clear hs1 hb1 hg1 hr1
    go_wp2_with fail
    refine (word_any b s1 b1 (by omega) _ X2.out.hb).mono ?_
    rw [HS1.out]
    rintro e w2 ⟨rfl, s2, hs2, hb2, hg2⟩
    have HS2 : Is s2.data.toList t2 := ⟨by rw [hs2, HW2.out]⟩
    have hl2 : s2.size ≤ s1.size := by
      have h1 := word_len t1 b1
      have h3 := HS1.out
      rw [← len_eq, ← len_eq, hs2, h3]
      exact h1
    rw [HW2.out] at hb2 ⊢
    dsimp only at hb2 ⊢
    have X3 := Lib.hid (X2.out.call hg2 hb2)
    have G3 := Lib.hid (grown_trans G2.out hg2)
    clear hs2 hb2 hg2
    obtain ⟨⟨q0, q1, q2⟩, ⟨qf0, qf1, qf2⟩, qlt⟩ := X3.out.facts
    have X4 := Lib.hid (X3.out.putE 1 (.int .u32 (n2 : Int)))
    have G4 := Lib.hid (grown_new (q := w1.heap.size) (by omega) 1 (.int .u32 (n2 : Int)) G3.out)
    go_wp2_with fail
    refine (noData_any _).mono ?_
    rintro e w3 ⟨rfl, rfl⟩
    have X5 := X4
    have G5 := G4
    clear q0 q1 q2 qf0 qf1 qf2 qlt
    obtain ⟨⟨q0, q1, q2⟩, ⟨qf0, qf1, qf2⟩, qlt⟩ := X5.out.facts
    obtain ⟨⟨r0, r1, r2⟩, ⟨rf0, rf1, rf2⟩, rlt⟩ := X5.out.rfacts
    have ner : ¬ w.heap.size = w1.heap.size := by omega
    have ner2 : ¬ w1.heap.size = w.heap.size := by omega
    go_wp2
    have X6 := X5.out.putE 2 (.string ⟨#[]⟩)
    have G6 := grown_new (q := w1.heap.size) (by omega) 2 (.string ⟨#[]⟩) G5.out
    obtain ⟨MR, MB⟩ := X6.rfin (.int .i64 1) (.int .u32 (n2 : Int)) (.string ⟨#[]⟩)
    clear X6 X2 X3 X4 X5 q0 q1 q2 qf0 qf1 qf2 qlt r0 r1 r2 rf0 rf1 rf2 rlt
    refine bodyPost_ret (Bx.res_c Tryz.results77 rfl (ev_load MR)) rfl ?_
    rw [HEV.out]
    exact ⟨⟨#[]⟩, rfl, rfl, _, HS2.out, MB, grown_new (Nat.le_refl _) _ _ (grown_new (Nat.le_refl _) _ _ (grown_new (Nat.le_refl _) _ _ G6))⟩
  by_cases c3 : k = 3
  · subst c3
    have HEV : Is (evR l bad) ⟨3, n2, [], t2, b2⟩ := ⟨by have := HE.out; simpa using this⟩
    go_enter Tryz.func77, Tryz.ntmps77
    go_wp2_with fail
    refine (HWD.out _ (Bx.held HBX.out ((Held.refl w).alloc _))).mono ?_
    rintro e w1 ⟨rfl, s1, hs1, hb1, hg1⟩
    dsimp only at hs1 hb1 ⊢
    have HS1 : Is s1.data.toList t1 := ⟨hs1⟩
    have hl1 : s1.size ≤ 9223372036854775807 := by
      rw [← len_eq, hs1]; omega
    have hr1 : w1.heap[w.heap.size]? = some (.cells #[.int .i64 0, .int .u32 0, .string ⟨#[]⟩] 68 (0, 0)) := grown_keeps hg1 (Ne.symm (Nat.ne_of_lt hblt)) (Bx.new w _)
    have hs1z : w.heap.size < w1.heap.size := Bx.lt hr1
    have X2 : Hid (E3 (w1.alloc (.cells #[.int .i64 3, .int .u32 0, .string ⟨#[]⟩] 68)) b w.heap.size w1.heap.size #[.string s1, .bool b1] #[.int .i64 0, .int .u32 0, .string ⟨#[]⟩] #[.int .i64 3, .int .u32 0, .string ⟨#[]⟩]) :=
      Lib.hid ⟨Bx.held hb1 ((Held.refl w1).alloc _), Bx.held hr1 ((Held.refl w1).alloc _), Bx.new w1 _, Ne.symm (Nat.ne_of_lt hblt), by omega, by omega⟩
    have G2 := Lib.hid (grown_trans (grown_trans (grown_held (r := some b) ((Held.refl w).alloc (.cells #[.int .i64 0, .int .u32 0, .string ⟨#[]⟩] 68))) hg1) (grown_held (r := some b) ((Held.refl w1).alloc (.cells #[.int .i64 3, .int .u32 0, .string ⟨#[]⟩] 68))))
    clear hs1 hb1 hg1 hr1
    go_wp2_with fail
    refine (word_any b s1 b1 (by omega) _ X2.out.hb).mono ?_
    rw [HS1.out]
    rintro e w2 ⟨rfl, s2, hs2, hb2, hg2⟩
    have HS2 : Is s2.data.toList t2 := ⟨by rw [hs2, HW2.out]⟩
    have hl2 : s2.size ≤ s1.size := by
      have h1 := word_len t1 b1
      have h3 := HS1.out
      rw [← len_eq, ← len_eq, hs2, h3]
      exact h1
    rw [HW2.out] at hb2 ⊢
    dsimp only at hb2 ⊢
    have X3 := Lib.hid (X2.out.call hg2 hb2)
    have G3 := Lib.hid (grown_trans G2.out hg2)
    clear hs2 hb2 hg2
    obtain ⟨⟨q0, q1, q2⟩, ⟨qf0, qf1, qf2⟩, qlt⟩ := X3.out.facts
    have X4 := Lib.hid (X3.out.putE 1 (.int .u32 (n2 : Int)))
    have G4 := Lib.hid (grown_new (q := w1.heap.size) (by omega) 1 (.int .u32 (n2 : Int)) G3.out)
    go_wp2_with fail
    refine (noData_any _).mono ?_
    rintro e w3 ⟨rfl, rfl⟩
    have X5 := X4
    have G5 := G4
    clear q0 q1 q2 qf0 qf1 qf2 qlt
    obtain ⟨⟨q0, q1, q2⟩, ⟨qf0, qf1, qf2⟩, qlt⟩ := X5.out.facts
    obtain ⟨⟨r0, r1, r2⟩, ⟨rf0, rf1, rf2⟩, rlt⟩ := X5.out.rfacts
    have ner : ¬ w.heap.size = w1.heap.size := by omega
    have ner2 : ¬ w1.heap.size = w.heap.size := by omega
    go_wp2
    have X6 := X5.out.putE 2 (.string ⟨#[]⟩)
    have G6 := grown_new (q := w1.heap.size) (by omega) 2 (.string ⟨#[]⟩) G5.out
    obtain ⟨MR, MB⟩ := X6.rfin (.int .i64 3) (.int .u32 (n2 : Int)) (.string ⟨#[]⟩)
    clear X6 X2 X3 X4 X5 q0 q1 q2 qf0 qf1 qf2 qlt r0 r1 r2 rf0 rf1 rf2 rlt
    refine bodyPost_ret (Bx.res_c Tryz.results77 rfl (ev_load MR)) rfl ?_
    rw [HEV.out]
    exact ⟨⟨#[]⟩, rfl, rfl, _, HS2.out, MB, grown_new (Nat.le_refl _) _ _ (grown_new (Nat.le_refl _) _ _ (grown_new (Nat.le_refl _) _ _ G6))⟩
  by_cases c6 : k = 6
  · subst c6
    have HEV : Is (evR l bad) ⟨6, n2, [], t2, b2⟩ := ⟨by have := HE.out; simpa using this⟩
    go_enter Tryz.func77, Tryz.ntmps77
    go_wp2_with fail
    refine (HWD.out _ (Bx.held HBX.out ((Held.refl w).alloc _))).mono ?_
    rintro e w1 ⟨rfl, s1, hs1, hb1, hg1⟩
    dsimp only at hs1 hb1 ⊢
    have HS1 : Is s1.data.toList t1 := ⟨hs1⟩
    have hl1 : s1.size ≤ 9223372036854775807 := by
      rw [← len_eq, hs1]; omega
    have hr1 : w1.heap[w.heap.size]? = some (.cells #[.int .i64 0, .int .u32 0, .string ⟨#[]⟩] 68 (0, 0)) := grown_keeps hg1 (Ne.symm (Nat.ne_of_lt hblt)) (Bx.new w _)
    have hs1z : w.heap.size < w1.heap.size := Bx.lt hr1
    have X2 : Hid (E3 (w1.alloc (.cells #[.int .i64 6, .int .u32 0, .string ⟨#[]⟩] 68)) b w.heap.size w1.heap.size #[.string s1, .bool b1] #[.int .i64 0, .int .u32 0, .string ⟨#[]⟩] #[.int .i64 6, .int .u32 0, .string ⟨#[]⟩]) :=
      Lib.hid ⟨Bx.held hb1 ((Held.refl w1).alloc _), Bx.held hr1 ((Held.refl w1).alloc _), Bx.new w1 _, Ne.symm (Nat.ne_of_lt hblt), by omega, by omega⟩
    have G2 := Lib.hid (grown_trans (grown_trans (grown_held (r := some b) ((Held.refl w).alloc (.cells #[.int .i64 0, .int .u32 0, .string ⟨#[]⟩] 68))) hg1) (grown_held (r := some b) ((Held.refl w1).alloc (.cells #[.int .i64 6, .int .u32 0, .string ⟨#[]⟩] 68))))
    clear hs1 hb1 hg1 hr1
    go_wp2_with fail
    refine (word_any b s1 b1 (by omega) _ X2.out.hb).mono ?_
    rw [HS1.out]
    rintro e w2 ⟨rfl, s2, hs2, hb2, hg2⟩
    have HS2 : Is s2.data.toList t2 := ⟨by rw [hs2, HW2.out]⟩
    have hl2 : s2.size ≤ s1.size := by
      have h1 := word_len t1 b1
      have h3 := HS1.out
      rw [← len_eq, ← len_eq, hs2, h3]
      exact h1
    rw [HW2.out] at hb2 ⊢
    dsimp only at hb2 ⊢
    have X3 := Lib.hid (X2.out.call hg2 hb2)
    have G3 := Lib.hid (grown_trans G2.out hg2)
    clear hs2 hb2 hg2
    obtain ⟨⟨q0, q1, q2⟩, ⟨qf0, qf1, qf2⟩, qlt⟩ := X3.out.facts
    have X4 := Lib.hid (X3.out.putE 1 (.int .u32 (n2 : Int)))
    have G4 := Lib.hid (grown_new (q := w1.heap.size) (by omega) 1 (.int .u32 (n2 : Int)) G3.out)
    go_wp2_with fail
    refine (noData_any _).mono ?_
    rintro e w3 ⟨rfl, rfl⟩
    have X5 := X4
    have G5 := G4
    clear q0 q1 q2 qf0 qf1 qf2 qlt
    obtain ⟨⟨q0, q1, q2⟩, ⟨qf0, qf1, qf2⟩, qlt⟩ := X5.out.facts
    obtain ⟨⟨r0, r1, r2⟩, ⟨rf0, rf1, rf2⟩, rlt⟩ := X5.out.rfacts
    have ner : ¬ w.heap.size = w1.heap.size := by omega
    have ner2 : ¬ w1.heap.size = w.heap.size := by omega
    go_wp2
    have X6 := X5.out.putE 2 (.string ⟨#[]⟩)
    have G6 := grown_new (q := w1.heap.size) (by omega) 2 (.string ⟨#[]⟩) G5.out
    obtain ⟨MR, MB⟩ := X6.rfin (.int .i64 6) (.int .u32 (n2 : Int)) (.string ⟨#[]⟩)
    clear X6 X2 X3 X4 X5 q0 q1 q2 qf0 qf1 qf2 qlt r0 r1 r2 rf0 rf1 rf2 rlt
    refine bodyPost_ret (Bx.res_c Tryz.results77 rfl (ev_load MR)) rfl ?_
    rw [HEV.out]
    exact ⟨⟨#[]⟩, rfl, rfl, _, HS2.out, MB, grown_new (Nat.le_refl _) _ _ (grown_new (Nat.le_refl _) _ _ (grown_new (Nat.le_refl _) _ _ G6))⟩
  by_cases c4 : k = 4
  · subst c4
    have HEV : Is (evR l bad) ⟨4, n2, d4, t4, b4⟩ := ⟨by have := HE.out; simpa using this⟩
    go_enter Tryz.func77, Tryz.ntmps77
    go_wp2_with fail
    refine (HWD.out _ (Bx.held HBX.out ((Held.refl w).alloc _))).mono ?_
    rintro e w1 ⟨rfl, s1, hs1, hb1, hg1⟩
    dsimp only at hs1 hb1 ⊢
    have HS1 : Is s1.data.toList t1 := ⟨hs1⟩
    have hl1 : s1.size ≤ 9223372036854775807 := by
      rw [← len_eq, hs1]; omega
    have hr1 : w1.heap[w.heap.size]? = some (.cells #[.int .i64 0, .int .u32 0, .string ⟨#[]⟩] 68 (0, 0)) := grown_keeps hg1 (Ne.symm (Nat.ne_of_lt hblt)) (Bx.new w _)
    have hs1z : w.heap.size < w1.heap.size := Bx.lt hr1
    have X2 : Hid (E3 (w1.alloc (.cells #[.int .i64 4, .int .u32 0, .string ⟨#[]⟩] 68)) b w.heap.size w1.heap.size #[.string s1, .bool b1] #[.int .i64 0, .int .u32 0, .string ⟨#[]⟩] #[.int .i64 4, .int .u32 0, .string ⟨#[]⟩]) :=
      Lib.hid ⟨Bx.held hb1 ((Held.refl w1).alloc _), Bx.held hr1 ((Held.refl w1).alloc _), Bx.new w1 _, Ne.symm (Nat.ne_of_lt hblt), by omega, by omega⟩
    have G2 := Lib.hid (grown_trans (grown_trans (grown_held (r := some b) ((Held.refl w).alloc (.cells #[.int .i64 0, .int .u32 0, .string ⟨#[]⟩] 68))) hg1) (grown_held (r := some b) ((Held.refl w1).alloc (.cells #[.int .i64 4, .int .u32 0, .string ⟨#[]⟩] 68))))
    clear hs1 hb1 hg1 hr1
    go_wp2_with fail
    refine (word_any b s1 b1 (by omega) _ X2.out.hb).mono ?_
    rw [HS1.out]
    rintro e w2 ⟨rfl, s2, hs2, hb2, hg2⟩
    have HS2 : Is s2.data.toList t2 := ⟨by rw [hs2, HW2.out]⟩
    have hl2 : s2.size ≤ s1.size := by
      have h1 := word_len t1 b1
      have h3 := HS1.out
      rw [← len_eq, ← len_eq, hs2, h3]
      exact h1
    rw [HW2.out] at hb2 ⊢
    dsimp only at hb2 ⊢
    have X3 := Lib.hid (X2.out.call hg2 hb2)
    have G3 := Lib.hid (grown_trans G2.out hg2)
    clear hs2 hb2 hg2
    obtain ⟨⟨q0, q1, q2⟩, ⟨qf0, qf1, qf2⟩, qlt⟩ := X3.out.facts
    have X4 := Lib.hid (X3.out.putE 1 (.int .u32 (n2 : Int)))
    have G4 := Lib.hid (grown_new (q := w1.heap.size) (by omega) 1 (.int .u32 (n2 : Int)) G3.out)
    go_wp2_with fail
    refine (data_any b s2 b2 (by omega) _ X4.out.hb).mono ?_
    rw [HS2.out, HD4.out]
    rintro e w3 ⟨ds, rfl, hds, s3, hs3, hb3, hg3⟩
    dsimp only at hds hs3 hb3
    have X5 := Lib.hid (X4.out.call hg3 hb3)
    have G5 := Lib.hid (grown_trans G4.out hg3)
    clear hb3 hg3
    clear q0 q1 q2 qf0 qf1 qf2 qlt
    obtain ⟨⟨q0, q1, q2⟩, ⟨qf0, qf1, qf2⟩, qlt⟩ := X5.out.facts
    obtain ⟨⟨r0, r1, r2⟩, ⟨rf0, rf1, rf2⟩, rlt⟩ := X5.out.rfacts
    have ner : ¬ w.heap.size = w1.heap.size := by omega
    have ner2 : ¬ w1.heap.size = w.heap.size := by omega
    go_wp2
    have X6 := X5.out.putE 2 (.string ds)
    have G6 := grown_new (q := w1.heap.size) (by omega) 2 (.string ds) G5.out
    obtain ⟨MR, MB⟩ := X6.rfin (.int .i64 4) (.int .u32 (n2 : Int)) (.string ds)
    clear X6 X2 X3 X4 X5 q0 q1 q2 qf0 qf1 qf2 qlt r0 r1 r2 rf0 rf1 rf2 rlt
    refine bodyPost_ret (Bx.res_c Tryz.results77 rfl (ev_load MR)) rfl ?_
    rw [HEV.out]
    exact ⟨ds, rfl, (by rw [hds]), _, hs3, MB, grown_new (Nat.le_refl _) _ _ (grown_new (Nat.le_refl _) _ _ (grown_new (Nat.le_refl _) _ _ G6))⟩
  by_cases c5 : k = 5
  · subst c5
    have HEV : Is (evR l bad) ⟨5, 0, d5, t5, b5⟩ := ⟨by have := HE.out; simpa using this⟩
    go_enter Tryz.func77, Tryz.ntmps77
    go_wp2_with fail
    refine (HWD.out _ (Bx.held HBX.out ((Held.refl w).alloc _))).mono ?_
    rintro e w1 ⟨rfl, s1, hs1, hb1, hg1⟩
    dsimp only at hs1 hb1 ⊢
    have HS1 : Is s1.data.toList t1 := ⟨hs1⟩
    have hl1 : s1.size ≤ 9223372036854775807 := by
      rw [← len_eq, hs1]; omega
    have hr1 : w1.heap[w.heap.size]? = some (.cells #[.int .i64 0, .int .u32 0, .string ⟨#[]⟩] 68 (0, 0)) := grown_keeps hg1 (Ne.symm (Nat.ne_of_lt hblt)) (Bx.new w _)
    have hs1z : w.heap.size < w1.heap.size := Bx.lt hr1
    have X2 : Hid (E3 (w1.alloc (.cells #[.int .i64 5, .int .u32 0, .string ⟨#[]⟩] 68)) b w.heap.size w1.heap.size #[.string s1, .bool b1] #[.int .i64 0, .int .u32 0, .string ⟨#[]⟩] #[.int .i64 5, .int .u32 0, .string ⟨#[]⟩]) :=
      Lib.hid ⟨Bx.held hb1 ((Held.refl w1).alloc _), Bx.held hr1 ((Held.refl w1).alloc _), Bx.new w1 _, Ne.symm (Nat.ne_of_lt hblt), by omega, by omega⟩
    have G2 := Lib.hid (grown_trans (grown_trans (grown_held (r := some b) ((Held.refl w).alloc (.cells #[.int .i64 0, .int .u32 0, .string ⟨#[]⟩] 68))) hg1) (grown_held (r := some b) ((Held.refl w1).alloc (.cells #[.int .i64 5, .int .u32 0, .string ⟨#[]⟩] 68))))
    clear hs1 hb1 hg1 hr1
    go_wp2_with fail
    refine (noWord_any _).mono ?_
    rintro e w2 ⟨rfl, rfl⟩
    have HS2 : Is s1.data.toList t1 := HS1
    have X3 := X2
    have G3 := G2
    obtain ⟨⟨q0, q1, q2⟩, ⟨qf0, qf1, qf2⟩, qlt⟩ := X3.out.facts
    have X4 := X3
    have G4 := G3
    go_wp2_with fail
    refine (data_any b s1 b1 (by omega) _ X4.out.hb).mono ?_
    rw [HS2.out, HD5.out]
    rintro e w3 ⟨ds, rfl, hds, s3, hs3, hb3, hg3⟩
    dsimp only at hds hs3 hb3
    have X5 := Lib.hid (X4.out.call hg3 hb3)
    have G5 := Lib.hid (grown_trans G4.out hg3)
    clear hb3 hg3
    clear q0 q1 q2 qf0 qf1 qf2 qlt
    obtain ⟨⟨q0, q1, q2⟩, ⟨qf0, qf1, qf2⟩, qlt⟩ := X5.out.facts
    obtain ⟨⟨r0, r1, r2⟩, ⟨rf0, rf1, rf2⟩, rlt⟩ := X5.out.rfacts
    have ner : ¬ w.heap.size = w1.heap.size := by omega
    have ner2 : ¬ w1.heap.size = w.heap.size := by omega
    go_wp2
    have X6 := X5.out.putE 2 (.string ds)
    have G6 := grown_new (q := w1.heap.size) (by omega) 2 (.string ds) G5.out
    obtain ⟨MR, MB⟩ := X6.rfin (.int .i64 5) (.int .u32 0) (.string ds)
    clear X6 X2 X3 X4 X5 q0 q1 q2 qf0 qf1 qf2 qlt r0 r1 r2 rf0 rf1 rf2 rlt
    refine bodyPost_ret (Bx.res_c Tryz.results77 rfl (ev_load MR)) rfl ?_
    rw [HEV.out]
    exact ⟨ds, rfl, (by rw [hds]), _, hs3, MB, grown_new (Nat.le_refl _) _ _ (grown_new (Nat.le_refl _) _ _ (grown_new (Nat.le_refl _) _ _ G6))⟩
  have HEV : Is (evR l bad) ⟨k, 0, [], t1, b1⟩ := ⟨by have := HE.out; rw [if_neg (by omega), if_neg c4, if_neg c5] at this; exact this⟩
  have cb1 : ((k : Int) == 1) = false := by simp; omega
  have cb3 : ((k : Int) == 3) = false := by simp; omega
  have cb6 : ((k : Int) == 6) = false := by simp; omega
  have cb4 : ((k : Int) == 4) = false := by simp; omega
  have cb5 : ((k : Int) == 5) = false := by simp; omega
  clear c1 c3 c6 c4 c5
  go_enter Tryz.func77, Tryz.ntmps77
  go_wp2_with fail
  refine (HWD.out _ (Bx.held HBX.out ((Held.refl w).alloc _))).mono ?_
  rintro e w1 ⟨rfl, s1, hs1, hb1, hg1⟩
  dsimp only at hs1 hb1 ⊢
  have HS1 : Is s1.data.toList t1 := ⟨hs1⟩
  have hl1 : s1.size ≤ 9223372036854775807 := by
    rw [← len_eq, hs1]; omega
  have hr1 : w1.heap[w.heap.size]? = some (.cells #[.int .i64 0, .int .u32 0, .string ⟨#[]⟩] 68 (0, 0)) := grown_keeps hg1 (Ne.symm (Nat.ne_of_lt hblt)) (Bx.new w _)
  have hs1z : w.heap.size < w1.heap.size := Bx.lt hr1
  have X2 : Hid (E3 (w1.alloc (.cells #[.int .i64 (k : Int), .int .u32 0, .string ⟨#[]⟩] 68)) b w.heap.size w1.heap.size #[.string s1, .bool b1] #[.int .i64 0, .int .u32 0, .string ⟨#[]⟩] #[.int .i64 (k : Int), .int .u32 0, .string ⟨#[]⟩]) :=
    Lib.hid ⟨Bx.held hb1 ((Held.refl w1).alloc _), Bx.held hr1 ((Held.refl w1).alloc _), Bx.new w1 _, Ne.symm (Nat.ne_of_lt hblt), by omega, by omega⟩
  have G2 := Lib.hid (grown_trans (grown_trans (grown_held (r := some b) ((Held.refl w).alloc (.cells #[.int .i64 0, .int .u32 0, .string ⟨#[]⟩] 68))) hg1) (grown_held (r := some b) ((Held.refl w1).alloc (.cells #[.int .i64 (k : Int), .int .u32 0, .string ⟨#[]⟩] 68))))
  have HR1 := Lib.hid hr1
  have HB1 := Lib.hid hb1
  have HG1 := Lib.hid (grown_trans (grown_held (r := some b) ((Held.refl w).alloc (.cells #[.int .i64 0, .int .u32 0, .string ⟨#[]⟩] 68))) hg1)
  clear hs1 hb1 hg1 hr1
  go_wp2_with fail
  refine (noWord_any _).mono ?_
  rintro e w2 ⟨rfl, rfl⟩
  have HS2 : Is s1.data.toList t1 := HS1
  have X3 := X2
  have G3 := G2
  obtain ⟨⟨q0, q1, q2⟩, ⟨qf0, qf1, qf2⟩, qlt⟩ := X3.out.facts
  have X4 := X3
  have G4 := G3
  go_wp2_with fail
  refine (noData_any _).mono ?_
  rintro e w3 ⟨rfl, rfl⟩
  have X5 := X4
  have G5 := G4
  clear q0 q1 q2 qf0 qf1 qf2 qlt
  obtain ⟨⟨q0, q1, q2⟩, ⟨qf0, qf1, qf2⟩, qlt⟩ := X5.out.facts
  obtain ⟨⟨r0, r1, r2⟩, ⟨rf0, rf1, rf2⟩, rlt⟩ := X5.out.rfacts
  clear r0 r1 r2 rf0 rf1 rf2 rlt q0 q1 q2 qf0 qf1 qf2 qlt
  have r0 := Bx.cell HR1.out 0 rfl
  have r1 := Bx.cell HR1.out 1 rfl
  have r2 := Bx.cell HR1.out 2 rfl
  have rf0 := Bx.free HR1.out 0
  have rf1 := Bx.free HR1.out 1
  have rf2 := Bx.free HR1.out 2
  have rlt := Bx.lt HR1.out
  have ner : ¬ w.heap.size = w1.heap.size := by omega
  have ner2 : ¬ w1.heap.size = w.heap.size := by omega
  go_wp2
  have MR : ((((w1.setCell ⟨w.heap.size, 0, none⟩ (.int .i64 (k : Int))).setCell ⟨w.heap.size, 1, none⟩ (.int .u32 0)).setCell ⟨w.heap.size, 2, none⟩ (.string ⟨#[]⟩)).alloc (.cells #[.int .i64 (k : Int), .int .u32 0, .string ⟨#[]⟩] 68)).heap[w.heap.size]? = some (.cells #[.int .i64 (k : Int), .int .u32 0, .string ⟨#[]⟩] 68 (0, 0)) :=
    Bx.held (Bx.set (Bx.set (Bx.set HR1.out 0 _) 1 _) 2 _) ((Held.refl _).alloc _)
  have hnb : ¬ b = w.heap.size := Nat.ne_of_lt hblt
  have MB := Bx.held (((Bx.far hnb).trans ((Bx.far hnb).trans ((Bx.far hnb).trans HB1.out))) : (((w1.setCell ⟨w.heap.size, 0, none⟩ (.int .i64 (k : Int))).setCell ⟨w.heap.size, 1, none⟩ (.int .u32 0)).setCell ⟨w.heap.size, 2, none⟩ (.string ⟨#[]⟩)).heap[b]? = _) ((Held.refl _).alloc (.cells #[.int .i64 (k : Int), .int .u32 0, .string ⟨#[]⟩] 68))
  clear X2 X3 X4 X5 r0 r1 r2 rf0 rf1 rf2 rlt
  refine bodyPost_ret (Bx.res_c Tryz.results77 rfl (ev_load MR)) rfl ?_
  rw [HEV.out]
  exact ⟨⟨#[]⟩, rfl, rfl, _, HS1.out, MB, grown_trans (grown_new (Nat.le_refl _) _ _ (grown_new (Nat.le_refl _) _ _ (grown_new (Nat.le_refl _) _ _ HG1.out))) (grown_held ((Held.refl _).alloc _))⟩
end Enc
end Go.Proofs.YthpjbffhdaaibaaGreat

set_option linter.unusedVariables false
set_option linter.unusedSimpArgs false
set_option maxRecDepth 100000
namespace Go.Proofs.YthpjbffhdaaibaaGreat
open Go.RowKit Go.Lib
namespace Enc
open Uv Lg Lgc Strs
theorem info_entry : (Tryz.prog.info? 70).map (fun i => (i.zero, i.size, i.bytes)) = some (some (.agg #[.int .u64 0, .int .i64 0, .int .u32 0, .string ⟨#[]⟩]), 4, 40) := by kernel_rfl
/-- A call hands back what a string is decoded to. -/
def DecTo (p : List Ent × Int) (w : World) (e : Ending) (w' : World) : Prop :=
  ∃ A cap, e = .returned (.tuple #[.slice A p.1.length cap, .int .i64 p.2]) ∧ Own 70 4 entC w.heap.size w' (.slice A p.1.length cap) p.1 ∧ Held w w' ∧ (∀ x ∈ p.1, EntOK x) ∧ p.1.length ≤ 400
theorem DecTo.no {p : List Ent × Int} {w w' : World} (hp : p = ([], 1900)) (h : Held w w') : DecTo p w (.returned (.tuple #[.slice none 0 0, .int .i64 1900])) w' := by
  subst hp
  exact ⟨none, 0, rfl, Own.nil w', h, fun x hx => by simp at hx, by simp⟩
theorem evR_bad (l : List UInt8) (b : Bool) (h : b = true) : (evR l b).b = true := by
  have hw : ∀ l : List UInt8, (wordR l true).2.2 = true := fun l => by
    unfold wordR; split
    · rfl
    · exact numR_bad l
  have hd : ∀ l : List UInt8, (dataR l true).2.2 = true := fun l => by
    unfold dataR bytesR
    rw [numR_bad]; rfl
  subst h
  unfold evR
  simp only [hw]
  split
  · rfl
  · split
    · exact hd _
    · split
      · exact hd _
      · rfl
theorem bytesR_lens (n : Nat) (l : List UInt8) (b : Bool) : (bytesR n l b).1.length + (bytesR n l b).2.1.length ≤ l.length := by
  unfold bytesR; split
  · simp
  · simp [List.length_take]; omega
theorem dataR_len (l : List UInt8) (b : Bool) : (dataR l b).1.length ≤ l.length ∧ (dataR l b).2.1.length ≤ l.length := by
  have h1 := numR_len l b
  have h2 := bytesR_lens (numR l b).1 (numR l b).2.1 (numR l b).2.2
  unfold dataR; omega
theorem evR_lens (l : List UInt8) (b : Bool) : (evR l b).k ≤ 4294967295 ∧ (evR l b).n ≤ 4294967295 ∧ (evR l b).d.length ≤ l.length ∧ (evR l b).t.length ≤ l.length := by
  have h1 := word_lt l b
  have h2 := word_len l b
  have h3 := word_lt (wordR l b).2.1 (wordR l b).2.2
  have h4 := word_len (wordR l b).2.1 (wordR l b).2.2
  have h5 := dataR_len (wordR l b).2.1 (wordR l b).2.2
  have h6 := dataR_len (wordR (wordR l b).2.1 (wordR l b).2.2).2.1 (wordR (wordR l b).2.1 (wordR l b).2.2).2.2
  unfold evR
  simp only
  split
  · simp only [List.length_nil]; omega
  · split
    · simp only; omega
    · split
      · simp only; omega
      · simp only [List.length_nil]; omega
/-- One entry is read. -/
theorem Fol.next_no {s rest t1 : List UInt8} {f c i at_ x : Nat} {L : List Ent} {b1 : Bool} {v : EvV} (h : Fol s f c i L rest at_) (hi : i < c) (h1 : numR rest false = (x, t1, b1)) (h2 : evR t1 b1 = v) (hb : v.b = true) : decL s f = ([], 1900) := by
  refine decL_no (h.stop hi fun y t hy hok hle hr => ?_)
  rw [hr, numR_put _ (by have := hy.t; omega)] at h1
  injection h1 with e1 h1
  injection h1 with e2 e3
  subst e1 e2 e3
  rw [evR_enc hok ⟨hy.n1, hy.n2⟩] at h2
  subst h2
  cases hb
theorem Fol.next_yes {s rest t1 : List UInt8} {f c i at_ x : Nat} {L : List Ent} {b1 : Bool} {v : EvV} {ds : ByteArray} {y : Ent} (h : Fol s f c i L rest at_) (hi : i < c) (h1 : numR rest false = (x, t1, b1)) (h2 : evR t1 b1 = v) (hd : ds.data.toList = v.d) (hat : at_ < 18446744073709551616)
    (hy : y = ⟨(at_ + x) % 18446744073709551616, v.k, v.n, ds⟩) : Fol s f c (i + 1) (L ++ [y]) v.t y.t := by
  subst hy
  refine h.step hi fun z t hz hok hle hr => ?_
  have hzt := hz.t
  rw [hr, numR_put _ (by omega)] at h1
  injection h1 with e1 h1
  injection h1 with e2 e3
  subst e1 e2 e3
  rw [evR_enc hok ⟨hz.n1, hz.n2⟩] at h2
  subst h2
  have hz1 := ok_bd hok
  have hz2 := hz.n1
  refine ⟨ent_ext ?_ ?_ ?_ hd, rfl⟩
  · simp only
    rw [show at_ + (z.t - at_) = z.t by omega]; exact Nat.mod_eq_of_lt hz.t
  · simp only; omega
  · simp only; omega
set_option maxHeartbeats 2000000 in
theorem decode_any (s : ByteArray) (f : Nat) (hs : (s.size : Int) ≤ 1000000000000) (hf : (f : Int) ≤ 18446744073709551615) (w : World) : Calls Tryz.prog 44 #[.string s, .int .u64 f] w (DecTo (decL s.data.toList f) w) := by
  obtain ⟨l, hl⟩ : ∃ l, s.data.toList = l := ⟨_, rfl⟩
  have HS := Lib.hid hl
  have hsl : l.length = s.size := by rw [← hl, len_eq]
  have hnum := fun (w : World) => number_any w.heap.size s false (by omega) (w.alloc (.cells #[.string s, .bool false] 116)) (Bx.new w _)
  rw [hl] at hnum ⊢
  obtain ⟨c, t0, b0, hn⟩ : ∃ c t0 b0, numR l false = (c, t0, b0) := ⟨_, _, _, rfl⟩
  have hcl := numR_lt l false
  have htl := numR_len l false
  rw [hn] at hnum hcl htl
  have HN := Lib.hid hn
  have HNUM := Lib.hid hnum
  simp only at hcl htl
  clear hnum hn hl
  go_enter Tryz.func44, Tryz.ntmps44
  go_wp2_with fail
  refine (HNUM.out _).mono ?_
  rintro e w1 ⟨rfl, s1, hs1, hb1, hg1⟩
  have HS1 : Is s1.data.toList t0 := ⟨hs1⟩
  have hl1 : s1.size = t0.length := by rw [← hs1, len_eq]
  have M1 : Hid (Mem w w1 [.box w.heap.size #[.string s1, .bool b0] 116]) := ((Mem.start w).alloc' (b := w.heap.size) rfl #[.string s, .bool false] 116).callBx 0 rfl hg1 hb1
  clear hs1 hb1 hg1 HNUM
  by_cases hc : (c : Int) ≤ 400
  · have hc2 : ¬ (400 : Int) < c := by omega
    have hb0 : c ≠ 0 → b0 = false := fun h => by
      cases b0
      · rfl
      · have h2 := HN.out
        unfold numR at h2
        split at h2
        · injection h2 with _ h2; injection h2 with _ h2; cases h2
        · injection h2 with h2 _; exact absurd h2.symm h
    have HF0 : Hid (Fol l f c 0 [] t0 f) := by
      cases b0
      · exact Fol.start HN.out
      · exact fun M hM => absurd hM (Fol.bad HN.out M)
    go_wp2
    have M2 := Lib.hid (M1.out.nilRow (e := 70) (s := 4) (f := entC))
    go_loopw [8, 9, 22] (fun v a i wr => ∃ (L : List Ent) (q at_ : Nat) (sr : ByteArray), a = .int .u64 (at_ : Int) ∧ at_ < 18446744073709551616 ∧ i = .int .u64 (q : Int) ∧ q ≤ c ∧ L.length = q ∧ sr.size ≤ l.length ∧ (∀ x ∈ L, EntOK x) ∧ Fol l f c q L sr.data.toList at_ ∧ Mem w wr [.box w.heap.size #[.string sr, .bool b0] 116, .row 70 4 entC w.heap.size v L]) (fun _ _ i _ => c - (RowKit.intOf i).toNat)
    case atStart => exact ⟨[], 0, f, s1, rfl, by omega, rfl, Nat.zero_le _, rfl, by omega, fun x hx => by simp at hx, by rw [HS1.out]; exact HF0.out, M2.out⟩
    case round =>
      obtain ⟨L, q, at_, sr, rfl, hat, rfl, hqc, hLq, hsr, hLok, hF, hM⟩ := hrel
      obtain ⟨A, cap, rfl, hcap, _⟩ := (hM.row 1 rfl).shape
      obtain ⟨rest, hr⟩ : ∃ rest, sr.data.toList = rest := ⟨_, rfl⟩
      rw [hr] at hF
      have HR : Is sr.data.toList rest := ⟨hr⟩
      have hrl : rest.length = sr.size := by rw [← hr, len_eq]
      have HF := Lib.hid hF
      have HLQ : Is L.length q := ⟨hLq⟩
      have HLOK := Lib.hid hLok
      have M := Lib.hid hM
      rw [hLq] at M hcap ⊢
      clear hr hF hLq hLok hM M1 M2 HF0
      by_cases hlt : q < c
      · obtain rfl : b0 = false := hb0 (by omega)
        have hlt2 : (q : Int) < c := by omega
        obtain ⟨x, t1, b1, hn1⟩ : ∃ x t1 b1, numR rest false = (x, t1, b1) := ⟨_, _, _, rfl⟩
        have hnum := number_any w.heap.size sr false (by omega) wr (M.out.blk 0 rfl)
        rw [HR.out, hn1] at hnum
        have HNUM := Lib.hid hnum
        have hxl := numR_lt rest false
        have htl2 := numR_len rest false
        rw [hn1] at hxl htl2
        simp only at hxl htl2
        have HN1 := Lib.hid hn1
        clear hnum hn1
        obtain ⟨at2, hat2⟩ : ∃ at2, (at_ + x) % 18446744073709551616 = at2 := ⟨_, rfl⟩
        have hw : IntKind.u64.wrap ((at_ : Int) + x) = (at2 : Int) := by
          simp only [IntKind.wrap, IntKind.bits, IntKind.signed, Bool.false_and, Bool.false_eq_true, if_false]
          omega
        have hat2l : at2 < 18446744073709551616 := by omega
        have HAT2 := Lib.hid hat2
        clear hat2
        go_wp2_with fail
        refine HNUM.out.mono ?_
        rintro e w2 ⟨rfl, s2, hs2, hb2, hg2⟩
        have HS2 : Is s2.data.toList t1 := ⟨hs2⟩
        have hl2 : s2.size = t1.length := by rw [← hs2, len_eq]
        have M3 := Lib.hid (M.out.callBx 0 rfl hg2 hb2)
        clear hs2 hb2 hg2 HNUM M
        obtain ⟨v, hv⟩ : ∃ v, evR t1 b1 = v := ⟨_, rfl⟩
        have hev := event_any w.heap.size s2 b1 (by omega) w2 (M3.out.blk 0 rfl)
        rw [HS2.out, hv] at hev
        have HEV := Lib.hid hev
        have HV := Lib.hid hv
        have hvl := evR_lens t1 b1
        rw [hv] at hvl
        obtain ⟨vk, vn, vd, vt, vb⟩ := v
        simp only at hvl
        clear hev hv
        go_wp2_with fail
        refine HEV.out.mono ?_
        rintro e w3 ⟨ds, rfl, hds, s3, hs3, hb3, hg3⟩
        dsimp only at hds hs3 hb3 ⊢
        have HDS : Is ds.data.toList vd := ⟨hds⟩
        have HS3 : Is s3.data.toList vt := ⟨hs3⟩
        have hl3 : s3.size = vt.length := by rw [← hs3, len_eq]
        have hld : ds.size = vd.length := by rw [← hds, len_eq]
        have M4 := Lib.hid (M3.out.callBx 0 rfl hg3 hb3)
        clear hds hs3 hb3 hg3 HEV M3
        have hn1 : vb = true → Hid (decL l f = ([], 1900)) := fun h => HF.out.next_no hlt HN1.out HV.out h
        have M5 := Lib.hid (M4.out.alloc #[.int .i64 (vk : Int), .int .u32 (vn : Int), .string ds] 68)
        have HM := Lib.hid fun (j : Nat) (v : Value) (h : (#[Value.string s3, Value.bool vb] : Array Value)[j]? = some v) => M5.out.cell 0 rfl j h
        have c0 := HM.out 0 _ rfl
        have c1 := HM.out 1 _ rfl
        have hz : w.heap.size < w3.heap.size := M4.out.lt 0 rfl
        have hz2 : ¬ w.heap.size = w3.heap.size := by omega
        by_cases hvb : vb = true
        · subst hvb
          have HNO := hn1 rfl
          clear hn1
          go_wp2
          go_ret2
          exact DecTo.no HNO.out M5.out.held
        · obtain rfl : vb = false := by simpa using hvb
          clear hvb
          clear hn1
          have M6 := Lib.hid (M5.out.skip (.cells #[.int .u64 (at2 : Int), .int .i64 (vk : Int), .int .u32 (vn : Int), .string ds] 70))
          have HY := Lib.hid (HF.out.next_yes hlt HN1.out HV.out HDS.out hat (y := ⟨at2, vk, vn, ds⟩) (by rw [HAT2.out]))
          go_wp2_with (at_builtin; refine Mem.wp_app M6.out 1 rfl rfl _ _ _ rfl _ 40 Tryz.underlying23 info_entry rfl (by decide) entC_len entC_one ⟨at2, vk, vn, ds⟩ ⟨w3.heap.size + 1, 0, none⟩ 1 rfl rfl (cells_new _ (by simp) _ _) q HLQ.out (by omega) (by decide) ?_; intro g4 cp4 w4 M7'; have M7 := Lib.hid M7'; clear M7')
          go_roundw
          case rel =>
            refine ⟨L ++ [(⟨at2, (vk : Int), (vn : Int), ds⟩ : Ent)], q + 1, at2, s3, rfl, hat2l, by go_num, by omega, by rw [List.length_append, HLQ.out]; rfl, by omega, fun y hy => ?_, by rw [HS3.out]; exact HY.out, (M7.out.take 2 : Mem w w4 [.box w.heap.size #[.string s3, .bool false] 116, .row 70 4 entC w.heap.size (.slice (some ⟨g4, 0, none⟩) (q + 1) cp4) (L ++ [(⟨at2, (vk : Int), (vn : Int), ds⟩ : Ent)])])⟩
            rcases List.mem_append.1 hy with hy | hy
            · exact HLOK.out y hy
            · rw [List.mem_singleton] at hy
              subst hy
              exact ⟨hat2l, by simp only; omega, by simp only; omega, by simp only; omega, by simp only; omega, by simp only; omega⟩
          case measure => (simp [RowKit.intOf]) <;> omega
      · obtain rfl : q = c := by omega
        have hlt2 : ¬ (q : Int) < q := by omega
        have HSL := Lib.hid (Own.reads entC_len (M.out.row 1 rfl)).1
        have henc := fun (w' : World) (k : Held wr w') => encode_any A q cap L f w' (HSL.out.held k) (by omega) HLOK.out hf
        obtain ⟨r, hr⟩ : ∃ r, encode L f = r := ⟨_, rfl⟩
        rw [hr] at henc
        have HR1 := Lib.hid hr
        have HENC := Lib.hid henc
        have HFIN := Lib.hid (show (r = (l, 0) → decL l f = (L, 0)) ∧ (r ≠ (l, 0) → decL l f = ([], 1900)) by rw [← hr]; exact HF.out.done HLOK.out)
        obtain ⟨rt, rc⟩ := r
        clear hr henc
        go_wp2_with fail
        refine (HENC.out _ (Held.refl _)).mono ?_
        rintro e w2 ⟨rfl, h2⟩
        have H2 := Lib.hid (M.out.keep h2)
        clear h2 HENC
        dsimp only
        by_cases hrc : rc = 0
        · subst hrc
          by_cases hrt : rt = l
          · subst hrt
            have hq1 : (rt == s.toList) = true := by rw [ByteArray.toList_eq, HS.out]; simp
            have hq2 : (!rt == s.toList) = false := by rw [hq1]; rfl
            have HD := Lib.hid (HFIN.out.1 rfl)
            clear HR1 HFIN HF HN HS
            go_wp2
            go_ret2
            rw [HD.out]
            exact ⟨A, cap, by rw [HLQ.out]; rfl, by rw [HLQ.out]; exact H2.out.row 1 rfl, H2.out.held, HLOK.out, by rw [HLQ.out]; omega⟩
          · have hq1 : (rt == s.toList) = false := by rw [ByteArray.toList_eq, HS.out]; simpa using hrt
            have hq2 : (!rt == s.toList) = true := by rw [hq1]; rfl
            have HD := Lib.hid (HFIN.out.2 (fun h => hrt (by injection h)))
            clear HR1 HFIN HF HN HS hrt
            go_wp2
            go_ret2
            exact DecTo.no HD.out H2.out.held
        · have hrc2 : (rc == 0) = false := by simpa using hrc
          have HD := Lib.hid (HFIN.out.2 (fun h => hrc (by injection h)))
          clear HR1 HFIN HF HN HS
          go_wp2
          go_ret2
          exact DecTo.no HD.out H2.out.held
  · have hc2 : (400 : Int) < c := by omega
    go_wp2
    go_ret2
    exact DecTo.no (decL_no (Fol.many HN.out (by omega))) M1.out.held
end Enc
end Go.Proofs.YthpjbffhdaaibaaGreat

set_option linter.unusedVariables false
set_option linter.unusedSimpArgs false
set_option maxRecDepth 100000
namespace Go.Proofs.YthpjbffhdaaibaaGreat
open Go.RowKit Go.BigFrame Go.Sort Go.Lib
namespace St
open Enc Uv Lg Lgc Strs
theorem late_iff {L : List Ent} {kn : Nat} : late L kn = true ↔ ∃ i, ∃ h : i < L.length, kn < L[i].t := by
  unfold late
  rw [List.any_eq_true]
  constructor
  · rintro ⟨x, hx, h⟩
    obtain ⟨i, hi, rfl⟩ := List.mem_iff_getElem.1 hx
    exact ⟨i, hi, of_decide_eq_true h⟩
  · rintro ⟨i, hi, h⟩
    exact ⟨_, List.getElem_mem hi, decide_eq_true h⟩
/-- A call hands back a truth value and only makes memory. -/
def BoolTo (b : Bool) (w : World) (e : Ending) (w' : World) : Prop := e = .returned (.bool b) ∧ Held w w'
theorem BoolTo.mk {b c : Bool} {w w' : World} (h : c = b) (k : Held w w') : BoolTo b w (.returned (.bool c)) w' := by subst h; exact ⟨rfl, k⟩
theorem late1_any (b t kn : Nat) (k n : Int) (d : ByteArray) (w : World) (hb : w.cell? ⟨b, 0, none⟩ = some (.int .u64 (kn : Int))) :
    Calls Tryz.prog 79 #[.agg #[.int .u64 (t : Int), .int .i64 k, .int .u32 n, .string d], .pointer (some ⟨b, 0, none⟩)] w (BoolTo (decide (kn < t)) w) := by
  have hlt : b < w.heap.size := lt_of_cell hb
  have hne : ¬ b = w.heap.size := by omega
  go_enter Tryz.func79, Tryz.ntmps79
  go_wp2
  go_ret
  exact BoolTo.mk (by first | rfl | (rw [decide_eq_decide]; omega)) ((Held.refl w).alloc _)
def IdxTo (b : Bool) (w : World) (e : Ending) (w' : World) : Prop := ∃ r : Int, e = .returned (.int .i64 r) ∧ decide (0 ≤ r) = b ∧ Held w w'
theorem index_any (A : Option Addr) (n cap b kn : Nat) (L : List Ent) (w : World) (h : Sl 4 entC w A n L) (hn : n ≤ 1000000) (hb : w.cell? ⟨b, 0, none⟩ = some (.int .u64 (kn : Int))) :
    Calls Tryz.prog 105 #[.slice A n cap, .func (Fn.func 79) #[] #[.pointer (some ⟨b, 0, none⟩)]] w (IdxTo (late L kn) w) := by
  have HS := Lib.hid h
  have HL := Lib.hid h.1
  have HB := Lib.hid hb
  clear h hb
  go_enter Tryz.func105, Tryz.ntmps105
  go_wp2
  go_loopw [8] (fun i wr => ∃ q : Nat, i = .int .i64 (q : Int) ∧ q ≤ n ∧ (∀ j (h : j < L.length), j < q → ¬ kn < L[j].t) ∧ Held w wr) (fun i _ => n - (RowKit.intOf i).toNat)
  case atStart => exact ⟨0, rfl, Nat.zero_le _, fun j h hj => by omega, Held.refl _⟩
  case round =>
    obtain ⟨q, rfl, hq, ho, hh⟩ := hrel
    have HO := Lib.hid ho
    have HH := Lib.hid hh
    clear ho
    by_cases hlt : q < n
    · obtain ⟨b1, off, t, k, nn, d, rfl, hb1, hx, x0, x1, x2, x3⟩ := entAt HS.out hh (k := q) hlt
      have z2 : (q : Int) < n := by omega
      have z3 : (0 : Int) ≤ q := by omega
      have hq2 : q < L.length := by rw [HL.out]; exact hlt
      have hxe : L[q] = ⟨t, k, nn, d⟩ := by rw [List.getElem?_eq_getElem hq2] at hx; injection hx
      have HX := Lib.hid hxe
      have HC := Lib.hid fun (w' : World) (k' : Held w w') => late1_any b t kn k nn d w' (k'.cell HB.out)
      clear hh hx hxe hb1
      go_wp2_with fail
      refine (HC.out _ HH.out).mono ?_
      rintro e w2 ⟨rfl, h2⟩
      have H2 := Lib.hid (HH.out.step h2)
      clear h2 x0 x1 x2 x3
      by_cases hk : kn < t
      · have hd : decide (kn < t) = true := decide_eq_true hk
        rw [hd]
        have hl : Hid (late L kn = true) := late_iff.2 ⟨q, hq2, by rw [HX.out]; exact hk⟩
        clear hk hd
        go_wp2
        go_ret
        exact ⟨q, rfl, by rw [hl.out]; exact decide_eq_true z3, H2.out⟩
      · have hd : decide (kn < t) = false := decide_eq_false hk
        rw [hd]
        have ho2 : Hid (∀ j (h : j < L.length), j < q + 1 → ¬ kn < L[j].t) := fun j hj hjq => by
          by_cases e : j = q
          · subst e; rw [HX.out]; exact hk
          · exact HO.out j hj (by omega)
        clear hk hd
        go_wp2
        go_roundw
        case rel => exact ⟨q + 1, by go_num, by omega, ho2.out, H2.out⟩
        case measure => (simp [RowKit.intOf]) <;> omega
    · obtain rfl : q = n := by omega
      have z2 : ¬ (q : Int) < q := by omega
      have hl : Hid (late L kn = false) := by
        show _ = _
        cases e : late L kn
        · rfl
        · obtain ⟨i, hi, hik⟩ := late_iff.1 e
          exact absurd hik (HO.out i hi (by rw [HL.out] at hi; exact hi))
      clear hh
      go_wp2
      go_ret
      exact ⟨-1, rfl, by rw [hl.out]; decide, HH.out⟩
theorem beyond_any (A : Option Addr) (n cap kn : Nat) (L : List Ent) (w : World) (h : Sl 4 entC w A n L) (hn : n ≤ 1000000) :
    Calls Tryz.prog 45 #[.slice A n cap, .int .u64 kn] w (BoolTo (late L kn) w) := by
  have HS := Lib.hid h
  clear h
  have H1 := Lib.hid (show Calls Tryz.prog 78 #[.slice A n cap, .func (Fn.func 79) #[] #[.pointer (some ⟨w.heap.size, 0, none⟩)]] (w.alloc (.cells #[.int .u64 kn] 22)) (BoolTo (late L kn) w) by
    have HI := Lib.hid (index_any A n cap w.heap.size kn L (w.alloc (.cells #[.int .u64 kn] 22)) (HS.out.held ((Held.refl w).alloc _)) hn (Bx.cell (Bx.new w _) 0 rfl))
    go_enter Tryz.func78, Tryz.ntmps78
    go_wp2_with fail
    refine HI.out.mono ?_
    rintro e w2 ⟨r, rfl, hr, h2⟩
    have HR := Lib.hid hr
    have H2 := Lib.hid (((Held.refl w).alloc _).step h2)
    clear hr h2
    go_wp2
    go_ret
    exact BoolTo.mk HR.out H2.out)
  go_enter Tryz.func45, Tryz.ntmps45
  go_wp2_with fail
  refine H1.out.mono ?_
  rintro e w2 ⟨rfl, h2⟩
  have H2 := Lib.hid h2
  clear h2
  go_wp2
  go_ret
  exact BoolTo.mk rfl H2.out
/-- A segment in memory as an argument: its fields. -/
theorem log_any (f kn : Nat) (A : Option Addr) (n cap : Nat) (es : List Ent) (B : Nat) (w : World) (h : Sg B w ⟨f, kn, A, n, cap, es⟩) :
    Calls Tryz.prog 36 #[.agg #[.int .u64 f, .int .u64 kn, .slice A n cap]] w (EncTo (logOf ⟨f, kn, es⟩) w) := by
  have hf : (f : Int) ≤ 18446744073709551615 := by have := h.f; simp only at this; omega
  have hn : n ≤ 100000 := h.n
  have H1 := Lib.hid fun (w' : World) (k : Held w w') => beyond_any A n cap kn es w' (h.sl.held k) (by omega)
  have H2 := Lib.hid fun (w' : World) (k : Held w w') => encode_any A n cap es f w' (h.sl.held k) (by omega) h.ok hf
  have HK := Lib.hid fun (w' : World) (k : Held (w.alloc (.cells #[.int .u64 f, .int .u64 kn, .slice A n cap] 25)) w') => And.intro (Bx.cell (Bx.held (Bx.new w _) k) 0 rfl) (And.intro (Bx.cell (Bx.held (Bx.new w _) k) 1 rfl) (Bx.cell (Bx.held (Bx.new w _) k) 2 rfl))
  have HA := Lib.hid ((Held.refl w).alloc (.cells #[.int .u64 f, .int .u64 kn, .slice A n cap] 25))
  clear h
  have HL : Is (logOf ⟨f, kn, es⟩) (if (decide (kn < f) || late es kn) = true then ([], 2400) else encode es f) := ⟨rfl⟩
  obtain ⟨b, hb⟩ : ∃ b, late es kn = b := ⟨_, rfl⟩
  obtain ⟨r, hr⟩ : ∃ r, encode es f = r := ⟨_, rfl⟩
  obtain ⟨v, hv⟩ : ∃ v, logOf ⟨f, kn, es⟩ = v := ⟨_, rfl⟩
  rw [hb] at H1
  rw [hr] at H2
  rw [hb, hr, hv] at HL
  rw [hv]
  clear hb hr hv
  by_cases hk : (kn : Int) < f
  · have HV : Is v ([], 2400) := ⟨by rw [HL.out, decide_eq_true (show kn < f by omega)]; rfl⟩
    clear HL H1 H2
    go_enter Tryz.func36, Tryz.ntmps36
    go_wp2
    go_ret2
    exact EncTo.mk (by first | exact HV.out | (rw [HV.out]; rfl)) HA.out
  · have HV : Is v (if b = true then ([], 2400) else r) := ⟨by rw [HL.out, decide_eq_false (show ¬ kn < f by omega)]; rfl⟩
    clear HL
    have hd : decide ((kn : Int) < f) = false := decide_eq_false hk
    go_enter Tryz.func36, Tryz.ntmps36
    go_wp2_with fail
    refine (H1.out _ HA.out).mono ?_
    rintro e w2 ⟨rfl, h2⟩
    obtain ⟨c0, c1, c2⟩ := HK.out _ h2
    have W2 := Lib.hid (HA.out.step h2)
    clear h2 H1
    cases b
    · have HV2 : Is v r := ⟨HV.out⟩
      clear HV
      go_wp2_with fail
      refine (H2.out _ W2.out).mono ?_
      rintro e w3 ⟨rfl, h3⟩
      have W3 := Lib.hid (W2.out.step h3)
      clear c0 c1 c2 h3
      go_wp2
      go_ret2
      rw [HV2.out]
      exact ⟨rfl, W3.out⟩
    · have HV2 : Is v ([], 2400) := ⟨HV.out⟩
      clear HV
      go_wp2
      go_ret2
      exact EncTo.mk (by first | exact HV2.out | (rw [HV2.out]; rfl)) W2.out
theorem encodes_any (f kn : Nat) (A : Option Addr) (n cap : Nat) (es : List Ent) (B : Nat) (w : World) (h : Sg B w ⟨f, kn, A, n, cap, es⟩) :
    Calls Tryz.prog 50 #[.agg #[.int .u64 f, .int .u64 kn, .slice A n cap]] w (BoolTo (segOk ⟨f, kn, es⟩) w) := by
  have HA := Lib.hid ((Held.refl w).alloc (.cells #[.int .u64 f, .int .u64 kn, .slice A n cap] 25))
  have H1 := Lib.hid (log_any f kn A n cap es B (w.alloc (.cells #[.int .u64 f, .int .u64 kn, .slice A n cap] 25)) (h.held HA.out))
  have HS : Is (segOk ⟨f, kn, es⟩) (decide ((logOf ⟨f, kn, es⟩).2 = 0)) := ⟨rfl⟩
  obtain ⟨v, hv⟩ : ∃ v, logOf ⟨f, kn, es⟩ = v := ⟨_, rfl⟩
  rw [hv] at H1 HS
  obtain ⟨s, c⟩ := v
  clear hv h
  go_enter Tryz.func50, Tryz.ntmps50
  go_wp2_with fail
  refine H1.out.mono ?_
  rintro e w2 ⟨rfl, h2⟩
  have W2 := Lib.hid (HA.out.step h2)
  clear h2 H1
  dsimp only
  by_cases hc : c = 0
  · have hcb : (c == 0) = true := by simpa using hc
    have HS2 : Is (segOk ⟨f, kn, es⟩) true := ⟨by rw [HS.out]; exact decide_eq_true hc⟩
    clear HS hc
    go_wp2
    go_ret
    exact BoolTo.mk (by rw [HS2.out]) W2.out
  · have hcb : (c == 0) = false := by simpa using hc
    have HS2 : Is (segOk ⟨f, kn, es⟩) false := ⟨by rw [HS.out]; exact decide_eq_false hc⟩
    clear HS hc
    go_wp2
    go_ret
    exact BoolTo.mk (by rw [HS2.out]) W2.out
end St
end Go.Proofs.YthpjbffhdaaibaaGreat

set_option linter.unusedVariables false
set_option maxRecDepth 100000
namespace Go.Proofs.YthpjbffhdaaibaaGreat
open Go.RowKit
namespace SlcEn
theorem info : (Tryz.prog.info? 70).map (fun i => (i.zero, i.size, i.bytes)) = some (some (.agg #[.int .u64 0, .int .i64 0, .int .u32 0, .string ⟨#[]⟩]), 4, 40) := by kernel_rfl
theorem zero (w : World) : (zeroValue 70).run Tryz.prog w = .ok (.agg #[.int .u64 0, .int .i64 0, .int .u32 0, .string ⟨#[]⟩]) w := by kernel_rfl
theorem zcells (n : Nat) : ∀ u ∈ (Builtin.zeroCells (Value.cells (.agg #[.int .u64 0, .int .i64 0, .int .u32 0, .string ⟨#[]⟩])) n).toList, u.oneCell' = true := by
  intro u hu
  simp only [Builtin.zeroCells, Array.toList_map, List.mem_map] at hu
  obtain ⟨i, _, rfl⟩ := hu
  have hs : (Value.cells (.agg #[.int .u64 0, .int .i64 0, .int .u32 0, .string ⟨#[]⟩])).size = 4 := rfl
  rw [hs]
  have hm : i % 4 < 4 := Nat.mod_lt _ (by decide)
  generalize i % 4 = k at hm
  match k, hm with
  | 0, _ => rfl
  | 1, _ => rfl
  | 2, _ => rfl
  | 3, _ => rfl
  | k + 4, h => omega
section
variable {α : Type} {f : α → List Value}
theorem clone_any (hf : ∀ x, (f x).length = 4) (hf1 : ∀ x, ∀ u ∈ f x, u.oneCell' = true) (A : Option Addr) (n cap : Nat) (L : List α) (w : World) (h : Sl 4 f w A n L) (hn : A = none → n = 0) (hmax : n ≤ 1099511627776) :
    Calls Tryz.prog 85 #[.slice A n cap] w (Sg.New 70 4 f L w) := by
  have hlen := h.1
  have q := fun (w : World) (a : Option Addr) (n c n' c' : Nat) => Lib.run_eql_slice_nil (P := Tryz.prog) w 23 70 a n c n' c' Tryz.underlying23
  cases A with
  | none =>
    have h0 := hn rfl
    have hL : L = [] := List.eq_nil_of_length_eq_zero (by rw [hlen, h0])
    subst hL h0
    have hfin : Hid (Sg.New 70 4 f ([] : List α) w (.returned (.slice none 0 0)) w) := Sg.New.mk (Own.nil w) (Held.refl w)
    clear h hlen hn
    go_enter Tryz.func85, Tryz.ntmps85
    go_wp2
    go_ret
    exact hfin.out
  | some ad =>
    have hnw := Sg.sl_news (s := 4) hf (by decide) (h.held (((Held.refl w).alloc (.cells #[] 70))))
    have HN := Lib.hid hnw
    have HL := Lib.hid hlen
    clear h hlen hn hnw
    go_enter Tryz.func85, Tryz.ntmps85
    go_wp2_with (at_builtin; refine Own.apps _ rfl _ _ _ rfl _ 40 Tryz.underlying23 info rfl (by decide) hf hf1 w ((Held.refl w).alloc _) (.slice (some ⟨w.heap.size, 0, none⟩) 0 0) ([] : List α) L ad n _ rfl (Own.empty (Nat.le_refl _)) rfl HL.out HN.out (by simp; omega) (by decide) ?_; intro v1 w1 hown1 hheld1 _)
    go_ret
    exact Sg.New.mk hown1 hheld1
end
end SlcEn
end Go.Proofs.YthpjbffhdaaibaaGreat
