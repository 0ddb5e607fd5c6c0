/-
  The laws of chapter 20: whatever bytes are read.
-/
import Derived.Test.YtgoiglmpailagaaLawCp
import Derived.Test.YtgoiglmpailagaaFlipB
import Derived.Test.YtgoiglmpailagaaMkR
import Derived.Deep.RegionHeld3
set_option linter.unusedVariables false
set_option maxRecDepth 100000
namespace Go.Proofs.Ytgoiglmpailagaa
open Go.RowKit
open By
open Rw (IsRow bd_i64)
namespace Cp
theorem both (t : ByteArray) (mo : Int) (ht : t.size ≤ 1500) (hm : mo ≤ 9223372036854775807) : ∃ (x : ByteArray) (e : Int), (∀ w, Calls Try.prog 12 #[.string t, .int .i64 mo] w fun r w' => r = .returned (.tuple #[.string x, .int .i64 e]) ∧ Held w w') ∧
    (∀ w, Calls Try.prog 13 #[.string t, .int .i64 mo] w fun r w' => r = .returned (.tuple #[.string x, .int .i64 e]) ∧ Held w w') :=
  ⟨_, _, fun w => dec_any t mo w (by omega) hm, fun w => dec_ref t mo w (by omega) hm⟩
theorem reads_law (s : ByteArray) (raw : Bool) (o : Option Addr) (len cap : Nat) (z : List Int) (at' b most : Int) (hs : s.size ≤ maxLen) (ha : (Lit.int .i64 at').wf = true) (hb : (Lit.int .i64 b).wf = true) (hm : (Lit.int .i64 most).wf = true) (W : World) (h : IsRow .i64 W o len cap z) :
    Calls Try.prog 4 #[.string s, .bool raw, .slice o len cap, .int .i64 at', .int .i64 b, .int .i64 most] W fun e w' => e = .returned (.bool true) ∧ Below W.heap.size W w' := by
  obtain ⟨L, hL, hmax, hcell⟩ := view_of h
  have HT := Lib.hid (text_any o len cap L W hL hmax hcell)
  have hs' : (s.size : Int) ≤ 9223372036854775807 := by unfold maxLen at hs; omega
  have hab := bd_i64 ha
  have hmb := bd_i64 hm
  clear h hL hmax hcell ha hb hm hs
  cases raw with
  | true =>
    by_cases h15 : (1500 : Int) < s.size
    · go_enter Try.func4, Try.ntmps4
      go_wp2_with (go_at_call 8; refine (awake_any _).mono ?_; rintro e w1 ⟨rfl, h1⟩)
      go_ret
      exact ⟨rfl, h1⟩
    · obtain ⟨x, er, hd, hr⟩ := both s most (by omega) (by omega)
      have HD := Lib.hid hd
      have HR := Lib.hid hr
      clear hd hr
      go_enter Try.func4, Try.ntmps4
      go_wp2_with fail
      refine (HD.out _).mono ?_; rintro r w1 ⟨rfl, h1⟩; have H1 := Lib.hid h1; clear h1
      go_wp2_with fail
      refine (HR.out _).mono ?_; rintro r w2 ⟨rfl, h2⟩; have H2 := Lib.hid (H1.out.step h2); clear h2
      go_wp2_with (go_at_call 8; refine (awk W _ H2.out).mono ?_; rintro e w4 ⟨rfl, h4⟩)
      go_ret
      exact ⟨rfl, h4⟩
  | false =>
    go_enter Try.func4, Try.ntmps4
    go_wp2_with fail
    refine HT.out.mono ?_
    rintro e w0 ⟨t, rfl, ht, h0⟩
    have H0 := Lib.hid h0
    clear h0
    obtain ⟨c, hcs, HC⟩ : ∃ c : ByteArray, c.size ≤ 1600 ∧ Hid (∀ w, Calls Try.prog 10 #[.string t] w fun e w' => e = .returned (.string c) ∧ Held w w') := by
      refine ⟨⟨(compress t.data.toList).toArray⟩, ?_, fun w => compress_ref t w (by omega)⟩
      have hl := compress_len t.data.toList
      rw [size_len] at hl
      show (compress t.data.toList).toArray.size ≤ _
      rw [List.size_toArray]; omega
    go_wp2_with fail
    refine (HC.out _).mono ?_
    rintro e w1 ⟨rfl, h1⟩
    have H1 := Lib.hid (H0.out.step h1)
    clear h1
    have hmo := Mk.round_bd most 2000 (by omega)
    obtain ⟨mo, hmo2⟩ : ∃ mo, Mk.round most 2000 = mo := ⟨_, rfl⟩
    rw [hmo2] at hmo
    have HMO := Lib.hid hmo2
    clear hmo2
    by_cases hc0 : c.size = 0
    · have hce := empty_of hc0
      subst hce
      obtain ⟨C, cap2, hC, hCat, hconv⟩ := By.bytes_of ⟨#[]⟩ w1
      have hbk : ∀ w', (convert 27 9 (.slice (some ⟨w1.heap.size, 0, none⟩) 0 cap2)).run Try.prog w' = .ok (.string ⟨#[]⟩) w' := fun w' => By.bytes_back w' ⟨w1.heap.size, 0, none⟩ cap2 [] (fun j hj => by cases hj)
      have H5 := Lib.hid (H1.out.alloc (.cells C 5 (C.size, C.size + 1))).drew.drew
      obtain ⟨T, hT, hTl⟩ : ∃ T : ByteArray, T = ⟨#[]⟩ ∧ T.size = 0 := ⟨_, rfl, rfl⟩
      rw [← hT] at hbk
      clear hT hC hCat
      have hconv' : (convert 9 27 (.string ⟨#[]⟩)).run Try.prog w1 = .ok (.slice (some ⟨w1.heap.size, 0, none⟩) 0 cap2) (w1.drew.alloc (.cells C 5 (C.size, C.size + 1))) := hconv
      clear hconv
      go_wp2
      go_region_held3 (fun _ => True) (trivial) (first | (go_at_call 11; refine (Mk.round_any _ _ (by omega) (by omega) (by decide) (by decide) _).mono ?_; rintro e w3 ⟨rfl, rfl⟩; rw [HMO.out]))
      all_goals
        have h15 : ¬ (1500 : Int) < T.size := by omega
        obtain ⟨x, er, hd, hr⟩ := both T mo (by omega) (by omega)
        have HD := Lib.hid hd
        have HR := Lib.hid hr
        clear hd hr
        go_wp2_with fail
        refine (HD.out _).mono ?_; rintro r w6 ⟨rfl, h6⟩; have H6 := Lib.hid (H5.out.step h6); clear h6
        go_wp2_with fail
        refine (HR.out _).mono ?_; rintro r w7 ⟨rfl, h7⟩; have H7 := Lib.hid (H6.out.step h7); clear h7
        go_wp2_with (go_at_call 8; refine (awk W _ H7.out).mono ?_; rintro e w4 ⟨rfl, h4⟩)
        go_ret
        exact ⟨rfl, h4⟩
    · have hj := Mk.round_bd at' c.size (by omega)
      obtain ⟨j, hj2⟩ : ∃ j : Nat, Mk.round at' c.size = j := ⟨(Mk.round at' c.size).toNat, by omega⟩
      rw [hj2] at hj
      have HJ := Lib.hid hj2
      clear hj2
      obtain ⟨y, hy⟩ := (⟨_, Mk.wrap8 (bits .and .i64 b 255)⟩ : ∃ y : UInt8, IntKind.u8.wrap (bits .and .i64 b 255) = (y.toNat : Int))
      obtain ⟨C, cap2, hconv, hfz, hcl, hback⟩ := FlipB.facts c w1 j (by omega) y
      have HBK := Lib.hid hback
      clear hback
      have hc0' : (0 : Int) < c.size := by omega
      go_wp2_with (first | (go_at_call 11; refine (Mk.round_any _ _ (by omega) (by omega) (by omega) (by omega) _).mono ?_; rintro e w3 ⟨rfl, rfl⟩; rw [HJ.out]))
      have hbk1 : (convert 27 9 (.slice (some ⟨w1.heap.size, 0, none⟩) c.size cap2)).run Try.prog ((w1.alloc (.cells C 5 (C.size, C.size + 1))).setCell ⟨w1.heap.size, j, none⟩ (.int .u8 y.toNat)).drew = .ok (.string ⟨(c.data.toList.set j y).toArray⟩) ((w1.alloc (.cells C 5 (C.size, C.size + 1))).setCell ⟨w1.heap.size, j, none⟩ (.int .u8 y.toNat)).drew := HBK.out 1
      have hbk2 : (convert 27 9 (.slice (some ⟨w1.heap.size, 0, none⟩) c.size cap2)).run Try.prog ((w1.alloc (.cells C 5 (C.size, C.size + 1))).setCell ⟨w1.heap.size, j, none⟩ (.int .u8 y.toNat)).drew.drew = .ok (.string ⟨(c.data.toList.set j y).toArray⟩) ((w1.alloc (.cells C 5 (C.size, C.size + 1))).setCell ⟨w1.heap.size, j, none⟩ (.int .u8 y.toNat)).drew.drew := HBK.out 2
      have hbk3 : (convert 27 9 (.slice (some ⟨w1.heap.size, 0, none⟩) c.size cap2)).run Try.prog ((w1.alloc (.cells C 5 (C.size, C.size + 1))).setCell ⟨w1.heap.size, j, none⟩ (.int .u8 y.toNat)).drew.drew.drew = .ok (.string ⟨(c.data.toList.set j y).toArray⟩) ((w1.alloc (.cells C 5 (C.size, C.size + 1))).setCell ⟨w1.heap.size, j, none⟩ (.int .u8 y.toNat)).drew.drew.drew := HBK.out 3
      have H4 : Hid (Held W ((w1.alloc (.cells C 5 (C.size, C.size + 1))).setCell ⟨w1.heap.size, j, none⟩ (.int .u8 y.toNat))) := (H1.out.alloc _).set H1.out.le _
      have H5 := Lib.hid H4.out.drew.drew
      obtain ⟨T, hT, hTl⟩ : ∃ T : ByteArray, T = ⟨(c.data.toList.set j y).toArray⟩ ∧ T.size = c.size := ⟨_, rfl, by show (c.data.toList.set j y).toArray.size = _; rw [List.size_toArray, List.length_set, size_len]⟩
      rw [← hT] at hbk1 hbk2 hbk3
      clear hT
      go_region_held3 (fun w' => (convert 27 9 (.slice (some ⟨w1.heap.size, 0, none⟩) c.size cap2)).run Try.prog w' = .ok (.string T) w') (first | exact hbk2 | exact hbk1 | exact hbk3) (first | (go_at_call 11; refine (Mk.round_any _ _ (by omega) (by omega) (by decide) (by decide) _).mono ?_; rintro e w3 ⟨rfl, rfl⟩; rw [HMO.out]))
      all_goals
        by_cases h15 : (1500 : Int) < T.size
        · go_wp2_with (go_at_call 8; refine (awk W _ H5.out).mono ?_; rintro e w4 ⟨rfl, h4⟩)
          go_ret
          exact ⟨rfl, h4⟩
        · obtain ⟨x, er, hd, hr⟩ := both T mo (by omega) (by omega)
          have HD := Lib.hid hd
          have HR := Lib.hid hr
          clear hd hr
          go_wp2_with fail
          refine (HD.out _).mono ?_; rintro r w6 ⟨rfl, h6⟩; have H6 := Lib.hid (H5.out.step h6); clear h6
          go_wp2_with fail
          refine (HR.out _).mono ?_; rintro r w7 ⟨rfl, h7⟩; have H7 := Lib.hid (H6.out.step h7); clear h7
          go_wp2_with (go_at_call 8; refine (awk W _ H7.out).mono ?_; rintro e w4 ⟨rfl, h4⟩)
          go_ret
          exact ⟨rfl, h4⟩
end Cp
end Go.Proofs.Ytgoiglmpailagaa
