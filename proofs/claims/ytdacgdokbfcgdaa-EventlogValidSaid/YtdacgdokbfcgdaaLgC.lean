/-
  Contracts: sealed segments: the readers, Seal and Open of eventlog and of its reference compute the plain functions of Lg.
-/
import Derived.Test.YtdacgdokbfcgdaaStr
import Derived.Test.YtdacgdokbfcgdaaLg
import Derived.Test.YtdacgdokbfcgdaaRd
import Derived.Test.YtdacgdokbfcgdaaSl
import Derived.Lib.QuietBelow
set_option linter.unusedVariables false
set_option maxRecDepth 100000
namespace Go.Proofs.Ytdacgdokbfcgdaa
open Go.RowKit
namespace Lgc
open Lg Strs
theorem box_cell {w : World} {q : Nat} {cs : Array Value} {t : TypeId} (h : w.heap[q]? = some (.cells cs t (0, 0))) (j : Nat) {v : Value} (hv : cs[j]? = some v) : w.cell? ⟨q, j, none⟩ = some v := by simp [World.cell?, h, hv]
theorem box_free {w : World} {q : Nat} {cs : Array Value} {t : TypeId} (h : w.heap[q]? = some (.cells cs t (0, 0))) (j : Nat) : w.frozen? ⟨q, j, none⟩ = false := by simp [World.frozen?, h]
theorem box_set {w : World} {q : Nat} {cs : Array Value} {t : TypeId} (h : w.heap[q]? = some (.cells cs t (0, 0))) (j : Nat) (v : Value) : (w.setCell ⟨q, j, none⟩ v).heap[q]? = some (.cells (cs.setIfInBounds j v) t (0, 0)) := by
  simp [World.setCell, Array.getElem?_modify, h]
theorem box_new (w : World) (o : Obj) : (w.alloc o).heap[w.heap.size]? = some o := heap_alloc_new w o
theorem box_lt {w : World} {q : Nat} {o : Obj} (h : w.heap[q]? = some o) : q < w.heap.size := (Array.getElem?_eq_some_iff.1 h).1
theorem grown_set (w : World) (q j : Nat) (v : Value) : w.grownBy (w.setCell ⟨q, j, none⟩ v) (some q) :=
  ⟨rfl, rfl, rfl, by simp [World.setCell], fun k hk hne => by simp [World.setCell, Array.getElem?_modify]; intro e; exact absurd (by rw [e]) hne⟩
theorem grown_refl (w : World) (r : Option Nat) : w.grownBy w r := ⟨rfl, rfl, rfl, Nat.le_refl _, fun _ _ _ => rfl⟩
theorem grown_trans {w a b : World} {r : Option Nat} (h : w.grownBy a r) (k : a.grownBy b r) : w.grownBy b r :=
  ⟨k.os.trans h.os, k.tape.trans h.tape, k.output.trans h.output, Nat.le_trans h.size k.size, fun q hq hr => (k.block q (Nat.lt_of_lt_of_le hq h.size) hr).trans (h.block q hq hr)⟩
theorem grown_held {w a : World} {r : Option Nat} (h : Held w a) : w.grownBy a r := ⟨h.os, h.tape, h.output, h.size, fun q hq _ => h.block q hq⟩
theorem held_of {W w a : World} {q : Nat} (h : Held W w) (hg : w.grownBy a (some q)) (hq : W.heap.size ≤ q) : Held W a :=
  Below.grown h hg h.size (fun k hk => by injection hk with hk; omega)
theorem ext_drop (t : ByteArray) (q : Nat) : (t.extract q t.size).data.toList = t.data.toList.drop q := by
  rw [ByteArray.data_extract, Array.toList_extract, List.extract_eq_take_drop, List.take_of_length_le (by simp)]
theorem ext_take (t : ByteArray) (q : Nat) : (t.extract 0 q).data.toList = t.data.toList.take q := by
  rw [ByteArray.data_extract, Array.toList_extract, List.extract_eq_take_drop]; simp
theorem len_eq (t : ByteArray) : t.data.toList.length = t.size := by simp
/-- What a reader leaves in its box. -/
def Left (T : TypeId) (b : Nat) (l : List UInt8) (bad : Bool) (w w' : World) : Prop := ∃ s : ByteArray, s.data.toList = l ∧ w'.heap[b]? = some (.cells #[.string s, .bool bad] T (0, 0)) ∧ w.grownBy w' (some b)
def Reads (T : TypeId) (v : Value) (b : Nat) (l : List UInt8) (bad : Bool) (w : World) (e : Ending) (w' : World) : Prop := e = .returned v ∧ Left T b l bad w w'
theorem numR_yes {l : List UInt8} (h : Uv.uvB l = true) : numR l false = (Uv.uvX l, l.drop (Uv.uvN l), false) := by unfold numR; rw [h]; rfl
theorem numR_no {l : List UInt8} {b : Bool} (h : (Uv.uvB l && !b) = false) : numR l b = (0, l, true) := by unfold numR; rw [h]; rfl
theorem number_any (b : Nat) (s : ByteArray) (bad : Bool) (hs : s.size ≤ 9223372036854775807) (w : World) (hb : w.heap[b]? = some (.cells #[.string s, .bool bad] 49 (0, 0))) :
    Calls Try.prog 20 #[.pointer (some ⟨b, 0, none⟩)] w (Reads 49 (.int .u64 (numR s.data.toList bad).1) b (numR s.data.toList bad).2.1 (numR s.data.toList bad).2.2 w) := by
  have c0 : w.cell? ⟨b, 0, none⟩ = some (.string s) := box_cell hb 0 rfl
  have c1 : w.cell? ⟨b, 1, none⟩ = some (.bool bad) := box_cell hb 1 rfl
  have f0 := box_free hb 0
  have f1 := box_free hb 1
  have HB := Lib.hid hb
  clear hb
  have hn := Uv.uvN_le s.data.toList
  rw [len_eq] at hn
  cases hu : Uv.uvB s.data.toList
  · have H := Lib.hid (numR_no (l := s.data.toList) (b := bad) (by rw [hu]; rfl))
    go_enter Try.func20, Try.ntmps20
    go_wp2_with (go_at_call 34; refine (uv_any s hs _).mono ?_; rintro e w' ⟨rfl, rfl⟩; rw [hu])
    go_ret
    refine ⟨by rw [H.out]; rfl, s, by rw [H.out], ?_, grown_set _ _ _ _⟩
    rw [H.out, box_set HB.out]; rfl
  · have HN := Lib.hid hu
    obtain ⟨n, hn'⟩ : ∃ n, Uv.uvN s.data.toList = n := ⟨_, rfl⟩
    have HNN := Lib.hid hn'
    rw [hn'] at hn
    clear hn'
    have i1 : (n : Int) ≤ (s.size : Int) := by omega
    cases bad
    · have H := Lib.hid (numR_yes hu)
      clear hu
      go_enter Try.func20, Try.ntmps20
      go_wp2_with (go_at_call 34; refine (uv_any s hs _).mono ?_; rintro e w' ⟨rfl, rfl⟩; rw [HN.out, HNN.out])
      go_ret
      refine ⟨by rw [H.out]; rfl, s.extract n s.size, by rw [H.out, HNN.out, ext_drop], ?_, grown_set _ _ _ _⟩
      rw [H.out, box_set HB.out]; rfl
    · have H := Lib.hid (numR_no (l := s.data.toList) (b := true) (by simp))
      clear hu
      go_enter Try.func20, Try.ntmps20
      go_wp2_with (go_at_call 34; refine (uv_any s hs _).mono ?_; rintro e w' ⟨rfl, rfl⟩; rw [HN.out])
      go_ret
      refine ⟨by rw [H.out]; rfl, s, by rw [H.out], ?_, grown_set _ _ _ _⟩
      rw [H.out, box_set HB.out]; rfl
theorem number_ref_any (b : Nat) (s : ByteArray) (bad : Bool) (hs : s.size ≤ 9223372036854775807) (w : World) (hb : w.heap[b]? = some (.cells #[.string s, .bool bad] 55 (0, 0))) :
    Calls Try.prog 25 #[.pointer (some ⟨b, 0, none⟩)] w (Reads 55 (.int .u64 (numR s.data.toList bad).1) b (numR s.data.toList bad).2.1 (numR s.data.toList bad).2.2 w) := by
  have c0 : w.cell? ⟨b, 0, none⟩ = some (.string s) := box_cell hb 0 rfl
  have c1 : w.cell? ⟨b, 1, none⟩ = some (.bool bad) := box_cell hb 1 rfl
  have f0 := box_free hb 0
  have f1 := box_free hb 1
  have HB := Lib.hid hb
  clear hb
  have hn := Uv.uvN_le s.data.toList
  rw [len_eq] at hn
  have HN0 := fun (x : Bool) (h : Uv.uvB s.data.toList = x) => Lib.hid h
  obtain ⟨n, hn'⟩ : ∃ n, Uv.uvN s.data.toList = n := ⟨_, rfl⟩
  have HNN := Lib.hid hn'
  rw [hn'] at hn
  clear hn'
  have i1 : (n : Int) ≤ (s.size : Int) := by omega
  cases bad
  · cases hu : Uv.uvB s.data.toList
    · have H := Lib.hid (numR_no (l := s.data.toList) (b := false) (by rw [hu]; rfl))
      have HN := HN0 _ hu
      clear hu HN0
      go_enter Try.func25, Try.ntmps25
      go_wp2_with (go_at_call 35; refine (uv_ref_any s hs _).mono ?_; rintro e w' ⟨rfl, rfl⟩; rw [HN.out])
      go_ret
      refine ⟨by rw [H.out]; rfl, s, by rw [H.out], ?_, grown_set _ _ _ _⟩
      rw [H.out, box_set HB.out]; rfl
    · have H := Lib.hid (numR_yes hu)
      have HN := HN0 _ hu
      clear hu HN0
      go_enter Try.func25, Try.ntmps25
      go_wp2_with (go_at_call 35; refine (uv_ref_any s hs _).mono ?_; rintro e w' ⟨rfl, rfl⟩; rw [HN.out, HNN.out])
      go_ret
      refine ⟨by rw [H.out]; rfl, s.extract n s.size, by rw [H.out, HNN.out, ext_drop], ?_, grown_set _ _ _ _⟩
      rw [H.out, box_set HB.out]; rfl
  · have H := Lib.hid (numR_no (l := s.data.toList) (b := true) (by simp))
    clear HN0
    go_enter Try.func25, Try.ntmps25
    go_wp2_with (go_at_call 35; refine (uv_ref_any s hs _).mono ?_; rintro e w' ⟨rfl, rfl⟩)
    go_ret
    refine ⟨by rw [H.out]; rfl, s, by rw [H.out], ?_, grown_set _ _ _ _⟩
    rw [H.out, box_set HB.out]; rfl
def ReadsS (T : TypeId) (d : List UInt8) (b : Nat) (l : List UInt8) (bad : Bool) (w : World) (e : Ending) (w' : World) : Prop := ∃ t : ByteArray, e = .returned (.string t) ∧ t.data.toList = d ∧ Left T b l bad w w'
theorem bytesR_no {n : Nat} {l : List UInt8} {b : Bool} (h : (b || decide (l.length < n)) = true) : bytesR n l b = ([], l, true) := by unfold bytesR; rw [if_pos h]
theorem bytesR_yes {n : Nat} {l : List UInt8} (h : ¬ l.length < n) : bytesR n l false = (l.take n, l.drop n, false) := by unfold bytesR; rw [if_neg (by simp; omega)]
theorem data_any (b : Nat) (s : ByteArray) (bad : Bool) (hs : s.size ≤ 9223372036854775807) (w : World) (hb : w.heap[b]? = some (.cells #[.string s, .bool bad] 49 (0, 0))) :
    Calls Try.prog 21 #[.pointer (some ⟨b, 0, none⟩)] w (ReadsS 49 (dataR s.data.toList bad).1 b (dataR s.data.toList bad).2.1 (dataR s.data.toList bad).2.2 w) := by
  have hll := numR_len s.data.toList bad
  have hlt := numR_lt s.data.toList bad
  rw [len_eq] at hll
  have HD : Hid (dataR s.data.toList bad = bytesR (numR s.data.toList bad).1 (numR s.data.toList bad).2.1 (numR s.data.toList bad).2.2) := rfl
  have hnum := Lib.hid (number_any b s bad hs w hb)
  obtain ⟨⟨n, l1, b1⟩, hN⟩ : ∃ x, numR s.data.toList bad = x := ⟨_, rfl⟩
  rw [hN] at hll hlt HD hnum
  simp only at hll hlt HD hnum
  clear hN
  go_enter Try.func21, Try.ntmps21
  go_wp2_with fail
  refine hnum.out.mono ?_
  rintro e w1 ⟨rfl, s1, hs1, hb1, hg1⟩
  have hsz : s1.size = l1.length := by rw [← hs1, len_eq]
  have i1 : (s1.size : Int) ≤ 9223372036854775807 := by omega
  have hn64 : (n : Int) ≤ 18446744073709551615 := by omega
  have c0 : w1.cell? ⟨b, 0, none⟩ = some (.string s1) := box_cell hb1 0 rfl
  have c1 : w1.cell? ⟨b, 1, none⟩ = some (.bool b1) := box_cell hb1 1 rfl
  have f0 := box_free hb1 0
  have f1 := box_free hb1 1
  have HB := Lib.hid hb1
  have HG := Lib.hid hg1
  have HS1 := Lib.hid hs1
  have HSZ := Lib.hid hsz
  clear hb1 hg1 hs1 hsz hb hnum hll hlt
  cases b1
  · by_cases hlt : (s1.size : Int) < (n : Int)
    · have H := Lib.hid (HD.out.trans (bytesR_no (by rw [← HSZ.out]; simp; omega)))
      go_wp2
      go_ret
      refine ⟨_, rfl, by rw [H.out], s1, by rw [H.out]; exact HS1.out, ?_, grown_trans HG.out (grown_set _ _ _ _)⟩
      rw [H.out, box_set HB.out]; rfl
    · have H := Lib.hid (HD.out.trans (bytesR_yes (by rw [← HSZ.out]; omega)))
      have i2 : (n : Int) ≤ (s1.size : Int) := by omega
      go_wp2
      go_ret
      refine ⟨_, rfl, by rw [H.out]; exact (ext_take _ _).trans (by rw [HS1.out]), s1.extract n s1.size, by rw [H.out, ext_drop, HS1.out], ?_, grown_trans HG.out (grown_set _ _ _ _)⟩
      rw [H.out, box_set HB.out]; rfl
  · have H := Lib.hid (HD.out.trans (bytesR_no (by simp)))
    go_wp2
    go_ret
    refine ⟨_, rfl, by rw [H.out], s1, by rw [H.out]; exact HS1.out, ?_, grown_trans HG.out (grown_set _ _ _ _)⟩
    rw [H.out, box_set HB.out]; rfl
theorem bytes_ref_any (b : Nat) (s1 : ByteArray) (b1 : Bool) (n : Int) (h0 : 0 ≤ n) (hn64 : n ≤ 18446744073709551615) (hs : s1.size ≤ 9223372036854775807) (w1 : World) (hb1 : w1.heap[b]? = some (.cells #[.string s1, .bool b1] 55 (0, 0))) :
    Calls Try.prog 26 #[.pointer (some ⟨b, 0, none⟩), .int .u64 n] w1 (ReadsS 55 (bytesR n.toNat s1.data.toList b1).1 b (bytesR n.toNat s1.data.toList b1).2.1 (bytesR n.toNat s1.data.toList b1).2.2 w1) := by
  obtain ⟨n, rfl⟩ := Int.eq_ofNat_of_zero_le h0
  rw [Int.toNat_natCast]
  have i1 : (s1.size : Int) ≤ 9223372036854775807 := by omega
  have c0 : w1.cell? ⟨b, 0, none⟩ = some (.string s1) := box_cell hb1 0 rfl
  have c1 : w1.cell? ⟨b, 1, none⟩ = some (.bool b1) := box_cell hb1 1 rfl
  have f0 := box_free hb1 0
  have f1 := box_free hb1 1
  have HB := Lib.hid hb1
  have HSZ := Lib.hid (len_eq s1)
  clear hb1
  cases b1
  · by_cases hlt : (s1.size : Int) < (n : Int)
    · have H := Lib.hid (bytesR_no (n := n) (l := s1.data.toList) (b := false) (by rw [HSZ.out]; simp; omega))
      go_enter Try.func26, Try.ntmps26
      go_wp2
      go_ret
      refine ⟨_, rfl, by rw [H.out], s1, by rw [H.out], ?_, grown_set _ _ _ _⟩
      rw [H.out, box_set HB.out]; rfl
    · have H := Lib.hid (bytesR_yes (n := n) (l := s1.data.toList) (by rw [HSZ.out]; omega))
      have i2 : (n : Int) ≤ (s1.size : Int) := by omega
      go_enter Try.func26, Try.ntmps26
      go_wp2
      go_ret
      refine ⟨_, rfl, by rw [H.out]; exact ext_take _ _, s1.extract n s1.size, by rw [H.out, ext_drop], ?_, grown_set _ _ _ _⟩
      rw [H.out, box_set HB.out]; rfl
  · have H := Lib.hid (bytesR_no (n := n) (l := s1.data.toList) (b := true) (by simp))
    go_enter Try.func26, Try.ntmps26
    go_wp2
    go_ret
    refine ⟨_, rfl, by rw [H.out], s1, by rw [H.out], ?_, grown_set _ _ _ _⟩
    rw [H.out, box_set HB.out]; rfl
end Lgc
end Go.Proofs.Ytdacgdokbfcgdaa
