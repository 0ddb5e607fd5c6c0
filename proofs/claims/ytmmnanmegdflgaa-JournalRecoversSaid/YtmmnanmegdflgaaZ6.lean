/-
  Plain laws, no program in sight: journals (chapter 42).
  Contracts: sealed segments: Open of eventlog and of its reference.
  Contracts: record, next of the program (chapter 42).
-/
import Derived.Test.YtmmnanmegdflgaaZ2
import Derived.Test.YtmmnanmegdflgaaZ4
import Derived.BigQuiet
import Derived.Test.YtmmnanmegdflgaaZ5
namespace Go.Proofs.Ytmmnanmegdflgaa.Jn
set_option linter.unusedVariables false
open Ad Uv Lg
/-- The next record: its sealed form, what is behind it. -/
def nS (l : List UInt8) : List UInt8 := (dataR l false).1
def nRest (l : List UInt8) : List UInt8 := (dataR l false).2.1
def nBad (l : List UInt8) : Bool := (dataR l false).2.2
def nMan (l : List UInt8) : Man := decoded (opens (nS l)).2.1
def nIs (l : List UInt8) (n : Nat) : Bool := decide ((opens (nS l)).2.2 = 0) && (decide ((opens (nS l)).1 = n) && decOk (opens (nS l)).2.1)
def nOk (l : List UInt8) (n : Nat) : Bool := !nBad l && nIs l n
/-- A record. -/
def sealed (n : Nat) (o : Man) : List UInt8 := packed n (enc o)
def record (n : Nat) (o : Man) : List UInt8 := put (sealed n o).length ++ sealed n o
theorem dataR_put (x t : List UInt8) (h : x.length < 18446744073709551616) : dataR (put x.length ++ (x ++ t)) false = (x, t, false) := by
  unfold dataR
  rw [numR_put _ h]
  unfold bytesR
  simp
theorem dataR_ok {l : List UInt8} (h : (dataR l false).2.2 = false) : l = put (dataR l false).1.length ++ ((dataR l false).1 ++ (dataR l false).2.1) ∧ (dataR l false).1.length < 18446744073709551616 := by
  obtain ⟨n, t, bd, hn⟩ : ∃ n t bd, numR l false = (n, t, bd) := ⟨_, _, _, rfl⟩
  unfold dataR at h ⊢
  rw [hn] at h ⊢
  simp only at h ⊢
  cases bd with
  | true => simp [bytesR] at h
  | false =>
    obtain ⟨h4, h5⟩ := numR_ok hn
    have h6 : ¬ t.length < n := by intro hlt; simp [bytesR, hlt] at h
    have hS2 : bytesR n t false = (t.take n, t.drop n, false) := by unfold bytesR; rw [if_neg (by simp; omega)]
    have hlen : (t.take n).length = n := by rw [List.length_take]; omega
    rw [hS2]
    simp only
    rw [hlen, List.take_append_drop]
    exact ⟨h4, h5⟩
theorem next_rec (n : Nat) (o : Man) (t : List UInt8) (ho : Ok o) (hn : n < 18446744073709551616) (he : (enc o).length < 18446744073709551616) (hs : (sealed n o).length < 18446744073709551616) :
    nOk (record n o ++ t) n = true ∧ nMan (record n o ++ t) = o ∧ nRest (record n o ++ t) = t := by
  have h1 : dataR (record n o ++ t) false = (sealed n o, t, false) := by unfold record; rw [List.append_assoc]; exact dataR_put _ _ hs
  have h2 := opens_packed n (enc o) hn he
  obtain ⟨h3, h4⟩ := dec_enc o ho
  have hS : nS (record n o ++ t) = packed n (enc o) := by unfold nS; rw [h1]; rfl
  refine ⟨?_, ?_, by unfold nRest; rw [h1]⟩
  · unfold nOk nBad nIs
    rw [h1, hS, h2]
    simp [h3]
  · unfold nMan
    rw [hS, h2]
    unfold dec at h4
    rw [if_pos h3] at h4
    exact h4
theorem next_ok {l : List UInt8} {n : Nat} (h : nOk l n = true) : l = record n (nMan l) ++ nRest l ∧ Ok (nMan l) ∧ n < 18446744073709551616 ∧ (sealed n (nMan l)).length < 18446744073709551616 ∧ (enc (nMan l)).length < 18446744073709551616 := by
  unfold nOk nIs at h
  simp only [Bool.and_eq_true, Bool.not_eq_true', decide_eq_true_eq] at h
  obtain ⟨h1, h2, h3, h4⟩ := h
  unfold nBad at h1
  obtain ⟨h5, h6⟩ := dataR_ok h1
  have h7 : opens (nS l) = (n, (opens (nS l)).2.1, 0) := Prod.ext h3 (Prod.ext rfl h2)
  obtain ⟨h8, h9⟩ := opens_ok h7
  have h10 : nS l = sealed n (nMan l) := by
    unfold sealed nMan
    rw [enc_dec _ h4]
    exact h8
  have h4' := h4
  unfold decOk at h4
  rw [Bool.and_eq_true, Bool.and_eq_true, decide_eq_true_eq] at h4
  refine ⟨?_, decoded_ok _ h4.1 h4.2.2, h9, by rw [← h10]; exact h6, ?_⟩
  · unfold record
    rw [← h10, List.append_assoc]
    exact h5
  · have : (enc (nMan l)).length ≤ (nS l).length := by
      rw [h10]; unfold sealed packed; simp only [List.length_append]; omega
    unfold nS at this
    omega
theorem record_pos (n : Nat) (o : Man) : 0 < (record n o).length := by
  unfold record; rw [List.length_append]; have := put_pos (sealed n o).length; omega
/-- All records at the front. -/
def parseF : Nat → Nat → List UInt8 → List Man × List UInt8
  | 0, _, l => ([], l)
  | f + 1, n, l => if nOk l n = true then (nMan l :: (parseF f (n + 1) (nRest l)).1, (parseF f (n + 1) (nRest l)).2) else ([], l)
theorem rest_lt {l : List UInt8} {n : Nat} (h : nOk l n = true) : (nRest l).length < l.length := by
  have h1 := (next_ok h).1
  have h2 := congrArg List.length h1
  rw [List.length_append] at h2
  have := record_pos n (nMan l)
  omega
theorem nOk_nil (n : Nat) : nOk [] n = false := by
  cases h : nOk [] n
  · rfl
  · have := rest_lt h; simp at this
theorem parse_fuel : ∀ f g n l, l.length ≤ f → l.length ≤ g → parseF f n l = parseF g n l
  | 0, 0, _, _, _, _ => rfl
  | 0, g + 1, n, l, hf, _ => by
    obtain rfl : l = [] := List.eq_nil_of_length_eq_zero (by omega)
    unfold parseF; rw [if_neg (by rw [nOk_nil]; decide)]
  | f + 1, 0, n, l, _, hg => by
    obtain rfl : l = [] := List.eq_nil_of_length_eq_zero (by omega)
    unfold parseF; rw [if_neg (by rw [nOk_nil]; decide)]
  | f + 1, g + 1, n, l, hf, hg => by
    unfold parseF
    by_cases h : nOk l n = true
    · rw [if_pos h, if_pos h]
      have := rest_lt h
      rw [parse_fuel f g (n + 1) (nRest l) (by omega) (by omega)]
    · rw [if_neg h, if_neg h]
def parseN (n : Nat) (l : List UInt8) : List Man × List UInt8 := parseF l.length n l
theorem parse_yes {l : List UInt8} {n : Nat} (h : nOk l n = true) : parseN n l = (nMan l :: (parseN (n + 1) (nRest l)).1, (parseN (n + 1) (nRest l)).2) := by
  have h1 := rest_lt h
  have h2 : parseN n l = parseF (l.length - 1 + 1) n l := parse_fuel _ _ _ _ (Nat.le_refl _) (by omega)
  rw [h2, parseF, if_pos h]
  have h3 : parseF (l.length - 1) (n + 1) (nRest l) = parseN (n + 1) (nRest l) := parse_fuel _ _ _ _ (by omega) (Nat.le_refl _)
  rw [h3]
theorem parse_no {l : List UInt8} {n : Nat} (h : nOk l n = false) : parseN n l = ([], l) := by
  unfold parseN
  cases l with
  | nil => rfl
  | cons c l => rw [List.length_cons, parseF, if_neg (by rw [h]; decide)]
/-- The operations of a journal; what is behind them. -/
def parse (l : List UInt8) : List Man × List UInt8 := parseN 0 l
/-- Records one behind the other. -/
def recs : Nat → List Man → List UInt8
  | _, [] => []
  | n, o :: L => record n o ++ recs (n + 1) L
theorem recs_app (L M : List Man) : ∀ n, recs n (L ++ M) = recs n L ++ recs (n + L.length) M := by
  induction L with
  | nil => intro n; rfl
  | cons o L ih => intro n; simp only [List.cons_append, recs, List.length_cons, ih, List.append_assoc]; rw [show n + 1 + L.length = n + (L.length + 1) by omega]
theorem recs_snoc (L : List Man) (o : Man) (n : Nat) : recs n (L ++ [o]) = recs n L ++ record (n + L.length) o := by
  rw [recs_app]; simp [recs]
/-- An operation that a record can hold. -/
def Fit (o : Man) : Prop := Ok o ∧ o.nm.data.toList.length ≤ 1000000000
theorem enc_len (o : Man) (h : o.nm.data.toList.length ≤ 1000000000) : (enc o).length ≤ 1000000200 := by
  have h1 := put_len (u64 o.k) (u64_lt _)
  have h2 := put_len o.nm.data.toList.length (by omega)
  have h3 := encN_len (nums o)
  have h4 : (nums o).length = 9 := rfl
  unfold enc encH
  simp only [List.length_append]
  omega
theorem sealed_len (n : Nat) (o : Man) (hn : n < 18446744073709551616) (h : (enc o).length < 18446744073709551616) : (sealed n o).length ≤ (enc o).length + 28 := by
  unfold sealed packed
  have h1 := put_len n hn
  have h2 := put_len (enc o).length h
  simp only [List.length_append, be8_len]
  omega
theorem rec_next (n : Nat) (o : Man) (t : List UInt8) (ho : Fit o) (hn : n < 18446744073709551616) : nOk (record n o ++ t) n = true ∧ nMan (record n o ++ t) = o ∧ nRest (record n o ++ t) = t := by
  have h1 := enc_len o ho.2
  have h2 := sealed_len n o hn (by omega)
  exact next_rec n o t ho.1 hn (by omega) (by omega)
/-- What was written is read. -/
theorem parse_recs (L : List Man) (t : List UInt8) (hL : ∀ o ∈ L, Fit o) : ∀ n, n + L.length < 18446744073709551616 → parseN n (recs n L ++ t) = (L ++ (parseN (n + L.length) t).1, (parseN (n + L.length) t).2) := by
  induction L with
  | nil => intro n _; simp [recs]
  | cons o L ih =>
    intro n hn
    simp only [List.length_cons] at hn
    simp only [recs, List.append_assoc]
    obtain ⟨h1, h2, h3⟩ := rec_next n o (recs (n + 1) L ++ t) (hL o (by simp)) (by omega)
    rw [parse_yes h1, h2, h3, ih (fun o ho => hL o (by simp [ho])) (n + 1) (by omega)]
    simp only [List.cons_append, List.length_cons]
    rw [show n + 1 + L.length = n + (L.length + 1) by omega]
theorem parse_of {l : List UInt8} : ∀ f n, l.length ≤ f → l = recs n (parseN n l).1 ++ (parseN n l).2 := by
  intro f
  induction f generalizing l with
  | zero =>
    intro n hf
    obtain rfl : l = [] := List.eq_nil_of_length_eq_zero (by omega)
    rw [parse_no (nOk_nil n)]; rfl
  | succ f ih =>
    intro n hf
    cases h : nOk l n
    · rw [parse_no h]; rfl
    · rw [parse_yes h]
      simp only [recs, List.append_assoc]
      have h1 := rest_lt h
      rw [← ih (l := nRest l) (n + 1) (by omega)]
      exact (next_ok h).1
theorem parse_split (l : List UInt8) : l = recs 0 (parse l).1 ++ (parse l).2 := parse_of l.length 0 (Nat.le_refl _)
/-- How many bytes were read. -/
def used (l : List UInt8) : Nat := l.length - (parse l).2.length
theorem rest_le (l : List UInt8) : (parse l).2.length ≤ l.length := by
  have := congrArg List.length (parse_split l)
  rw [List.length_append] at this
  omega
theorem used_eq (l : List UInt8) : used l = (recs 0 (parse l).1).length := by
  have := congrArg List.length (parse_split l)
  rw [List.length_append] at this
  unfold used
  omega
theorem take_used (l : List UInt8) : l.take (used l) = recs 0 (parse l).1 := by
  rw [used_eq]
  have := parse_split l
  generalize (parse l).1 = L at *
  rw [this]
  exact List.take_left
theorem used_le (l : List UInt8) : used l ≤ l.length := Nat.sub_le _ _
theorem parse_len (l : List UInt8) : ∀ n, (parseN n l).1.length ≤ l.length := by
  intro n
  have := congrArg List.length (parse_of (l := l) l.length n (Nat.le_refl _))
  rw [List.length_append] at this
  have h2 : ∀ (L : List Man) n, L.length ≤ (recs n L).length := by
    intro L
    induction L with
    | nil => intro n; simp [recs]
    | cons o L ih => intro n; simp only [recs, List.length_append, List.length_cons]; have := ih (n + 1); have := record_pos n o; omega
  have := h2 (parseN n l).1 n
  omega
/-- Part of a record alone is no record. -/
theorem next_part {n : Nat} {o : Man} {l x : List UInt8} {m : Nat} (h : l ++ x = record n o) (hx : x ≠ []) (hs : (sealed n o).length < 18446744073709551616) : nOk l m = false := by
  cases h1 : nOk l m
  · rfl
  · exfalso
    unfold nOk at h1
    rw [Bool.and_eq_true] at h1
    have h2 : (dataR l false).2.2 = false := by have := h1.1; unfold nBad at this; simpa using this
    obtain ⟨h3, h4⟩ := dataR_ok h2
    have h5 : dataR (l ++ x) false = ((dataR l false).1, (dataR l false).2.1 ++ x, false) := by
      have : l ++ x = put (dataR l false).1.length ++ ((dataR l false).1 ++ ((dataR l false).2.1 ++ x)) := by
        exact (congrArg (· ++ x) h3).trans (by simp)
      rw [this]; exact dataR_put _ _ h4
    have h6 : dataR (record n o) false = (sealed n o, [], false) := by
      have := dataR_put (sealed n o) [] hs
      rw [List.append_nil] at this
      exact this
    rw [h, h6] at h5
    injection h5 with _ h5
    injection h5 with h5 _
    have := congrArg List.length h5
    rw [List.length_append] at this
    have h8 : 0 < x.length := List.length_pos_iff.2 hx
    simp at this
    omega
end Go.Proofs.Ytmmnanmegdflgaa.Jn

set_option linter.unusedVariables false
set_option maxRecDepth 100000
namespace Go.Proofs.Ytmmnanmegdflgaa
open Go.RowKit Go.Sort
namespace Lgc
open Lg Strs
def OpensTo (r : Nat × List UInt8 × Int) (w : World) (e : Ending) (w' : World) : Prop := e = .returned (.tuple #[.int .u64 r.1, .string ⟨r.2.1.toArray⟩, .int .i64 r.2.2]) ∧ Held w w'
theorem opens_form {l : List UInt8} (h : ((opR l).2.2 || decide ((opR l).2.1.length ≠ 8)) = true) : opens l = (0, [], 1900) := by unfold opens; rw [if_pos h]
theorem opens_sum {l : List UInt8} (h : ¬ ((opR l).2.2 || decide ((opR l).2.1.length ≠ 8)) = true) (h2 : be8 (Hs.hash HS (l.take (l.length - 8))) ≠ (opR l).2.1) : opens l = (0, [], 1903) := by unfold opens; rw [if_neg h, if_pos h2]
theorem opens_yes {l : List UInt8} (h : ¬ ((opR l).2.2 || decide ((opR l).2.1.length ≠ 8)) = true) (h2 : ¬ be8 (Hs.hash HS (l.take (l.length - 8))) ≠ (opR l).2.1) : opens l = ((numR l false).1, (opR l).1, 0) := by unfold opens; rw [if_neg h, if_neg h2]
theorem bytesR_drop {n : Nat} {l : List UInt8} {b : Bool} (h : (bytesR n l b).2.2 = false) : (bytesR n l b).2.1.length ≤ l.length := (bytesR_len n l b).2
theorem opR_len (l : List UInt8) : (opR l).2.1.length ≤ l.length := by
  unfold opR dataR
  exact Nat.le_trans (bytesR_len _ _ _).2 (Nat.le_trans (numR_len _ _) (numR_len _ _))
theorem ret_op {n : Int} {s : ByteArray} {l : List UInt8} {e : Int} (h : s.data.toList = l) : Ending.returned (.tuple #[.int .u64 n, .string s, .int .i64 e]) = .returned (.tuple #[.int .u64 n, .string ⟨l.toArray⟩, .int .i64 e]) := by rw [str_mk h]
set_option maxHeartbeats 1000000 in
theorem open_any (s : ByteArray) (hs : (s.size : Int) ≤ 1000000000000) (w : World) : Calls Try.prog 79 #[.string s] w (OpensTo (opens s.data.toList) w) := by
  have hle := opR_len s.data.toList
  have hle1 := numR_len s.data.toList false
  rw [len_eq] at hle hle1
  have HF := Lib.hid (@opens_form s.data.toList)
  have HS1 := Lib.hid (@opens_sum s.data.toList)
  have HY := Lib.hid (@opens_yes s.data.toList)
  have HLS := Lib.hid (len_eq s)
  have hnum := Lib.hid (number_any w.heap.size s false (by omega) (w.alloc (.cells #[.string s, .bool false] 118)) (box_new _ _))
  have hop : opR s.data.toList = dataR (numR s.data.toList false).2.1 (numR s.data.toList false).2.2 := rfl
  obtain ⟨⟨n, l1, b1⟩, hN⟩ : ∃ x, numR s.data.toList false = x := ⟨_, rfl⟩
  obtain ⟨⟨d, l2, b2⟩, hO⟩ : ∃ x, opR s.data.toList = x := ⟨_, rfl⟩
  rw [hN] at hop hnum HY hle1
  rw [hO] at hop HF HS1 HY hle
  simp only at hop hnum HF HS1 HY hle hle1
  have HOP := Lib.hid hop
  clear hop hN hO
  go_enter Try.func79, Try.ntmps79
  go_wp2_with fail
  refine hnum.out.mono ?_
  rintro e w1 ⟨rfl, s1, hs1, hb1, hg1⟩
  have hz1 : s1.size ≤ 9223372036854775807 := by rw [← len_eq, hs1]; omega
  have hdat := Lib.hid (data_any w.heap.size s1 b1 hz1 w1 hb1)
  rw [hs1, ← HOP.out] at hdat
  have HW1 : Hid (Held w w1) := held_of ((Held.refl w).alloc _) hg1 (Nat.le_refl _)
  clear hs1 hb1 hg1 hnum
  go_wp2_with fail
  refine hdat.out.mono ?_
  rintro e w2 ⟨t, rfl, ht, s2, hs2, hb2, hg2⟩
  have HW2 : Hid (Held w w2) := held_of HW1.out hg2 (Nat.le_refl _)
  have hz2 : (s2.size : Int) ≤ 1000000000000 := by rw [← len_eq, hs2]; omega
  have hz3 : s2.size ≤ s.size := by rw [← len_eq, hs2]; exact hle
  have c0 : w2.cell? ⟨w.heap.size, 0, none⟩ = some (.string s2) := box_cell hb2 0 rfl
  have c1 : w2.cell? ⟨w.heap.size, 1, none⟩ = some (.bool b2) := box_cell hb2 1 rfl
  have lt := box_lt hb2
  have HT := Lib.hid ht
  have HS2 := Lib.hid hs2
  have hl2 : l2.length = s2.size := by rw [← HS2.out, len_eq]
  have HL2 := Lib.hid hl2
  clear ht hs2 hb2 hg2 hdat hl2 hle hle1
  cases b2
  · by_cases h8 : s2.size = 8
    · have h8' : ((s2.size : Int) != 8) = false := by simp [h8]
      have hz4 : (8 : Int) ≤ (s.size : Int) := by omega
      have hsub : (s.extract 0 (s.size - 8)).data.toList = s.data.toList.take (s.data.toList.length - 8) := by rw [ext_take, len_eq]
      have HSB := Lib.hid hsub
      have H8 := Lib.hid h8
      have k0 := cell_regrown c0
      have HN8 : Hid (¬ (false || decide (l2.length ≠ 8)) = true) := by
        show ¬ _
        have := HL2.out
        rw [this, h8]; simp
      clear hsub h8
      have cA := Lib.hid fun dd os => Calls.regrown_of (d := dd) (os := os) (sum_any (s.extract 0 (s.size - 8)) (by rw [ByteArray.size_extract]; omega) (grow (redrawn w2 dd) os))
      rw [HSB.out] at cA
      have i1 : (0 : Int) ≤ (s.size : Int) - 8 := by omega
      have i2 : IntKind.i64.wrap ((s.size : Int) - 8) = (s.size : Int) - 8 := IntWalk.i64_in _ (by omega)
      have i3 : ((s.size : Int) - 8).toNat = s.size - 8 := by omega
      have htl : s2.toList = l2 := by rw [ByteArray.toList_eq]; exact HS2.out
      generalize be8 (Hs.hash HS (s.data.toList.take (s.data.toList.length - 8))) = q at *
      by_cases hq : q = l2
      · have hne2 : (q == s2.toList) = true := by rw [htl]; simp [hq]
        have H := Lib.hid (HY.out HN8.out (by simp [hq]))
        clear htl hq
        go_wp2
        refine wp_region_quiet_below (by kernel_rfl) (by kernel_rfl) ?_
        repeat (go_big_quiet_step (first | (go_at_call 92; exact cA.out _ _)))
        refine wpQuiet_nil ?_
        intro _ hw'
        obtain ⟨⟨dq, osq⟩, hw''⟩ := hw'
        subst hw''
        go_wp2
        go_ret3
        exact ⟨by rw [H.out]; exact ret_op HT.out, HW2.out.step (below_regrown w2 dq osq)⟩
      · have hne2 : (q == s2.toList) = false := by rw [htl]; simp [hq]
        have H := Lib.hid (HS1.out HN8.out hq)
        clear htl hq
        go_wp2
        refine wp_region_quiet_below (by kernel_rfl) (by kernel_rfl) ?_
        repeat (go_big_quiet_step (first | (go_at_call 92; exact cA.out _ _)))
        refine wpQuiet_nil ?_
        intro _ hw'
        obtain ⟨⟨dq, osq⟩, hw''⟩ := hw'
        subst hw''
        go_wp2
        go_ret3
        exact ⟨by rw [H.out]; rfl, HW2.out.step (below_regrown w2 dq osq)⟩
    · have h8' : ((s2.size : Int) != 8) = true := by simp; omega
      have H := Lib.hid (HF.out (by rw [HL2.out]; simp [h8]))
      clear h8
      go_wp2
      go_ret3
      exact ⟨by rw [H.out]; rfl, HW2.out⟩
  · have H := Lib.hid (HF.out rfl)
    go_wp2
    go_ret3
    exact ⟨by rw [H.out]; rfl, HW2.out⟩
set_option maxHeartbeats 1000000 in
theorem open_ref_any (s : ByteArray) (hs : (s.size : Int) ≤ 1000000000000) (w : World) : Calls Try.prog 56 #[.string s] w (OpensTo (opens s.data.toList) w) := by
  have hle := opR_len s.data.toList
  have hle1 := numR_len s.data.toList false
  rw [len_eq] at hle hle1
  have HF := Lib.hid (@opens_form s.data.toList)
  have HS1 := Lib.hid (@opens_sum s.data.toList)
  have HY := Lib.hid (@opens_yes s.data.toList)
  have HLS := Lib.hid (len_eq s)
  have hnum := Lib.hid (number_ref_any w.heap.size s false (by omega) (w.alloc (.cells #[.string s, .bool false] 107)) (box_new _ _))
  have hop : opR s.data.toList = dataR (numR s.data.toList false).2.1 (numR s.data.toList false).2.2 := rfl
  obtain ⟨⟨n, l1, b1⟩, hN⟩ : ∃ x, numR s.data.toList false = x := ⟨_, rfl⟩
  obtain ⟨⟨d, l2, b2⟩, hO⟩ : ∃ x, opR s.data.toList = x := ⟨_, rfl⟩
  rw [hN] at hop hnum HY hle1
  rw [hO] at hop HF HS1 HY hle
  simp only at hop hnum HF HS1 HY hle hle1
  have HOP := Lib.hid hop
  clear hop hN hO
  go_enter Try.func56, Try.ntmps56
  go_wp2_with fail
  refine hnum.out.mono ?_
  rintro e w1 ⟨rfl, s1, hs1, hb1, hg1⟩
  have hz1 : s1.size ≤ 9223372036854775807 := by rw [← len_eq, hs1]; omega
  have hnum2 := Lib.hid (number_ref_any w.heap.size s1 b1 hz1 w1 hb1)
  rw [hs1] at hnum2
  have hle2 := numR_len l1 b1
  have hlt2 := numR_lt l1 b1
  have HW1 : Hid (Held w w1) := held_of ((Held.refl w).alloc _) hg1 (Nat.le_refl _)
  clear hs1 hb1 hg1 hnum
  have hop := HOP.out
  unfold dataR at hop
  obtain ⟨⟨m, l3, b3⟩, hN2⟩ : ∃ x, numR l1 b1 = x := ⟨_, rfl⟩
  rw [hN2] at hop hnum2 hle2 hlt2
  simp only at hop hnum2 hle2 hlt2
  have HOP2 := Lib.hid hop
  clear hop hN2
  go_wp2_with fail
  refine hnum2.out.mono ?_
  rintro e w1' ⟨rfl, s3, hs3, hb3, hg3⟩
  have hz1' : s3.size ≤ 9223372036854775807 := by rw [← len_eq, hs3]; omega
  have hdat := Lib.hid (bytes_ref_any w.heap.size s3 b3 (m : Int) (by omega) (by omega) hz1' w1' hb3)
  rw [Int.toNat_natCast, hs3, ← HOP2.out] at hdat
  have HW1' : Hid (Held w w1') := held_of HW1.out hg3 (Nat.le_refl _)
  clear hs3 hb3 hg3 hnum2
  go_wp2_with fail
  refine hdat.out.mono ?_
  rintro e w2 ⟨t, rfl, ht, s2, hs2, hb2, hg2⟩
  have HW2 : Hid (Held w w2) := held_of HW1'.out hg2 (Nat.le_refl _)
  have hz2 : (s2.size : Int) ≤ 1000000000000 := by rw [← len_eq, hs2]; omega
  have hz3 : s2.size ≤ s.size := by rw [← len_eq, hs2]; exact hle
  have c0 : w2.cell? ⟨w.heap.size, 0, none⟩ = some (.string s2) := box_cell hb2 0 rfl
  have c1 : w2.cell? ⟨w.heap.size, 1, none⟩ = some (.bool b2) := box_cell hb2 1 rfl
  have lt := box_lt hb2
  have HT := Lib.hid ht
  have HS2 := Lib.hid hs2
  have hl2 : l2.length = s2.size := by rw [← HS2.out, len_eq]
  have HL2 := Lib.hid hl2
  clear ht hs2 hb2 hg2 hdat hl2 hle hle1
  cases b2
  · by_cases h8 : s2.size = 8
    · have h8' : ((s2.size : Int) != 8) = false := by simp [h8]
      have hz4 : (8 : Int) ≤ (s.size : Int) := by omega
      have hsub : (s.extract 0 (s.size - 8)).data.toList = s.data.toList.take (s.data.toList.length - 8) := by rw [ext_take, len_eq]
      have HSB := Lib.hid hsub
      have H8 := Lib.hid h8
      have k0 := cell_regrown c0
      have HN8 : Hid (¬ (false || decide (l2.length ≠ 8)) = true) := by
        show ¬ _
        have := HL2.out
        rw [this, h8]; simp
      clear hsub h8
      have hlt := Hs.hash_lt HS (s.data.toList.take (s.data.toList.length - 8)) (by decide)
      have cA := Lib.hid fun dd os => Calls.regrown_of (d := dd) (os := os) ((hash_ref_any HS (s.extract 0 (s.size - 8)) (by decide) (by rw [ByteArray.size_extract]; omega) (grow (redrawn w2 dd) os)).mono fun e w' ⟨he, hw⟩ => ⟨he, hw ▸ Below.refl _ _⟩)
      rw [HSB.out] at cA
      have cB := Lib.hid fun dd os => Calls.regrown_of (d := dd) (os := os) (eight_any (Hs.hash HS (s.data.toList.take (s.data.toList.length - 8))) (by omega) (grow (redrawn w2 dd) os))
      clear hlt
      have i1 : (0 : Int) ≤ (s.size : Int) - 8 := by omega
      have i2 : IntKind.i64.wrap ((s.size : Int) - 8) = (s.size : Int) - 8 := IntWalk.i64_in _ (by omega)
      have i3 : ((s.size : Int) - 8).toNat = s.size - 8 := by omega
      have htl : s2.toList = l2 := by rw [ByteArray.toList_eq]; exact HS2.out
      generalize be8 (Hs.hash HS (s.data.toList.take (s.data.toList.length - 8))) = q at *
      generalize Hs.hash HS (s.data.toList.take (s.data.toList.length - 8)) = hh at cA cB
      by_cases hq : q = l2
      · have hne2 : (q == s2.toList) = true := by rw [htl]; simp [hq]
        have H := Lib.hid (HY.out HN8.out (by simp [hq]))
        clear htl hq
        go_wp2
        refine wp_region_quiet_below (by kernel_rfl) (by kernel_rfl) ?_
        repeat (go_big_quiet_step (first | (go_at_call 78; exact cA.out _ _) | (go_at_call 77; exact cB.out _ _)))
        refine wpQuiet_nil ?_
        intro _ hw'
        obtain ⟨⟨dq, osq⟩, hw''⟩ := hw'
        subst hw''
        go_wp2
        go_ret3
        exact ⟨by rw [H.out]; exact ret_op HT.out, HW2.out.step (below_regrown w2 dq osq)⟩
      · have hne2 : (q == s2.toList) = false := by rw [htl]; simp [hq]
        have H := Lib.hid (HS1.out HN8.out hq)
        clear htl hq
        go_wp2
        refine wp_region_quiet_below (by kernel_rfl) (by kernel_rfl) ?_
        repeat (go_big_quiet_step (first | (go_at_call 78; exact cA.out _ _) | (go_at_call 77; exact cB.out _ _)))
        refine wpQuiet_nil ?_
        intro _ hw'
        obtain ⟨⟨dq, osq⟩, hw''⟩ := hw'
        subst hw''
        go_wp2
        go_ret3
        exact ⟨by rw [H.out]; rfl, HW2.out.step (below_regrown w2 dq osq)⟩
    · have h8' : ((s2.size : Int) != 8) = true := by simp; omega
      have H := Lib.hid (HF.out (by rw [HL2.out]; simp [h8]))
      clear h8
      go_wp2
      go_ret3
      exact ⟨by rw [H.out]; rfl, HW2.out⟩
  · have H := Lib.hid (HF.out rfl)
    go_wp2
    go_ret3
    exact ⟨by rw [H.out]; rfl, HW2.out⟩
end Lgc
end Go.Proofs.Ytmmnanmegdflgaa

set_option linter.unusedVariables false
set_option linter.unusedSimpArgs false
set_option maxRecDepth 100000
namespace Go.Proofs.Ytmmnanmegdflgaa
open Go.RowKit Go.Lib
namespace Jn
open Ad Lgc Strs Lg
theorem nat_of (l : List UInt8) : (⟨l.toArray⟩ : ByteArray).size = l.length := ba_size l
theorem enc_len2 (o : Man) (h : (o.nm.size : Int) ≤ 1000000000) : (enc o).length ≤ 1000000200 := enc_len o (by have := len_eq o.nm; omega)
theorem record_any (n : Nat) (hn : (n : Int) ≤ 1000000000000) (k : Int) (nm : ByteArray) (a b r l c g m cc : Int) (up : Bool) (hs : (nm.size : Int) ≤ 1000000000) (w : World) :
    Calls Try.prog 51 #[.int .i64 n, .agg #[.int .i64 k, .string nm, .int .i64 a, .int .i64 b, .int .i64 r, .int .i64 l, .int .i64 c, .int .i64 g, .int .i64 m, .int .i64 cc, .bool up]] w
      (MakesS (record n ⟨k, nm, a, b, ⟨r, l, c, g⟩, ⟨m, cc, up⟩⟩) w) := by
  have HE := fun w => Lib.hid (encode_any k nm a b r l c g m cc up (by omega) w)
  have hl := enc_len2 ⟨k, nm, a, b, ⟨r, l, c, g⟩, ⟨m, cc, up⟩⟩ hs
  have HR : Hid (record n ⟨k, nm, a, b, ⟨r, l, c, g⟩, ⟨m, cc, up⟩⟩ = Uv.put (packed n (enc ⟨k, nm, a, b, ⟨r, l, c, g⟩, ⟨m, cc, up⟩⟩)).length ++ packed n (enc ⟨k, nm, a, b, ⟨r, l, c, g⟩, ⟨m, cc, up⟩⟩)) := show _ = _ from rfl
  have hpl : (packed n (enc ⟨k, nm, a, b, ⟨r, l, c, g⟩, ⟨m, cc, up⟩⟩)).length ≤ 1000000300 := by
    have := sealed_len n ⟨k, nm, a, b, ⟨r, l, c, g⟩, ⟨m, cc, up⟩⟩ (by omega) (by omega)
    unfold sealed at this; omega
  generalize record n ⟨k, nm, a, b, ⟨r, l, c, g⟩, ⟨m, cc, up⟩⟩ = R at *
  generalize enc ⟨k, nm, a, b, ⟨r, l, c, g⟩, ⟨m, cc, up⟩⟩ = E at *
  have HP : ∀ w, Hid (Calls Try.prog 76 #[.int .u64 n, .string ⟨E.toArray⟩] w (MakesS (packed n E) w)) := fun w => pack_any n ⟨E.toArray⟩ (by omega) (by rw [ba_size]; omega) w
  generalize packed n E = K at *
  have hk := ba_size K
  have hk' : (K.length : Int) ≤ 18446744073709551615 := by omega
  clear hk
  go_enter Try.func51, Try.ntmps51
  go_wp2_with fail
  (with_reducible refine (HE _).out.mono ?_); rintro e w1 ⟨rfl, h1⟩
  go_wp2_with fail
  (with_reducible refine (HP _).out.mono ?_); rintro e w2 ⟨rfl, h2⟩
  go_wp2_with fail
  refine (put_any K.length hk' _).mono ?_; rintro e w3 ⟨rfl, h3⟩
  have hput := Uv.put_len K.length (by omega)
  go_wp2
  go_ret
  exact ⟨by rw [HR.out]; congr 2, ((((Held.refl w).alloc _).step h1).step h2).step h3⟩
/-- The next record: read whole, or not. -/
def NextTo (b : Nat) (l : List UInt8) (n : Nat) (w : World) (e : Ending) (w' : World) : Prop :=
  ∃ (x : Man) (cs : Array Value), e = .returned (.tuple #[.agg (manC x), .bool (nOk l n)]) ∧ w.grownBy w' (some b) ∧ w'.heap[b]? = some (.cells cs 60 (0, 0)) ∧ (nOk l n = true → x = nMan l ∧ ∃ s : ByteArray, s.data.toList = nRest l ∧ cs = #[.string s, .bool false])
theorem opens_len (l : List UInt8) : (opens l).2.1.length ≤ l.length := by
  unfold opens
  split
  · simp
  · split
    · simp
    · have h1 := (bytesR_len (numR (numR l false).2.1 (numR l false).2.2).1 (numR (numR l false).2.1 (numR l false).2.2).2.1 (numR (numR l false).2.1 (numR l false).2.2).2.2).1
      have h2 := numR_len (numR l false).2.1 (numR l false).2.2
      have h3 := numR_len l false
      show (opR l).1.length ≤ _
      unfold opR dataR; omega
theorem grown_alloc {w : World} {r : Option Nat} (o : Obj) : w.grownBy (w.alloc o) r := grown_held ((Held.refl w).alloc o)
theorem grown_far {w w' : World} {r : Option Nat} (h : w.grownBy w' r) {q j : Nat} (hq : w.heap.size ≤ q) (v : Value) : w.grownBy (w'.setCell ⟨q, j, none⟩ v) r :=
  ⟨h.os, h.tape, h.output, by simpa using h.size, fun k hk hr => (Below.heap_setCell w' ⟨q, j, none⟩ v k (by show k ≠ q; omega)).trans (h.block k hk hr)⟩
theorem box11h {w : World} {b : Nat} {t : TypeId} {y0 y1 y2 y3 y4 y5 y6 y7 y8 y9 y10 : Value} (h : w.heap[b]? = some (.cells #[y0, y1, y2, y3, y4, y5, y6, y7, y8, y9, y10] t (0, 0))) :
    (w.cell? ⟨b, 0, none⟩ = some y0 ∧ w.cell? ⟨b, 1, none⟩ = some y1 ∧ w.cell? ⟨b, 2, none⟩ = some y2 ∧ w.cell? ⟨b, 3, none⟩ = some y3 ∧ w.cell? ⟨b, 4, none⟩ = some y4 ∧ w.cell? ⟨b, 5, none⟩ = some y5 ∧ w.cell? ⟨b, 6, none⟩ = some y6 ∧ w.cell? ⟨b, 7, none⟩ = some y7 ∧ w.cell? ⟨b, 8, none⟩ = some y8 ∧ w.cell? ⟨b, 9, none⟩ = some y9 ∧ w.cell? ⟨b, 10, none⟩ = some y10) ∧ (w.frozen? ⟨b, 0, none⟩ = false ∧ w.frozen? ⟨b, 1, none⟩ = false ∧ w.frozen? ⟨b, 2, none⟩ = false ∧ w.frozen? ⟨b, 3, none⟩ = false ∧ w.frozen? ⟨b, 4, none⟩ = false ∧ w.frozen? ⟨b, 5, none⟩ = false ∧ w.frozen? ⟨b, 6, none⟩ = false ∧ w.frozen? ⟨b, 7, none⟩ = false ∧ w.frozen? ⟨b, 8, none⟩ = false ∧ w.frozen? ⟨b, 9, none⟩ = false ∧ w.frozen? ⟨b, 10, none⟩ = false) :=
  ⟨⟨Bx.cell h 0 rfl, Bx.cell h 1 rfl, Bx.cell h 2 rfl, Bx.cell h 3 rfl, Bx.cell h 4 rfl, Bx.cell h 5 rfl, Bx.cell h 6 rfl, Bx.cell h 7 rfl, Bx.cell h 8 rfl, Bx.cell h 9 rfl, Bx.cell h 10 rfl⟩, ⟨Bx.free h 0, Bx.free h 1, Bx.free h 2, Bx.free h 3, Bx.free h 4, Bx.free h 5, Bx.free h 6, Bx.free h 7, Bx.free h 8, Bx.free h 9, Bx.free h 10⟩⟩
theorem put11h {w : World} {b : Nat} {t : TypeId} {y0 y1 y2 y3 y4 y5 y6 y7 y8 y9 y10 : Value} (h : w.heap[b]? = some (.cells #[y0, y1, y2, y3, y4, y5, y6, y7, y8, y9, y10] t (0, 0))) (x0 x1 x2 x3 x4 x5 x6 x7 x8 x9 x10 : Value) :
    (((((((((((w.setCell ⟨b, 0, none⟩ x0).setCell ⟨b, 1, none⟩ x1).setCell ⟨b, 2, none⟩ x2).setCell ⟨b, 3, none⟩ x3).setCell ⟨b, 4, none⟩ x4).setCell ⟨b, 5, none⟩ x5).setCell ⟨b, 6, none⟩ x6).setCell ⟨b, 7, none⟩ x7).setCell ⟨b, 8, none⟩ x8).setCell ⟨b, 9, none⟩ x9).setCell ⟨b, 10, none⟩ x10).heap[b]? = some (.cells #[x0, x1, x2, x3, x4, x5, x6, x7, x8, x9, x10] t (0, 0)) := by
  have h0 : (w.setCell ⟨b, 0, none⟩ x0).heap[b]? = some (.cells #[x0, y1, y2, y3, y4, y5, y6, y7, y8, y9, y10] t (0, 0)) := Bx.set h 0 x0
  have h1 : ((w.setCell ⟨b, 0, none⟩ x0).setCell ⟨b, 1, none⟩ x1).heap[b]? = some (.cells #[x0, x1, y2, y3, y4, y5, y6, y7, y8, y9, y10] t (0, 0)) := Bx.set h0 1 x1
  have h2 : (((w.setCell ⟨b, 0, none⟩ x0).setCell ⟨b, 1, none⟩ x1).setCell ⟨b, 2, none⟩ x2).heap[b]? = some (.cells #[x0, x1, x2, y3, y4, y5, y6, y7, y8, y9, y10] t (0, 0)) := Bx.set h1 2 x2
  have h3 : ((((w.setCell ⟨b, 0, none⟩ x0).setCell ⟨b, 1, none⟩ x1).setCell ⟨b, 2, none⟩ x2).setCell ⟨b, 3, none⟩ x3).heap[b]? = some (.cells #[x0, x1, x2, x3, y4, y5, y6, y7, y8, y9, y10] t (0, 0)) := Bx.set h2 3 x3
  have h4 : (((((w.setCell ⟨b, 0, none⟩ x0).setCell ⟨b, 1, none⟩ x1).setCell ⟨b, 2, none⟩ x2).setCell ⟨b, 3, none⟩ x3).setCell ⟨b, 4, none⟩ x4).heap[b]? = some (.cells #[x0, x1, x2, x3, x4, y5, y6, y7, y8, y9, y10] t (0, 0)) := Bx.set h3 4 x4
  have h5 : ((((((w.setCell ⟨b, 0, none⟩ x0).setCell ⟨b, 1, none⟩ x1).setCell ⟨b, 2, none⟩ x2).setCell ⟨b, 3, none⟩ x3).setCell ⟨b, 4, none⟩ x4).setCell ⟨b, 5, none⟩ x5).heap[b]? = some (.cells #[x0, x1, x2, x3, x4, x5, y6, y7, y8, y9, y10] t (0, 0)) := Bx.set h4 5 x5
  have h6 : (((((((w.setCell ⟨b, 0, none⟩ x0).setCell ⟨b, 1, none⟩ x1).setCell ⟨b, 2, none⟩ x2).setCell ⟨b, 3, none⟩ x3).setCell ⟨b, 4, none⟩ x4).setCell ⟨b, 5, none⟩ x5).setCell ⟨b, 6, none⟩ x6).heap[b]? = some (.cells #[x0, x1, x2, x3, x4, x5, x6, y7, y8, y9, y10] t (0, 0)) := Bx.set h5 6 x6
  have h7 : ((((((((w.setCell ⟨b, 0, none⟩ x0).setCell ⟨b, 1, none⟩ x1).setCell ⟨b, 2, none⟩ x2).setCell ⟨b, 3, none⟩ x3).setCell ⟨b, 4, none⟩ x4).setCell ⟨b, 5, none⟩ x5).setCell ⟨b, 6, none⟩ x6).setCell ⟨b, 7, none⟩ x7).heap[b]? = some (.cells #[x0, x1, x2, x3, x4, x5, x6, x7, y8, y9, y10] t (0, 0)) := Bx.set h6 7 x7
  have h8 : (((((((((w.setCell ⟨b, 0, none⟩ x0).setCell ⟨b, 1, none⟩ x1).setCell ⟨b, 2, none⟩ x2).setCell ⟨b, 3, none⟩ x3).setCell ⟨b, 4, none⟩ x4).setCell ⟨b, 5, none⟩ x5).setCell ⟨b, 6, none⟩ x6).setCell ⟨b, 7, none⟩ x7).setCell ⟨b, 8, none⟩ x8).heap[b]? = some (.cells #[x0, x1, x2, x3, x4, x5, x6, x7, x8, y9, y10] t (0, 0)) := Bx.set h7 8 x8
  have h9 : ((((((((((w.setCell ⟨b, 0, none⟩ x0).setCell ⟨b, 1, none⟩ x1).setCell ⟨b, 2, none⟩ x2).setCell ⟨b, 3, none⟩ x3).setCell ⟨b, 4, none⟩ x4).setCell ⟨b, 5, none⟩ x5).setCell ⟨b, 6, none⟩ x6).setCell ⟨b, 7, none⟩ x7).setCell ⟨b, 8, none⟩ x8).setCell ⟨b, 9, none⟩ x9).heap[b]? = some (.cells #[x0, x1, x2, x3, x4, x5, x6, x7, x8, x9, y10] t (0, 0)) := Bx.set h8 9 x9
  have h10 : (((((((((((w.setCell ⟨b, 0, none⟩ x0).setCell ⟨b, 1, none⟩ x1).setCell ⟨b, 2, none⟩ x2).setCell ⟨b, 3, none⟩ x3).setCell ⟨b, 4, none⟩ x4).setCell ⟨b, 5, none⟩ x5).setCell ⟨b, 6, none⟩ x6).setCell ⟨b, 7, none⟩ x7).setCell ⟨b, 8, none⟩ x8).setCell ⟨b, 9, none⟩ x9).setCell ⟨b, 10, none⟩ x10).heap[b]? = some (.cells #[x0, x1, x2, x3, x4, x5, x6, x7, x8, x9, x10] t (0, 0)) := Bx.set h9 10 x10
  exact h10
theorem far11 {w w' : World} {r : Option Nat} (h : w.grownBy w' r) {b : Nat} (hb : w.heap.size ≤ b) (x0 x1 x2 x3 x4 x5 x6 x7 x8 x9 x10 : Value) : w.grownBy (((((((((((w'.setCell ⟨b, 0, none⟩ x0).setCell ⟨b, 1, none⟩ x1).setCell ⟨b, 2, none⟩ x2).setCell ⟨b, 3, none⟩ x3).setCell ⟨b, 4, none⟩ x4).setCell ⟨b, 5, none⟩ x5).setCell ⟨b, 6, none⟩ x6).setCell ⟨b, 7, none⟩ x7).setCell ⟨b, 8, none⟩ x8).setCell ⟨b, 9, none⟩ x9).setCell ⟨b, 10, none⟩ x10) r :=
  (grown_far (grown_far (grown_far (grown_far (grown_far (grown_far (grown_far (grown_far (grown_far (grown_far (grown_far h hb x0) hb x1) hb x2) hb x3) hb x4) hb x5) hb x6) hb x7) hb x8) hb x9) hb x10)
theorem far11b {w' : World} {b q : Nat} (hb : q ≠ b) (x0 x1 x2 x3 x4 x5 x6 x7 x8 x9 x10 : Value) : (((((((((((w'.setCell ⟨b, 0, none⟩ x0).setCell ⟨b, 1, none⟩ x1).setCell ⟨b, 2, none⟩ x2).setCell ⟨b, 3, none⟩ x3).setCell ⟨b, 4, none⟩ x4).setCell ⟨b, 5, none⟩ x5).setCell ⟨b, 6, none⟩ x6).setCell ⟨b, 7, none⟩ x7).setCell ⟨b, 8, none⟩ x8).setCell ⟨b, 9, none⟩ x9).setCell ⟨b, 10, none⟩ x10).heap[q]? = w'.heap[q]? := by
  rw [Bx.far hb, Bx.far hb, Bx.far hb, Bx.far hb, Bx.far hb, Bx.far hb, Bx.far hb, Bx.far hb, Bx.far hb, Bx.far hb, Bx.far hb]
set_option maxHeartbeats 1000000 in
theorem next_any (b : Nat) (s : ByteArray) (n : Nat) (hn : (n : Int) ≤ 1000000000000) (hs : (s.size : Int) ≤ 1000000000000) (w : World) (hb : w.heap[b]? = some (.cells #[.string s, .bool false] 60 (0, 0))) :
    Calls Try.prog 55 #[.pointer (some ⟨b, 0, none⟩), .int .i64 n] w (NextTo b s.data.toList n w) := by
  obtain ⟨l, hl⟩ : ∃ l, s.data.toList = l := ⟨_, rfl⟩
  have HS := Lib.hid hl
  have hsl := sz_of hl
  have q1 := numR_len l false
  have q2 := bytesR_len (numR l false).1 (numR l false).2.1 (numR l false).2.2
  have E3 : Is (bytesR (numR l false).1 (numR l false).2.1 (numR l false).2.2) (nS l, nRest l, nBad l) := ⟨rfl⟩
  have hno : nBad l = true → Is (nOk l n) false := fun h => ⟨by unfold nOk; rw [h]; rfl⟩
  have hok : nBad l = false → Is (nOk l n) (nIs l n) := fun h => ⟨by unfold nOk; rw [h]; rfl⟩
  rw [hl]
  have hlt := box_lt hb
  have HB := Lib.hid hb
  clear hl hb
  go_enter Try.func55, Try.ntmps55
  go_wp2_with fail
  refine (jnumber_any b s false (by omega) _ (Bx.held HB.out ((Held.refl w).alloc _))).mono ?_
  rw [HS.out]
  rintro e w1 ⟨rfl, s1, hs1, hb1, hg1⟩
  have z1 := sz_of hs1
  have HS1 := Lib.hid hs1
  have HB1 := Lib.hid hb1
  have HG1 := Lib.hid (grown_trans (grown_alloc (r := some b) _) hg1)
  have HZ1 := Lib.hid ((hg1.block w.heap.size (by simp) (by simp; omega)).trans (box_new w _))
  clear hs1 hb1 hg1
  go_wp2_with fail
  refine (jbytes_any b s1 _ _ (by omega) (by have := numR_lt l false; omega) (by omega) _ HB1.out).mono ?_
  rw [HS1.out, Int.toNat_natCast, E3.out]
  rw [E3.out] at q2
  rintro e w2 ⟨t, rfl, ht, s2, hs2, hb2, hg2⟩
  have z2 := sz_of hs2
  have zt := sz_of ht
  have HS2 := Lib.hid hs2
  have HT := Lib.hid ht
  have HB2 := Lib.hid hb2
  have HG2 := Lib.hid (grown_trans HG1.out hg2)
  have lz1 := box_lt HZ1.out
  have HZ2 := Lib.hid ((hg2.block w.heap.size lz1 (by simp; omega)).trans HZ1.out)
  clear hs2 hb2 hg2 HG1 HB1 HS1 HZ1 z1 ht
  dsimp only at HS2 HT HB2 q2 z2 zt
  obtain ⟨⟨a0, a1, a2, a3, a4, a5, a6, a7, a8, a9, a10⟩, ⟨g0, g1, g2, g3, g4, g5, g6, g7, g8, g9, g10⟩⟩ := box11h HZ2.out
  have d1 := Bx.cell HB2.out 1 rfl
  have lz2 := box_lt HZ2.out
  have HM := dec_ok (opens (nS l)).2.1
  have EM : Is (nMan l) (decoded (opens (nS l)).2.1) := ⟨rfl⟩
  have EI : Is (nIs l n) (decide ((opens (nS l)).2.2 = 0) && (decide ((opens (nS l)).1 = n) && decOk (opens (nS l)).2.1)) := ⟨rfl⟩
  have ED : decOk (opens (nS l)).2.1 = true → Is (dec (opens (nS l)).2.1) (decoded (opens (nS l)).2.1) := fun h => ⟨by unfold dec; rw [if_pos h]⟩
  have hop := open_any t (by omega)
  rw [HT.out] at hop
  have HOP := fun w => Lib.hid (hop w)
  have hdc := decode_any ⟨(opens (nS l)).2.1.toArray⟩ (by rw [ba_size]; have := opens_len (nS l); omega)
  have HDC := fun w => Lib.hid (hdc w)
  generalize opens (nS l) = O at *
  obtain ⟨sq, bod, er⟩ := O
  dsimp only at EM EI ED HM HDC HOP
  generalize nBad l = bd at *
  cases bd
  · have hN := hok rfl
    clear hok hno hop hdc
    go_wp2_with fail
    (with_reducible refine (HOP _).out.mono ?_)
    rintro e w3 ⟨rfl, h3⟩
    have HZ3 := Lib.hid (Bx.held HZ2.out h3)
    have HB3 := Lib.hid (Bx.held HB2.out h3)
    have HG3 := Lib.hid (grown_trans HG2.out (grown_held (r := some b) h3))
    have lz3 := box_lt HZ3.out
    clear HZ2 HB2 HG2 lz2 h3 d1 a0 a1 a2 a3 a4 a5 a6 a7 a8 a9 a10 g0 g1 g2 g3 g4 g5 g6 g7 g8 g9 g10
    obtain ⟨⟨a0, a1, a2, a3, a4, a5, a6, a7, a8, a9, a10⟩, ⟨g0, g1, g2, g3, g4, g5, g6, g7, g8, g9, g10⟩⟩ := box11h HZ3.out
    by_cases he : er = 0
    · subst he
      by_cases hq : sq = n
      · subst hq
        have hI : Is (nOk l sq) (decOk bod) := ⟨by rw [hN.out, EI.out]; simp⟩
        clear hN EI HOP
        obtain ⟨D, hD⟩ : ∃ D, dec bod = D := ⟨_, rfl⟩
        have HD : Is (dec bod) D := ⟨hD⟩
        have HDC2 : ∀ w, Hid (Calls Try.prog 10 #[.string ⟨bod.toArray⟩] w fun e w' => e = .returned (.tuple #[.agg (manC D), .bool (decOk bod)]) ∧ Held w w') := fun w => by rw [← hD]; exact (HDC w).out
        clear hD HDC
        obtain ⟨k, nm, a, b', ⟨r, l', c, g⟩, ⟨m, cc, up⟩⟩ := D
        generalize decOk bod = dk at *
        go_wp2_with fail
        (with_reducible refine (HDC2 _).out.mono ?_)
        rintro e w4 ⟨rfl, h4⟩
        dsimp only [manC]
        have HZ4 := Lib.hid (Bx.held HZ3.out h4)
        have HB4 := Lib.hid (Bx.held HB3.out h4)
        have HG4 := Lib.hid (grown_trans HG3.out (grown_held (r := some b) h4))
        have lz4 := box_lt HZ4.out
        clear HZ3 HB3 HG3 lz3 h4 a0 a1 a2 a3 a4 a5 a6 a7 a8 a9 a10 g0 g1 g2 g3 g4 g5 g6 g7 g8 g9 g10
        obtain ⟨⟨a0, a1, a2, a3, a4, a5, a6, a7, a8, a9, a10⟩, ⟨g0, g1, g2, g3, g4, g5, g6, g7, g8, g9, g10⟩⟩ := box11h HZ4.out
        go_wp2
        refine bodyPost_ret (Bx.res_ct Try.results55 rfl (man_load (o := ⟨k, nm, a, b', ⟨r, l', c, g⟩, ⟨m, cc, up⟩⟩) (put11h HZ4.out (.int .i64 k) (.string nm) (.int .i64 a) (.int .i64 b') (.int .i64 r) (.int .i64 l') (.int .i64 c) (.int .i64 g) (.int .i64 m) (.int .i64 cc) (.bool up)))) rfl ⟨⟨k, nm, a, b', ⟨r, l', c, g⟩, ⟨m, cc, up⟩⟩, _, by rw [hI.out]; rfl, far11 HG4.out (Nat.le_refl _) _ _ _ _ _ _ _ _ _ _ _, (far11b (Nat.ne_of_lt hlt) _ _ _ _ _ _ _ _ _ _ _).trans HB4.out, fun h => ⟨?_, s2, HS2.out, rfl⟩⟩
        rw [hI.out] at h
        rw [EM.out, ← (ED h).out, HD.out]
      · have hN : Is (nOk l n) false := ⟨by rw [hN.out, EI.out]; simp [hq]⟩
        have hq1 : ((sq : Int) != (n : Int)) = true := by simp; omega
        have hq2 : ((sq : Int) == (n : Int)) = false := by simp; omega
        have hq3 : ¬ (sq : Int) = n := by omega
        clear EI EM ED HDC HOP hq
        go_wp2
        refine bodyPost_ret (Bx.res_ct Try.results55 rfl (man_load (o := zeroM) (put11h HZ3.out (.int .i64 0) (.string ⟨#[]⟩) (.int .i64 0) (.int .i64 0) (.int .i64 0) (.int .i64 0) (.int .i64 0) (.int .i64 0) (.int .i64 0) (.int .i64 0) (.bool false)))) rfl ⟨zeroM, _, by rw [hN.out]; rfl, far11 HG3.out (Nat.le_refl _) (.int .i64 0) (.string ⟨#[]⟩) (.int .i64 0) (.int .i64 0) (.int .i64 0) (.int .i64 0) (.int .i64 0) (.int .i64 0) (.int .i64 0) (.int .i64 0) (.bool false), (far11b (Nat.ne_of_lt hlt) _ _ _ _ _ _ _ _ _ _ _).trans HB3.out, fun h => ?_⟩
        rw [hN.out] at h; cases h
    · have hN : Is (nOk l n) false := ⟨by rw [hN.out, EI.out]; simp [he]⟩
      have hq1 : (er != 0) = true := by simp; exact he
      have hq2 : (er == 0) = false := by simp; exact he
      clear EI EM ED HDC HOP
      go_wp2
      refine bodyPost_ret (Bx.res_ct Try.results55 rfl (man_load (o := zeroM) (put11h HZ3.out (.int .i64 0) (.string ⟨#[]⟩) (.int .i64 0) (.int .i64 0) (.int .i64 0) (.int .i64 0) (.int .i64 0) (.int .i64 0) (.int .i64 0) (.int .i64 0) (.bool false)))) rfl ⟨zeroM, _, by rw [hN.out]; rfl, far11 HG3.out (Nat.le_refl _) (.int .i64 0) (.string ⟨#[]⟩) (.int .i64 0) (.int .i64 0) (.int .i64 0) (.int .i64 0) (.int .i64 0) (.int .i64 0) (.int .i64 0) (.int .i64 0) (.bool false), (far11b (Nat.ne_of_lt hlt) _ _ _ _ _ _ _ _ _ _ _).trans HB3.out, fun h => ?_⟩
      rw [hN.out] at h; cases h
  · have hN := hno rfl
    clear hok hno hop hdc
    go_wp2
    refine bodyPost_ret (Bx.res_ct Try.results55 rfl (man_load (o := zeroM) (put11h HZ2.out (.int .i64 0) (.string ⟨#[]⟩) (.int .i64 0) (.int .i64 0) (.int .i64 0) (.int .i64 0) (.int .i64 0) (.int .i64 0) (.int .i64 0) (.int .i64 0) (.bool false)))) rfl ⟨zeroM, _, by rw [hN.out]; rfl, far11 HG2.out (Nat.le_refl _) (.int .i64 0) (.string ⟨#[]⟩) (.int .i64 0) (.int .i64 0) (.int .i64 0) (.int .i64 0) (.int .i64 0) (.int .i64 0) (.int .i64 0) (.int .i64 0) (.bool false), (far11b (Nat.ne_of_lt hlt) _ _ _ _ _ _ _ _ _ _ _).trans HB2.out, fun h => ?_⟩
    rw [hN.out] at h; cases h
end Jn
end Go.Proofs.Ytmmnanmegdflgaa
