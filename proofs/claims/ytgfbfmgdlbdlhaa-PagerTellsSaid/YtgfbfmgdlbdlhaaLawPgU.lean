/-
  The law PagerTells, walked.
-/
import Derived.Test.YtgfbfmgdlbdlhaaLawPgT
set_option linter.unusedVariables false
set_option linter.unusedSimpArgs false
set_option maxRecDepth 100000
namespace Go.Proofs.Ytgfbfmgdlbdlhaa
open Go.RowKit Go.BigFrame Go.Sort
namespace Pg
/-- Whether a pager is small: at most 40 pages of at most 300 bytes each. -/
def Light (L : List Pg) : Prop := (L.length : Int) ≤ 40 ∧ ∀ x ∈ L, (x.d.size : Int) ≤ 300
/-- What light says. -/
def LightTo (L : List Pg) (w : World) (e : Ending) (w' : World) : Prop := ∃ b : Bool, e = .returned (.bool b) ∧ (b = true → Light L) ∧ Held w w'
set_option maxHeartbeats 8000000 in
theorem light_any (A : Option Addr) (n cap : Nat) (lim hand : Int) (L : List Pg) (w : World) (h : Sl 3 pgC w A n L) (hn : (n : Int) ≤ 9223372036854775807) :
    Calls Try.prog 16 #[.agg #[.slice A n cap, .int .i64 lim, .int .i64 hand]] w (LightTo L w) := by
  have HS := Lib.hid h
  have HLN := Lib.hid h.1
  have M0 := Lib.hid ((Mem.start w).alloc #[.slice A n cap, .int .i64 lim, .int .i64 hand] 32)
  clear h
  go_enter Try.func16, Try.ntmps16
  go_wp2
  go_loopw [3] (fun i wr => ∃ k : Nat, i = .int .i64 k ∧ k ≤ n ∧ k ≤ 60 ∧ (∀ x ∈ L.take k, (x.d.size : Int) ≤ 300) ∧ Mem w wr [.box w.heap.size #[.slice A n cap, .int .i64 lim, .int .i64 hand] 32]) (fun i _ => n - (intOf i).toNat)
  case atStart => exact ⟨0, rfl, Nat.zero_le _, Nat.zero_le _, by simp, M0.out⟩
  case round =>
    obtain ⟨k, rfl, hk, hk6, hall, M⟩ := hrel
    have M1 := Lib.hid M
    have HA := Lib.hid hall
    obtain ⟨⟨p0, p1, p2⟩, _, plt⟩ := M.box3 0 rfl
    clear M M0 hall
    by_cases hlt : (k : Int) < n
    · by_cases h60 : (k : Int) < 60
      · obtain ⟨b, off, x, rfl, hbw, hx, hc⟩ := HS.out.at_ M1.out.held (k := k) (by omega)
        have x1 := hc 1 _ rfl
        have HX := Lib.hid hx
        clear hc hx
        by_cases hs : (300 : Int) < x.d.size
        · go_wp2
          go_ret
          exact ⟨false, rfl, (fun h => by cases h), M1.out.held⟩
        · have HA2 : Hid (∀ y ∈ L.take (k + 1), (y.d.size : Int) ≤ 300) := by
            obtain ⟨q1, q2⟩ := List.getElem?_eq_some_iff.1 HX.out
            intro y hy
            rw [List.take_succ_eq_append_getElem q1, List.mem_append, List.mem_singleton] at hy
            rcases hy with hy | rfl
            · exact HA.out y hy
            · rw [q2]; omega
          go_wp2
          go_roundw
          case rel => exact ⟨k + 1, by go_num, by omega, by omega, HA2.out, M1.out⟩
          case measure => (simp [intOf]) <;> omega
      · have hge : ¬ (n : Int) ≤ 40 := by omega
        have hgb : decide ((n : Int) ≤ 40) = false := by simp; omega
        go_wp2
        go_ret
        exact ⟨false, by first | rfl | (rw [hgb]), (fun h => by cases h), M1.out.held⟩
    · obtain rfl : k = n := by omega
      by_cases h40 : (k : Int) ≤ 40
      · have hgb : decide ((k : Int) ≤ 40) = true := by simp; omega
        have HT : Hid (L.take k = L) := show _ = _ by rw [← HLN.out, List.take_length]
        go_wp2
        go_ret
        exact ⟨true, by first | rfl | (rw [hgb]), fun _ => ⟨by rw [HLN.out]; exact h40, by have := HA.out; rw [HT.out] at this; exact this⟩, M1.out.held⟩
      · have hgb : decide ((k : Int) ≤ 40) = false := by simp; omega
        go_wp2
        go_ret
        exact ⟨false, by first | rfl | (rw [hgb]), (fun h => by cases h), M1.out.held⟩
set_option maxHeartbeats 8000000 in
theorem tellslaw_any (A : Option Addr) (n cap : Nat) (lim hand pg st limit : Int) (L : List Pg) (d : ByteArray) (w : World) (h : Sl 3 pgC w A n L) (hn : (n : Int) ≤ 9223372036854775807) :
    Calls Try.prog 6 #[.agg #[.slice A n cap, .int .i64 lim, .int .i64 hand], .int .i64 pg, .int .i64 st, .string d, .int .i64 limit] w fun e w' => e = .returned (.bool true) ∧ Held w w' := by
  have HAW := Lib.hid (fun w' => awake_any w')
  have HLI := Lib.hid (fun w' (q : Held w w') => light_any A n cap lim hand L w' (h.held q) hn)
  have HTE := Lib.hid (fun w' (q : Held w w') (hl : Light L) => tells_any A n cap lim hand pg st limit L d w' (h.held q) (by have := hl.1; rw [h.1] at this; exact this) hl.2)
  have M0 := Lib.hid ((Mem.start w).alloc #[.slice A n cap, .int .i64 lim, .int .i64 hand] 32)
  clear h
  go_enter Try.func6, Try.ntmps6
  go_wp2_with fail
  refine (HLI.out _ M0.out.held).mono ?_
  rintro e w1 ⟨b, rfl, hb, hh1⟩
  have HB := Lib.hid hb
  have M1 := Lib.hid (M0.out.keep hh1)
  clear hb hh1 M0
  obtain ⟨⟨p0, p1, p2⟩, _, plt⟩ := M1.out.box3 0 rfl
  cases b
  · go_wp2_with (go_at_call 9; refine (HAW.out _).mono ?_; rintro e w4 ⟨rfl, h4⟩)
    go_ret
    exact ⟨rfl, M1.out.held.step h4⟩
  · by_cases h3 : (300 : Int) < d.size
    · go_wp2_with (go_at_call 9; refine (HAW.out _).mono ?_; rintro e w4 ⟨rfl, h4⟩)
      go_ret
      exact ⟨rfl, M1.out.held.step h4⟩
    · go_wp2_with fail
      refine (HTE.out _ M1.out.held (HB.out (by first | rfl | trivial))).mono ?_
      rintro e w2 ⟨rfl, h2⟩
      have M2 := Lib.hid (M1.out.keep h2)
      clear h2
      go_wp2_with (go_at_call 9; refine (HAW.out _).mono ?_; rintro e w4 ⟨rfl, h4⟩)
      go_ret
      exact ⟨rfl, M2.out.held.step h4⟩
theorem tellslaw (A : Option Addr) (n cap : Nat) (lim hand : Int) (L : List Pg) (pg st : Int) (d : ByteArray) (limit : Int) (w1 : (Lit.int .i64 pg).wf = true) (w2 : (Lit.int .i64 st).wf = true) (w3 : d.size ≤ maxLen) (w4 : (Lit.int .i64 limit).wf = true) (W : World)
    (h : Sl 3 pgC W A n L ∧ (A = none → n = 0) ∧ n ≤ cap ∧ cap ≤ maxLen ∧ ((Lit.int .i64 lim).wf = true ∧ (Lit.int .i64 hand).wf = true) ∧ ∀ x ∈ L, (Lit.int .i64 x.st).wf = true ∧ x.d.size ≤ maxLen) :
    Calls Try.prog 6 #[.agg #[.slice A n cap, .int .i64 lim, .int .i64 hand], .int .i64 pg, .int .i64 st, .string d, .int .i64 limit] W fun e w' => e = .returned (.bool true) ∧ Below W.heap.size W w' := by
  have m1 := h.2.2.1
  have m2 := h.2.2.2.1
  unfold maxLen at m2
  exact tellslaw_any A n cap lim hand pg st limit L d W h.1 (by omega)
end Pg
end Go.Proofs.Ytgfbfmgdlbdlhaa
