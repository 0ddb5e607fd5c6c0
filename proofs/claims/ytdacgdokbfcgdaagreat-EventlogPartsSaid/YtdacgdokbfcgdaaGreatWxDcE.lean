/-
  Contracts: reader.event of the program (chapters 19, 24).
-/
import Derived.Test.YtdacgdokbfcgdaaGreatWxDcC
set_option linter.unusedVariables false
set_option linter.unusedSimpArgs false
set_option maxRecDepth 100000
namespace Go.Proofs.YtdacgdokbfcgdaaGreat
open Go.RowKit Go.Lib
namespace Enc
open Uv Lg Lgc Strs
/-- Three blocks known whole: the reader's, the result's, the event's. -/
structure E3 (w : World) (b r e : Nat) (bc rc ec : Array Value) : Prop where
  hb : w.heap[b]? = some (.cells bc 87 (0, 0))
  hr : w.heap[r]? = some (.cells rc 66 (0, 0))
  he : w.heap[e]? = some (.cells ec 66 (0, 0))
  n1 : r ≠ b
  n2 : e ≠ b
  n3 : e ≠ r
theorem grown_keeps {w w' : World} {b q : Nat} {o : Obj} (hg : w.grownBy w' (some b)) (hq : q ≠ b) (h : w.heap[q]? = some o) : w'.heap[q]? = some o :=
  (hg.block q (Array.getElem?_eq_some_iff.1 h).1 (by intro e; first | exact hq (Option.some.inj e) | exact hq (Option.some.inj e).symm)).trans h
theorem E3.call {w w' : World} {b r e : Nat} {bc bc' rc ec : Array Value} (h : E3 w b r e bc rc ec) (hg : w.grownBy w' (some b)) (hb : w'.heap[b]? = some (.cells bc' 87 (0, 0))) : E3 w' b r e bc' rc ec :=
  ⟨hb, grown_keeps hg h.n1 h.hr, grown_keeps hg h.n2 h.he, h.n1, h.n2, h.n3⟩
theorem E3.putE {w : World} {b r e : Nat} {bc rc ec : Array Value} (h : E3 w b r e bc rc ec) (j : Nat) (v : Value) : E3 (w.setCell ⟨e, j, none⟩ v) b r e bc rc (ec.setIfInBounds j v) :=
  ⟨(Bx.far (Ne.symm h.n2)).trans h.hb, (Bx.far (Ne.symm h.n3)).trans h.hr, Bx.set h.he j v, h.n1, h.n2, h.n3⟩
theorem E3.putR {w : World} {b r e : Nat} {bc rc ec : Array Value} (h : E3 w b r e bc rc ec) (j : Nat) (v : Value) : E3 (w.setCell ⟨r, j, none⟩ v) b r e bc (rc.setIfInBounds j v) ec :=
  ⟨(Bx.far (Ne.symm h.n1)).trans h.hb, Bx.set h.hr j v, (Bx.far h.n3).trans h.he, h.n1, h.n2, h.n3⟩
theorem E3.facts {w : World} {b r e : Nat} {bc rc : Array Value} {x0 x1 x2 : Value} (h : E3 w b r e bc rc #[x0, x1, x2]) : (w.cell? ⟨e, 0, none⟩ = some x0 ∧ w.cell? ⟨e, 1, none⟩ = some x1 ∧ w.cell? ⟨e, 2, none⟩ = some x2) ∧ (w.frozen? ⟨e, 0, none⟩ = false ∧ w.frozen? ⟨e, 1, none⟩ = false ∧ w.frozen? ⟨e, 2, none⟩ = false) ∧ e < w.heap.size :=
  ⟨⟨Bx.cell h.he 0 rfl, Bx.cell h.he 1 rfl, Bx.cell h.he 2 rfl⟩, ⟨Bx.free h.he 0, Bx.free h.he 1, Bx.free h.he 2⟩, Bx.lt h.he⟩
theorem E3.rfacts {w : World} {b r e : Nat} {bc ec : Array Value} {x0 x1 x2 : Value} (h : E3 w b r e bc #[x0, x1, x2] ec) : (w.cell? ⟨r, 0, none⟩ = some x0 ∧ w.cell? ⟨r, 1, none⟩ = some x1 ∧ w.cell? ⟨r, 2, none⟩ = some x2) ∧ (w.frozen? ⟨r, 0, none⟩ = false ∧ w.frozen? ⟨r, 1, none⟩ = false ∧ w.frozen? ⟨r, 2, none⟩ = false) ∧ r < w.heap.size :=
  ⟨⟨Bx.cell h.hr 0 rfl, Bx.cell h.hr 1 rfl, Bx.cell h.hr 2 rfl⟩, ⟨Bx.free h.hr 0, Bx.free h.hr 1, Bx.free h.hr 2⟩, Bx.lt h.hr⟩
theorem E3.rfin {w : World} {b r e : Nat} {bc ec : Array Value} {x0 x1 x2 : Value} (h : E3 w b r e bc #[x0, x1, x2] ec) (y0 y1 y2 : Value) : (((w.setCell ⟨r, 0, none⟩ y0).setCell ⟨r, 1, none⟩ y1).setCell ⟨r, 2, none⟩ y2).heap[r]? = some (.cells #[y0, y1, y2] 66 (0, 0)) ∧ (((w.setCell ⟨r, 0, none⟩ y0).setCell ⟨r, 1, none⟩ y1).setCell ⟨r, 2, none⟩ y2).heap[b]? = some (.cells bc 87 (0, 0)) :=
  ⟨(((h.putR 0 y0).putR 1 y1).putR 2 y2).hr, (((h.putR 0 y0).putR 1 y1).putR 2 y2).hb⟩
theorem ev_load {w : World} {b : Nat} {k n : Int} {d : ByteArray} (h : w.heap[b]? = some (.cells #[.int .i64 k, .int .u32 n, .string d] 66 (0, 0))) : (loadVar 66 ⟨b, 0, none⟩).run Tryz.prog w = .ok (.agg #[.int .i64 k, .int .u32 n, .string d]) w := by
  have c0 := Bx.cell h 0 rfl
  have c1 := Bx.cell h 1 rfl
  have c2 := Bx.cell h 2 rfl
  simp [go_sem, c0, c1, c2]
theorem noWord_any (w : World) : Calls Tryz.prog 48 #[] w fun e w' => e = .returned (.int .u32 0) ∧ w = w' := by
  go_enter Tryz.func48, Tryz.ntmps48
  go_wp2
  go_ret
  exact ⟨rfl, rfl⟩
theorem noData_any (w : World) : Calls Tryz.prog 49 #[] w fun e w' => e = .returned (.string ⟨#[]⟩) ∧ w = w' := by
  go_enter Tryz.func49, Tryz.ntmps49
  go_wp2
  go_ret
  exact ⟨rfl, rfl⟩
theorem grown_new {w w' : World} {r : Option Nat} {q : Nat} (hq : w.heap.size ≤ q) (j : Nat) (v : Value) (h : w.grownBy w' r) : w.grownBy (w'.setCell ⟨q, j, none⟩ v) r :=
  ⟨h.os, h.tape, h.output, by have := h.size; simpa using this, fun k hk hr => (Below.heap_setCell w' _ _ _ (by simp only; omega)).trans (h.block k hk hr)⟩
set_option maxHeartbeats 8000000 in
theorem event_any (b : Nat) (s : ByteArray) (bad : Bool) (hs : s.size ≤ 9223372036854775807) (w : World) (hb : w.heap[b]? = some (.cells #[.string s, .bool bad] 87 (0, 0))) :
    Calls Tryz.prog 33 #[.pointer (some ⟨b, 0, none⟩)] w (EvTo b (evR s.data.toList bad) w) := by
  obtain ⟨l, hl⟩ : ∃ l, s.data.toList = l := ⟨_, rfl⟩
  have hsl : s.size = l.length := by rw [← hl, len_eq]
  obtain ⟨k, t1, b1, hw⟩ : ∃ k t1 b1, wordR l bad = (k, t1, b1) := ⟨_, _, _, rfl⟩
  have hk := word_lt l bad
  have htl := word_len l bad
  rw [hw] at hk htl
  simp only at hk htl
  have hE : evR l bad = if k = 1 ∨ k = 3 ∨ k = 6 then ⟨k, (wordR t1 b1).1, [], (wordR t1 b1).2.1, (wordR t1 b1).2.2⟩
      else if k = 4 then ⟨k, (wordR t1 b1).1, (dataR (wordR t1 b1).2.1 (wordR t1 b1).2.2).1, (dataR (wordR t1 b1).2.1 (wordR t1 b1).2.2).2.1, (dataR (wordR t1 b1).2.1 (wordR t1 b1).2.2).2.2⟩
      else if k = 5 then ⟨k, 0, (dataR t1 b1).1, (dataR t1 b1).2.1, (dataR t1 b1).2.2⟩ else ⟨k, 0, [], t1, b1⟩ := by
    unfold evR; rw [hw]
  obtain ⟨n2, t2, b2, hw2⟩ : ∃ n2 t2 b2, wordR t1 b1 = (n2, t2, b2) := ⟨_, _, _, rfl⟩
  have HW2 : Is (wordR t1 b1) (n2, t2, b2) := ⟨hw2⟩
  obtain ⟨d4, t4, b4, hd4⟩ : ∃ d4 t4 b4, dataR t2 b2 = (d4, t4, b4) := ⟨_, _, _, rfl⟩
  have HD4 : Is (dataR t2 b2) (d4, t4, b4) := ⟨hd4⟩
  obtain ⟨d5, t5, b5, hd5⟩ : ∃ d5 t5 b5, dataR t1 b1 = (d5, t5, b5) := ⟨_, _, _, rfl⟩
  have HD5 : Is (dataR t1 b1) (d5, t5, b5) := ⟨hd5⟩
  rw [hw2, hd5] at hE
  simp only at hE
  rw [hd4] at hE
  simp only at hE
  have HE := Lib.hid hE
  rw [hl]
  have HBX := Lib.hid hb
  have hwd := fun (w' : World) (h : w'.heap[b]? = some (.cells #[.string s, .bool bad] 87 (0, 0))) => word_any b s bad hs w' h
  rw [hl, hw] at hwd
  have HWD := Lib.hid hwd
  have hblt : b < w.heap.size := (Array.getElem?_eq_some_iff.1 hb).1
  have hll : l.length ≤ 9223372036854775807 := by omega
  clear hl hw hE hwd hb hsl hw2 hd4 hd5
  by_cases c1 : k = 1
  · subst c1
    have HEV : Is (evR l bad) ⟨1, n2, [], t2, b2⟩ := ⟨by have := HE.out; simpa using this⟩
    go_enter Tryz.func33, Tryz.ntmps33
    go_wp2_with fail
    refine (HWD.out _ (Bx.held HBX.out ((Held.refl w).alloc _))).mono ?_
    rintro e w1 ⟨rfl, s1, hs1, hb1, hg1⟩
    dsimp only at hs1 hb1 ⊢
    have HS1 : Is s1.data.toList t1 := ⟨hs1⟩
    have hl1 : s1.size ≤ 9223372036854775807 := by
      rw [← len_eq, hs1]; omega
    have hr1 : w1.heap[w.heap.size]? = some (.cells #[.int .i64 0, .int .u32 0, .string ⟨#[]⟩] 66 (0, 0)) := grown_keeps hg1 (Ne.symm (Nat.ne_of_lt hblt)) (Bx.new w _)
    have hs1z : w.heap.size < w1.heap.size := Bx.lt hr1
    have X2 : Hid (E3 (w1.alloc (.cells #[.int .i64 1, .int .u32 0, .string ⟨#[]⟩] 66)) b w.heap.size w1.heap.size #[.string s1, .bool b1] #[.int .i64 0, .int .u32 0, .string ⟨#[]⟩] #[.int .i64 1, .int .u32 0, .string ⟨#[]⟩]) :=
      Lib.hid ⟨Bx.held hb1 ((Held.refl w1).alloc _), Bx.held hr1 ((Held.refl w1).alloc _), Bx.new w1 _, Ne.symm (Nat.ne_of_lt hblt), by omega, by omega⟩
    have G2 := Lib.hid (grown_trans (grown_trans (grown_held (r := some b) ((Held.refl w).alloc (.cells #[.int .i64 0, .int .u32 0, .string ⟨#[]⟩] 66))) hg1) (grown_held (r := some b) ((Held.refl w1).alloc (.cells #[.int .i64 1, .int .u32 0, .string ⟨#[]⟩] 66))))
    clear hs1 hb1 hg1 hr1
    go_wp2_with fail
    refine (word_any b s1 b1 (by omega) _ X2.out.hb).mono ?_
    rw [HS1.out]
    rintro e w2 ⟨rfl, s2, hs2, hb2, hg2⟩
    have HS2 : Is s2.data.toList t2 := ⟨by rw [hs2, HW2.out]⟩
    have hl2 : s2.size ≤ s1.size := by
      have h1 := word_len t1 b1
      have h3 := HS1.out
      rw [← len_eq, ← len_eq, hs2, h3]
      exact h1
    rw [HW2.out] at hb2 ⊢
    dsimp only at hb2 ⊢
    have X3 := Lib.hid (X2.out.call hg2 hb2)
    have G3 := Lib.hid (grown_trans G2.out hg2)
    clear hs2 hb2 hg2
    obtain ⟨⟨q0, q1, q2⟩, ⟨qf0, qf1, qf2⟩, qlt⟩ := X3.out.facts
    have X4 := Lib.hid (X3.out.putE 1 (.int .u32 (n2 : Int)))
    have G4 := Lib.hid (grown_new (q := w1.heap.size) (by omega) 1 (.int .u32 (n2 : Int)) G3.out)
    go_wp2_with fail
    refine (noData_any _).mono ?_
    rintro e w3 ⟨rfl, rfl⟩
    have X5 := X4
    have G5 := G4
    clear q0 q1 q2 qf0 qf1 qf2 qlt
    obtain ⟨⟨q0, q1, q2⟩, ⟨qf0, qf1, qf2⟩, qlt⟩ := X5.out.facts
    obtain ⟨⟨r0, r1, r2⟩, ⟨rf0, rf1, rf2⟩, rlt⟩ := X5.out.rfacts
    have ner : ¬ w.heap.size = w1.heap.size := by omega
    have ner2 : ¬ w1.heap.size = w.heap.size := by omega
    go_wp2
    have X6 := X5.out.putE 2 (.string ⟨#[]⟩)
    have G6 := grown_new (q := w1.heap.size) (by omega) 2 (.string ⟨#[]⟩) G5.out
    obtain ⟨MR, MB⟩ := X6.rfin (.int .i64 1) (.int .u32 (n2 : Int)) (.string ⟨#[]⟩)
    clear X6 X2 X3 X4 X5 q0 q1 q2 qf0 qf1 qf2 qlt r0 r1 r2 rf0 rf1 rf2 rlt
    refine bodyPost_ret (Bx.res_c Tryz.results33 rfl (ev_load MR)) rfl ?_
    rw [HEV.out]
    exact ⟨⟨#[]⟩, rfl, rfl, _, HS2.out, MB, grown_new (Nat.le_refl _) _ _ (grown_new (Nat.le_refl _) _ _ (grown_new (Nat.le_refl _) _ _ G6))⟩
  by_cases c3 : k = 3
  · subst c3
    have HEV : Is (evR l bad) ⟨3, n2, [], t2, b2⟩ := ⟨by have := HE.out; simpa using this⟩
    go_enter Tryz.func33, Tryz.ntmps33
    go_wp2_with fail
    refine (HWD.out _ (Bx.held HBX.out ((Held.refl w).alloc _))).mono ?_
    rintro e w1 ⟨rfl, s1, hs1, hb1, hg1⟩
    dsimp only at hs1 hb1 ⊢
    have HS1 : Is s1.data.toList t1 := ⟨hs1⟩
    have hl1 : s1.size ≤ 9223372036854775807 := by
      rw [← len_eq, hs1]; omega
    have hr1 : w1.heap[w.heap.size]? = some (.cells #[.int .i64 0, .int .u32 0, .string ⟨#[]⟩] 66 (0, 0)) := grown_keeps hg1 (Ne.symm (Nat.ne_of_lt hblt)) (Bx.new w _)
    have hs1z : w.heap.size < w1.heap.size := Bx.lt hr1
    have X2 : Hid (E3 (w1.alloc (.cells #[.int .i64 3, .int .u32 0, .string ⟨#[]⟩] 66)) b w.heap.size w1.heap.size #[.string s1, .bool b1] #[.int .i64 0, .int .u32 0, .string ⟨#[]⟩] #[.int .i64 3, .int .u32 0, .string ⟨#[]⟩]) :=
      Lib.hid ⟨Bx.held hb1 ((Held.refl w1).alloc _), Bx.held hr1 ((Held.refl w1).alloc _), Bx.new w1 _, Ne.symm (Nat.ne_of_lt hblt), by omega, by omega⟩
    have G2 := Lib.hid (grown_trans (grown_trans (grown_held (r := some b) ((Held.refl w).alloc (.cells #[.int .i64 0, .int .u32 0, .string ⟨#[]⟩] 66))) hg1) (grown_held (r := some b) ((Held.refl w1).alloc (.cells #[.int .i64 3, .int .u32 0, .string ⟨#[]⟩] 66))))
    clear hs1 hb1 hg1 hr1
    go_wp2_with fail
    refine (word_any b s1 b1 (by omega) _ X2.out.hb).mono ?_
    rw [HS1.out]
    rintro e w2 ⟨rfl, s2, hs2, hb2, hg2⟩
    have HS2 : Is s2.data.toList t2 := ⟨by rw [hs2, HW2.out]⟩
    have hl2 : s2.size ≤ s1.size := by
      have h1 := word_len t1 b1
      have h3 := HS1.out
      rw [← len_eq, ← len_eq, hs2, h3]
      exact h1
    rw [HW2.out] at hb2 ⊢
    dsimp only at hb2 ⊢
    have X3 := Lib.hid (X2.out.call hg2 hb2)
    have G3 := Lib.hid (grown_trans G2.out hg2)
    clear hs2 hb2 hg2
    obtain ⟨⟨q0, q1, q2⟩, ⟨qf0, qf1, qf2⟩, qlt⟩ := X3.out.facts
    have X4 := Lib.hid (X3.out.putE 1 (.int .u32 (n2 : Int)))
    have G4 := Lib.hid (grown_new (q := w1.heap.size) (by omega) 1 (.int .u32 (n2 : Int)) G3.out)
    go_wp2_with fail
    refine (noData_any _).mono ?_
    rintro e w3 ⟨rfl, rfl⟩
    have X5 := X4
    have G5 := G4
    clear q0 q1 q2 qf0 qf1 qf2 qlt
    obtain ⟨⟨q0, q1, q2⟩, ⟨qf0, qf1, qf2⟩, qlt⟩ := X5.out.facts
    obtain ⟨⟨r0, r1, r2⟩, ⟨rf0, rf1, rf2⟩, rlt⟩ := X5.out.rfacts
    have ner : ¬ w.heap.size = w1.heap.size := by omega
    have ner2 : ¬ w1.heap.size = w.heap.size := by omega
    go_wp2
    have X6 := X5.out.putE 2 (.string ⟨#[]⟩)
    have G6 := grown_new (q := w1.heap.size) (by omega) 2 (.string ⟨#[]⟩) G5.out
    obtain ⟨MR, MB⟩ := X6.rfin (.int .i64 3) (.int .u32 (n2 : Int)) (.string ⟨#[]⟩)
    clear X6 X2 X3 X4 X5 q0 q1 q2 qf0 qf1 qf2 qlt r0 r1 r2 rf0 rf1 rf2 rlt
    refine bodyPost_ret (Bx.res_c Tryz.results33 rfl (ev_load MR)) rfl ?_
    rw [HEV.out]
    exact ⟨⟨#[]⟩, rfl, rfl, _, HS2.out, MB, grown_new (Nat.le_refl _) _ _ (grown_new (Nat.le_refl _) _ _ (grown_new (Nat.le_refl _) _ _ G6))⟩
  by_cases c6 : k = 6
  · subst c6
    have HEV : Is (evR l bad) ⟨6, n2, [], t2, b2⟩ := ⟨by have := HE.out; simpa using this⟩
    go_enter Tryz.func33, Tryz.ntmps33
    go_wp2_with fail
    refine (HWD.out _ (Bx.held HBX.out ((Held.refl w).alloc _))).mono ?_
    rintro e w1 ⟨rfl, s1, hs1, hb1, hg1⟩
    dsimp only at hs1 hb1 ⊢
    have HS1 : Is s1.data.toList t1 := ⟨hs1⟩
    have hl1 : s1.size ≤ 9223372036854775807 := by
      rw [← len_eq, hs1]; omega
    have hr1 : w1.heap[w.heap.size]? = some (.cells #[.int .i64 0, .int .u32 0, .string ⟨#[]⟩] 66 (0, 0)) := grown_keeps hg1 (Ne.symm (Nat.ne_of_lt hblt)) (Bx.new w _)
    have hs1z : w.heap.size < w1.heap.size := Bx.lt hr1
    have X2 : Hid (E3 (w1.alloc (.cells #[.int .i64 6, .int .u32 0, .string ⟨#[]⟩] 66)) b w.heap.size w1.heap.size #[.string s1, .bool b1] #[.int .i64 0, .int .u32 0, .string ⟨#[]⟩] #[.int .i64 6, .int .u32 0, .string ⟨#[]⟩]) :=
      Lib.hid ⟨Bx.held hb1 ((Held.refl w1).alloc _), Bx.held hr1 ((Held.refl w1).alloc _), Bx.new w1 _, Ne.symm (Nat.ne_of_lt hblt), by omega, by omega⟩
    have G2 := Lib.hid (grown_trans (grown_trans (grown_held (r := some b) ((Held.refl w).alloc (.cells #[.int .i64 0, .int .u32 0, .string ⟨#[]⟩] 66))) hg1) (grown_held (r := some b) ((Held.refl w1).alloc (.cells #[.int .i64 6, .int .u32 0, .string ⟨#[]⟩] 66))))
    clear hs1 hb1 hg1 hr1
    go_wp2_with fail
    refine (word_any b s1 b1 (by omega) _ X2.out.hb).mono ?_
    rw [HS1.out]
    rintro e w2 ⟨rfl, s2, hs2, hb2, hg2⟩
    have HS2 : Is s2.data.toList t2 := ⟨by rw [hs2, HW2.out]⟩
    have hl2 : s2.size ≤ s1.size := by
      have h1 := word_len t1 b1
      have h3 := HS1.out
      rw [← len_eq, ← len_eq, hs2, h3]
      exact h1
    rw [HW2.out] at hb2 ⊢
    dsimp only at hb2 ⊢
    have X3 := Lib.hid (X2.out.call hg2 hb2)
    have G3 := Lib.hid (grown_trans G2.out hg2)
    clear hs2 hb2 hg2
    obtain ⟨⟨q0, q1, q2⟩, ⟨qf0, qf1, qf2⟩, qlt⟩ := X3.out.facts
    have X4 := Lib.hid (X3.out.putE 1 (.int .u32 (n2 : Int)))
    have G4 := Lib.hid (grown_new (q := w1.heap.size) (by omega) 1 (.int .u32 (n2 : Int)) G3.out)
    go_wp2_with fail
    refine (noData_any _).mono ?_
    rintro e w3 ⟨rfl, rfl⟩
    have X5 := X4
    have G5 := G4
    clear q0 q1 q2 qf0 qf1 qf2 qlt
    obtain ⟨⟨q0, q1, q2⟩, ⟨qf0, qf1, qf2⟩, qlt⟩ := X5.out.facts
    obtain ⟨⟨r0, r1, r2⟩, ⟨rf0, rf1, rf2⟩, rlt⟩ := X5.out.rfacts
    have ner : ¬ w.heap.size = w1.heap.size := by omega
    have ner2 : ¬ w1.heap.size = w.heap.size := by omega
    go_wp2
    have X6 := X5.out.putE 2 (.string ⟨#[]⟩)
    have G6 := grown_new (q := w1.heap.size) (by omega) 2 (.string ⟨#[]⟩) G5.out
    obtain ⟨MR, MB⟩ := X6.rfin (.int .i64 6) (.int .u32 (n2 : Int)) (.string ⟨#[]⟩)
    clear X6 X2 X3 X4 X5 q0 q1 q2 qf0 qf1 qf2 qlt r0 r1 r2 rf0 rf1 rf2 rlt
    refine bodyPost_ret (Bx.res_c Tryz.results33 rfl (ev_load MR)) rfl ?_
    rw [HEV.out]
    exact ⟨⟨#[]⟩, rfl, rfl, _, HS2.out, MB, grown_new (Nat.le_refl _) _ _ (grown_new (Nat.le_refl _) _ _ (grown_new (Nat.le_refl _) _ _ G6))⟩
  by_cases c4 : k = 4
  · subst c4
    have HEV : Is (evR l bad) ⟨4, n2, d4, t4, b4⟩ := ⟨by have := HE.out; simpa using this⟩
    go_enter Tryz.func33, Tryz.ntmps33
    go_wp2_with fail
    refine (HWD.out _ (Bx.held HBX.out ((Held.refl w).alloc _))).mono ?_
    rintro e w1 ⟨rfl, s1, hs1, hb1, hg1⟩
    dsimp only at hs1 hb1 ⊢
    have HS1 : Is s1.data.toList t1 := ⟨hs1⟩
    have hl1 : s1.size ≤ 9223372036854775807 := by
      rw [← len_eq, hs1]; omega
    have hr1 : w1.heap[w.heap.size]? = some (.cells #[.int .i64 0, .int .u32 0, .string ⟨#[]⟩] 66 (0, 0)) := grown_keeps hg1 (Ne.symm (Nat.ne_of_lt hblt)) (Bx.new w _)
    have hs1z : w.heap.size < w1.heap.size := Bx.lt hr1
    have X2 : Hid (E3 (w1.alloc (.cells #[.int .i64 4, .int .u32 0, .string ⟨#[]⟩] 66)) b w.heap.size w1.heap.size #[.string s1, .bool b1] #[.int .i64 0, .int .u32 0, .string ⟨#[]⟩] #[.int .i64 4, .int .u32 0, .string ⟨#[]⟩]) :=
      Lib.hid ⟨Bx.held hb1 ((Held.refl w1).alloc _), Bx.held hr1 ((Held.refl w1).alloc _), Bx.new w1 _, Ne.symm (Nat.ne_of_lt hblt), by omega, by omega⟩
    have G2 := Lib.hid (grown_trans (grown_trans (grown_held (r := some b) ((Held.refl w).alloc (.cells #[.int .i64 0, .int .u32 0, .string ⟨#[]⟩] 66))) hg1) (grown_held (r := some b) ((Held.refl w1).alloc (.cells #[.int .i64 4, .int .u32 0, .string ⟨#[]⟩] 66))))
    clear hs1 hb1 hg1 hr1
    go_wp2_with fail
    refine (word_any b s1 b1 (by omega) _ X2.out.hb).mono ?_
    rw [HS1.out]
    rintro e w2 ⟨rfl, s2, hs2, hb2, hg2⟩
    have HS2 : Is s2.data.toList t2 := ⟨by rw [hs2, HW2.out]⟩
    have hl2 : s2.size ≤ s1.size := by
      have h1 := word_len t1 b1
      have h3 := HS1.out
      rw [← len_eq, ← len_eq, hs2, h3]
      exact h1
    rw [HW2.out] at hb2 ⊢
    dsimp only at hb2 ⊢
    have X3 := Lib.hid (X2.out.call hg2 hb2)
    have G3 := Lib.hid (grown_trans G2.out hg2)
    clear hs2 hb2 hg2
    obtain ⟨⟨q0, q1, q2⟩, ⟨qf0, qf1, qf2⟩, qlt⟩ := X3.out.facts
    have X4 := Lib.hid (X3.out.putE 1 (.int .u32 (n2 : Int)))
    have G4 := Lib.hid (grown_new (q := w1.heap.size) (by omega) 1 (.int .u32 (n2 : Int)) G3.out)
    go_wp2_with fail
    refine (data_any b s2 b2 (by omega) _ X4.out.hb).mono ?_
    rw [HS2.out, HD4.out]
    rintro e w3 ⟨ds, rfl, hds, s3, hs3, hb3, hg3⟩
    dsimp only at hds hs3 hb3
    have X5 := Lib.hid (X4.out.call hg3 hb3)
    have G5 := Lib.hid (grown_trans G4.out hg3)
    clear hb3 hg3
    clear q0 q1 q2 qf0 qf1 qf2 qlt
    obtain ⟨⟨q0, q1, q2⟩, ⟨qf0, qf1, qf2⟩, qlt⟩ := X5.out.facts
    obtain ⟨⟨r0, r1, r2⟩, ⟨rf0, rf1, rf2⟩, rlt⟩ := X5.out.rfacts
    have ner : ¬ w.heap.size = w1.heap.size := by omega
    have ner2 : ¬ w1.heap.size = w.heap.size := by omega
    go_wp2
    have X6 := X5.out.putE 2 (.string ds)
    have G6 := grown_new (q := w1.heap.size) (by omega) 2 (.string ds) G5.out
    obtain ⟨MR, MB⟩ := X6.rfin (.int .i64 4) (.int .u32 (n2 : Int)) (.string ds)
    clear X6 X2 X3 X4 X5 q0 q1 q2 qf0 qf1 qf2 qlt r0 r1 r2 rf0 rf1 rf2 rlt
    refine bodyPost_ret (Bx.res_c Tryz.results33 rfl (ev_load MR)) rfl ?_
    rw [HEV.out]
    exact ⟨ds, rfl, (by rw [hds]), _, hs3, MB, grown_new (Nat.le_refl _) _ _ (grown_new (Nat.le_refl _) _ _ (grown_new (Nat.le_refl _) _ _ G6))⟩
  by_cases c5 : k = 5
  · subst c5
    have HEV : Is (evR l bad) ⟨5, 0, d5, t5, b5⟩ := ⟨by have := HE.out; simpa using this⟩
    go_enter Tryz.func33, Tryz.ntmps33
    go_wp2_with fail
    refine (HWD.out _ (Bx.held HBX.out ((Held.refl w).alloc _))).mono ?_
    rintro e w1 ⟨rfl, s1, hs1, hb1, hg1⟩
    dsimp only at hs1 hb1 ⊢
    have HS1 : Is s1.data.toList t1 := ⟨hs1⟩
    have hl1 : s1.size ≤ 9223372036854775807 := by
      rw [← len_eq, hs1]; omega
    have hr1 : w1.heap[w.heap.size]? = some (.cells #[.int .i64 0, .int .u32 0, .string ⟨#[]⟩] 66 (0, 0)) := grown_keeps hg1 (Ne.symm (Nat.ne_of_lt hblt)) (Bx.new w _)
    have hs1z : w.heap.size < w1.heap.size := Bx.lt hr1
    have X2 : Hid (E3 (w1.alloc (.cells #[.int .i64 5, .int .u32 0, .string ⟨#[]⟩] 66)) b w.heap.size w1.heap.size #[.string s1, .bool b1] #[.int .i64 0, .int .u32 0, .string ⟨#[]⟩] #[.int .i64 5, .int .u32 0, .string ⟨#[]⟩]) :=
      Lib.hid ⟨Bx.held hb1 ((Held.refl w1).alloc _), Bx.held hr1 ((Held.refl w1).alloc _), Bx.new w1 _, Ne.symm (Nat.ne_of_lt hblt), by omega, by omega⟩
    have G2 := Lib.hid (grown_trans (grown_trans (grown_held (r := some b) ((Held.refl w).alloc (.cells #[.int .i64 0, .int .u32 0, .string ⟨#[]⟩] 66))) hg1) (grown_held (r := some b) ((Held.refl w1).alloc (.cells #[.int .i64 5, .int .u32 0, .string ⟨#[]⟩] 66))))
    clear hs1 hb1 hg1 hr1
    go_wp2_with fail
    refine (noWord_any _).mono ?_
    rintro e w2 ⟨rfl, rfl⟩
    have HS2 : Is s1.data.toList t1 := HS1
    have X3 := X2
    have G3 := G2
    obtain ⟨⟨q0, q1, q2⟩, ⟨qf0, qf1, qf2⟩, qlt⟩ := X3.out.facts
    have X4 := X3
    have G4 := G3
    go_wp2_with fail
    refine (data_any b s1 b1 (by omega) _ X4.out.hb).mono ?_
    rw [HS2.out, HD5.out]
    rintro e w3 ⟨ds, rfl, hds, s3, hs3, hb3, hg3⟩
    dsimp only at hds hs3 hb3
    have X5 := Lib.hid (X4.out.call hg3 hb3)
    have G5 := Lib.hid (grown_trans G4.out hg3)
    clear hb3 hg3
    clear q0 q1 q2 qf0 qf1 qf2 qlt
    obtain ⟨⟨q0, q1, q2⟩, ⟨qf0, qf1, qf2⟩, qlt⟩ := X5.out.facts
    obtain ⟨⟨r0, r1, r2⟩, ⟨rf0, rf1, rf2⟩, rlt⟩ := X5.out.rfacts
    have ner : ¬ w.heap.size = w1.heap.size := by omega
    have ner2 : ¬ w1.heap.size = w.heap.size := by omega
    go_wp2
    have X6 := X5.out.putE 2 (.string ds)
    have G6 := grown_new (q := w1.heap.size) (by omega) 2 (.string ds) G5.out
    obtain ⟨MR, MB⟩ := X6.rfin (.int .i64 5) (.int .u32 0) (.string ds)
    clear X6 X2 X3 X4 X5 q0 q1 q2 qf0 qf1 qf2 qlt r0 r1 r2 rf0 rf1 rf2 rlt
    refine bodyPost_ret (Bx.res_c Tryz.results33 rfl (ev_load MR)) rfl ?_
    rw [HEV.out]
    exact ⟨ds, rfl, (by rw [hds]), _, hs3, MB, grown_new (Nat.le_refl _) _ _ (grown_new (Nat.le_refl _) _ _ (grown_new (Nat.le_refl _) _ _ G6))⟩
  have HEV : Is (evR l bad) ⟨k, 0, [], t1, b1⟩ := ⟨by have := HE.out; rw [if_neg (by omega), if_neg c4, if_neg c5] at this; exact this⟩
  have cb1 : ((k : Int) == 1) = false := by simp; omega
  have cb3 : ((k : Int) == 3) = false := by simp; omega
  have cb6 : ((k : Int) == 6) = false := by simp; omega
  have cb4 : ((k : Int) == 4) = false := by simp; omega
  have cb5 : ((k : Int) == 5) = false := by simp; omega
  clear c1 c3 c6 c4 c5
  go_enter Tryz.func33, Tryz.ntmps33
  go_wp2_with fail
  refine (HWD.out _ (Bx.held HBX.out ((Held.refl w).alloc _))).mono ?_
  rintro e w1 ⟨rfl, s1, hs1, hb1, hg1⟩
  dsimp only at hs1 hb1 ⊢
  have HS1 : Is s1.data.toList t1 := ⟨hs1⟩
  have hl1 : s1.size ≤ 9223372036854775807 := by
    rw [← len_eq, hs1]; omega
  have hr1 : w1.heap[w.heap.size]? = some (.cells #[.int .i64 0, .int .u32 0, .string ⟨#[]⟩] 66 (0, 0)) := grown_keeps hg1 (Ne.symm (Nat.ne_of_lt hblt)) (Bx.new w _)
  have hs1z : w.heap.size < w1.heap.size := Bx.lt hr1
  have X2 : Hid (E3 (w1.alloc (.cells #[.int .i64 (k : Int), .int .u32 0, .string ⟨#[]⟩] 66)) b w.heap.size w1.heap.size #[.string s1, .bool b1] #[.int .i64 0, .int .u32 0, .string ⟨#[]⟩] #[.int .i64 (k : Int), .int .u32 0, .string ⟨#[]⟩]) :=
    Lib.hid ⟨Bx.held hb1 ((Held.refl w1).alloc _), Bx.held hr1 ((Held.refl w1).alloc _), Bx.new w1 _, Ne.symm (Nat.ne_of_lt hblt), by omega, by omega⟩
  have G2 := Lib.hid (grown_trans (grown_trans (grown_held (r := some b) ((Held.refl w).alloc (.cells #[.int .i64 0, .int .u32 0, .string ⟨#[]⟩] 66))) hg1) (grown_held (r := some b) ((Held.refl w1).alloc (.cells #[.int .i64 (k : Int), .int .u32 0, .string ⟨#[]⟩] 66))))
  have HR1 := Lib.hid hr1
  have HB1 := Lib.hid hb1
  have HG1 := Lib.hid (grown_trans (grown_held (r := some b) ((Held.refl w).alloc (.cells #[.int .i64 0, .int .u32 0, .string ⟨#[]⟩] 66))) hg1)
  clear hs1 hb1 hg1 hr1
  go_wp2_with fail
  refine (noWord_any _).mono ?_
  rintro e w2 ⟨rfl, rfl⟩
  have HS2 : Is s1.data.toList t1 := HS1
  have X3 := X2
  have G3 := G2
  obtain ⟨⟨q0, q1, q2⟩, ⟨qf0, qf1, qf2⟩, qlt⟩ := X3.out.facts
  have X4 := X3
  have G4 := G3
  go_wp2_with fail
  refine (noData_any _).mono ?_
  rintro e w3 ⟨rfl, rfl⟩
  have X5 := X4
  have G5 := G4
  clear q0 q1 q2 qf0 qf1 qf2 qlt
  obtain ⟨⟨q0, q1, q2⟩, ⟨qf0, qf1, qf2⟩, qlt⟩ := X5.out.facts
  obtain ⟨⟨r0, r1, r2⟩, ⟨rf0, rf1, rf2⟩, rlt⟩ := X5.out.rfacts
  clear r0 r1 r2 rf0 rf1 rf2 rlt q0 q1 q2 qf0 qf1 qf2 qlt
  have r0 := Bx.cell HR1.out 0 rfl
  have r1 := Bx.cell HR1.out 1 rfl
  have r2 := Bx.cell HR1.out 2 rfl
  have rf0 := Bx.free HR1.out 0
  have rf1 := Bx.free HR1.out 1
  have rf2 := Bx.free HR1.out 2
  have rlt := Bx.lt HR1.out
  have ner : ¬ w.heap.size = w1.heap.size := by omega
  have ner2 : ¬ w1.heap.size = w.heap.size := by omega
  go_wp2
  have MR : ((((w1.setCell ⟨w.heap.size, 0, none⟩ (.int .i64 (k : Int))).setCell ⟨w.heap.size, 1, none⟩ (.int .u32 0)).setCell ⟨w.heap.size, 2, none⟩ (.string ⟨#[]⟩)).alloc (.cells #[.int .i64 (k : Int), .int .u32 0, .string ⟨#[]⟩] 66)).heap[w.heap.size]? = some (.cells #[.int .i64 (k : Int), .int .u32 0, .string ⟨#[]⟩] 66 (0, 0)) :=
    Bx.held (Bx.set (Bx.set (Bx.set HR1.out 0 _) 1 _) 2 _) ((Held.refl _).alloc _)
  have hnb : ¬ b = w.heap.size := Nat.ne_of_lt hblt
  have MB := Bx.held (((Bx.far hnb).trans ((Bx.far hnb).trans ((Bx.far hnb).trans HB1.out))) : (((w1.setCell ⟨w.heap.size, 0, none⟩ (.int .i64 (k : Int))).setCell ⟨w.heap.size, 1, none⟩ (.int .u32 0)).setCell ⟨w.heap.size, 2, none⟩ (.string ⟨#[]⟩)).heap[b]? = _) ((Held.refl _).alloc (.cells #[.int .i64 (k : Int), .int .u32 0, .string ⟨#[]⟩] 66))
  clear X2 X3 X4 X5 r0 r1 r2 rf0 rf1 rf2 rlt
  refine bodyPost_ret (Bx.res_c Tryz.results33 rfl (ev_load MR)) rfl ?_
  rw [HEV.out]
  exact ⟨⟨#[]⟩, rfl, rfl, _, HS1.out, MB, grown_trans (grown_new (Nat.le_refl _) _ _ (grown_new (Nat.le_refl _) _ _ (grown_new (Nat.le_refl _) _ _ HG1.out))) (grown_held ((Held.refl _).alloc _))⟩
end Enc
end Go.Proofs.YtdacgdokbfcgdaaGreat
