/-
  Chapter 27: all functions return what the chapter specifies: the walk.
-/
import Derived.Test.YtbebidbjcjoedaaLawHt
import Derived.Test.YtbebidbjcjoedaaRw
namespace Go.Proofs.Ytbebidbjcjoedaa
open Go.RowKit Go.Sort
set_option linter.unusedVariables false
set_option linter.unusedSimpArgs false
set_option maxRecDepth 100000
namespace Htc
open Ht Lgc Rw
set_option maxHeartbeats 2000000 in
theorem tells (l s n : Int) (a1 a2 a3 : Int) (s4 : ByteArray) (w1 : (Lit.int .i64 a1).wf = true) (w2 : (Lit.int .u64 a2).wf = true) (w3 : (Lit.int .u64 a3).wf = true) (w4 : s4.size ≤ maxLen) (W : World)
    (g0 : (Lit.int .i64 l).wf = true ∧ (Lit.int .i64 s).wf = true ∧ (Lit.int .u64 n).wf = true) :
    Calls Try.prog 3 #[.agg #[.int .i64 l, .int .i64 s, .int .u64 n], .int .i64 a1, .int .u64 a2, .int .u64 a3, .string s4] W fun e w' => e = .returned (.bool true) ∧ Below W.heap.size W w' := by
  have b2 := bd_u64 w2
  have b3 := bd_u64 w3
  have bn := bd_u64 g0.2.2
  have m4 : (s4.size : Int) ≤ 9223372036854775807 := by unfold maxLen at w4; omega
  clear w1 w2 w3 w4 g0
  obtain ⟨n, rfl⟩ := Int.eq_ofNat_of_zero_le bn.1
  obtain ⟨a2, rfl⟩ := Int.eq_ofNat_of_zero_le b2.1
  obtain ⟨a3, rfl⟩ := Int.eq_ofNat_of_zero_le b3.1
  by_cases hs : (200 : Int) < s4.size
  · go_enter Try.func3, Try.ntmps3
    go_wp2_with (go_at_call 7; refine (awake_any _).mono ?_; rintro e w1 ⟨rfl, hb⟩)
    go_ret
    exact ⟨rfl, ((Held.refl _).alloc _).step hb⟩
  obtain ⟨⟨⟨l1, s1, n1⟩, k1⟩, e1⟩ : ∃ x : Det × Bool, newD a1 = x := ⟨_, rfl⟩
  obtain ⟨⟨⟨l2, s2, n2⟩, k2⟩, e2⟩ : ∃ x : Det × Bool, beat ⟨l, s, n⟩ a2 = x := ⟨_, rfl⟩
  obtain ⟨⟨l3, s3, n3⟩, e3⟩ : ∃ x : Det, tick ⟨l, s, n⟩ = x := ⟨_, rfl⟩
  obtain ⟨⟨p1, p2, p3⟩, e4⟩ : ∃ x, parse s4.data.toList = x := ⟨_, rfl⟩
  have cN : Hid (∀ w, Calls Try.prog 8 #[.int .i64 a1] w fun e w' => e = .returned (.tuple #[.agg #[.int .i64 l1, .int .i64 s1, .int .u64 n1], .bool k1]) ∧ Held w w') := fun w => by have := new_any a1 w; rw [e1] at this; exact this
  have cNr : Hid (∀ w, Calls Try.prog 9 #[.int .i64 a1] w fun e w' => e = .returned (.tuple #[.agg #[.int .i64 l1, .int .i64 s1, .int .u64 n1], .bool k1]) ∧ Held w w') := fun w => by have := new_ref a1 w; rw [e1] at this; exact this
  have cB : Hid (∀ w, Calls Try.prog 10 #[.agg #[.int .i64 l, .int .i64 s, .int .u64 n], .int .u64 a2] w fun e w' => e = .returned (.tuple #[.agg #[.int .i64 l2, .int .i64 s2, .int .u64 n2], .bool k2]) ∧ Held w w') := fun w => by have := beat_any l s n a2 (by omega) (by omega) w; rw [e2] at this; exact this
  have cBr : Hid (∀ w, Calls Try.prog 11 #[.agg #[.int .i64 l, .int .i64 s, .int .u64 n], .int .u64 a2] w fun e w' => e = .returned (.tuple #[.agg #[.int .i64 l2, .int .i64 s2, .int .u64 n2], .bool k2]) ∧ Held w w') := fun w => by have := beat_ref l s n a2 (by omega) (by omega) w; rw [e2] at this; exact this
  have cP : Hid (∀ w, Calls Try.prog 12 #[.string s4] w fun e w' => e = .returned (.tuple #[.int .u64 p1, .int .u64 p2, .bool p3]) ∧ Held w w') := fun w => by have := parse_any s4 (by omega) w; rw [e4] at this; exact this
  have cPr : Hid (∀ w, Calls Try.prog 13 #[.string s4] w fun e w' => e = .returned (.tuple #[.int .u64 p1, .int .u64 p2, .bool p3]) ∧ Held w w') := fun w => by have := parse_ref_any s4 (by omega) w; rw [e4] at this; exact this
  have cT : Hid (∀ w, Calls Try.prog 16 #[.agg #[.int .i64 l, .int .i64 s, .int .u64 n]] w fun e w' => e = .returned (.agg #[.int .i64 l3, .int .i64 s3, .int .u64 n3]) ∧ Held w w') := fun w => by have := tick_any l s n w; rw [e3] at this; exact this
  have cTr : Hid (∀ w, Calls Try.prog 17 #[.agg #[.int .i64 l, .int .i64 s, .int .u64 n]] w fun e w' => e = .returned (.agg #[.int .i64 l3, .int .i64 s3, .int .u64 n3]) ∧ Held w w') := fun w => by have := tick_ref l s n w; rw [e3] at this; exact this
  clear e1 e2 e3 e4
  have D0 : Hid (DB (W.alloc (.cells #[.int .i64 l, .int .i64 s, .int .u64 n] 24)) W.heap.size l s n) := DB.new _ _ _ _
  have H0 : Hid (Held W (W.alloc (.cells #[.int .i64 l, .int .i64 s, .int .u64 n] 24))) := (Held.refl _).alloc _
  go_enter Try.func3, Try.ntmps3
  go_wp2_with fail
  generalize W.alloc (.cells #[.int .i64 l, .int .i64 s, .int .u64 n] 24) = w0 at D0 H0 ⊢
  refine (cN.out _).mono ?_
  rintro e w1 ⟨rfl, h1⟩
  have D1 : Hid (DB (w1.alloc (.cells #[.int .i64 l1, .int .i64 s1, .int .u64 n1] 24)) w1.heap.size l1 s1 n1) := DB.new _ _ _ _
  have h1' := Lib.hid (h1.alloc (.cells #[.int .i64 l1, .int .i64 s1, .int .u64 n1] 24))
  clear h1
  go_wp2_with fail
  generalize w1.alloc (.cells #[.int .i64 l1, .int .i64 s1, .int .u64 n1] 24) = w1' at D1 h1' ⊢
  generalize w1.heap.size = B1 at D1 ⊢
  refine (cNr.out _).mono ?_
  rintro e w2 ⟨rfl, h2⟩
  have D2 : Hid (DB (w2.alloc (.cells #[.int .i64 l1, .int .i64 s1, .int .u64 n1] 24)) w2.heap.size l1 s1 n1) := DB.new _ _ _ _
  have h2' := Lib.hid (h2.alloc (.cells #[.int .i64 l1, .int .i64 s1, .int .u64 n1] 24))
  obtain ⟨⟨c0, c1, c2⟩, _, lt⟩ := (D0.out.held (h1'.out.step h2'.out)).facts
  clear h2
  go_wp2_with fail
  generalize w2.alloc (.cells #[.int .i64 l1, .int .i64 s1, .int .u64 n1] 24) = w2' at D2 h2' c0 c1 c2 lt ⊢
  generalize w2.heap.size = B2 at D2 ⊢
  refine (cB.out _).mono ?_
  rintro e w3 ⟨rfl, h3⟩
  have D3 : Hid (DB (w3.alloc (.cells #[.int .i64 l2, .int .i64 s2, .int .u64 n2] 24)) w3.heap.size l2 s2 n2) := DB.new _ _ _ _
  have h3' := Lib.hid (h3.alloc (.cells #[.int .i64 l2, .int .i64 s2, .int .u64 n2] 24))
  clear c0 c1 c2 lt h3
  obtain ⟨⟨c0, c1, c2⟩, _, lt⟩ := (D0.out.held ((h1'.out.step h2'.out).step h3'.out)).facts
  go_wp2_with fail
  generalize w3.alloc (.cells #[.int .i64 l2, .int .i64 s2, .int .u64 n2] 24) = w3' at D3 h3' c0 c1 c2 lt ⊢
  generalize w3.heap.size = B3 at D3 ⊢
  refine (cBr.out _).mono ?_
  rintro e w4 ⟨rfl, h4⟩
  have D4 : Hid (DB (w4.alloc (.cells #[.int .i64 l2, .int .i64 s2, .int .u64 n2] 24)) w4.heap.size l2 s2 n2) := DB.new _ _ _ _
  have h4' := Lib.hid (h4.alloc (.cells #[.int .i64 l2, .int .i64 s2, .int .u64 n2] 24))
  clear c0 c1 c2 lt h4
  go_wp2_with fail
  generalize w4.alloc (.cells #[.int .i64 l2, .int .i64 s2, .int .u64 n2] 24) = w4' at D4 h4' ⊢
  generalize w4.heap.size = B4 at D4 ⊢
  refine (cP.out _).mono ?_
  rintro e w5 ⟨rfl, h5⟩
  go_wp2_with fail
  refine (cPr.out _).mono ?_
  rintro e w6 ⟨rfl, h6⟩
  have h56 := h5.step h6
  obtain ⟨⟨c0, c1, c2⟩, _, lt0⟩ := (D0.out.held ((((h1'.out.step h2'.out).step h3'.out).step h4'.out).step h56)).facts
  obtain ⟨⟨d0, d1, d2⟩, _, lt1⟩ := (D1.out.held (((h2'.out.step h3'.out).step h4'.out).step h56)).facts
  obtain ⟨⟨f0, f1, f2⟩, _, lt2⟩ := (D2.out.held ((h3'.out.step h4'.out).step h56)).facts
  obtain ⟨⟨i0, i1, i2⟩, _, lt3⟩ := (D3.out.held (h4'.out.step h56)).facts
  obtain ⟨⟨j0, j1, j2⟩, _, lt4⟩ := (D4.out.held h56).facts
  have HW6 := Lib.hid (((((H0.out.step h1'.out).step h2'.out).step h3'.out).step h4'.out).step h56)
  clear h5 h6 h56
  go_wp2_with fail
  have kc0 := cell_regrown c0
  have kc1 := cell_regrown c1
  have kc2 := cell_regrown c2
  have kd0 := cell_regrown d0
  have kd1 := cell_regrown d1
  have kd2 := cell_regrown d2
  have kf0 := cell_regrown f0
  have kf1 := cell_regrown f1
  have kf2 := cell_regrown f2
  have ki0 := cell_regrown i0
  have ki1 := cell_regrown i1
  have ki2 := cell_regrown i2
  have kj0 := cell_regrown j0
  have kj1 := cell_regrown j1
  have kj2 := cell_regrown j2
  clear c0 c1 c2 d0 d1 d2 f0 f1 f2 i0 i1 i2 j0 j1 j2
  have r1 := Lib.hid fun d os => Calls.regrown_of (d := d) (os := os) (valid_any l s n (grow (redrawn w6 d) os))
  have r2 := Lib.hid fun d os => Calls.regrown_of (d := d) (os := os) (valid_ref l s n (grow (redrawn w6 d) os))
  have r3 := Lib.hid fun d os => Calls.regrown_of (d := d) (os := os) (cT.out (grow (redrawn w6 d) os))
  have r4 := Lib.hid fun d os => Calls.regrown_of (d := d) (os := os) (cTr.out (grow (redrawn w6 d) os))
  have r5 := Lib.hid fun d os => Calls.regrown_of (d := d) (os := os) (susp_any l s n (grow (redrawn w6 d) os))
  have r6 := Lib.hid fun d os => Calls.regrown_of (d := d) (os := os) (susp_ref l s n (grow (redrawn w6 d) os))
  have r7 := Lib.hid fun d os => Calls.regrown_of (d := d) (os := os) (packet_any a2 a3 (by omega) (by omega) (grow (redrawn w6 d) os))
  have r8 := Lib.hid fun d os => Calls.regrown_of (d := d) (os := os) (packet_ref a2 a3 (by omega) (by omega) (grow (redrawn w6 d) os))
  have r9 := Lib.hid fun d os => Calls.regrown_of (d := d) (os := os) (awake_any (grow (redrawn w6 d) os))
  dsimp only [List.append]
  refine wp_region_quiet_below (by kernel_rfl) (by kernel_rfl) ?_
  repeat (go_big_quiet_step (first | (go_at_call 14; exact r1.out _ _) | (go_at_call 15; exact r2.out _ _) | (go_at_call 16; exact r3.out _ _) | (go_at_call 17; exact r4.out _ _) | (go_at_call 18; exact r5.out _ _) | (go_at_call 19; exact r6.out _ _) | (go_at_call 20; exact r7.out _ _) | (go_at_call 21; exact r8.out _ _) | (go_at_call 7; exact r9.out _ _)))
  refine wpQuiet_nil ?_
  intro _ hw'
  obtain ⟨⟨dq, osq⟩, hw''⟩ := hw'
  subst hw''
  go_wp2
  go_ret
  exact ⟨rfl, HW6.out.step (below_regrown w6 dq osq)⟩
end Htc
end Go.Proofs.Ytbebidbjcjoedaa
