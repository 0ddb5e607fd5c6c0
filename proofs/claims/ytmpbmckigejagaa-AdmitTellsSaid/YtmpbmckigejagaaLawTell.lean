/-
  Chapter 39: all functions return what the chapter specifies: the walk.
-/
import Derived.Test.YtmpbmckigejagaaOpen39
import Derived.Lib.QuietBelow
import Derived.BigQuiet
namespace Go.Proofs.Ytmpbmckigejagaa
open Go.RowKit Go.Sort
set_option linter.unusedVariables false
set_option maxRecDepth 100000
namespace Law39
open Ad Adm Rw
set_option maxHeartbeats 4000000 in
theorem tells (m c : Int) (up : Bool) (A1 : Option Addr) (len1 cap1 : Nat) (L1 : List Dem) (r l cc g : Int) (A2 : Option Addr) (len2 cap2 : Nat) (L2 : List Cap) (A3 : Option Addr) (len3 cap3 : Nat) (L3 : List Pl) (h0 : Int)
    (w5 : (Lit.int .i64 h0).wf = true) (W : World) (g0 : (Lit.int .i64 m).wf = true ∧ (Lit.int .i64 c).wf = true) (g1 : Ds W A1 len1 L1 ∧ len1 ≤ cap1 ∧ cap1 ≤ maxLen)
    (g2 : (Lit.int .i64 r).wf = true ∧ (Lit.int .i64 l).wf = true ∧ (Lit.int .i64 cc).wf = true ∧ (Lit.int .i64 g).wf = true) (g3 : Cs W A2 len2 L2 ∧ len2 ≤ cap2 ∧ cap2 ≤ maxLen) (g4 : Ps W A3 len3 L3 ∧ len3 ≤ cap3 ∧ cap3 ≤ maxLen) :
    Calls Try.prog 5 #[.agg #[.int .i64 m, .int .i64 c, .bool up], .slice A1 len1 cap1, .agg #[.int .i64 r, .int .i64 l, .int .i64 cc, .int .i64 g], .slice A2 len2 cap2, .slice A3 len3 cap3, .int .i64 h0] W fun e w' => e = .returned (.bool true) ∧ Below W.heap.size W w' := by
  obtain ⟨hD, hcap1, hmax1⟩ := g1
  obtain ⟨hC, _, hmax2⟩ := g3
  obtain ⟨hP, _, hmax3⟩ := g4
  have HD := Lib.hid hD
  have HC := Lib.hid hC
  have HP := Lib.hid hP
  unfold maxLen at hmax1 hmax2 hmax3
  have m1 : (len1 : Int) ≤ 9223372036854775807 := by omega
  have m2 : (len2 : Int) ≤ 9223372036854775807 := by omega
  have m3 : (len3 : Int) ≤ 9223372036854775807 := by omega
  clear hD hC hP g0 g2 w5 hmax1 hmax2 hmax3
  have TW := Lib.hid (two W (.cells #[.int .i64 m, .int .i64 c, .bool up] 26) (.cells #[.int .i64 r, .int .i64 l, .int .i64 cc, .int .i64 g] 30))
  by_cases s1 : (40 : Int) < len1
  · go_enter Try.func5, Try.ntmps5
    go_wp2_with (go_at_call 7; refine (Law39.awake_any _).mono ?_; rintro e w1 ⟨rfl, hb⟩)
    go_ret
    exact ⟨rfl, TW.out.step hb⟩
  by_cases s2 : (20 : Int) < len2
  · go_enter Try.func5, Try.ntmps5
    go_wp2_with (go_at_call 7; refine (Law39.awake_any _).mono ?_; rintro e w1 ⟨rfl, hb⟩)
    go_ret
    exact ⟨rfl, TW.out.step hb⟩
  by_cases s3 : (40 : Int) < len3
  · go_enter Try.func5, Try.ntmps5
    go_wp2_with (go_at_call 7; refine (Law39.awake_any _).mono ?_; rintro e w1 ⟨rfl, hb⟩)
    go_ret
    exact ⟨rfl, TW.out.step hb⟩
  go_enter Try.func5, Try.ntmps5
  go_wp2_with fail
  refine (free_any _ _ _ _ _ _ L1 _ (HD.out.held TW.out) (by omega)).mono ?_
  rintro e w1 ⟨rfl, h1⟩
  obtain ⟨c0, c1, c2, d0, d1, d2, d3⟩ := boxes h1
  go_wp2_with fail
  refine (free_ref_any _ _ _ _ _ _ L1 _ (HD.out.held (TW.out.step h1)) (by omega)).mono ?_
  rintro e w2 ⟨rfl, h2⟩
  have h12 := h1.step h2
  clear c0 c1 c2 d0 d1 d2 d3
  have HW2 := Lib.hid (TW.out.step h12)
  obtain ⟨c0, c1, c2, d0, d1, d2, d3⟩ := boxes h12
  have lt0 := lt_of_cell c0
  have lt1 := lt_of_cell d0
  have BX := Lib.hid h12
  clear h1 h2 h12
  clear c0 c1 c2 d0 d1 d2 d3
  go_wp2_with fail
  refine (on_any _ _ _ L3 _ _ (HP.out.held HW2.out) (by omega)).mono ?_
  rintro e w3 ⟨v3, rfl, hown3, h3⟩
  obtain ⟨A4, cp4, rfl, hcp4⟩ := own_slice hown3
  go_wp2_with fail
  refine (on_ref_any _ _ _ L3 _ _ (HP.out.held (HW2.out.step h3)) (by omega)).mono ?_
  rintro e w4 ⟨v4, rfl, hown4, h4⟩
  obtain ⟨A5, cp5, rfl, hcp5⟩ := own_slice hown4
  have D4 := Lib.hid ((ds_of_own hown3).1.held h4)
  have D5 := Lib.hid (ds_of_own hown4).1
  have hol := on_len L3 h0
  rw [HP.out.1] at hol
  generalize on L3 h0 = M at *
  obtain ⟨n4, hn4⟩ : ∃ n, M.length = n := ⟨_, rfl⟩
  rw [hn4] at D4 D5 hol hcp4 hcp5
  rw [hn4]
  have HN := Lib.hid hn4
  have BX4 := Lib.hid (BX.out.step (h3.step h4))
  have HW4 := Lib.hid (HW2.out.step (h3.step h4))
  clear hn4 hown3 hown4 h3 h4 BX HW2
  go_wp2_with fail
  go_loopw [19] (fun i wr => ∃ k : Nat, k ≤ n4 ∧ i = .int .i64 k ∧ Held w4 wr) (fun i _ => n4 - (intOf i).toNat)
  case atStart => exact ⟨0, Nat.zero_le _, rfl, Held.refl _⟩
  case round =>
    obtain ⟨k, hk, rfl, hh⟩ := hrel
    by_cases hlt : k < n4
    · obtain ⟨b, off, r', l', c', g', rfl, hk1, q0, q1, q2, q3⟩ := D4.out.at_ hh hlt
      obtain ⟨b', off', r'', l'', c'', g'', rfl, hk2, q0', q1', q2', q3'⟩ := D5.out.at_ hh hlt
      rw [hk1] at hk2
      injection hk2 with hk2
      injection hk2 with e1 e2 e3 e4
      subst e1 e2 e3 e4
      clear hk1
      have i1 : (0 : Int) ≤ (k : Int) := by omega
      have i2 : (k : Int) < (n4 : Int) := by omega
      go_wp2
      go_quiet (fail)
      go_wp2
      go_roundw
      case rel => exact ⟨k + 1, by omega, by go_num, hh.drewN _⟩
      case measure => simp [intOf]; omega
    · obtain rfl : k = n4 := by omega
      obtain ⟨c0, c1, c2, d0, d1, d2, d3⟩ := boxes (BX4.out.step hh)
      have k0 := cell_regrown c0
      have k1 := cell_regrown c1
      have k2 := cell_regrown c2
      have k3 := cell_regrown d0
      have k4 := cell_regrown d1
      have k5 := cell_regrown d2
      have k6 := cell_regrown d3
      have lt0 := lt_of_cell c0
      have lt1 := lt_of_cell d0
      have HWr := Lib.hid (HW4.out.step hh)
      clear c0 c1 c2 d0 d1 d2 d3 BX4 HW4 D4 D5 HN TW
      have cA := Lib.hid fun d os => Calls.regrown_of (d := d) (os := os) (vd_any r l cc g (grow (redrawn wr d) os))
      have cB := Lib.hid fun d os => Calls.regrown_of (d := d) (os := os) (vd_ref_any r l cc g (grow (redrawn wr d) os))
      have cC := Lib.hid fun d os => Calls.regrown_of (d := d) (os := os) (vh_any m c up (grow (redrawn wr d) os))
      have cD := Lib.hid fun d os => Calls.regrown_of (d := d) (os := os) (vh_ref_any m c up (grow (redrawn wr d) os))
      have cE := Lib.hid fun d os => Calls.regrown_of (d := d) (os := os) (admit_any m c up A1 len1 cap1 L1 r l cc g (grow (redrawn wr d) os) (HD.out.held (HWr.out.step (below_regrown wr d os))) (by omega))
      have cF := Lib.hid fun d os => Calls.regrown_of (d := d) (os := os) (admit_ref_any m c up A1 len1 cap1 L1 r l cc g (grow (redrawn wr d) os) (HD.out.held (HWr.out.step (below_regrown wr d os))) (by omega))
      have cG := Lib.hid fun d os => Calls.regrown_of (d := d) (os := os) (fits_any m c up A1 len1 cap1 L1 (grow (redrawn wr d) os) (HD.out.held (HWr.out.step (below_regrown wr d os))) (by omega) (by omega))
      have cH := Lib.hid fun d os => Calls.regrown_of (d := d) (os := os) (fits_ref_any m c up A1 len1 cap1 L1 (grow (redrawn wr d) os) (HD.out.held (HWr.out.step (below_regrown wr d os))) (by omega) (by omega))
      have cI := Lib.hid fun d os => Calls.regrown_of (d := d) (os := os) (survives_any A2 len2 cap2 L2 A3 len3 cap3 L3 (grow (redrawn wr d) os) (HC.out.held (HWr.out.step (below_regrown wr d os))) (HP.out.held (HWr.out.step (below_regrown wr d os))) (by omega) (by omega))
      have cJ := Lib.hid fun d os => Calls.regrown_of (d := d) (os := os) (survives_ref_any A2 len2 cap2 L2 A3 len3 cap3 L3 (grow (redrawn wr d) os) (HC.out.held (HWr.out.step (below_regrown wr d os))) (HP.out.held (HWr.out.step (below_regrown wr d os))) (by omega) (by omega))
      have cK := Lib.hid fun d os => Calls.regrown_of (d := d) (os := os) (awake_any (grow (redrawn wr d) os))
      go_wp2
      refine wp_region_quiet_below (by kernel_rfl) (by kernel_rfl) ?_
      repeat (go_big_quiet_step (first | (go_at_call 17; exact cA.out _ _) | (go_at_call 18; exact cB.out _ _) | (go_at_call 19; exact cC.out _ _) | (go_at_call 20; exact cD.out _ _) | (go_at_call 12; exact cE.out _ _) | (go_at_call 21; exact cF.out _ _) | (go_at_call 10; exact cG.out _ _) | (go_at_call 22; exact cH.out _ _) | (go_at_call 23; exact cI.out _ _) | (go_at_call 24; exact cJ.out _ _) | (go_at_call 7; exact cK.out _ _)))
      refine wpQuiet_nil ?_
      intro _ hw'
      obtain ⟨⟨dq, osq⟩, hw''⟩ := hw'
      subst hw''
      go_wp2
      go_ret
      exact ⟨rfl, HWr.out.step (below_regrown wr dq osq)⟩
end Law39
end Go.Proofs.Ytmpbmckigejagaa
