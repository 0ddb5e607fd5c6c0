/-
  The law PagerVictim, walked.
-/
import Derived.Test.YtgfbfmgdlbdlhaaRfW
import Derived.Test.YtgfbfmgdlbdlhaaLawPg
import Derived.Test.YtgfbfmgdlbdlhaaOpen36
import Derived.Test.YtgfbfmgdlbdlhaaRw
set_option linter.unusedVariables false
set_option linter.unusedSimpArgs false
set_option maxRecDepth 100000
namespace Go.Proofs.Ytgfbfmgdlbdlhaa
open Go.RowKit Go.BigFrame Go.Sort
namespace Pg
set_option maxHeartbeats 8000000 in
theorem victimlaw_any (A1 : Option Addr) (n1 c1 : Nat) (U : List Bool) (A2 : Option Addr) (n2 c2 : Nat) (R : List Bool) (hand ex : Int) (w : World) (h1 : Sl 1 boC w A1 n1 U) (h1n : A1 = none → n1 = 0) (h2 : Sl 1 boC w A2 n2 R) (hn1 : (n1 : Int) ≤ 9223372036854775807) (hn2 : (n2 : Int) ≤ 9223372036854775807)
    (bh : -9223372036854775808 ≤ hand ∧ hand ≤ 9223372036854775807) (be : -9223372036854775808 ≤ ex ∧ ex ≤ 9223372036854775807) :
    Calls Try.prog 3 #[.slice A1 n1 c1, .slice A2 n2 c2, .int .i64 hand, .int .i64 ex] w fun e w' => e = .returned (.bool true) ∧ Held w w' := by
  have HAW := Lib.hid (fun w' => awake_any w')
  have hl1 := h1.1
  have HVP := Lib.hid (fun hn => victim_any A1 n1 c1 U A2 n2 c2 R hand ex w h1 h1n h2 hn hn2 bh be)
  have HVR := Lib.hid (fun w' (q : Held w w') hn => victim_ref A1 n1 c1 U A2 n2 c2 R hand ex w' (h1.held q) (h2.held q) hn hn2 bh be)
  have hul := vicU_len U R hand ex
  obtain ⟨v, hv⟩ : ∃ v, vicV U R hand ex = v := ⟨_, rfl⟩
  obtain ⟨h, hh⟩ : ∃ h, vicH U R hand ex = h := ⟨_, rfl⟩
  obtain ⟨V, hV⟩ : ∃ V, vicU U R hand ex = V := ⟨_, rfl⟩
  rw [hv, hh, hV] at HVP HVR
  rw [hV, hl1] at hul
  have HUL := Lib.hid hul
  clear h1 h2 hv hh hV hl1 hul
  by_cases g1 : (40 : Int) < n1
  · go_enter Try.func3, Try.ntmps3
    go_wp2_with (go_at_call 9; refine (HAW.out _).mono ?_; rintro e w1 ⟨rfl, h1⟩)
    go_ret
    exact ⟨rfl, h1⟩
  by_cases g2 : (40 : Int) < n2
  · go_enter Try.func3, Try.ntmps3
    go_wp2_with (go_at_call 9; refine (HAW.out _).mono ?_; rintro e w1 ⟨rfl, h1⟩)
    go_ret
    exact ⟨rfl, h1⟩
  have q1 : (v == v) = true := by simp
  have q2 : (h == h) = true := by simp
  go_enter Try.func3, Try.ntmps3
  go_wp2_with fail
  refine (HVP.out (by omega)).mono ?_
  rintro e w1 ⟨mv, rfl, ho1, hh1⟩
  obtain ⟨A, cap, rfl, hc, _⟩ := ho1.shape
  rw [HUL.out] at ho1 ⊢
  have M1 := Lib.hid ((Mem.start w).own hh1 ho1)
  clear ho1 hh1 HVP hc
  go_wp2_with fail
  refine (HVR.out _ M1.out.held (by omega)).mono ?_
  rintro e w2 ⟨A3, cap3, rfl, hs2, hh2⟩
  have M2 := Lib.hid (M1.out.keep hh2)
  have HSB := Lib.hid (samebools_any A n1 cap V A3 n1 cap3 w2 (Own.reads boC_len (M2.out.row 0 rfl)).1 hs2 (by omega))
  clear hs2 hh2 HVR
  go_wp2_with fail
  refine HSB.out.mono ?_
  rintro e w3 ⟨rfl, h3⟩
  have M3 := Lib.hid (M2.out.keep h3)
  clear h3
  go_wp2_with (go_at_call 9; refine (HAW.out _).mono ?_; rintro e w4 ⟨rfl, h4⟩)
  go_ret
  exact ⟨rfl, M3.out.held.step h4⟩
theorem victimlaw (A1 : Option Addr) (n1 c1 : Nat) (U : List Bool) (A2 : Option Addr) (n2 c2 : Nat) (R : List Bool) (hand ex : Int) (hh : (Lit.int .i64 hand).wf = true) (he : (Lit.int .i64 ex).wf = true) (W : World)
    (h1 : Sl 1 boC W A1 n1 U ∧ (A1 = none → n1 = 0) ∧ n1 ≤ c1 ∧ c1 ≤ maxLen) (h2 : Sl 1 boC W A2 n2 R ∧ (A2 = none → n2 = 0) ∧ n2 ≤ c2 ∧ c2 ≤ maxLen) :
    Calls Try.prog 3 #[.slice A1 n1 c1, .slice A2 n2 c2, .int .i64 hand, .int .i64 ex] W fun e w' => e = .returned (.bool true) ∧ Below W.heap.size W w' := by
  have m1 := h1.2.2.2
  have m2 := h2.2.2.2
  have m3 := h1.2.2.1
  have m4 := h2.2.2.1
  unfold maxLen at m1 m2
  exact victimlaw_any A1 n1 c1 U A2 n2 c2 R hand ex W h1.1 h1.2.1 h2.1 (by omega) (by omega) (Rw.bd_i64 hh) (Rw.bd_i64 he)
end Pg
end Go.Proofs.Ytgfbfmgdlbdlhaa
