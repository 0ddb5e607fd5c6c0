/-
  What came in reads as hosts, demands, numbers (chapter 40).
-/
import Derived.Test.YtmmjofdienoobaaRds
import Derived.Test.YtmmjofdienoobaaLawBaA
import Derived.OpenShut
set_option linter.unusedVariables false
namespace Go.Proofs.Ytmmjofdienoobaa
open Go.RowKit Go.WideShapes Go.ChangeShapes Go.ChangeAt
namespace Ba
open Ad
section
variable {w : World} {d : Nat}
theorem rd_dem {cs : List Value} (h : Rds Try.prog w (3 + d) 43 cs) : ∃ x : Dem, cs = demC x := by
  have h1 := lvs_of 43 2 (d + 1) (by kernel_rfl) (by kernel_rfl) (by rw [show 2 + (d + 1) = 3 + d by omega]; exact h)
  rw [show leaves Try.prog 2 43 = [3, 3, 3, 3] by kernel_rfl] at h1
  obtain ⟨v0, _, rfl, k0, v1, _, rfl, k1, v2, _, rfl, k2, v3, _, rfl, k3, rfl⟩ := h1
  obtain ⟨z0, rfl, _⟩ := leaf_int Try.underlying3 k0
  obtain ⟨z1, rfl, _⟩ := leaf_int Try.underlying3 k1
  obtain ⟨z2, rfl, _⟩ := leaf_int Try.underlying3 k2
  obtain ⟨z3, rfl, _⟩ := leaf_int Try.underlying3 k3
  exact ⟨⟨z0, z1, z2, z3⟩, rfl⟩
theorem rd_cap {cs : List Value} (h : Rds Try.prog w (3 + d) 47 cs) : ∃ x : Hc, cs = hcC x := by
  have h1 := lvs_of 47 2 (d + 1) (by kernel_rfl) (by kernel_rfl) (by rw [show 2 + (d + 1) = 3 + d by omega]; exact h)
  rw [show leaves Try.prog 2 47 = [3, 3, 4] by kernel_rfl] at h1
  obtain ⟨v0, _, rfl, k0, v1, _, rfl, k1, v2, _, rfl, k2, rfl⟩ := h1
  obtain ⟨z0, rfl, _⟩ := leaf_int Try.underlying3 k0
  obtain ⟨z1, rfl, _⟩ := leaf_int Try.underlying3 k1
  obtain ⟨z2, rfl⟩ := leaf_bool Try.underlying4 k2
  exact ⟨⟨z0, z1, z2⟩, rfl⟩
theorem rd_int {cs : List Value} (h : Rds Try.prog w (1 + d) 3 cs) : ∃ x : Int, cs = inC x := by
  have hp : parts Try.prog 3 = none := by kernel_rfl
  rw [show 1 + d = d + 1 by omega] at h
  unfold Rds at h
  rw [hp, Try.underlying3] at h
  obtain ⟨z, hz, _⟩ := h
  exact ⟨z, hz⟩
end
section
variable {H : Type} {enc : TypeId × Value → H} {w : World} {r : Reach} {b0 : Nat} {base : Nat} {spare : Nat → Bool} {held : Bool} {v : Value} {d : DataW H} {p : List MemPlace}
theorem agg_of {cs : Array Value} {l : List Value} (h : (Value.agg cs).cells.toList = l) : Value.agg cs = .agg l.toArray := by
  have : cs.toList = l := by simpa [Value.cells] using h
  rw [← this]
/-- The facts of a slice that came in. -/
def InS {α : Type} (s : Nat) (f : α → List Value) (w : World) (A : Option Addr) (n cap : Nat) (L : List α) : Prop := Sl s f w A n L ∧ n ≤ cap ∧ cap ≤ maxLen ∧ (A = none → n = 0)
theorem in_hosts (hv : Value.okWide Try.prog w r b0 24 v) (h : DataW.Trod enc Try.prog w base spare held 24 v d p) :
    ∃ A len cap L, v = .slice A len cap ∧ InS 3 hcC w A len cap L := by
  obtain ⟨A, len, cap, rfl⟩ := okWide_slice Try.underlying24 hv
  obtain ⟨fuel, hf⟩ := h
  obtain ⟨A', len', cap', e, hs⟩ := leaf_slice (n := 9) Try.underlying24 ⟨10, by omega, rds_of_trod 10 _ _ _ _ hf⟩
  injection e with e1 e2 e3
  subst e1 e2 e3
  obtain ⟨L, hL, _⟩ := hs.sl hcC (fun _ => True) (s := 3) (by kernel_rfl) (by decide) (fun cs hr => by
    obtain ⟨x, e⟩ := rd_cap (d := 6) hr
    exact ⟨x, e, trivial⟩)
  exact ⟨A, len, cap, L, rfl, hL, hs.1, hs.2.1, fun h => by have := hs.2.2.1 h; have := hs.1; omega⟩
theorem in_dems (hv : Value.okWide Try.prog w r b0 25 v) (h : DataW.Trod enc Try.prog w base spare held 25 v d p) :
    ∃ A len cap L, v = .slice A len cap ∧ InS 4 demC w A len cap L := by
  obtain ⟨A, len, cap, rfl⟩ := okWide_slice Try.underlying25 hv
  obtain ⟨fuel, hf⟩ := h
  obtain ⟨A', len', cap', e, hs⟩ := leaf_slice (n := 9) Try.underlying25 ⟨10, by omega, rds_of_trod 10 _ _ _ _ hf⟩
  injection e with e1 e2 e3
  subst e1 e2 e3
  obtain ⟨L, hL, _⟩ := hs.sl demC (fun _ => True) (s := 4) (by kernel_rfl) (by decide) (fun cs hr => by
    obtain ⟨x, e⟩ := rd_dem (d := 6) hr
    exact ⟨x, e, trivial⟩)
  exact ⟨A, len, cap, L, rfl, hL, hs.1, hs.2.1, fun h => by have := hs.2.2.1 h; have := hs.1; omega⟩
theorem in_ints (hv : Value.okWide Try.prog w r b0 22 v) (h : DataW.Trod enc Try.prog w base spare held 22 v d p) :
    ∃ A len cap L, v = .slice A len cap ∧ InS 1 inC w A len cap L := by
  obtain ⟨A, len, cap, rfl⟩ := okWide_slice Try.underlying22 hv
  obtain ⟨fuel, hf⟩ := h
  obtain ⟨A', len', cap', e, hs⟩ := leaf_slice (n := 9) Try.underlying22 ⟨10, by omega, rds_of_trod 10 _ _ _ _ hf⟩
  injection e with e1 e2 e3
  subst e1 e2 e3
  obtain ⟨L, hL, _⟩ := hs.sl inC (fun _ => True) (s := 1) (by kernel_rfl) (by decide) (fun cs hr => by
    obtain ⟨x, e⟩ := rd_int (d := 8) hr
    exact ⟨x, e, trivial⟩)
  exact ⟨A, len, cap, L, rfl, hL, hs.1, hs.2.1, fun h => by have := hs.2.2.1 h; have := hs.1; omega⟩
theorem in_dem (hv : Value.okWide Try.prog w r b0 43 v) (h : DataW.Trod enc Try.prog w base spare held 43 v d p) :
    ∃ x : Dem, v = .agg #[.int .i64 x.r, .int .i64 x.l, .int .i64 x.c, .int .i64 x.g] ∧ True := by
  obtain ⟨cs, rfl, _⟩ := okWide_struct Try.underlying43 hv
  obtain ⟨fuel, hf⟩ := h
  obtain ⟨x, e⟩ := rd_dem (d := 6) (rds_of_trod 9 _ _ _ _ hf)
  exact ⟨x, agg_of e, trivial⟩
end
theorem small_any (A : Option Addr) (n cap : Nat) (A2 : Option Addr) (n2 cap2 : Nat) (w : World) :
    Calls Try.prog 19 #[.slice A n cap, .slice A2 n2 cap2] w fun e w' => e = .returned (.bool (decide ((n : Int) ≤ 4) && decide ((n2 : Int) ≤ 6))) ∧ w = w' := by
  by_cases h : (n : Int) ≤ 4
  · have e : decide ((n : Int) ≤ 4) = true := by simpa using h
    rw [e]
    go_enter Try.func19, Try.ntmps19
    go_wp2
    go_ret
    exact ⟨by simp, rfl⟩
  · have e : decide ((n : Int) ≤ 4) = false := by simpa using h
    rw [e]
    go_enter Try.func19, Try.ntmps19
    go_wp2
    go_ret
    exact ⟨rfl, rfl⟩
set_option maxHeartbeats 2000000 in
theorem tellslaw (A : Option Addr) (n cap : Nat) (H : List Hc) (A2 : Option Addr) (n2 cap2 : Nat) (L : List Dem) (A3 : Option Addr) (n3 cap3 : Nat) (on : List Int) (d : Dem) (A4 : Option Addr) (n4 cap4 : Nat) (no : List Int) (most host : Int)
    (_ : (Lit.int .i64 most).wf = true) (_ : (Lit.int .i64 host).wf = true) (w : World) (hh : InS 3 hcC w A n cap H) (hl : InS 4 demC w A2 n2 cap2 L) (ho : InS 1 inC w A3 n3 cap3 on) (_ : True) (hno : InS 1 inC w A4 n4 cap4 no) :
    Calls Try.prog 6 #[.slice A n cap, .slice A2 n2 cap2, .slice A3 n3 cap3, .agg #[.int .i64 d.r, .int .i64 d.l, .int .i64 d.c, .int .i64 d.g], .slice A4 n4 cap4, .int .i64 most, .int .i64 host] w fun e w' => e = .returned (.bool true) ∧ Held w w' := by
  have M0 := Lib.hid ((Mem.start w).alloc #[.int .i64 d.r, .int .i64 d.l, .int .i64 d.c, .int .i64 d.g] 43)
  have HSM := Lib.hid (fun w' => small_any A n cap A2 n2 cap2 w')
  have HAW := Lib.hid awake_any
  by_cases h1 : (n : Int) ≤ 4 ∧ (n2 : Int) ≤ 6
  · have e1 : (decide ((n : Int) ≤ 4) && decide ((n2 : Int) ≤ 6)) = true := by simp; omega
    rw [e1] at HSM
    by_cases h3 : (20 : Int) < n3
    · clear hh hl ho hno h1 e1
      go_enter Try.func6, Try.ntmps6
      go_wp2_with (first | (go_at_call 19; refine (HSM.out _).mono ?_; rintro e w1 ⟨rfl, rfl⟩) | (go_at_call 9; refine (HAW.out _).mono ?_; rintro e w2 ⟨rfl, h2⟩))
      go_ret
      exact ⟨rfl, M0.out.held.step h2⟩
    by_cases h4 : (20 : Int) < n4
    · clear hh hl ho hno h1 e1
      go_enter Try.func6, Try.ntmps6
      go_wp2_with (first | (go_at_call 19; refine (HSM.out _).mono ?_; rintro e w1 ⟨rfl, rfl⟩) | (go_at_call 9; refine (HAW.out _).mono ?_; rintro e w2 ⟨rfl, h2⟩))
      go_ret
      exact ⟨rfl, M0.out.held.step h2⟩
    have HT := Lib.hid (fun w' (q : Held w w') => tells_any A n cap A2 n2 cap2 A3 n3 cap3 A4 n4 cap4 most host H L on no d w' (hh.1.held q) (hl.1.held q) (ho.1.held q) (hno.1.held q) hl.2.2.2 ho.2.2.2 (by omega) (by omega) (by omega) (by omega) hl.2.1)
    obtain ⟨⟨z0, z1, z2, z3⟩, _, zlt⟩ := M0.out.box4 0 rfl
    clear hh hl ho hno h1 e1
    go_enter Try.func6, Try.ntmps6
    go_wp2_with (first | (go_at_call 19; refine (HSM.out _).mono ?_; rintro e w1 ⟨rfl, rfl⟩) | (go_at_call 20; refine (HT.out _ M0.out.held).mono ?_; rintro e w3 ⟨rfl, h5⟩) | (go_at_call 9; refine (HAW.out _).mono ?_; rintro e w2 ⟨rfl, h2⟩))
    go_ret
    exact ⟨rfl, (M0.out.held.step h5).step h2⟩
  · have e1 : (decide ((n : Int) ≤ 4) && decide ((n2 : Int) ≤ 6)) = false := by
      cases hq : (decide ((n : Int) ≤ 4) && decide ((n2 : Int) ≤ 6))
      · rfl
      · simp only [Bool.and_eq_true, decide_eq_true_eq] at hq; exact absurd hq h1
    rw [e1] at HSM
    clear hh hl ho hno h1 e1
    go_enter Try.func6, Try.ntmps6
    go_wp2_with (first | (go_at_call 19; refine (HSM.out _).mono ?_; rintro e w1 ⟨rfl, rfl⟩) | (go_at_call 9; refine (HAW.out _).mono ?_; rintro e w2 ⟨rfl, h2⟩))
    go_ret
    exact ⟨rfl, M0.out.held.step h2⟩
end Ba
end Go.Proofs.Ytmmjofdienoobaa
