/-
  The law on quotient and remainder: the walk.
-/
import Derived.Test.YtpgllpoclokcmaaAwk1
namespace Go.Proofs.Ytpgllpoclokcmaa
open Go.RowKit
set_option linter.unusedVariables false
set_option maxRecDepth 100000
namespace LawDiv
open Rw
/-! The plain law. -/
theorem tmod_bd (x y : Int) (hy : y ≠ 0) : (0 ≤ x → 0 ≤ x.tmod y) ∧ (x ≤ 0 → x.tmod y ≤ 0) ∧ (x.tmod y < (if y < 0 then -y else y)) ∧ (-(x.tmod y) < (if y < 0 then -y else y)) ∧ (x.tmod y ≤ (if x < 0 then -x else x)) ∧ (-(x.tmod y) ≤ (if x < 0 then -x else x)) := by
  have e := Int.natAbs_tmod x y
  have h1 : x.natAbs % y.natAbs < y.natAbs := Nat.mod_lt _ (by omega)
  have h2 : x.natAbs % y.natAbs ≤ x.natAbs := Nat.mod_le _ _
  refine ⟨fun h => Int.tmod_nonneg _ h, fun h => ?_, ?_, ?_, ?_, ?_⟩
  · have := Int.tmod_nonneg y (a := -x) (by omega); rw [Int.neg_tmod] at this; omega
  all_goals (split <;> omega)
theorem w32_u32 (t : Int) (h1 : -2147483648 ≤ t) (h2 : t ≤ 2147483647) : wrap32 (t % 4294967296) = t := by unfold wrap32; omega
theorem mod_w32 (a : Int) (h0 : 0 ≤ a) (h1 : a ≤ 4294967295) : wrap32 a % 4294967296 = a := by unfold wrap32; omega
theorem ident (a b : Int) (ha : 0 ≤ a) (ha' : a ≤ 4294967295) (hb : 0 ≤ b) (hb' : b ≤ 4294967295) :
    ((wrap32 a).tdiv (wrap32 b) % 4294967296 * b + (wrap32 a).tmod (wrap32 b) % 4294967296) % 4294967296 = a := by
  have e1 := Int.mul_tdiv_add_tmod (wrap32 a) (wrap32 b)
  have e2 := mod_w32 a ha ha'
  have e3 := mod_w32 b hb hb'
  generalize (wrap32 a).tdiv (wrap32 b) = q at *
  generalize (wrap32 a).tmod (wrap32 b) = r at *
  have k1 : (q % 4294967296 * (wrap32 b % 4294967296) + r % 4294967296) % 4294967296 = (q * wrap32 b + r) % 4294967296 := by
    rw [Int.add_emod, ← Int.mul_emod, Int.emod_emod_of_dvd r (Int.dvd_refl 4294967296), ← Int.add_emod]
  rw [e3] at k1
  rw [k1, Int.mul_comm q, e1, e2]
theorem facts (a b : Int) (ha : 0 ≤ a) (ha' : a ≤ 4294967295) (hb : 0 ≤ b) (hb' : b ≤ 4294967295) (h0 : ¬ b = 0) :
    0 ≤ Words.divQ a b ∧ Words.divQ a b ≤ 4294967295 ∧ 0 ≤ Words.divR a b ∧ Words.divR a b ≤ 4294967295 ∧ (Words.divQ a b * b + Words.divR a b) % 4294967296 = a ∧
    (if wrap32 (Words.divR a b) < 0 then -(wrap32 (Words.divR a b)) else wrap32 (Words.divR a b)) < (if wrap32 b < 0 then -(wrap32 b) else wrap32 b) ∧
    (¬ Words.divR a b = 0 → Words.divR a b / 2147483648 = a / 2147483648) := by
  have hbw := Words.w32_ne hb hb' h0
  have ht := tmod_bd (wrap32 a) (wrap32 b) hbw
  have ba := Words.w32_bounds a
  have bb := Words.w32_bounds b
  have hid := ident a b ha ha' hb hb'
  have hq : Words.divQ a b = (wrap32 a).tdiv (wrap32 b) % 4294967296 := if_neg h0
  have hr : Words.divR a b = (wrap32 a).tmod (wrap32 b) % 4294967296 := if_neg h0
  rw [hq, hr]
  have hlo : -2147483648 ≤ (wrap32 a).tmod (wrap32 b) := by have h := ht.2.2.2.1; have h' := ht.2.2.2.2.2; split at h <;> split at h' <;> omega
  have hhi : (wrap32 a).tmod (wrap32 b) ≤ 2147483647 := by have h := ht.2.2.1; have h' := ht.1; have h'' := ht.2.1; split at h <;> omega
  rw [w32_u32 _ hlo hhi]
  have hmw := mod_w32 a ha ha'
  generalize (wrap32 a).tdiv (wrap32 b) = q at *
  generalize (wrap32 a).tmod (wrap32 b) = r at *
  refine ⟨by omega, by omega, by omega, by omega, hid, ?_, ?_⟩
  · have h1 := ht.2.2.1; have h2 := ht.2.2.2.1
    split <;> (split at h1 <;> split at h2 <;> split <;> omega)
  · intro hne
    have h1 := ht.1; have h2 := ht.2.1
    have hw : wrap32 a = a ∨ wrap32 a = a - 4294967296 := by unfold wrap32; omega
    omega

/-! The walk. -/
theorem core (a b Q R : Int) (ha : 0 ≤ a) (ha' : a ≤ 4294967295) (hb0 : (b == 0) = false) (hb1 : 0 ≤ b) (hb2 : b ≤ 4294967295) (hQ : 0 ≤ Q ∧ Q ≤ 4294967295) (hR : 0 ≤ R ∧ R ≤ 4294967295) (w : World)
    (c1 : ∀ w, Calls Try.prog 13 #[.int .u32 a, .int .u32 b] w fun e w' => e = .returned (.tuple #[.int .u32 Q, .int .u32 R]) ∧ ∃ n, w' = w.drewN n)
    (c2 : ∀ w, Calls Try.prog 14 #[.int .u32 a, .int .u32 b] w fun e w' => e = .returned (.tuple #[.int .u32 Q, .int .u32 R]) ∧ ∃ n, w' = w.drewN n)
    (b1 : -2147483648 ≤ wrap32 R) (b2 : wrap32 R ≤ 2147483647) (b3 : -2147483648 ≤ wrap32 b) (b4 : wrap32 b ≤ 2147483647)
    (g1 : ((Q * b + R) % 4294967296 == a) = true) (g2 : (if wrap32 R < 0 then -(wrap32 R) else wrap32 R) < (if wrap32 b < 0 then -(wrap32 b) else wrap32 b))
    (g3 : ((R == 0) = true) ∨ ((R == 0) = false ∧ (R / 2147483648 == a / 2147483648) = true)) :
    Calls Try.prog 3 #[.int .u32 a, .int .u32 b] w fun e w' => e = .returned (.bool true) ∧ Below w.heap.size w w' := by
  have C1 := Lib.hid c1
  have C2 := Lib.hid c2
  clear c1 c2
  by_cases h1 : wrap32 R < 0
  all_goals by_cases h2 : wrap32 b < 0
  all_goals
    simp only [h1, h2, if_true, if_false] at g2
    rcases g3 with g3 | ⟨g3, g4⟩
  all_goals
    go_enter Try.func3, Try.ntmps3
    go_wp2_with (first | (go_at_call 13; refine (C1.out _).mono ?_; rintro e w' ⟨rfl, nq, rfl⟩) | (go_at_call 14; refine (C2.out _).mono ?_; rintro e w' ⟨rfl, nq2, rfl⟩) | (go_at_call 15; refine (Law1.awake_any _).mono ?_; rintro e w1 ⟨rfl, hb⟩))
    go_ret
    exact ⟨rfl, (below_drewN (Below.refl _ _) _).trans hb⟩
theorem walk (a b : Int) (wa : (Lit.int .u32 a).wf = true) (wb : (Lit.int .u32 b).wf = true) (w : World) :
    Calls Try.prog 3 #[.int .u32 a, .int .u32 b] w fun e w' => e = .returned (.bool true) ∧ Below w.heap.size w w' := by
  have ha := bd_u32 wa
  have hb := bd_u32 wb
  have c1 := fun w => Words.div_any a b ha.1 ha.2 hb.1 hb.2 w
  have c2 := fun w => Words.div_ref_any a b ha.1 ha.2 hb.1 hb.2 w
  by_cases h0 : b = 0
  · subst h0
    have q : Words.divQ a 0 = 4294967295 := rfl
    have r : Words.divR a 0 = a := rfl
    rw [q, r] at c1 c2
    have C1 := Lib.hid c1
    have C2 := Lib.hid c2
    clear c1 c2 q r
    go_enter Try.func3, Try.ntmps3
    go_wp2_with (first | (go_at_call 13; refine (C1.out _).mono ?_; rintro e w' ⟨rfl, nq, rfl⟩) | (go_at_call 14; refine (C2.out _).mono ?_; rintro e w' ⟨rfl, nq2, rfl⟩) | (go_at_call 15; refine (Law1.awake_any _).mono ?_; rintro e w1 ⟨rfl, hb⟩))
    go_ret
    exact ⟨rfl, (below_drewN (Below.refl _ _) _).trans hb⟩
  · obtain ⟨f1, f2, f3, f4, f5, f6, f7⟩ := facts a b ha.1 ha.2 hb.1 hb.2 h0
    have bR := Words.w32_bounds (Words.divR a b)
    have bB := Words.w32_bounds b
    refine core a b _ _ ha.1 ha.2 (by simp [h0]) hb.1 hb.2 ⟨f1, f2⟩ ⟨f3, f4⟩ w c1 c2 bR.1 bR.2 bB.1 bB.2 (by simp [f5]) f6 ?_
    by_cases hz : Words.divR a b = 0
    · exact .inl (by simp [hz])
    · exact .inr ⟨by simp [hz], by simp [f7 hz]⟩
end LawDiv
end Go.Proofs.Ytpgllpoclokcmaa
