/-
  Contracts of the reference's assembler: forms and mnemonics of operations.
  Contracts of the reference's assembler: valid instructions, their words.
  Contracts of the reference's assembler: words of instructions.
  Contracts of the reference's machine: instructions of words.
-/
import Derived.Test.YtdacgdokbfcgdaaGreatW6
import Derived.Test.YtdacgdokbfcgdaaGreatW1
import Derived.Laws.BitsAllLaws
import Derived.Test.YtdacgdokbfcgdaaGreatW3
set_option linter.unusedVariables false
set_option linter.unusedSimpArgs false
set_option maxRecDepth 100000
namespace Go.Proofs.YtdacgdokbfcgdaaGreat
open Go.RowKit Go.BigFrame Go.Lib
namespace As
set_option maxHeartbeats 4000000 in
theorem form_any (n : Nat) (hn : n ≤ 64) (w : World) : Calls Tryz.prog 75 #[.int .i64 (n : Int)] w fun e w' => e = .returned (.int .i64 (form n : Int)) ∧ w = w' := by
  rcases (by omega : n = 0 ∨ n = 1 ∨ n = 2 ∨ n = 3 ∨ n = 4 ∨ n = 5 ∨ n = 6 ∨ n = 7 ∨ n = 8 ∨ n = 9 ∨ n = 10 ∨ n = 11 ∨ n = 12 ∨ n = 13 ∨ n = 14 ∨ n = 15 ∨ n = 16 ∨ n = 17 ∨ n = 18 ∨ n = 19 ∨ n = 20 ∨ n = 21 ∨ n = 22 ∨ n = 23 ∨ n = 24 ∨ n = 25 ∨ n = 26 ∨ n = 27 ∨ n = 28 ∨ n = 29 ∨ n = 30 ∨ n = 31 ∨ n = 32 ∨ n = 33 ∨ n = 34 ∨ n = 35 ∨ n = 36 ∨ n = 37 ∨ n = 38 ∨ n = 39 ∨ n = 40 ∨ n = 41 ∨ n = 42 ∨ n = 43 ∨ n = 44 ∨ n = 45 ∨ n = 46 ∨ n = 47 ∨ n = 48 ∨ n = 49 ∨ n = 50 ∨ n = 51 ∨ n = 52 ∨ n = 53 ∨ n = 54 ∨ n = 55 ∨ n = 56 ∨ n = 57 ∨ n = 58 ∨ n = 59 ∨ n = 60 ∨ n = 61 ∨ n = 62 ∨ n = 63 ∨ n = 64) with rfl | rfl | rfl | rfl | rfl | rfl | rfl | rfl | rfl | rfl | rfl | rfl | rfl | rfl | rfl | rfl | rfl | rfl | rfl | rfl | rfl | rfl | rfl | rfl | rfl | rfl | rfl | rfl | rfl | rfl | rfl | rfl | rfl | rfl | rfl | rfl | rfl | rfl | rfl | rfl | rfl | rfl | rfl | rfl | rfl | rfl | rfl | rfl | rfl | rfl | rfl | rfl | rfl | rfl | rfl | rfl | rfl | rfl | rfl | rfl | rfl | rfl | rfl | rfl | rfl
  all_goals
    go_enter Tryz.func75, Tryz.ntmps75
    go_wp2
    go_ret
    exact ⟨rfl, rfl⟩
set_option maxHeartbeats 8000000 in
theorem mnem_any (n : Nat) (hn : n ≤ 64) (hf : 0 < form n) (w : World) : Calls Tryz.prog 136 #[.int .i64 (n : Int)] w (StrTo (mnem n) w) := by
  rcases (by omega : n = 0 ∨ n = 1 ∨ n = 2 ∨ n = 3 ∨ n = 4 ∨ n = 5 ∨ n = 6 ∨ n = 7 ∨ n = 8 ∨ n = 9 ∨ n = 10 ∨ n = 11 ∨ n = 12 ∨ n = 13 ∨ n = 14 ∨ n = 15 ∨ n = 16 ∨ n = 17 ∨ n = 18 ∨ n = 19 ∨ n = 20 ∨ n = 21 ∨ n = 22 ∨ n = 23 ∨ n = 24 ∨ n = 25 ∨ n = 26 ∨ n = 27 ∨ n = 28 ∨ n = 29 ∨ n = 30 ∨ n = 31 ∨ n = 32 ∨ n = 33 ∨ n = 34 ∨ n = 35 ∨ n = 36 ∨ n = 37 ∨ n = 38 ∨ n = 39 ∨ n = 40 ∨ n = 41 ∨ n = 42 ∨ n = 43 ∨ n = 44 ∨ n = 45 ∨ n = 46 ∨ n = 47 ∨ n = 48 ∨ n = 49 ∨ n = 50 ∨ n = 51 ∨ n = 52 ∨ n = 53 ∨ n = 54 ∨ n = 55 ∨ n = 56 ∨ n = 57 ∨ n = 58 ∨ n = 59 ∨ n = 60 ∨ n = 61 ∨ n = 62 ∨ n = 63 ∨ n = 64) with rfl | rfl | rfl | rfl | rfl | rfl | rfl | rfl | rfl | rfl | rfl | rfl | rfl | rfl | rfl | rfl | rfl | rfl | rfl | rfl | rfl | rfl | rfl | rfl | rfl | rfl | rfl | rfl | rfl | rfl | rfl | rfl | rfl | rfl | rfl | rfl | rfl | rfl | rfl | rfl | rfl | rfl | rfl | rfl | rfl | rfl | rfl | rfl | rfl | rfl | rfl | rfl | rfl | rfl | rfl | rfl | rfl | rfl | rfl | rfl | rfl | rfl | rfl | rfl | rfl
  all_goals first
    | (exfalso; revert hf; decide)
    | skip
  all_goals
    clear hf hn
    go_enter Tryz.func136, Tryz.ntmps136
    go_wp2
    go_ret
    first | exact ⟨rfl, (Held.refl w).alloc _⟩ | exact ⟨rfl, Held.refl w⟩
end As
end Go.Proofs.YtdacgdokbfcgdaaGreat

namespace Go.Proofs.YtdacgdokbfcgdaaGreat
open Go.RowKit Go.BigFrame Go.Lib
namespace As
theorem form_big {n : Nat} (h : 65 ≤ n) : form n = 0 := by
  unfold form
  repeat rw [if_neg (by omega)]
set_option maxHeartbeats 2000000 in
theorem form_all (n : Nat) (w : World) : Calls Tryz.prog 75 #[.int .i64 (n : Int)] w fun e w' => e = .returned (.int .i64 (form n : Int)) ∧ w = w' := by
  by_cases hn : n ≤ 64
  · exact form_any n hn w
  · rw [form_big (by omega)]
    have z1 : (1 : Int) ≤ n := by omega
    have z2 : ¬ (n : Int) ≤ 13 := by omega
    have z3 : ((n : Int) == 16) = false := by rw [beq_eq_false_iff_ne]; omega
    have z4 : ((n : Int) == 23) = false := by rw [beq_eq_false_iff_ne]; omega
    have z5 : (32 : Int) ≤ n := by omega
    have z6 : ¬ (n : Int) ≤ 36 := by omega
    have z7 : (40 : Int) ≤ n := by omega
    have z8 : ¬ (n : Int) ≤ 45 := by omega
    have z9 : ((n : Int) == 49) = false := by rw [beq_eq_false_iff_ne]; omega
    have y1 : (17 : Int) ≤ n := by omega
    have y2 : ¬ (n : Int) ≤ 19 := by omega
    have y3 : (20 : Int) ≤ n := by omega
    have y4 : ¬ (n : Int) ≤ 22 := by omega
    have y5 : ((n : Int) == 24) = false := by rw [beq_eq_false_iff_ne]; omega
    have y6 : ((n : Int) == 48) = false := by rw [beq_eq_false_iff_ne]; omega
    have y7 : ((n : Int) == 58) = false := by rw [beq_eq_false_iff_ne]; omega
    have y8 : ((n : Int) == 59) = false := by rw [beq_eq_false_iff_ne]; omega
    have y9 : ((n : Int) == 60) = false := by rw [beq_eq_false_iff_ne]; omega
    have x1 : ((n : Int) == 61) = false := by rw [beq_eq_false_iff_ne]; omega
    have x2 : ((n : Int) == 56) = false := by rw [beq_eq_false_iff_ne]; omega
    have x3 : ((n : Int) == 57) = false := by rw [beq_eq_false_iff_ne]; omega
    have x4 : (62 : Int) ≤ n := by omega
    have x5 : ¬ (n : Int) ≤ 64 := by omega
    clear hn
    go_enter Tryz.func75, Tryz.ntmps75
    go_wp2
    go_ret
    exact ⟨rfl, rfl⟩
theorem register_any (n : Nat) (w : World) : Calls Tryz.prog 110 #[.int .i64 (n : Int)] w fun e w' => e = .returned (.bool (decide (n ≤ 15))) ∧ w = w' := by
  have hr : decide (n ≤ 15) = decide ((n : Int) ≤ 15) := by rw [decide_eq_decide]; omega
  have z : (0 : Int) ≤ n := by omega
  rw [hr]
  clear hr
  go_enter Tryz.func110, Tryz.ntmps110
  go_wp2
  go_ret
  exact ⟨rfl, rfl⟩
theorem form_le (n : Nat) : form n ≤ 9 := by
  unfold form
  repeat (first | omega | split)
def BdTo (p : Int × Int) (w : World) (e : Ending) (w' : World) : Prop := e = .returned (.tuple #[.int .i64 p.1, .int .i64 p.2]) ∧ w = w'
set_option maxHeartbeats 2000000 in
theorem bounds_any (n : Nat) (hn : n ≤ 9) (w : World) : Calls Tryz.prog 76 #[.int .i64 (n : Int)] w (BdTo (bounds n) w) := by
  rcases (by omega : n = 0 ∨ n = 1 ∨ n = 2 ∨ n = 3 ∨ n = 4 ∨ n = 5 ∨ n = 6 ∨ n = 7 ∨ n = 8 ∨ n = 9) with rfl | rfl | rfl | rfl | rfl | rfl | rfl | rfl | rfl | rfl
  all_goals
    go_enter Tryz.func76, Tryz.ntmps76
    go_wp2
    go_ret2
    exact ⟨rfl, rfl⟩
abbrev insV (op a b c : Nat) (i : Int) : Value := .agg #[.int .i64 (op : Int), .int .i64 (a : Int), .int .i64 (b : Int), .int .i64 (c : Int), .int .i32 i]
theorem validI_eq (op a b c : Nat) (i : Int) (f : Nat) (hf : form op = f) (lo hi : Int) (hb : bounds f = (lo, hi)) : validI ⟨op, a, b, c, i⟩ = (decide (f ≠ 0) && decide (a ≤ 15) && decide (b ≤ 15) && decide (c ≤ 15) && decide (lo ≤ i) && decide (i ≤ hi)
    && (decide (f = 2) || decide (c = 0)) && (decide (f ≠ 1) || decide (a = 0)) && (decide (b = 0) || (decide (2 ≤ f) && decide (f ≤ 5)))) := by
  unfold validI; simp only [hf, hb]
set_option maxHeartbeats 4000000 in
theorem valid_ins (op a b c : Nat) (i : Int) (w : World) (hi32 : -2147483648 ≤ i ∧ i ≤ 2147483647) : Calls Tryz.prog 74 #[insV op a b c i] w fun e w' => e = .returned (.bool (validI ⟨op, a, b, c, i⟩)) ∧ Held w w' := by
  obtain ⟨v, hv⟩ : ∃ v, validI ⟨op, a, b, c, i⟩ = v := ⟨_, rfl⟩
  have HF := Lib.hid fun w => form_all op w
  obtain ⟨f, hf⟩ : ∃ f, form op = f := ⟨_, rfl⟩
  have hf9 : f ≤ 9 := by rw [← hf]; exact form_le op
  have HBD := Lib.hid fun w => bounds_any f hf9 w
  obtain ⟨⟨lo, hi⟩, hbd⟩ : ∃ p, bounds f = p := ⟨_, rfl⟩
  have hE := validI_eq op a b c i f hf lo hi hbd
  rw [hv] at hE ⊢
  rw [hf] at HF
  rw [hbd] at HBD
  unfold BdTo at HBD
  have HBP := Lib.hid hbd
  have HV := Lib.hid hE
  have HA := Lib.hid fun w => register_any a w
  have HB := Lib.hid fun w => register_any b w
  have HC := Lib.hid fun w => register_any c w
  have W1 : IntKind.i64.wrap i = i := by rw [IntKind.wrap_i64]; omega
  clear hE hv hf hbd hf9
  by_cases f0 : f ≠ 0
  · have q0 : ((f : Int) == 0) = false := by rw [beq_eq_false_iff_ne]; omega
    by_cases ha : a ≤ 15
    · rw [decide_eq_true ha] at HA
      by_cases hb : b ≤ 15
      · rw [decide_eq_true hb] at HB
        by_cases hc : c ≤ 15
        · rw [decide_eq_true hc] at HC
          by_cases hl : lo ≤ i
          · have q1 : ¬ i < lo := by omega
            by_cases hh : i ≤ hi
            · have q2 : ¬ hi < i := by omega
              by_cases h2 : f ≠ 2 ∧ c ≠ 0
              · have q3 : ((f : Int) != 2) = true := by rw [bne_iff_ne]; omega
                have q4 : ((c : Int) != 0) = true := by rw [bne_iff_ne]; omega
                have HV2 : Is v false := ⟨by rw [HV.out]; simp [h2.1, h2.2]⟩
                clear HV hi32
                go_enter Tryz.func74, Tryz.ntmps74
                repeat (go_wp2_with fail; first | (refine Calls.mono (by with_reducible exact HF.out _) ?_; rintro e w2 ⟨rfl, rfl⟩) | (refine Calls.mono (by with_reducible exact HA.out _) ?_; rintro e w2 ⟨rfl, rfl⟩) | (refine Calls.mono (by with_reducible exact HB.out _) ?_; rintro e w2 ⟨rfl, rfl⟩) | (refine Calls.mono (by with_reducible exact HC.out _) ?_; rintro e w2 ⟨rfl, rfl⟩) | (refine Calls.mono (by with_reducible exact HBD.out _) ?_; rintro e w2 ⟨rfl, rfl⟩))
                go_wp2
                go_ret
                exact ⟨by rw [HV2.out]; rfl, (Held.refl w).alloc _⟩
              · by_cases h1 : f = 1
                · obtain rfl := h1
                  obtain ⟨rfl, rfl⟩ : lo = 0 ∧ hi = 0 := by
                    have := HBP.out
                    simp only [bounds] at this
                    simpa using this.symm
                  have HF1 : Hid (∀ w, Calls Tryz.prog 75 #[.int .i64 (op : Int)] w fun e w' => e = .returned (.int .i64 1) ∧ w = w') := HF
                  have HBD1 : Hid (∀ w, Calls Tryz.prog 76 #[.int .i64 1] w fun e w' => e = .returned (.tuple #[.int .i64 0, .int .i64 0]) ∧ w = w') := HBD
                  have q9 : ((c : Int) != 0) = false := by have : c = 0 := by omega
                                                           subst this; rfl
                  have hc0 : c = 0 := by omega
                  clear HF HBD h2 HBP
                  by_cases h3 : a = 0
                  · have q6 : ((a : Int) != 0) = false := by subst h3; rfl
                    by_cases h4 : b = 0
                    · have HV2 : Is v true := ⟨by rw [HV.out]; simp [h3, h4, hl, hh, hc0]⟩
                      have q7 : ((b : Int) == 0) = true := by subst h4; rfl
                      clear HV hi32 h3 h4 hc0
                      go_enter Tryz.func74, Tryz.ntmps74
                      repeat (go_wp2_with fail; first | (refine Calls.mono (by with_reducible exact HF1.out _) ?_; rintro e w2 ⟨rfl, rfl⟩) | (refine Calls.mono (by with_reducible exact HA.out _) ?_; rintro e w2 ⟨rfl, rfl⟩) | (refine Calls.mono (by with_reducible exact HB.out _) ?_; rintro e w2 ⟨rfl, rfl⟩) | (refine Calls.mono (by with_reducible exact HC.out _) ?_; rintro e w2 ⟨rfl, rfl⟩) | (refine Calls.mono (by with_reducible exact HBD1.out _) ?_; rintro e w2 ⟨rfl, rfl⟩))
                      go_wp2
                      go_ret
                      exact ⟨by rw [HV2.out]; rfl, (Held.refl w).alloc _⟩
                    · have HV2 : Is v false := ⟨by rw [HV.out]; simp [h4]⟩
                      have q7 : ((b : Int) == 0) = false := by rw [beq_eq_false_iff_ne]; omega
                      clear HV hi32 h3 h4 hc0
                      go_enter Tryz.func74, Tryz.ntmps74
                      repeat (go_wp2_with fail; first | (refine Calls.mono (by with_reducible exact HF1.out _) ?_; rintro e w2 ⟨rfl, rfl⟩) | (refine Calls.mono (by with_reducible exact HA.out _) ?_; rintro e w2 ⟨rfl, rfl⟩) | (refine Calls.mono (by with_reducible exact HB.out _) ?_; rintro e w2 ⟨rfl, rfl⟩) | (refine Calls.mono (by with_reducible exact HC.out _) ?_; rintro e w2 ⟨rfl, rfl⟩) | (refine Calls.mono (by with_reducible exact HBD1.out _) ?_; rintro e w2 ⟨rfl, rfl⟩))
                      go_wp2
                      go_ret
                      exact ⟨by rw [HV2.out]; rfl, (Held.refl w).alloc _⟩
                  · have q6 : ((a : Int) != 0) = true := by rw [bne_iff_ne]; omega
                    have HV2 : Is v false := ⟨by rw [HV.out]; simp [h3]⟩
                    clear HV hi32 h3 hc0
                    go_enter Tryz.func74, Tryz.ntmps74
                    repeat (go_wp2_with fail; first | (refine Calls.mono (by with_reducible exact HF1.out _) ?_; rintro e w2 ⟨rfl, rfl⟩) | (refine Calls.mono (by with_reducible exact HA.out _) ?_; rintro e w2 ⟨rfl, rfl⟩) | (refine Calls.mono (by with_reducible exact HB.out _) ?_; rintro e w2 ⟨rfl, rfl⟩) | (refine Calls.mono (by with_reducible exact HC.out _) ?_; rintro e w2 ⟨rfl, rfl⟩) | (refine Calls.mono (by with_reducible exact HBD1.out _) ?_; rintro e w2 ⟨rfl, rfl⟩))
                    go_wp2
                    go_ret
                    exact ⟨by rw [HV2.out]; rfl, (Held.refl w).alloc _⟩
                · have q5 : ((f : Int) == 1) = false := by rw [beq_eq_false_iff_ne]; omega
                  have q8 : (2 : Int) ≤ f := by omega
                  rcases (by omega : (f = 2) ∨ (f ≠ 2 ∧ c = 0)) with e2 | ⟨e2, e3⟩
                  · have q3 : ((f : Int) != 2) = false := by rw [bne_eq_false_iff_eq]; omega
                    by_cases h4 : b = 0
                    · have HV2 : Is v true := ⟨by rw [HV.out]; simp [f0, h1, h4, hl, hh, ha, hc, e2]⟩
                      have q7 : ((b : Int) == 0) = true := by subst h4; rfl
                      clear HV hi32 h4 e2
                      go_enter Tryz.func74, Tryz.ntmps74
                      repeat (go_wp2_with fail; first | (refine Calls.mono (by with_reducible exact HF.out _) ?_; rintro e w2 ⟨rfl, rfl⟩) | (refine Calls.mono (by with_reducible exact HA.out _) ?_; rintro e w2 ⟨rfl, rfl⟩) | (refine Calls.mono (by with_reducible exact HB.out _) ?_; rintro e w2 ⟨rfl, rfl⟩) | (refine Calls.mono (by with_reducible exact HC.out _) ?_; rintro e w2 ⟨rfl, rfl⟩) | (refine Calls.mono (by with_reducible exact HBD.out _) ?_; rintro e w2 ⟨rfl, rfl⟩))
                      go_wp2
                      go_ret
                      exact ⟨by rw [HV2.out]; rfl, (Held.refl w).alloc _⟩
                    · have HV2 : Is v true := ⟨by rw [HV.out]; simp [f0, h1, h4, hl, hh, ha, hb, hc, e2]⟩
                      have q7 : ((b : Int) == 0) = false := by rw [beq_eq_false_iff_ne]; omega
                      have q10 : (f : Int) ≤ 5 := by omega
                      clear HV hi32 h4 e2
                      go_enter Tryz.func74, Tryz.ntmps74
                      repeat (go_wp2_with fail; first | (refine Calls.mono (by with_reducible exact HF.out _) ?_; rintro e w2 ⟨rfl, rfl⟩) | (refine Calls.mono (by with_reducible exact HA.out _) ?_; rintro e w2 ⟨rfl, rfl⟩) | (refine Calls.mono (by with_reducible exact HB.out _) ?_; rintro e w2 ⟨rfl, rfl⟩) | (refine Calls.mono (by with_reducible exact HC.out _) ?_; rintro e w2 ⟨rfl, rfl⟩) | (refine Calls.mono (by with_reducible exact HBD.out _) ?_; rintro e w2 ⟨rfl, rfl⟩))
                      go_wp2
                      go_ret
                      exact ⟨by rw [HV2.out]; rfl, (Held.refl w).alloc _⟩
                  · have q3 : ((f : Int) != 2) = true := by rw [bne_iff_ne]; omega
                    have q9 : ((c : Int) != 0) = false := by subst e3; rfl
                    by_cases h4 : b = 0
                    · have HV2 : Is v true := ⟨by rw [HV.out]; simp [f0, h1, h4, hl, hh, ha, e3]⟩
                      have q7 : ((b : Int) == 0) = true := by subst h4; rfl
                      clear HV hi32 h4 e3 e2
                      go_enter Tryz.func74, Tryz.ntmps74
                      repeat (go_wp2_with fail; first | (refine Calls.mono (by with_reducible exact HF.out _) ?_; rintro e w2 ⟨rfl, rfl⟩) | (refine Calls.mono (by with_reducible exact HA.out _) ?_; rintro e w2 ⟨rfl, rfl⟩) | (refine Calls.mono (by with_reducible exact HB.out _) ?_; rintro e w2 ⟨rfl, rfl⟩) | (refine Calls.mono (by with_reducible exact HC.out _) ?_; rintro e w2 ⟨rfl, rfl⟩) | (refine Calls.mono (by with_reducible exact HBD.out _) ?_; rintro e w2 ⟨rfl, rfl⟩))
                      go_wp2
                      go_ret
                      exact ⟨by rw [HV2.out]; rfl, (Held.refl w).alloc _⟩
                    · have HV2 : Is v (decide ((f : Int) ≤ 5)) := ⟨by rw [HV.out]; have e5 : decide ((f : Int) ≤ 5) = decide (f ≤ 5) := (by rw [decide_eq_decide]; omega); rw [e5]; simp [f0, h1, h4, hl, hh, ha, hb, e3, (by omega : 2 ≤ f)]⟩
                      have q7 : ((b : Int) == 0) = false := by rw [beq_eq_false_iff_ne]; omega
                      clear HV hi32 h4 e3 e2
                      go_enter Tryz.func74, Tryz.ntmps74
                      repeat (go_wp2_with fail; first | (refine Calls.mono (by with_reducible exact HF.out _) ?_; rintro e w2 ⟨rfl, rfl⟩) | (refine Calls.mono (by with_reducible exact HA.out _) ?_; rintro e w2 ⟨rfl, rfl⟩) | (refine Calls.mono (by with_reducible exact HB.out _) ?_; rintro e w2 ⟨rfl, rfl⟩) | (refine Calls.mono (by with_reducible exact HC.out _) ?_; rintro e w2 ⟨rfl, rfl⟩) | (refine Calls.mono (by with_reducible exact HBD.out _) ?_; rintro e w2 ⟨rfl, rfl⟩))
                      go_wp2
                      go_ret
                      exact ⟨by rw [HV2.out]; rfl, (Held.refl w).alloc _⟩
            · have q2 : hi < i := by omega
              have HVf := HV.out
              have HV2 : Is v false := ⟨by rw [HVf]; simp [ha, hb, hc, hl, hh]⟩
              clear HV HVf hi32
              go_enter Tryz.func74, Tryz.ntmps74
              repeat (go_wp2_with fail; first | (refine Calls.mono (by with_reducible exact HF.out _) ?_; rintro e w2 ⟨rfl, rfl⟩) | (refine Calls.mono (by with_reducible exact HA.out _) ?_; rintro e w2 ⟨rfl, rfl⟩) | (refine Calls.mono (by with_reducible exact HB.out _) ?_; rintro e w2 ⟨rfl, rfl⟩) | (refine Calls.mono (by with_reducible exact HC.out _) ?_; rintro e w2 ⟨rfl, rfl⟩) | (refine Calls.mono (by with_reducible exact HBD.out _) ?_; rintro e w2 ⟨rfl, rfl⟩))
              go_wp2
              go_ret
              exact ⟨by rw [HV2.out]; rfl, (Held.refl w).alloc _⟩
          · have q1 : i < lo := by omega
            have HVf := HV.out
            have HV2 : Is v false := ⟨by rw [HVf]; simp [ha, hb, hc, hl]⟩
            clear HV HVf hi32
            go_enter Tryz.func74, Tryz.ntmps74
            repeat (go_wp2_with fail; first | (refine Calls.mono (by with_reducible exact HF.out _) ?_; rintro e w2 ⟨rfl, rfl⟩) | (refine Calls.mono (by with_reducible exact HA.out _) ?_; rintro e w2 ⟨rfl, rfl⟩) | (refine Calls.mono (by with_reducible exact HB.out _) ?_; rintro e w2 ⟨rfl, rfl⟩) | (refine Calls.mono (by with_reducible exact HC.out _) ?_; rintro e w2 ⟨rfl, rfl⟩) | (refine Calls.mono (by with_reducible exact HBD.out _) ?_; rintro e w2 ⟨rfl, rfl⟩))
            go_wp2
            go_ret
            exact ⟨by rw [HV2.out]; rfl, (Held.refl w).alloc _⟩
        · rw [decide_eq_false hc] at HC
          have HVf := HV.out
          have HV2 : Is v false := ⟨by rw [HVf]; simp [ha, hb, hc]⟩
          clear HV HVf hi32
          go_enter Tryz.func74, Tryz.ntmps74
          repeat (go_wp2_with fail; first | (refine Calls.mono (by with_reducible exact HF.out _) ?_; rintro e w2 ⟨rfl, rfl⟩) | (refine Calls.mono (by with_reducible exact HA.out _) ?_; rintro e w2 ⟨rfl, rfl⟩) | (refine Calls.mono (by with_reducible exact HB.out _) ?_; rintro e w2 ⟨rfl, rfl⟩) | (refine Calls.mono (by with_reducible exact HC.out _) ?_; rintro e w2 ⟨rfl, rfl⟩) | (refine Calls.mono (by with_reducible exact HBD.out _) ?_; rintro e w2 ⟨rfl, rfl⟩))
          go_wp2
          go_ret
          exact ⟨by rw [HV2.out]; rfl, (Held.refl w).alloc _⟩
      · rw [decide_eq_false hb] at HB
        have HVf := HV.out
        have HV2 : Is v false := ⟨by rw [HVf]; simp [ha, hb]⟩
        clear HV HVf hi32
        go_enter Tryz.func74, Tryz.ntmps74
        repeat (go_wp2_with fail; first | (refine Calls.mono (by with_reducible exact HF.out _) ?_; rintro e w2 ⟨rfl, rfl⟩) | (refine Calls.mono (by with_reducible exact HA.out _) ?_; rintro e w2 ⟨rfl, rfl⟩) | (refine Calls.mono (by with_reducible exact HB.out _) ?_; rintro e w2 ⟨rfl, rfl⟩) | (refine Calls.mono (by with_reducible exact HC.out _) ?_; rintro e w2 ⟨rfl, rfl⟩) | (refine Calls.mono (by with_reducible exact HBD.out _) ?_; rintro e w2 ⟨rfl, rfl⟩))
        go_wp2
        go_ret
        exact ⟨by rw [HV2.out]; rfl, (Held.refl w).alloc _⟩
    · rw [decide_eq_false ha] at HA
      have HVf := HV.out
      have HV2 : Is v false := ⟨by rw [HVf]; simp [ha]⟩
      clear HV HVf hi32
      go_enter Tryz.func74, Tryz.ntmps74
      repeat (go_wp2_with fail; first | (refine Calls.mono (by with_reducible exact HF.out _) ?_; rintro e w2 ⟨rfl, rfl⟩) | (refine Calls.mono (by with_reducible exact HA.out _) ?_; rintro e w2 ⟨rfl, rfl⟩) | (refine Calls.mono (by with_reducible exact HB.out _) ?_; rintro e w2 ⟨rfl, rfl⟩) | (refine Calls.mono (by with_reducible exact HC.out _) ?_; rintro e w2 ⟨rfl, rfl⟩) | (refine Calls.mono (by with_reducible exact HBD.out _) ?_; rintro e w2 ⟨rfl, rfl⟩))
      go_wp2
      go_ret
      exact ⟨by rw [HV2.out]; rfl, (Held.refl w).alloc _⟩
  · obtain rfl : f = 0 := by omega
    have HVf := HV.out
    have HV2 : Is v false := ⟨by rw [HVf]; simp []⟩
    clear HV HVf hi32
    go_enter Tryz.func74, Tryz.ntmps74
    repeat (go_wp2_with fail; first | (refine Calls.mono (by with_reducible exact HF.out _) ?_; rintro e w2 ⟨rfl, rfl⟩) | (refine Calls.mono (by with_reducible exact HA.out _) ?_; rintro e w2 ⟨rfl, rfl⟩) | (refine Calls.mono (by with_reducible exact HB.out _) ?_; rintro e w2 ⟨rfl, rfl⟩) | (refine Calls.mono (by with_reducible exact HC.out _) ?_; rintro e w2 ⟨rfl, rfl⟩) | (refine Calls.mono (by with_reducible exact HBD.out _) ?_; rintro e w2 ⟨rfl, rfl⟩))
    go_wp2
    go_ret
    exact ⟨by rw [HV2.out]; rfl, (Held.refl w).alloc _⟩
end As
end Go.Proofs.YtdacgdokbfcgdaaGreat

namespace Go.Proofs.YtdacgdokbfcgdaaGreat
open Go.RowKit Go.BigFrame Go.Lib
namespace As
theorem valid_parts {op a b c : Nat} {i : Int} (h : validI ⟨op, a, b, c, i⟩ = true) : op ≤ 64 ∧ a ≤ 15 ∧ b ≤ 15 ∧ c ≤ 15 ∧ -32768 ≤ i ∧ i ≤ 65535 := by
  unfold validI at h
  simp only [Bool.and_eq_true, decide_eq_true_eq] at h
  obtain ⟨⟨⟨⟨⟨⟨⟨⟨h1, h2⟩, h3⟩, h4⟩, h5⟩, h6⟩, _⟩, _⟩, _⟩ := h
  refine ⟨?_, h2, h3, h4, ?_, ?_⟩
  · rcases Nat.lt_or_ge 64 op with h | h
    · exact absurd (form_big h) h1
    · exact h
  · have := form_le op
    generalize form op = f at *
    unfold bounds at h5
    split at h5 <;> (try split at h5) <;> (try split at h5) <;> (try split at h5) <;> (try split at h5) <;> simp only at h5 <;> omega
  · generalize form op = f at *
    unfold bounds at h6
    split at h6 <;> (try split at h6) <;> (try split at h6) <;> (try split at h6) <;> (try split at h6) <;> simp only at h6 <;> omega
theorem or_add (x y k : Nat) (h : y < 2 ^ k) : x * 2 ^ k ||| y = x * 2 ^ k + y := by rw [← Nat.shiftLeft_eq, Nat.shiftLeft_add_eq_or_of_lt h]
theorem p24 : (2 : Nat) ^ 24 = 16777216 := by decide
theorem p20 : (2 : Nat) ^ 20 = 1048576 := by decide
theorem p16 : (2 : Nat) ^ 16 = 65536 := by decide
theorem enc_one (op a : Nat) (h1 : op ≤ 64) (h2 : a ≤ 15) : bits .or .u32 ((op : Int) * 16777216) ((a : Int) * 1048576) = ((op * 16777216 + a * 1048576 : Nat) : Int) := by
  have := or_add op (a * 1048576) 24 (by rw [p24]; omega)
  rw [p24] at this
  have e1 : (op : Int) * 16777216 = ((op * 16777216 : Nat) : Int) := by omega
  have e2 : (a : Int) * 1048576 = ((a * 1048576 : Nat) : Int) := by omega
  rw [e1, e2, u32_or_nat _ _ (by omega) (by omega), this]
theorem enc_two (op a b : Nat) (h1 : op ≤ 64) (h2 : a ≤ 15) (h3 : b ≤ 15) : bits .or .u32 ((op * 16777216 + a * 1048576 : Nat) : Int) ((b : Int) * 65536) = ((op * 16777216 + a * 1048576 + b * 65536 : Nat) : Int) := by
  have := or_add (op * 16 + a) (b * 65536) 20 (by rw [p20]; omega)
  rw [p20] at this
  have e1 : (b : Int) * 65536 = ((b * 65536 : Nat) : Int) := by omega
  have e2 : op * 16777216 + a * 1048576 = (op * 16 + a) * 1048576 := by omega
  rw [e1, u32_or_nat _ _ (by omega) (by omega), e2, this]
theorem enc_imm (i : Int) : bits .and .u32 (i % 4294967296) 65535 = ((i % 65536).toNat : Int) := by
  have h := u32_and_nat (i % 4294967296).toNat 65535 (by omega) (by decide)
  rw [show (((i % 4294967296).toNat : Nat) : Int) = i % 4294967296 by omega] at h
  rw [show ((65535 : Nat) : Int) = 65535 from rfl] at h
  have hm := Nat.and_two_pow_sub_one_eq_mod (i % 4294967296).toNat 16
  rw [p16] at hm
  rw [h, show (65535 : Nat) = 65536 - 1 from by decide, hm]
  omega
theorem enc_or (X l : Nat) (hX : X ≤ 65535) (hl : l < 65536) : bits .or .u32 ((X * 65536 : Nat) : Int) (l : Int) = ((X * 65536 + l : Nat) : Int) := by
  have := or_add X l 16 (by rw [p16]; exact hl)
  rw [p16] at this
  rw [u32_or_nat _ _ (by omega) (by omega), this]
theorem or_lt16 {l c : Nat} (hl : l < 65536) (hc : c < 65536) : l ||| c < 65536 := by
  have h : l ||| c < 2 ^ 16 := Nat.or_lt_two_pow (by rw [p16]; exact hl) (by rw [p16]; exact hc)
  rw [p16] at h
  exact h
theorem enc_or2 (X l c : Nat) (hX : X ≤ 65535) (hl : l < 65536) (hc : c < 65536) : bits .or .u32 ((X * 65536 + l : Nat) : Int) (c : Int) = ((X * 65536 + (l ||| c) : Nat) : Int) := by
  have h1 := or_add X l 16 (by rw [p16]; exact hl)
  have h2 := or_add X (l ||| c) 16 (by rw [p16]; exact or_lt16 hl hc)
  rw [p16] at h1 h2
  rw [u32_or_nat _ _ (by omega) (by omega), ← h1, Nat.or_assoc, h2]
theorem enc_sum (op a b : Nat) : op * 16777216 + a * 1048576 + b * 65536 = (op * 256 + a * 16 + b) * 65536 := by omega
theorem enc_bd {op a b : Nat} (h1 : op ≤ 64) (h2 : a ≤ 15) (h3 : b ≤ 15) : op * 256 + a * 16 + b ≤ 65535 := by omega
theorem imm_bd (i : Int) : (i % 65536).toNat < 65536 := by omega
theorem enc_lt {X y X3 X5 : Nat} (h : X ≤ 65535) (h9 : y < 65536) (h3 : X * 65536 = X3) (h5 : X3 + y = X5) : X5 < 4294967296 := by omega
def EncTo (op a b c : Nat) (i : Int) (w : World) (e : Ending) (w' : World) : Prop := ∃ v : Nat, e = .returned (.tuple #[.int .u32 (v : Int), .bool (validI ⟨op, a, b, c, i⟩)]) ∧ v < 4294967296 ∧ (validI ⟨op, a, b, c, i⟩ = true → v = encN op a b c i) ∧ Held w w'
set_option maxHeartbeats 4000000 in
theorem encode_ins (op a b c : Nat) (i : Int) (w : World) (hi32 : -2147483648 ≤ i ∧ i ≤ 2147483647) : Calls Tryz.prog 55 #[insV op a b c i] w (EncTo op a b c i w) := by
  have HVC := Lib.hid fun w => valid_ins op a b c i w hi32
  obtain ⟨v, hv⟩ : ∃ v, validI ⟨op, a, b, c, i⟩ = v := ⟨_, rfl⟩
  have HV : Is (validI ⟨op, a, b, c, i⟩) v := ⟨hv⟩
  rw [hv] at HVC
  unfold EncTo
  rw [hv]
  have M1 := Lib.hid ((Mem.start w).alloc #[.int .i64 (op : Int), .int .i64 (a : Int), .int .i64 (b : Int), .int .i64 (c : Int), .int .i32 i] 123)
  clear hv
  cases v
  · clear HV hi32
    go_enter Tryz.func55, Tryz.ntmps55
    go_wp2_with fail
    refine (HVC.out _).mono ?_
    rintro e w2 ⟨rfl, h2⟩
    have M2 := Lib.hid (M1.out.keep h2)
    clear h2
    go_wp2
    go_ret2
    exact ⟨0, rfl, by decide, (fun h => by cases h), M2.out.held⟩
  · obtain ⟨p1, p2, p3, p4, p5, p6⟩ := valid_parts HV.out
    clear HV
    have e1 := enc_one op a p1 p2
    have e2 := enc_two op a b p1 p2 p3
    obtain ⟨X1, hX1⟩ : ∃ X, op * 16777216 + a * 1048576 = X := ⟨_, rfl⟩
    obtain ⟨X, hX⟩ : ∃ X, X = op * 256 + a * 16 + b := ⟨_, rfl⟩
    have hX2 : op * 16777216 + a * 1048576 + b * 65536 = X * 65536 := by rw [hX]; exact enc_sum op a b
    have hX6 : X ≤ 65535 := by rw [hX]; exact enc_bd p1 p2 p3
    have hl6 : (i % 65536).toNat < 65536 := imm_bd i
    rw [hX2, hX1] at e2
    rw [hX1] at e1
    have e3 := enc_imm i
    obtain ⟨l, hl⟩ : ∃ l, (i % 65536).toNat = l := ⟨_, rfl⟩
    rw [hl] at e3 hl6
    have e4 := enc_or X l hX6 hl6
    have e5 := enc_or2 X l c hX6 hl6 (Nat.lt_of_le_of_lt p4 (by decide))
    obtain ⟨X3, hX3⟩ : ∃ Y, X * 65536 = Y := ⟨_, rfl⟩
    obtain ⟨X4, hX4⟩ : ∃ Y, X3 + l = Y := ⟨_, rfl⟩
    obtain ⟨X5, hX5⟩ : ∃ Y, X3 + (l ||| c) = Y := ⟨_, rfl⟩
    rw [hX3] at e2 e4 e5
    rw [hX4] at e4 e5
    rw [hX5] at e5
    have HE : Is X5 (encN op a b c i) := ⟨by unfold encN; rw [hX2, hX3, hl, hX5]⟩
    have HB : Hid (X5 < 4294967296) := by
      have h9 := or_lt16 (l := l) (c := c) hl6 (Nat.lt_of_le_of_lt p4 (by decide))
      exact enc_lt hX6 h9 hX3 hX5
    have z1 : (op : Int) ≤ 64 := by omega
    have z2 : (a : Int) ≤ 15 := by omega
    have z3 : (b : Int) ≤ 15 := by omega
    have z4 : (c : Int) ≤ 15 := by omega
    clear hX hX1 hX2 hX3 hX4 hX5 hl
    go_enter Tryz.func55, Tryz.ntmps55
    go_wp2_with fail
    refine (HVC.out _).mono ?_
    rintro e w2 ⟨rfl, h2⟩
    have M2 := Lib.hid (M1.out.keep h2)
    obtain ⟨⟨f0, f1, f2, f3, f4⟩, ⟨g0, g1, g2, g3, g4⟩, lt3⟩ := M2.out.box5 0 rfl
    clear h2
    go_wp2
    go_ret2
    exact ⟨X5, rfl, HB.out, fun _ => HE.out, M2.out.held⟩
end As
end Go.Proofs.YtdacgdokbfcgdaaGreat

namespace Go.Proofs.YtdacgdokbfcgdaaGreat
open Go.RowKit Go.BigFrame Go.Sort Go.Lib
namespace Ma
open As (form validI insV Ins)
/-- The fields of a word. -/
def immS (l : Nat) : Int := if l < 32768 then (l : Int) else (l : Int) - 65536
def decI (w : Nat) : Ins :=
  if form (w / 16777216) = 2 then ⟨w / 16777216, w / 1048576 % 16, w / 65536 % 16, w % 65536, 0⟩
  else if form (w / 16777216) = 3 ∨ form (w / 16777216) = 7 then ⟨w / 16777216, w / 1048576 % 16, w / 65536 % 16, 0, immS (w % 65536)⟩
  else ⟨w / 16777216, w / 1048576 % 16, w / 65536 % 16, 0, ((w % 65536 : Nat) : Int)⟩
def dec (w : Nat) : Option Ins := if form (w / 16777216) = 0 then none else if validI (decI w) = true then some (decI w) else none
theorem wrap16 {l : Nat} (h : l ≤ 65535) : IntKind.i16.wrap (l : Int) = immS l := by
  have e : IntKind.i16.wrap (l : Int) = if 32768 ≤ (l : Int) % 65536 then (l : Int) % 65536 - 65536 else (l : Int) % 65536 := by
    simp [IntKind.wrap, IntKind.bits, IntKind.signed]
  rw [e]
  unfold immS
  split <;> split <;> omega
theorem and15 (x : Nat) (h : x < 4294967296) : bits .and .u32 (x : Int) 15 = ((x % 16 : Nat) : Int) := by
  have h1 := u32_and_nat x 15 h (by decide)
  have h2 := Nat.and_two_pow_sub_one_eq_mod x 4
  rw [show (2 : Nat) ^ 4 = 16 by decide] at h2
  rw [show ((15 : Nat) : Int) = 15 from rfl] at h1
  rw [h1, show (15 : Nat) = 16 - 1 by decide, h2]
theorem and65535 (x : Nat) (h : x < 4294967296) : bits .and .u32 (x : Int) 65535 = ((x % 65536 : Nat) : Int) := by
  have h1 := u32_and_nat x 65535 h (by decide)
  have h2 := Nat.and_two_pow_sub_one_eq_mod x 16
  rw [As.p16] at h2
  rw [show ((65535 : Nat) : Int) = 65535 from rfl] at h1
  rw [h1, show (65535 : Nat) = 65536 - 1 by decide, h2]
theorem load_inst {w : World} {b : Nat} {y0 y1 y2 y3 y4 : Value} {t : TypeId} (h : w.heap[b]? = some (.cells #[y0, y1, y2, y3, y4] t (0, 0))) : (loadVar 123 ⟨b, 0, none⟩).run Tryz.prog w = .ok (.agg #[y0, y1, y2, y3, y4]) w := by
  have c0 := Bx.cell h 0 (v := y0) rfl
  have c1 := Bx.cell h 1 (v := y1) rfl
  have c2 := Bx.cell h 2 (v := y2) rfl
  have c3 := Bx.cell h 3 (v := y3) rfl
  have c4 := Bx.cell h 4 (v := y4) rfl
  simp [loadVar, go_sem, c0, c1, c2, c3, c4]
def insO (o : Option Ins) : Value := match o with | some x => insV x.op x.a x.b x.c x.i | none => insV 0 0 0 0 0
def DecTo (o : Option Ins) (w : World) (e : Ending) (w' : World) : Prop := e = .returned (.tuple #[insO o, .bool o.isSome]) ∧ Held w w'
set_option maxHeartbeats 4000000 in
theorem decode_any (n : Nat) (hn : n < 4294967296) (w : World) : Calls Tryz.prog 92 #[.int .u32 (n : Int)] w (DecTo (dec n) w) := by
  obtain ⟨op, hop⟩ : ∃ op, n / 16777216 = op := ⟨_, rfl⟩
  obtain ⟨a, ha⟩ : ∃ a, n / 1048576 % 16 = a := ⟨_, rfl⟩
  obtain ⟨b, hb⟩ : ∃ b, n / 65536 % 16 = b := ⟨_, rfl⟩
  obtain ⟨l, hl⟩ : ∃ l, n % 65536 = l := ⟨_, rfl⟩
  have e1 : (n : Int) / 16777216 = (op : Int) := by omega
  have e2 : bits .and .u32 ((n : Int) / 1048576) 15 = (a : Int) := by
    rw [show (n : Int) / 1048576 = ((n / 1048576 : Nat) : Int) by omega, and15 _ (by omega), ha]
  have e3 : bits .and .u32 ((n : Int) / 65536) 15 = (b : Int) := by
    rw [show (n : Int) / 65536 = ((n / 65536 : Nat) : Int) by omega, and15 _ (by omega), hb]
  have e4 : bits .and .u32 (n : Int) 65535 = (l : Int) := by rw [and65535 _ hn, hl]
  have z1 : (op : Int) ≤ 255 := by omega
  have z2 : (a : Int) ≤ 15 := by omega
  have z3 : (b : Int) ≤ 15 := by omega
  have z4 : (l : Int) ≤ 65535 := by omega
  have HF := Lib.hid fun w => As.form_all op w
  obtain ⟨f, hf⟩ : ∃ f, form op = f := ⟨_, rfl⟩
  rw [hf] at HF
  by_cases h0 : f = 0
  · have hd : dec n = none := by unfold dec; rw [hop, hf, if_pos h0]
    rw [hd]
    subst h0
    have MZ := Lib.hid (((Mem.start w).alloc #[.int .i64 0, .int .i64 0, .int .i64 0, .int .i64 0, .int .i32 0] 123).alloc' (b := w.heap.size + 1) (by simp) #[.int .i64 (op : Int), .int .i64 (a : Int), .int .i64 (b : Int), .int .i64 0, .int .i32 0] 123)
    clear hop ha hb hl hf hd
    go_enter Tryz.func92, Tryz.ntmps92
    go_wp2_with fail
    refine (HF.out _).mono ?_
    rintro e w3 ⟨rfl, rfl⟩
    go_wp2
    refine bodyPost_ret (Bx.res_ct Tryz.results92 rfl (load_inst (MZ.out.blk 0 rfl))) rfl ?_
    exact ⟨rfl, MZ.out.held⟩
  · have q0 : ((f : Int) == 0) = false := by rw [beq_eq_false_iff_ne]; omega
    by_cases h2 : f = 2
    · have q2 : ((f : Int) == 2) = true := by rw [beq_iff_eq]; omega
      have HV := Lib.hid fun w => As.valid_ins op a b l (0) w (by constructor <;> omega)
      obtain ⟨v, hv⟩ : ∃ v, validI ⟨op, a, b, l, 0⟩ = v := ⟨_, rfl⟩
      rw [hv] at HV
      have hd : dec n = if v = true then some ⟨op, a, b, l, 0⟩ else none := by
        unfold dec
        rw [hop, hf, if_neg h0]
        have hi : decI n = ⟨op, a, b, l, 0⟩ := by unfold decI; rw [hop, hf, if_pos h2, ha, hb, hl]
        rw [hi, hv]
      obtain ⟨o, ho⟩ : ∃ o, dec n = o := ⟨_, rfl⟩
      rw [ho] at hd ⊢
      have HO : Is o _ := ⟨hd⟩
      have HV5 : Hid (∀ w, Calls Tryz.prog 74 #[.agg #[.int .i64 (op : Int), .int .i64 (a : Int), .int .i64 (b : Int), .int .i64 (l : Int), .int .i32 (0)]] w fun e w' => e = .returned (.bool v) ∧ Held w w') := HV
      have M1 := Lib.hid (((Mem.start w).alloc #[.int .i64 0, .int .i64 0, .int .i64 0, .int .i64 0, .int .i32 0] 123).alloc' (b := w.heap.size + 1) (by simp) #[.int .i64 (op : Int), .int .i64 (a : Int), .int .i64 (b : Int), .int .i64 (l : Int), .int .i32 (0)] 123)
      clear hop ha hb hl hf hd ho hv HV h0 h2
      go_enter Tryz.func92, Tryz.ntmps92
      go_wp2_with fail
      refine (HF.out _).mono ?_
      rintro e w3 ⟨rfl, rfl⟩
      go_wp2_with fail
      refine (HV5.out _).mono ?_
      rintro e w4 ⟨rfl, h4⟩
      have M4 := Lib.hid (M1.out.keep h4)
      clear h4
      obtain ⟨⟨x0, x1, x2, x3, x4⟩, ⟨u0, u1, u2, u3, u4⟩, l0⟩ := M4.out.box5 0 rfl
      obtain ⟨⟨y0, y1, y2, y3, y4⟩, ⟨v0, v1, v2, v3, v4⟩, l1⟩ := M4.out.box5 1 rfl
      cases v
      · have MZ := Lib.hid (((((M4.out.put 0 rfl 0 (.int .i64 0)).put 0 rfl 1 (.int .i64 0)).put 0 rfl 2 (.int .i64 0)).put 0 rfl 3 (.int .i64 0)).put 0 rfl 4 (.int .i32 0))
        go_wp2
        refine bodyPost_ret (Bx.res_ct Tryz.results92 rfl (load_inst (MZ.out.blk 0 rfl))) rfl ?_
        exact ⟨by rw [HO.out]; rfl, MZ.out.held⟩
      · have MZ := Lib.hid (((((M4.out.put 0 rfl 0 (.int .i64 (op : Int))).put 0 rfl 1 (.int .i64 (a : Int))).put 0 rfl 2 (.int .i64 (b : Int))).put 0 rfl 3 (.int .i64 (l : Int))).put 0 rfl 4 (.int .i32 (0)))
        go_wp2
        refine bodyPost_ret (Bx.res_ct Tryz.results92 rfl (load_inst (MZ.out.blk 0 rfl))) rfl ?_
        exact ⟨by rw [HO.out]; rfl, MZ.out.held⟩
    · have q2 : ((f : Int) == 2) = false := by rw [beq_eq_false_iff_ne]; omega
      by_cases h3 : f = 3 ∨ f = 7
      · obtain ⟨s, hs⟩ : ∃ s, immS l = s := ⟨_, rfl⟩
        have hs0 : -32768 ≤ s ∧ s ≤ 32767 := by rw [← hs]; unfold immS; split <;> constructor <;> omega
        have e5 : IntKind.i16.wrap (l : Int) = s := by rw [← hs]; exact wrap16 (by omega)
        obtain ⟨hs1, hs2⟩ := hs0
        rcases h3 with h3 | h3
        · have q3 : ((f : Int) == 3) = true := by rw [beq_iff_eq]; omega
          have HV := Lib.hid fun w => As.valid_ins op a b 0 (s) w (by constructor <;> omega)
          obtain ⟨v, hv⟩ : ∃ v, validI ⟨op, a, b, 0, s⟩ = v := ⟨_, rfl⟩
          rw [hv] at HV
          have hd : dec n = if v = true then some ⟨op, a, b, 0, s⟩ else none := by
            unfold dec
            rw [hop, hf, if_neg h0]
            have hi : decI n = ⟨op, a, b, 0, s⟩ := by unfold decI; rw [hop, hf, if_neg h2, if_pos (Or.inl h3), ha, hb, hl, hs]
            rw [hi, hv]
          obtain ⟨o, ho⟩ : ∃ o, dec n = o := ⟨_, rfl⟩
          rw [ho] at hd ⊢
          have HO : Is o _ := ⟨hd⟩
          have HV5 : Hid (∀ w, Calls Tryz.prog 74 #[.agg #[.int .i64 (op : Int), .int .i64 (a : Int), .int .i64 (b : Int), .int .i64 0, .int .i32 (s)]] w fun e w' => e = .returned (.bool v) ∧ Held w w') := HV
          have M1 := Lib.hid (((Mem.start w).alloc #[.int .i64 0, .int .i64 0, .int .i64 0, .int .i64 0, .int .i32 0] 123).alloc' (b := w.heap.size + 1) (by simp) #[.int .i64 (op : Int), .int .i64 (a : Int), .int .i64 (b : Int), .int .i64 0, .int .i32 (s)] 123)
          clear hop ha hb hl hf hd ho hv HV h0 h2 h3 hs
          go_enter Tryz.func92, Tryz.ntmps92
          go_wp2_with fail
          refine (HF.out _).mono ?_
          rintro e w3 ⟨rfl, rfl⟩
          go_wp2_with fail
          refine (HV5.out _).mono ?_
          rintro e w4 ⟨rfl, h4⟩
          have M4 := Lib.hid (M1.out.keep h4)
          clear h4
          obtain ⟨⟨x0, x1, x2, x3, x4⟩, ⟨u0, u1, u2, u3, u4⟩, l0⟩ := M4.out.box5 0 rfl
          obtain ⟨⟨y0, y1, y2, y3, y4⟩, ⟨v0, v1, v2, v3, v4⟩, l1⟩ := M4.out.box5 1 rfl
          cases v
          · have MZ := Lib.hid (((((M4.out.put 0 rfl 0 (.int .i64 0)).put 0 rfl 1 (.int .i64 0)).put 0 rfl 2 (.int .i64 0)).put 0 rfl 3 (.int .i64 0)).put 0 rfl 4 (.int .i32 0))
            go_wp2
            refine bodyPost_ret (Bx.res_ct Tryz.results92 rfl (load_inst (MZ.out.blk 0 rfl))) rfl ?_
            exact ⟨by rw [HO.out]; rfl, MZ.out.held⟩
          · have MZ := Lib.hid (((((M4.out.put 0 rfl 0 (.int .i64 (op : Int))).put 0 rfl 1 (.int .i64 (a : Int))).put 0 rfl 2 (.int .i64 (b : Int))).put 0 rfl 3 (.int .i64 0)).put 0 rfl 4 (.int .i32 (s)))
            go_wp2
            refine bodyPost_ret (Bx.res_ct Tryz.results92 rfl (load_inst (MZ.out.blk 0 rfl))) rfl ?_
            exact ⟨by rw [HO.out]; rfl, MZ.out.held⟩
        · have q3 : ((f : Int) == 3) = false := by rw [beq_eq_false_iff_ne]; omega
          have q7 : ((f : Int) == 7) = true := by rw [beq_iff_eq]; omega
          have HV := Lib.hid fun w => As.valid_ins op a b 0 (s) w (by constructor <;> omega)
          obtain ⟨v, hv⟩ : ∃ v, validI ⟨op, a, b, 0, s⟩ = v := ⟨_, rfl⟩
          rw [hv] at HV
          have hd : dec n = if v = true then some ⟨op, a, b, 0, s⟩ else none := by
            unfold dec
            rw [hop, hf, if_neg h0]
            have hi : decI n = ⟨op, a, b, 0, s⟩ := by unfold decI; rw [hop, hf, if_neg h2, if_pos (Or.inr h3), ha, hb, hl, hs]
            rw [hi, hv]
          obtain ⟨o, ho⟩ : ∃ o, dec n = o := ⟨_, rfl⟩
          rw [ho] at hd ⊢
          have HO : Is o _ := ⟨hd⟩
          have HV5 : Hid (∀ w, Calls Tryz.prog 74 #[.agg #[.int .i64 (op : Int), .int .i64 (a : Int), .int .i64 (b : Int), .int .i64 0, .int .i32 (s)]] w fun e w' => e = .returned (.bool v) ∧ Held w w') := HV
          have M1 := Lib.hid (((Mem.start w).alloc #[.int .i64 0, .int .i64 0, .int .i64 0, .int .i64 0, .int .i32 0] 123).alloc' (b := w.heap.size + 1) (by simp) #[.int .i64 (op : Int), .int .i64 (a : Int), .int .i64 (b : Int), .int .i64 0, .int .i32 (s)] 123)
          clear hop ha hb hl hf hd ho hv HV h0 h2 h3 hs
          go_enter Tryz.func92, Tryz.ntmps92
          go_wp2_with fail
          refine (HF.out _).mono ?_
          rintro e w3 ⟨rfl, rfl⟩
          go_wp2_with fail
          refine (HV5.out _).mono ?_
          rintro e w4 ⟨rfl, h4⟩
          have M4 := Lib.hid (M1.out.keep h4)
          clear h4
          obtain ⟨⟨x0, x1, x2, x3, x4⟩, ⟨u0, u1, u2, u3, u4⟩, l0⟩ := M4.out.box5 0 rfl
          obtain ⟨⟨y0, y1, y2, y3, y4⟩, ⟨v0, v1, v2, v3, v4⟩, l1⟩ := M4.out.box5 1 rfl
          cases v
          · have MZ := Lib.hid (((((M4.out.put 0 rfl 0 (.int .i64 0)).put 0 rfl 1 (.int .i64 0)).put 0 rfl 2 (.int .i64 0)).put 0 rfl 3 (.int .i64 0)).put 0 rfl 4 (.int .i32 0))
            go_wp2
            refine bodyPost_ret (Bx.res_ct Tryz.results92 rfl (load_inst (MZ.out.blk 0 rfl))) rfl ?_
            exact ⟨by rw [HO.out]; rfl, MZ.out.held⟩
          · have MZ := Lib.hid (((((M4.out.put 0 rfl 0 (.int .i64 (op : Int))).put 0 rfl 1 (.int .i64 (a : Int))).put 0 rfl 2 (.int .i64 (b : Int))).put 0 rfl 3 (.int .i64 0)).put 0 rfl 4 (.int .i32 (s)))
            go_wp2
            refine bodyPost_ret (Bx.res_ct Tryz.results92 rfl (load_inst (MZ.out.blk 0 rfl))) rfl ?_
            exact ⟨by rw [HO.out]; rfl, MZ.out.held⟩
      · have q3 : ((f : Int) == 3) = false := by rw [beq_eq_false_iff_ne]; omega
        have q7 : ((f : Int) == 7) = false := by rw [beq_eq_false_iff_ne]; omega
        have HV := Lib.hid fun w => As.valid_ins op a b 0 ((l : Int)) w (by constructor <;> omega)
        obtain ⟨v, hv⟩ : ∃ v, validI ⟨op, a, b, 0, (l : Int)⟩ = v := ⟨_, rfl⟩
        rw [hv] at HV
        have hd : dec n = if v = true then some ⟨op, a, b, 0, (l : Int)⟩ else none := by
          unfold dec
          rw [hop, hf, if_neg h0]
          have hi : decI n = ⟨op, a, b, 0, (l : Int)⟩ := by unfold decI; rw [hop, hf, if_neg h2, if_neg h3, ha, hb, hl]
          rw [hi, hv]
        obtain ⟨o, ho⟩ : ∃ o, dec n = o := ⟨_, rfl⟩
        rw [ho] at hd ⊢
        have HO : Is o _ := ⟨hd⟩
        have HV5 : Hid (∀ w, Calls Tryz.prog 74 #[.agg #[.int .i64 (op : Int), .int .i64 (a : Int), .int .i64 (b : Int), .int .i64 0, .int .i32 ((l : Int))]] w fun e w' => e = .returned (.bool v) ∧ Held w w') := HV
        have M1 := Lib.hid (((Mem.start w).alloc #[.int .i64 0, .int .i64 0, .int .i64 0, .int .i64 0, .int .i32 0] 123).alloc' (b := w.heap.size + 1) (by simp) #[.int .i64 (op : Int), .int .i64 (a : Int), .int .i64 (b : Int), .int .i64 0, .int .i32 ((l : Int))] 123)
        clear hop ha hb hl hf hd ho hv HV h0 h2 h3
        go_enter Tryz.func92, Tryz.ntmps92
        go_wp2_with fail
        refine (HF.out _).mono ?_
        rintro e w3 ⟨rfl, rfl⟩
        go_wp2_with fail
        refine (HV5.out _).mono ?_
        rintro e w4 ⟨rfl, h4⟩
        have M4 := Lib.hid (M1.out.keep h4)
        clear h4
        obtain ⟨⟨x0, x1, x2, x3, x4⟩, ⟨u0, u1, u2, u3, u4⟩, l0⟩ := M4.out.box5 0 rfl
        obtain ⟨⟨y0, y1, y2, y3, y4⟩, ⟨v0, v1, v2, v3, v4⟩, l1⟩ := M4.out.box5 1 rfl
        cases v
        · have MZ := Lib.hid (((((M4.out.put 0 rfl 0 (.int .i64 0)).put 0 rfl 1 (.int .i64 0)).put 0 rfl 2 (.int .i64 0)).put 0 rfl 3 (.int .i64 0)).put 0 rfl 4 (.int .i32 0))
          go_wp2
          refine bodyPost_ret (Bx.res_ct Tryz.results92 rfl (load_inst (MZ.out.blk 0 rfl))) rfl ?_
          exact ⟨by rw [HO.out]; rfl, MZ.out.held⟩
        · have MZ := Lib.hid (((((M4.out.put 0 rfl 0 (.int .i64 (op : Int))).put 0 rfl 1 (.int .i64 (a : Int))).put 0 rfl 2 (.int .i64 (b : Int))).put 0 rfl 3 (.int .i64 0)).put 0 rfl 4 (.int .i32 ((l : Int))))
          go_wp2
          refine bodyPost_ret (Bx.res_ct Tryz.results92 rfl (load_inst (MZ.out.blk 0 rfl))) rfl ?_
          exact ⟨by rw [HO.out]; rfl, MZ.out.held⟩
end Ma
end Go.Proofs.YtdacgdokbfcgdaaGreat
