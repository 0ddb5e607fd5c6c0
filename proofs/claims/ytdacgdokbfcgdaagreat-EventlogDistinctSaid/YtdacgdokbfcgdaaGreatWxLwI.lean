/-
  The walk of EventlogDistinct.
-/
import Derived.Test.YtdacgdokbfcgdaaGreatW20
set_option linter.unusedVariables false
set_option linter.unusedSimpArgs false
set_option maxRecDepth 100000
namespace Go.Proofs.YtdacgdokbfcgdaaGreat
open Go.RowKit Go.BigFrame Go.Sort Go.Lib
namespace Lw
open Enc (Ent entC EntOK okX encode EncTo entC_len encF)
open Ma (nC RecTo recorded_any same_any SameTo entAt LogI)
open Opn (nZ few_any)
set_option maxHeartbeats 4000000 in
theorem distinct_law (kind : Int) (A1 : Option Addr) (n1 c1 : Nat) (L1 : List Int) (A2 : Option Addr) (n2 c2 : Nat) (L2 : List Int) (A3 : Option Addr) (n3 c3 : Nat) (L3 : List Int) (how at_ : Int)
    (wk : (Lit.int .i64 kind).wf = true) (wh : (Lit.int .i64 how).wf = true) (wa : (Lit.int .i64 at_).wf = true) (W : World)
    (g1 : Sl 1 nZ W A1 n1 L1 ∧ n1 ≤ maxLen) (g2 : Sl 1 nZ W A2 n2 L2 ∧ n2 ≤ maxLen) (g3 : Sl 1 nZ W A3 n3 L3 ∧ n3 ≤ maxLen) :
    Calls Tryz.prog 3 #[.int .i64 kind, .slice A1 n1 c1, .slice A2 n2 c2, .slice A3 n3 c3, .int .i64 how, .int .i64 at_] W (LawTo W) := by
  have bk := Rw.bd_i64 wk
  have bh := Rw.bd_i64 wh
  have ba := Rw.bd_i64 wa
  have HAW := Lib.hid fun w => Enc.awake_any w
  by_cases hfew : n1 ≤ 40 ∧ n2 ≤ 30
  · have HF := Lib.hid fun w => few_any A1 A2 n1 n2 c1 c2 true (by rw [decide_eq_true hfew.1, decide_eq_true hfew.2]; rfl) w
    by_cases h30 : (30 : Int) < n3
    · clear g1 g2 g3 wk wh wa hfew
      go_enter Tryz.func3, Tryz.ntmps3
      go_wp2_with fail
      refine (HF.out _).mono ?_
      rintro e w1 ⟨rfl, h1⟩
      go_wp2_with fail
      refine (HAW.out _).mono ?_
      rintro e w3 ⟨rfl, h3⟩
      go_wp2
      go_ret
      exact ⟨rfl, h1.step h3⟩
    · have HR1 := Lib.hid fun (w' : World) (h : Held W w') => recorded_any kind 5 0 bk (by decide) (by decide) A1 A2 n1 c1 n2 c2 L1 L2 w' (Sl.held g1.1 h) (Sl.held g2.1 h) hfew.1 hfew.2
      have HR2 := Lib.hid fun (w' : World) (h : Held W w') => recorded_any kind how at_ bk bh ba A1 A3 n1 c1 n3 c3 L1 L3 w' (Sl.held g1.1 h) (Sl.held g3.1 h) hfew.1 (by omega)
      unfold RecTo at HR1 HR2
      clear g1 g2 g3 wk wh wa hfew
      go_enter Tryz.func3, Tryz.ntmps3
      go_wp2_with fail
      refine (HF.out _).mono ?_
      rintro e w1 ⟨rfl, h1⟩
      go_wp2_with fail
      refine (HR1.out _ h1).mono ?_
      rintro e w2 ⟨B1, m1, d1, M1, rfl, hM1, _, _, hm1, hok1, hlog, h2⟩
      obtain ⟨x0, x9, hlog⟩ := hlog (by decide)
      have HM1 := Lib.hid hM1
      have HO1 := Lib.hid hok1
      have HL1 := Lib.hid hlog
      have H2 := Lib.hid (h1.step h2)
      clear hM1 hok1 hlog h2 h1 HR1
      go_wp2_with fail
      refine (HR2.out _ H2.out).mono ?_
      rintro e w3 ⟨B2, m2, d2, M2, rfl, hM2, _, _, hm2, hok2, _, h3⟩
      have HM2 := Lib.hid hM2
      have HO2 := Lib.hid hok2
      have H3 := Lib.hid h3
      clear hM2 hok2 h3 HR2
      have hen := enc_log HL1.out (by rw [HM1.out.1]; omega) (fun x hx => Nat.zero_le _) (f := 0)
      have HE1 := Lib.hid fun (w' : World) (h : Held w3 w') => Enc.encode_any B1 m1 d1 M1 0 w' ((HM1.out.held H3.out).held h) (by omega) HO1.out (by decide)
      have HE2 := Lib.hid fun (w' : World) (h : Held w3 w') => Enc.encode_any B2 m2 d2 M2 0 w' (HM2.out.held h) (by omega) HO2.out (by decide)
      unfold EncTo at HE1 HE2
      obtain ⟨s, hs⟩ : ∃ s : ByteArray, (⟨(encode M1 0).1.toArray⟩ : ByteArray) = s := ⟨_, rfl⟩
      obtain ⟨t, ht⟩ : ∃ s : ByteArray, (⟨(encode M2 0).1.toArray⟩ : ByteArray) = s := ⟨_, rfl⟩
      obtain ⟨c, hc⟩ : ∃ c, (encode M2 0).2 = c := ⟨_, rfl⟩
      have h10 : (encode M1 0).2 = 0 := by rw [hen]
      rw [hs, h10] at HE1
      rw [ht, hc] at HE2
      have hS : (encode M1 0) = (s.data.toList, 0) := by rw [← hs, ← h10]
      have hT : (encode M2 0) = (t.data.toList, c) := by rw [← ht, ← hc]
      have HES : Hid (c = 0 → (s = t ↔ M1 = M2)) := Lib.hid fun h0 => by
        constructor
        · intro e
          exact Enc.encode_inj HO1.out HO2.out hS (by rw [hT, h0, e])
        · intro e
          rw [← hs, ← ht, e]
      clear hen hs ht hc h10 hS hT
      go_wp2_with fail
      refine (HE1.out _ (Held.refl _)).mono ?_
      rintro e w4 ⟨rfl, h4⟩
      go_wp2_with fail
      refine (HE2.out _ h4).mono ?_
      rintro e w5 ⟨rfl, h5⟩
      have H5 := Lib.hid ((H2.out.step H3.out).step (h4.step h5))
      have HSE := Lib.hid fun (w' : World) (h : Held w5 w') => same_any B1 B2 m1 m2 d1 d2 M1 M2 w' ((HM1.out.held H3.out).held ((h4.step h5).step h)) (HM2.out.held ((h4.step h5).step h)) (by omega) (by omega)
      unfold SameTo at HSE
      clear h4 h5 HE1 HE2
      by_cases hc0 : c = 0
      · subst hc0
        have hst := HES.out rfl
        go_wp2_with fail
        refine (HSE.out _ (Held.refl _)).mono ?_
        rintro e w7 ⟨q, rfl, hq, h7⟩
        have hqs : (s.toList == t.toList) = q := by
          rw [Bool.eq_iff_iff, beq_iff_eq, Ma.ba_list, hst, hq]
        clear hq hst HSE HES
        go_wp2_with fail
        refine (HAW.out _).mono ?_
        rintro e w8 ⟨rfl, h8⟩
        go_wp2
        go_ret
        exact ⟨rfl, (H5.out.step h7).step h8⟩
      · clear HSE HES
        go_wp2_with fail
        refine (HAW.out _).mono ?_
        rintro e w8 ⟨rfl, h8⟩
        go_wp2
        go_ret
        exact ⟨rfl, H5.out.step h8⟩
  · have hb : (decide (n1 ≤ 40) && decide (n2 ≤ 30)) = false := by
      rw [Bool.and_eq_false_iff, decide_eq_false_iff_not, decide_eq_false_iff_not]
      omega
    have HF := Lib.hid fun w => few_any A1 A2 n1 n2 c1 c2 false hb.symm w
    clear g1 g2 g3 wk wh wa hfew hb
    go_enter Tryz.func3, Tryz.ntmps3
    go_wp2_with fail
    refine (HF.out _).mono ?_
    rintro e w1 ⟨rfl, h1⟩
    go_wp2_with fail
    refine (HAW.out _).mono ?_
    rintro e w3 ⟨rfl, h3⟩
    go_wp2
    go_ret
    exact ⟨rfl, h1.step h3⟩
end Lw
end Go.Proofs.YtdacgdokbfcgdaaGreat
