/-
  Contracts: Victim of the pager.
-/
import Derived.Test.YtgfbfmgdlbdlhaaPgQ
import Derived.Test.YtgfbfmgdlbdlhaaPgC
import Derived.Test.YtgfbfmgdlbdlhaaOwn
import Derived.Test.YtgfbfmgdlbdlhaaSlcBo
set_option linter.unusedVariables false
set_option linter.unusedSimpArgs false
set_option maxRecDepth 100000
namespace Go.Proofs.Ytgfbfmgdlbdlhaa
open Go.RowKit Go.BigFrame Go.Sort
namespace Pg
def boC (b : Bool) : List Value := [.bool b]
theorem boC_len (x : Bool) : (boC x).length = 1 := rfl
theorem boC_one (x : Bool) : ∀ u ∈ boC x, u.oneCell' = true := by
  intro u hu
  simp only [boC, List.mem_singleton] at hu
  subst hu; rfl
/-- What Victim hands back: the index, the marks in memory of its own, the hand. -/
def VicTo (v : Int) (U : List Bool) (h : Int) (w : World) (e : Ending) (w' : World) : Prop :=
  ∃ mv, e = .returned (.tuple #[.int .i64 v, mv, .int .i64 h]) ∧ Own 4 1 boC w.heap.size w' mv U ∧ Held w w'
theorem VicTo.mk {v h v' h' : Int} {U V : List Bool} {w w' : World} {mv : Value} (h1 : v' = v) (h2 : h' = h) (hU : V = U) (ho : Own 4 1 boC w.heap.size w' mv V) (hh : Held w w') : VicTo v U h w (.returned (.tuple #[.int .i64 v', mv, .int .i64 h'])) w' := by
  subst h1 h2 hU; exact ⟨mv, rfl, ho, hh⟩
set_option maxHeartbeats 4000000 in
theorem victim_any (A1 : Option Addr) (n1 c1 : Nat) (U : List Bool) (A2 : Option Addr) (n2 c2 : Nat) (R : List Bool) (hand ex : Int) (w : World) (h1 : Sl 1 boC w A1 n1 U) (h1n : A1 = none → n1 = 0) (h2 : Sl 1 boC w A2 n2 R) (hn1 : (n1 : Int) ≤ 1000000) (hn2 : (n2 : Int) ≤ 9223372036854775807)
    (bh : -9223372036854775808 ≤ hand ∧ hand ≤ 9223372036854775807) (be : -9223372036854775808 ≤ ex ∧ ex ≤ 9223372036854775807) :
    Calls Try.prog 10 #[.slice A1 n1 c1, .slice A2 n2 c2, .int .i64 hand, .int .i64 ex] w (VicTo (vicV U R hand ex) (vicU U R hand ex) (vicH U R hand ex) w) := by
  have HR := Lib.hid h2
  have l1 := h1.1
  have l2 := h2.1
  have HCL := Lib.hid (SlcBo.clone_any boC_len boC_one A1 n1 c1 U w h1 h1n (by omega))
  clear h2 h1
  have hov : Hid (∀ q, decide (U.length ≠ R.length ∨ (U.length : Int) < 1 ∨ 32 < (U.length : Int) ∨ hand < 0 ∨ (U.length : Int) ≤ hand) = q → vicOut U R hand = q) := fun q h => h
  rw [l1, l2] at hov
  by_cases hout : n1 ≠ n2 ∨ (n1 : Int) < 1 ∨ 32 < (n1 : Int) ∨ hand < 0 ∨ (n1 : Int) ≤ hand
  · have ho := hov.out true (by simpa using hout)
    have hv : vicV U R hand ex = -1 := by unfold vicV; rw [ho]; rfl
    have hu : vicU U R hand ex = U := by unfold vicU; rw [ho]; rfl
    have hh : vicH U R hand ex = hand := by unfold vicH; rw [ho]; rfl
    rw [hv, hu, hh]
    clear hv hu hh ho hov l1 l2
    go_enter Try.func10, Try.ntmps10
    go_wp2_with fail
    refine HCL.out.mono ?_
    rintro e w1 ⟨mv, rfl, ho1, hh1⟩
    obtain ⟨A, cap, rfl, hc, _⟩ := ho1.shape
    have HO := Lib.hid (And.intro ho1 hh1)
    clear ho1 hh1
    by_cases e1 : n1 = n2
    · have e1b : ((n1 : Int) != n2) = false := by simp [e1]
      by_cases g1 : (n1 : Int) < 1
      · go_wp2
        go_ret3
        exact VicTo.mk rfl rfl rfl HO.out.1 HO.out.2
      by_cases g2 : (32 : Int) < n1
      · go_wp2
        go_ret3
        exact VicTo.mk rfl rfl rfl HO.out.1 HO.out.2
      by_cases g3 : hand < 0
      · go_wp2
        go_ret3
        exact VicTo.mk rfl rfl rfl HO.out.1 HO.out.2
      have g4 : (n1 : Int) ≤ hand := by omega
      go_wp2
      go_ret3
      exact VicTo.mk rfl rfl rfl HO.out.1 HO.out.2
    · have e1b : ((n1 : Int) != n2) = true := by simp; omega
      go_wp2
      go_ret3
      exact VicTo.mk rfl rfl rfl HO.out.1 HO.out.2
  · have ho := hov.out false (by simpa using hout)
    obtain ⟨h0, rfl⟩ := Int.eq_ofNat_of_zero_le (show 0 ≤ hand by omega)
    obtain rfl : n1 = n2 := by omega
    obtain ⟨pr, hpr⟩ : ∃ pr, vicP U R h0 ex = pr := ⟨_, rfl⟩
    have hP : vicF R ex n1 (2 * n1) U h0 = pr := by rw [← hpr]; unfold vicP; rw [l1]; rfl
    have hv : ∀ k, pr.1 = k → vicV U R h0 ex = match k with | some k => (k : Int) | none => -1 := fun k hk => by unfold vicV; rw [ho, hpr, hk]; rfl
    have hu : vicU U R h0 ex = pr.2 := by unfold vicU; rw [ho, hpr]; rfl
    have hh : ∀ k, pr.1 = k → vicH U R h0 ex = match k with | some k => (((k + 1) % n1 : Nat) : Int) | none => h0 := fun k hk => by unfold vicH; rw [ho, hpr, hk, l1]; rfl
    have HV := Lib.hid hv
    have HU := Lib.hid hu
    have HH := Lib.hid hh
    have HP := Lib.hid hP
    have HL1 := Lib.hid l1
    have HL2 := Lib.hid l2
    have hb1 : 1 ≤ n1 := by omega
    have hb2 : n1 ≤ 32 := by omega
    have hb3 : h0 < n1 := by omega
    have g0 : ((n1 : Int) != n1) = false := by simp
    have g1 : ¬ (n1 : Int) < 1 := by omega
    have g2 : ¬ (32 : Int) < n1 := by omega
    have g3 : ¬ (h0 : Int) < 0 := by omega
    have g4 : ¬ (n1 : Int) ≤ h0 := by omega
    clear hv hu hh hP hpr ho hov hout
    go_enter Try.func10, Try.ntmps10
    go_wp2_with fail
    refine HCL.out.mono ?_
    rintro e w1 ⟨mv, rfl, ho1, hh1⟩
    obtain ⟨A, cap, rfl, hc, _⟩ := ho1.shape
    rw [l1] at hc ⊢
    rw [l1] at ho1
    have HO := Lib.hid (And.intro ho1 hh1)
    clear ho1 hh1 l1 l2 HCL
    go_wp2
    go_loopw [13, 44] (fun av i wr => ∃ (j a : Nat) (V : List Bool), i = .int .i64 j ∧ j ≤ 2 * n1 ∧ av = .int .i64 a ∧ a < n1 ∧ V.length = n1 ∧ Own 4 1 boC w.heap.size wr (.slice A n1 cap) V ∧ Held w wr ∧ vicF R ex n1 (2 * n1 - j) V a = pr) (fun _ i _ => 2 * n1 - (intOf i).toNat)
    case atStart => exact ⟨0, h0, U, rfl, Nat.zero_le _, rfl, hb3, HL1.out, HO.out.1, HO.out.2, HP.out⟩
    case round =>
      obtain ⟨j, a, V, rfl, hj, rfl, ha, hV, hown, hh, hvic⟩ := hrel
      have HO2 := Lib.hid (And.intro hown (And.intro hh (And.intro hV hvic)))
      clear HO
      by_cases hlt : (j : Int) < 2 * n1
      · obtain ⟨g, rfl, hg1, hg2, hsl⟩ := Own.slot boC_len hown (by decide) (k := a) (by omega)
        obtain ⟨hfz, hcv⟩ := hsl 0 (by decide)
        obtain ⟨b2, o2, rb, rfl, _, hrb, hrc⟩ := HR.out.at_ hh (k := a) ha
        have r0 := hrc 0 _ rfl
        rw [Nat.add_zero, Nat.mul_one] at r0
        rw [Nat.add_zero, Nat.mul_one] at hfz
        have v0 := hcv _ rfl
        rw [Nat.add_zero, Nat.mul_one] at v0
        have hRa : R.getD a false = rb := by rw [List.getD_eq_getElem?_getD, hrb]; rfl
        obtain ⟨vb, hvb⟩ : ∃ vb, V[a]'(by omega) = vb := ⟨_, rfl⟩
        rw [hvb] at v0
        have hVa : V.getD a false = vb := by rw [List.getD_eq_getElem?_getD, List.getElem?_eq_getElem (by omega), hvb]; rfl
        obtain ⟨fu, hfu⟩ : ∃ fu, 2 * n1 - j = fu + 1 := ⟨2 * n1 - j - 1, by omega⟩
        have hfu2 : 2 * n1 - (j + 1) = fu := by omega
        rw [hfu] at hvic
        have ham : ((a : Int) + 1) % (n1 : Int) = (((a + 1) % n1 : Nat) : Int) := by rw [Int.natCast_emod, Int.natCast_add]; rfl
        have hamlt : (a + 1) % n1 < n1 := Nat.mod_lt _ (by omega)
        obtain ⟨a', ha'⟩ : ∃ a', (a + 1) % n1 = a' := ⟨_, rfl⟩
        rw [ha'] at ham hamlt
        have i1 : (0 : Int) ≤ a := by omega
        have i2 : (a : Int) < n1 := by omega
        have i3 : (a : Int) + 1 ≤ 33 := by omega
        clear hrc hcv hsl hrb hown hh
        cases rb
        · have hst := vic_pass (n := n1) (f := fu) (U := V) (ex := ex) (.inl hRa)
          rw [hvic, ha'] at hst
          have HST := Lib.hid hst
          clear hst hvic hRa hVa hvb hV ha' hfu
          go_wp2
          go_roundw
          case rel => exact ⟨j + 1, a', V, by go_num, by omega, by rw [ham], hamlt, HO2.out.2.2.1, HO2.out.1, HO2.out.2.1, by rw [hfu2]; exact HST.out.symm⟩
          case measure => (simp [intOf]) <;> omega
        · by_cases hex : (a : Int) = ex
          · have hst := vic_pass (R := R) (n := n1) (f := fu) (U := V) (ex := ex) (.inr hex)
            rw [hvic, ha'] at hst
            have HST := Lib.hid hst
            have hexb : ((a : Int) == ex) = true := by simp [hex]
            clear hst hvic hRa hVa hvb hV ha' hfu hex
            go_wp2
            go_roundw
            case rel => exact ⟨j + 1, a', V, by go_num, by omega, by rw [ham], hamlt, HO2.out.2.2.1, HO2.out.1, HO2.out.2.1, by rw [hfu2]; exact HST.out.symm⟩
            case measure => (simp [intOf]) <;> omega
          · have hexb : ((a : Int) == ex) = false := by simp [hex]
            have hno : ¬ (R.getD a false = false ∨ (a : Int) = ex) := by rw [hRa]; simp [hex]
            cases vb
            · have hst := vic_hit (n := n1) (f := fu) hno (by rw [hVa]; decide)
              rw [hvic] at hst
              have HST := Lib.hid hst
              have HA := Lib.hid ha'
              clear hst hvic hRa hVa hvb hV ha' hfu hex hno
              go_wp2
              go_big_quiet (fail)
              go_wp2
              go_ret3
              exact VicTo.mk (by rw [HV.out (some a) (by rw [HST.out])]) (by rw [HH.out (some a) (by rw [HST.out])]; show _ = (((a + 1) % n1 : Nat) : Int); rw [HA.out]; exact ham) (by rw [HU.out, HST.out]) (Own.held HO2.out.1 ((Held.refl wr).drewN _)) (HO2.out.2.1.drewN _)
            · have hst := vic_mark (n := n1) (f := fu) hno hVa
              rw [hvic, ha'] at hst
              have HST := Lib.hid hst
              have HP2 := Lib.hid (Own.put boC_len HO2.out.1 (k := a) (by omega) (i := 0) (by decide) (.bool false) false rfl)
              rw [Nat.add_zero, Nat.mul_one] at HP2
              have HLS : Hid ((V.set a false).length = n1) := show _ = _ by rw [List.length_set]; exact HO2.out.2.2.1
              have HG : Hid (w.heap.size ≤ g) := hg1
              clear hst hvic hRa hVa hvb hV ha' hfu hex hno
              go_wp2
              go_roundw
              case rel => exact ⟨j + 1, a', V.set a false, by go_num, by omega, by rw [ham], hamlt, HLS.out, HP2.out, HO2.out.2.1.set HG.out _, by rw [hfu2]; exact HST.out.symm⟩
              case measure => (simp [intOf]) <;> omega
      · obtain rfl : j = 2 * n1 := by omega
        rw [Nat.sub_self] at hvic
        have hst : pr = (none, V) := hvic.symm
        have HST := Lib.hid hst
        clear hvic hst hown hh hV
        go_wp2
        go_ret3
        exact VicTo.mk (by rw [HV.out none (by rw [HST.out])]) (by rw [HH.out none (by rw [HST.out])]) (by rw [HU.out, HST.out]) HO2.out.1 HO2.out.2.1
end Pg
end Go.Proofs.Ytgfbfmgdlbdlhaa
