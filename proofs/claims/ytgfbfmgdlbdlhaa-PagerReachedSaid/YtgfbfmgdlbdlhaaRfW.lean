/-
  Contracts: Victim of the reference of chapter 36, and SameBools.
-/
import Derived.Test.YtgfbfmgdlbdlhaaPgL
import Derived.Test.YtgfbfmgdlbdlhaaMem
set_option linter.unusedVariables false
set_option linter.unusedSimpArgs false
set_option maxRecDepth 100000
namespace Go.Proofs.Ytgfbfmgdlbdlhaa
open Go.RowKit Go.BigFrame Go.Sort
namespace Pg
theorem vicF_pass {R : List Bool} {ex : Int} {n : Nat} (hp : ∀ r, r < n → R.getD r false = true → (r : Int) = ex) : ∀ f U a, a < n → vicF R ex n f U a = (none, U)
  | 0, U, a, _ => rfl
  | f + 1, U, a, ha => by
    rw [vic_pass]
    · exact vicF_pass hp f U _ (Nat.mod_lt _ (by omega))
    · cases h : R.getD a false
      · exact .inl rfl
      · exact .inr (hp a ha h)
theorem vicF_same {R : List Bool} {ex : Int} {n : Nat} {U V : List Bool} {a : Nat} (ha : a < n) (h : vicF R ex n (2 * n) U a = (none, V)) : V = U := by
  by_cases hp : ∀ r, r < n → R.getD r false = true → (r : Int) = ex
  · rw [vicF_pass hp _ _ _ ha] at h
    injection h with _ h
    exact h.symm
  · exfalso
    simp only [Classical.not_forall] at hp
    obtain ⟨r, hr, hR, he⟩ := hp
    obtain ⟨k, hk⟩ := vicF_some U ha hr hR he
    rw [h] at hk; cases hk
/-- What the reference's Victim hands back: the index, marks that read as a list, the hand. -/
def VicRd (v : Int) (U : List Bool) (n : Nat) (h : Int) (w : World) (e : Ending) (w' : World) : Prop :=
  ∃ A cap, e = .returned (.tuple #[.int .i64 v, .slice A n cap, .int .i64 h]) ∧ Sl 1 boC w' A n U ∧ Held w w' ∧ (0 ≤ v → Own 4 1 boC w.heap.size w' (.slice A n cap) U)
theorem VicRd.mk {v h v' h' : Int} {U V : List Bool} {n : Nat} {w w' : World} {A : Option Addr} {cap : Nat} (h1 : v' = v) (h2 : h' = h) (hU : V = U) (ho : Sl 1 boC w' A n V) (hh : Held w w') (hq : 0 ≤ v' → Own 4 1 boC w.heap.size w' (.slice A n cap) V) : VicRd v U n h w (.returned (.tuple #[.int .i64 v', .slice A n cap, .int .i64 h'])) w' := by
  subst h1 h2 hU; exact ⟨A, cap, rfl, ho, hh, hq⟩
set_option maxHeartbeats 8000000 in
theorem victim_ref (A1 : Option Addr) (n1 c1 : Nat) (U : List Bool) (A2 : Option Addr) (n2 c2 : Nat) (R : List Bool) (hand ex : Int) (w : World) (h1 : Sl 1 boC w A1 n1 U) (h2 : Sl 1 boC w A2 n2 R) (hn1 : (n1 : Int) ≤ 1000000) (hn2 : (n2 : Int) ≤ 9223372036854775807)
    (bh : -9223372036854775808 ≤ hand ∧ hand ≤ 9223372036854775807) (be : -9223372036854775808 ≤ ex ∧ ex ≤ 9223372036854775807) :
    Calls Try.prog 11 #[.slice A1 n1 c1, .slice A2 n2 c2, .int .i64 hand, .int .i64 ex] w (VicRd (vicV U R hand ex) (vicU U R hand ex) n1 (vicH U R hand ex) w) := by
  have HU := Lib.hid h1
  have HR := Lib.hid h2
  have l1 := h1.1
  have l2 := h2.1
  clear h2 h1
  have hov : Hid (∀ q, decide (U.length ≠ R.length ∨ (U.length : Int) < 1 ∨ 32 < (U.length : Int) ∨ hand < 0 ∨ (U.length : Int) ≤ hand) = q → vicOut U R hand = q) := fun q h => h
  rw [l1, l2] at hov
  by_cases hout : n1 ≠ n2 ∨ (n1 : Int) < 1 ∨ 32 < (n1 : Int) ∨ hand < 0 ∨ (n1 : Int) ≤ hand
  · have ho := hov.out true (by simpa using hout)
    have hv : vicV U R hand ex = -1 := by unfold vicV; rw [ho]; rfl
    have hu : vicU U R hand ex = U := by unfold vicU; rw [ho]; rfl
    have hh : vicH U R hand ex = hand := by unfold vicH; rw [ho]; rfl
    rw [hv, hu, hh]
    clear hv hu hh ho hov l1 l2
    by_cases g1 : (n1 : Int) < 1
    · go_enter Try.func11, Try.ntmps11
      go_wp2
      go_ret3
      exact VicRd.mk rfl rfl rfl HU.out (Held.refl _) (fun h => absurd h (by decide))
    by_cases g2 : (32 : Int) < n1
    · go_enter Try.func11, Try.ntmps11
      go_wp2
      go_ret3
      exact VicRd.mk rfl rfl rfl HU.out (Held.refl _) (fun h => absurd h (by decide))
    by_cases e1 : n1 = n2
    · subst e1
      have e1b : ((n1 : Int) != n1) = false := by simp
      by_cases g3 : hand < 0
      · go_enter Try.func11, Try.ntmps11
        go_wp2
        go_ret3
        exact VicRd.mk rfl rfl rfl HU.out (Held.refl _) (fun h => absurd h (by decide))
      have g4 : (n1 : Int) ≤ hand := by omega
      go_enter Try.func11, Try.ntmps11
      go_wp2
      go_ret3
      exact VicRd.mk rfl rfl rfl HU.out (Held.refl _) (fun h => absurd h (by decide))
    · have e1b : ((n2 : Int) != n1) = true := by simp; omega
      go_enter Try.func11, Try.ntmps11
      go_wp2
      go_ret3
      exact VicRd.mk rfl rfl rfl HU.out (Held.refl _) (fun h => absurd h (by decide))
  · have ho := hov.out false (by simpa using hout)
    obtain ⟨h0, rfl⟩ := Int.eq_ofNat_of_zero_le (show 0 ≤ hand by omega)
    obtain rfl : n1 = n2 := by omega
    obtain ⟨pr, hpr⟩ : ∃ pr, vicP U R h0 ex = pr := ⟨_, rfl⟩
    have hP : vicF R ex n1 (2 * n1) U h0 = pr := by rw [← hpr]; unfold vicP; rw [l1]; rfl
    have hv : ∀ k, pr.1 = k → vicV U R h0 ex = match k with | some k => (k : Int) | none => -1 := fun k hk => by unfold vicV; rw [ho, hpr, hk]; rfl
    have hu : vicU U R h0 ex = pr.2 := by unfold vicU; rw [ho, hpr]; rfl
    have hh : ∀ k, pr.1 = k → vicH U R h0 ex = match k with | some k => (((k + 1) % n1 : Nat) : Int) | none => h0 := fun k hk => by unfold vicH; rw [ho, hpr, hk, l1]; rfl
    have HV := Lib.hid hv
    have HUU := Lib.hid hu
    have HH := Lib.hid hh
    have HP := Lib.hid hP
    have HL1 := Lib.hid l1
    have HL2 := Lib.hid l2
    have hb1 : 1 ≤ n1 := by omega
    have hb2 : n1 ≤ 32 := by omega
    have hb3 : h0 < n1 := by omega
    have g0 : ((n1 : Int) != n1) = false := by simp
    have g1 : ¬ (n1 : Int) < 1 := by omega
    have g2 : ¬ (32 : Int) < n1 := by omega
    have g3 : ¬ (h0 : Int) < 0 := by omega
    have g4 : ¬ (n1 : Int) ≤ h0 := by omega
    have hm0 : h0 % n1 = h0 := Nat.mod_eq_of_lt hb3
    have HM0 := Lib.hid hm0
    obtain ⟨b1, o1, rfl, hbw1⟩ : ∃ b off, A1 = some ⟨b, off, none⟩ ∧ b < w.heap.size := by
      rcases HU.out.2 with h | ⟨b, off, e, hb, _⟩
      · omega
      · exact ⟨b, off, e, hb⟩
    have hnews := Lib.hid (Sg.sl_news (s := 1) boC_len (by decide) (HU.out.held ((Held.refl w).alloc (.cells #[] 4))))
    clear hv hu hh hP hpr ho hov hout hm0 l1 l2
    go_enter Try.func11, Try.ntmps11
    go_wp2_with (at_builtin; refine Own.apps _ rfl _ _ _ rfl _ 1 Try.underlying22 bool_info rfl (by decide) boC_len boC_one w ((Held.refl w).alloc _) (.slice (some ⟨w.heap.size, 0, none⟩) 0 0) ([] : List Bool) U ⟨b1, o1, none⟩ n1 _ rfl (Own.empty (Nat.le_refl _)) rfl HL1.out hnews.out (by simp; omega) (by decide) ?_; intro v1 w1 hown1 hheld1 _; obtain ⟨A, cap, hve, _⟩ := hown1.shape; subst hve; have M1 := Lib.hid ((Mem.start w).own hheld1 hown1); clear hown1 hheld1)
    have hl1 := HL1.out
    have M0 : Hid (Mem w w1 [.row 4 1 boC w.heap.size (.slice A n1 cap) U]) := by
      have := M1.out
      simp only [List.nil_append, hl1] at this
      exact this
    simp only [List.nil_append, hl1]
    clear hl1 hnews M1
    go_loopw [13, 14] (fun i kk wr => ∃ (j : Nat) (V : List Bool), i = .int .i64 j ∧ j ≤ 2 * n1 ∧ V.length = n1 ∧ Mem w wr [.row 4 1 boC w.heap.size (.slice A n1 cap) V] ∧ vicF R ex n1 (2 * n1 - j) V ((h0 + j) % n1) = pr) (fun i _ _ => 2 * n1 - (intOf i).toNat)
    case atStart => exact ⟨0, U, rfl, Nat.zero_le _, HL1.out, M0.out, by rw [Nat.add_zero, HM0.out]; exact HP.out⟩
    case round =>
      obtain ⟨j, V, rfl, hj, hV, M, hvic⟩ := hrel
      have M2 := Lib.hid M
      have HVL := Lib.hid hV
      clear M M0
      by_cases hlt : (j : Int) < 2 * n1
      · have hpm : ((h0 : Int) + (j : Int)) % (n1 : Int) = (((h0 + j) % n1 : Nat) : Int) := by rw [Int.natCast_emod, Int.natCast_add]
        have ha : (h0 + j) % n1 < n1 := Nat.mod_lt _ (by omega)
        have HNX : Hid (((h0 + j) % n1 + 1) % n1 = (h0 + (j + 1)) % n1) := show _ = _ by rw [Nat.mod_add_mod]; congr 1
        obtain ⟨a, haa⟩ : ∃ a, (h0 + j) % n1 = a := ⟨_, rfl⟩
        rw [haa] at hpm ha hvic HNX
        obtain ⟨g, vb, rfl, hg1, hg2, hvb, hsl⟩ := M2.out.slot 0 rfl boC_len (by decide) (k := a) (by rw [hV]; exact ha)
        obtain ⟨hfz, hcv⟩ := hsl 0 (by decide)
        have v0 := hcv _ rfl
        rw [Nat.add_zero, Nat.mul_one] at hfz v0
        obtain ⟨b2, o2, rb, rfl, _, hrb, hrc⟩ := HR.out.at_ M2.out.held (k := a) ha
        have r0 := hrc 0 _ rfl
        rw [Nat.add_zero, Nat.mul_one] at r0
        have hRa : R.getD a false = rb := by rw [List.getD_eq_getElem?_getD, hrb]; rfl
        have hVa : V.getD a false = vb := by rw [List.getD_eq_getElem?_getD, hvb]; rfl
        obtain ⟨fu, hfu⟩ : ∃ fu, 2 * n1 - j = fu + 1 := ⟨2 * n1 - j - 1, by omega⟩
        have hfu2 : 2 * n1 - (j + 1) = fu := by omega
        rw [hfu] at hvic
        have HVB := Lib.hid hvb
        have i1 : (0 : Int) ≤ a := by omega
        have i2 : (a : Int) < n1 := by omega
        have i3 : (h0 : Int) + j ≤ 200 := by omega
        clear hrc hcv hsl hrb haa hvb
        cases rb
        · have hst := vic_pass (n := n1) (f := fu) (U := V) (ex := ex) (.inl hRa)
          rw [hvic] at hst
          have HST := Lib.hid hst
          clear hst hvic hRa hVa hV hfu
          go_wp2
          go_roundw
          case rel => exact ⟨j + 1, V, by go_num, by omega, HVL.out, M2.out, by rw [hfu2, ← HNX.out]; exact HST.out.symm⟩
          case measure => (simp [intOf]) <;> omega
        · by_cases hex : (a : Int) = ex
          · have hst := vic_pass (R := R) (n := n1) (f := fu) (U := V) (ex := ex) (.inr hex)
            rw [hvic] at hst
            have HST := Lib.hid hst
            have hexb : ((a : Int) == ex) = true := by simp [hex]
            clear hst hvic hRa hVa hV hfu hex
            go_wp2
            go_roundw
            case rel => exact ⟨j + 1, V, by go_num, by omega, HVL.out, M2.out, by rw [hfu2, ← HNX.out]; exact HST.out.symm⟩
            case measure => (simp [intOf]) <;> omega
          · have hexb : ((a : Int) == ex) = false := by simp [hex]
            have hno : ¬ (R.getD a false = false ∨ (a : Int) = ex) := by rw [hRa]; simp [hex]
            cases vb
            · have hst := vic_hit (n := n1) (f := fu) hno (by rw [hVa]; decide)
              rw [hvic] at hst
              have HST := Lib.hid hst
              have ham : ((a : Int) + 1) % (n1 : Int) = (((a + 1) % n1 : Nat) : Int) := by rw [Int.natCast_emod, Int.natCast_add]; rfl
              have HAM := Lib.hid ham
              have HPM := Lib.hid hpm
              clear hst hvic hRa hVa hV hfu hex hno ham
              go_wp2
              go_big_quiet (fail)
              go_wp2
              go_ret3
              exact VicRd.mk (by rw [HV.out (some a) (by rw [HST.out])]; first | rfl | exact HPM.out) (by rw [HH.out (some a) (by rw [HST.out])]; first | exact HAM.out | (rw [HPM.out]; exact HAM.out)) (by rw [HUU.out, HST.out]) ((Own.reads boC_len (M2.out.row 0 rfl)).1.held ((Held.refl wr).drewN _)) (M2.out.held.drewN _) (fun _ => (M2.out.keep ((Held.refl wr).drewN _)).row 0 rfl)
            · have hst := vic_mark (n := n1) (f := fu) hno hVa
              rw [hvic] at hst
              have HST := Lib.hid hst
              have M3 := Lib.hid (M2.out.putAt 0 rfl boC_len HVB.out (j := 0) (by decide) (.bool false) false rfl)
              rw [Nat.add_zero, Nat.mul_one] at M3
              clear hst hvic hRa hVa hV hfu hex hno
              go_wp2
              go_roundw
              case rel => exact ⟨j + 1, V.set a false, by go_num, by omega, by rw [List.length_set]; exact HVL.out, M3.out, by rw [hfu2, ← HNX.out]; exact HST.out.symm⟩
              case measure => (simp [intOf]) <;> omega
      · obtain rfl : j = 2 * n1 := by omega
        rw [Nat.sub_self] at hvic
        have hst : pr = (none, V) := hvic.symm
        have hsm : V = U := vicF_same hb3 (HP.out.trans hst)
        rw [hsm] at hst
        have HST := Lib.hid hst
        clear hvic hst hsm hV
        go_wp2
        go_ret3
        exact VicRd.mk (by rw [HV.out none (by rw [HST.out])]) (by rw [HH.out none (by rw [HST.out])]) (by rw [HUU.out, HST.out]) (HU.out.held M2.out.held) M2.out.held (fun h => absurd h (by decide))
/-- Two lists of marks compared. -/
theorem samebools_any (A1 : Option Addr) (n1 c1 : Nat) (U : List Bool) (A2 : Option Addr) (n2 c2 : Nat) (w : World) (h1 : Sl 1 boC w A1 n1 U) (h2 : Sl 1 boC w A2 n2 U) (hn1 : (n1 : Int) ≤ 1000000) :
    Calls Try.prog 12 #[.slice A1 n1 c1, .slice A2 n2 c2] w fun e w' => e = .returned (.bool true) ∧ Held w w' := by
  obtain rfl : n1 = n2 := h1.1.symm.trans h2.1
  have H1 := Lib.hid h1
  have H2 := Lib.hid h2
  have hq : ((n1 : Int) != n1) = false := by simp
  clear h1 h2
  go_enter Try.func12, Try.ntmps12
  go_wp2
  go_loopw [5] (fun i wr => ∃ k : Nat, i = .int .i64 k ∧ k ≤ n1 ∧ Held w wr) (fun i _ => n1 - (intOf i).toNat)
  case atStart => exact ⟨0, rfl, Nat.zero_le _, Held.refl w⟩
  case round =>
    obtain ⟨k, rfl, hk, hh⟩ := hrel
    have HH := Lib.hid hh
    clear hh
    by_cases hlt : (k : Int) < n1
    · obtain ⟨b1, o1, x, rfl, _, hx, hc⟩ := H1.out.at_ HH.out (k := k) (by omega)
      have c0 := hc 0 _ rfl
      rw [Nat.add_zero, Nat.mul_one] at c0
      obtain ⟨b2, o2, y, rfl, _, hy, hd⟩ := H2.out.at_ HH.out (k := k) (by omega)
      have d0 := hd 0 _ rfl
      rw [Nat.add_zero, Nat.mul_one] at d0
      obtain rfl : x = y := by rw [hx] at hy; injection hy
      have s1 : (0 : Int) ≤ k := by omega
      clear hc hd hx hy
      cases x
      all_goals
        go_wp2
        go_big_quiet (fail)
        go_wp2
        go_roundw
        case rel => exact ⟨k + 1, by go_num, by omega, HH.out.drewN _⟩
        case measure => (simp [intOf]) <;> omega
    · go_wp2
      go_ret
      exact ⟨rfl, HH.out⟩
end Pg
end Go.Proofs.Ytgfbfmgdlbdlhaa
