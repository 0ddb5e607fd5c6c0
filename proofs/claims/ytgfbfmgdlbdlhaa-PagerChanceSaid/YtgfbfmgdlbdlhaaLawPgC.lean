/-
  The law PagerChance, walked.
-/
import Derived.Test.YtgfbfmgdlbdlhaaPgI
import Derived.Test.YtgfbfmgdlbdlhaaLawPg
import Derived.Test.YtgfbfmgdlbdlhaaOpen36
import Derived.Test.YtgfbfmgdlbdlhaaRw
set_option linter.unusedVariables false
set_option linter.unusedSimpArgs false
set_option maxRecDepth 100000
namespace Go.Proofs.Ytgfbfmgdlbdlhaa
open Go.RowKit Go.BigFrame Go.Sort
namespace Pg
set_option maxHeartbeats 16000000 in
theorem chance_any (A1 : Option Addr) (n1 c1 : Nat) (U : List Bool) (A2 : Option Addr) (n2 c2 : Nat) (R : List Bool) (hand : Int) (w : World) (h1 : Sl 1 boC w A1 n1 U) (h1n : A1 = none → n1 = 0) (h2 : Sl 1 boC w A2 n2 R) (hn1 : (n1 : Int) ≤ 9223372036854775807) (hn2 : (n2 : Int) ≤ 9223372036854775807)
    (bh : -9223372036854775808 ≤ hand ∧ hand ≤ 9223372036854775807) :
    Calls Try.prog 4 #[.slice A1 n1 c1, .slice A2 n2 c2, .int .i64 hand] w fun e w' => e = .returned (.bool true) ∧ Held w w' := by
  have HAW := Lib.hid (fun w' => awake_any w')
  by_cases g1 : (n1 : Int) < 1
  · clear h1 h2 h1n
    go_enter Try.func4, Try.ntmps4
    go_wp2_with (go_at_call 9; refine (HAW.out _).mono ?_; rintro e w1 ⟨rfl, h1⟩)
    go_ret
    exact ⟨rfl, h1⟩
  by_cases g2 : (32 : Int) < n1
  · clear h1 h2 h1n
    go_enter Try.func4, Try.ntmps4
    go_wp2_with (go_at_call 9; refine (HAW.out _).mono ?_; rintro e w1 ⟨rfl, h1⟩)
    go_ret
    exact ⟨rfl, h1⟩
  by_cases g3 : n2 = n1
  · subst g3
    have g3b : ((n2 : Int) != n2) = false := by simp
    by_cases g4 : hand < 0
    · clear h1 h2 h1n
      go_enter Try.func4, Try.ntmps4
      go_wp2_with (go_at_call 9; refine (HAW.out _).mono ?_; rintro e w1 ⟨rfl, h1⟩)
      go_ret
      exact ⟨rfl, h1⟩
    by_cases g5 : (n2 : Int) ≤ hand
    · clear h1 h2 h1n
      go_enter Try.func4, Try.ntmps4
      go_wp2_with (go_at_call 9; refine (HAW.out _).mono ?_; rintro e w1 ⟨rfl, h1⟩)
      go_ret
      exact ⟨rfl, h1⟩
    obtain ⟨h0, rfl⟩ := Int.eq_ofNat_of_zero_le (show 0 ≤ hand by omega)
    have hlt0 : h0 < n2 := by omega
    have HVI := Lib.hid (victim_any A1 n2 c1 U A2 n2 c2 R h0 (-1) w h1 h1n h2 (by omega) hn2 bh (by decide))
    have HU := Lib.hid h1
    have HR := Lib.hid h2
    have hno := Lib.hid (chance_no (h0 := h0) h1.1 h2.1 (by omega) hlt0)
    have hyes := Lib.hid (chance_yes (h0 := h0) h1.1 h2.1 (by omega) hlt0)
    have hvl := vicU_len U R h0 (-1)
    rw [h1.1] at hvl
    obtain ⟨vv, hvv⟩ : ∃ vv, vicV U R h0 (-1) = vv := ⟨_, rfl⟩
    obtain ⟨vh, hvh⟩ : ∃ vh, vicH U R h0 (-1) = vh := ⟨_, rfl⟩
    obtain ⟨V, hV⟩ : ∃ V, vicU U R h0 (-1) = V := ⟨_, rfl⟩
    rw [hvv, hvh, hV] at HVI
    rw [hvv] at hno
    rw [hvv, hvh, hV] at hyes
    rw [hV] at hvl
    have HVL := Lib.hid hvl
    clear hvv hvh hV h1 h2 hvl h1n
    go_enter Try.func4, Try.ntmps4
    go_wp2_with fail
    refine HVI.out.mono ?_
    rintro e w1 ⟨mv, rfl, ho1, hh1⟩
    obtain ⟨A, cap, rfl, hc, _⟩ := ho1.shape
    rw [HVL.out] at ho1 ⊢
    have M1 := Lib.hid ((Mem.start w).own hh1 ho1)
    clear ho1 hh1 hc HVI
    go_wp2
    go_loop [11, 12, 13] (fun id so i => ∃ k : Nat, i = .int .i64 k ∧ k ≤ n2 ∧ id = .bool (idleK U R k) ∧ so = .bool (someK R k)) (fun _ _ i => n2 - (intOf i).toNat)
    case atStart => exact ⟨0, rfl, Nat.zero_le _, rfl, rfl⟩
    case round =>
      obtain ⟨k, rfl, hk, rfl, rfl⟩ := hrel
      have i1 := Lib.hid (idleK_next U R k)
      have i2 := Lib.hid (someK_next R k)
      have i3 : Hid (idleAt U R k = (R.getD k false && !U.getD k false)) := rfl
      by_cases hlt : (k : Int) < n2
      · obtain ⟨b2, o2, rb, rfl, _, hrb, hrc⟩ := HR.out.at_ M1.out.held (k := k) (by omega)
        have r0 := hrc 0 _ rfl
        rw [Nat.add_zero, Nat.mul_one] at r0
        obtain ⟨b1, o1, ub, rfl, _, hub, huc⟩ := HU.out.at_ M1.out.held (k := k) (by omega)
        have u0 := huc 0 _ rfl
        rw [Nat.add_zero, Nat.mul_one] at u0
        have hRb : R.getD k false = rb := by rw [List.getD_eq_getElem?_getD, hrb]; rfl
        have hUb : U.getD k false = ub := by rw [List.getD_eq_getElem?_getD, hub]; rfl
        rw [hRb, hUb] at i3
        rw [hRb] at i2
        rw [i3.out] at i1
        obtain ⟨a, ha⟩ : ∃ a, idleK U R k = a := ⟨_, rfl⟩
        obtain ⟨s, hs⟩ : ∃ s, someK R k = s := ⟨_, rfl⟩
        rw [ha] at i1 ⊢
        rw [hs] at i2 ⊢
        clear hrc huc hRb hUb hrb hub ha hs i3
        cases a <;> cases s <;> cases rb <;> cases ub
        all_goals
          go_wp2
          go_round
          case rel => exact ⟨k + 1, by go_num, by omega, by rw [i1.out]; rfl, by rw [i2.out]; rfl⟩
          case measure => (simp [intOf]) <;> omega
      · obtain rfl : k = n2 := by omega
        clear i1 i2 i3
        cases hs : someK R k
        · have hvm := hno.out hs
          subst hvm
          clear hs hno hyes
          go_wp2_with (go_at_call 9; refine (HAW.out _).mono ?_; rintro e w2 ⟨rfl, h2⟩; have M2 := Lib.hid (M1.out.keep h2); clear h2)
          go_ret
          exact ⟨rfl, M2.out.held⟩
        · obtain ⟨v, rfl, hch⟩ := hyes.out hs
          have HCH := Lib.hid hch
          have hv1 := hch.lt
          have hvh := hch.hand
          subst hvh
          have hmod : ((v : Int) + 1) % (k : Int) = (((v + 1) % k : Nat) : Int) := by rw [Int.natCast_emod, Int.natCast_add]; rfl
          obtain ⟨b2, o2, rb, rfl, _, hrb, hrc⟩ := HR.out.at_ M1.out.held (k := v) hv1
          have r0 := hrc 0 _ rfl
          rw [Nat.add_zero, Nat.mul_one] at r0
          obtain ⟨b1, o1, ub, rfl, _, hub, huc⟩ := HU.out.at_ M1.out.held (k := v) hv1
          have u0 := huc 0 _ rfl
          rw [Nat.add_zero, Nat.mul_one] at u0
          have hRb : R.getD v false = rb := by rw [List.getD_eq_getElem?_getD, hrb]; rfl
          have hUb : U.getD v false = ub := by rw [List.getD_eq_getElem?_getD, hub]; rfl
          have hres := hch.res
          rw [hRb] at hres
          subst hres
          have hmq : (((v : Int) + 1) % (k : Int) != ((v : Int) + 1) % (k : Int)) = false := by simp
          rw [← hmod]
          obtain ⟨a, ha⟩ : ∃ a, idleK U R k = a := ⟨_, rfl⟩
          have HA := Lib.hid ha
          have HUB := Lib.hid hUb
          rw [ha]
          clear hrc huc hRb hUb hrb hub ha hch hs hno hyes hmod
          cases a
          · go_wp2
            go_loopw [14, 15, 16] (fun pa i kk wr => i = .int .i64 0 ∧ Mem w wr [.row 4 1 boC w.heap.size (.slice A k cap) V]) (fun _ _ _ _ => 0)
            case atStart => exact ⟨rfl, M1.out⟩
            case round =>
              obtain ⟨rfl, M⟩ := hrel
              have M2 := Lib.hid M
              clear M
              go_wp2_with (go_at_call 9; refine (HAW.out _).mono ?_; rintro e w2 ⟨rfl, h2⟩; have M3 := Lib.hid (M2.out.keep h2); clear h2)
              go_ret
              exact ⟨rfl, M3.out.held⟩
          · obtain ⟨hUv, i0, hi0, hiv, hall⟩ := HCH.out.idle HA.out
            obtain rfl : ub = false := HUB.out.symm.trans hUv
            have HALL := Lib.hid hall
            have HIV := Lib.hid hiv
            clear hUv hiv hall
            go_wp2
            go_loopw [14, 15, 16] (fun pa i kk wr => ∃ j : Nat, i = .int .i64 j ∧ j ≤ k ∧ pa = .bool (decide (j ≤ i0)) ∧ Mem w wr [.row 4 1 boC w.heap.size (.slice A k cap) V]) (fun _ i _ _ => k - (intOf i).toNat)
            case atStart => exact ⟨0, rfl, Nat.zero_le _, by rw [show decide (0 ≤ i0) = true by simp], M1.out⟩
            case round =>
              obtain ⟨j, rfl, hj, rfl, M⟩ := hrel
              have M2 := Lib.hid M
              clear M M1
              by_cases hlt : (j : Int) < k
              · have hjk : j < k := by omega
                obtain ⟨q1, q2⟩ := HALL.out j hjk
                have hpl : (h0 + j) % k < k := Nat.mod_lt _ (by omega)
                have hring : Hid (∀ i, i < k → (h0 + i) % k = (h0 + j) % k → i = j) := fun i hi e => ring_ne hi hjk e
                have hpm : ((h0 : Int) + (j : Int)) % (k : Int) = (((h0 + j) % k : Nat) : Int) := by rw [Int.natCast_emod, Int.natCast_add]
                have HIV2 : Hid ((h0 + j) % k = v ↔ j = i0) := ⟨fun e => (ring_ne hi0 hjk (HIV.out.trans e.symm)).symm, fun e => by rw [e]; exact HIV.out⟩
                obtain ⟨p, hp⟩ : ∃ p, (h0 + j) % k = p := ⟨_, rfl⟩
                rw [hp] at q1 q2 hpl hpm HIV2
                clear hring hp
                obtain ⟨b2', o2', rb, e2, _, hrb, hrc⟩ := HR.out.at_ M2.out.held (k := p) hpl
                injection e2 with e2
                injection e2 with e2 e2'
                subst e2 e2'
                have p0 := hrc 0 _ rfl
                rw [Nat.add_zero, Nat.mul_one] at p0
                obtain ⟨b1', o1', ub, e1, _, hub, huc⟩ := HU.out.at_ M2.out.held (k := p) hpl
                injection e1 with e1
                injection e1 with e1 e1'
                subst e1 e1'
                have x0 := huc 0 _ rfl
                rw [Nat.add_zero, Nat.mul_one] at x0
                obtain ⟨g, vb, rfl, _, _, hvb, hvc⟩ := M2.out.slot 0 rfl boC_len (by decide) (k := p) (by rw [HVL.out]; exact hpl)
                have y0 := (hvc 0 (by decide)).2 _ rfl
                rw [Nat.add_zero, Nat.mul_one] at y0
                have hRb : R.getD p false = rb := by rw [List.getD_eq_getElem?_getD, hrb]; rfl
                have hUb : U.getD p false = ub := by rw [List.getD_eq_getElem?_getD, hub]; rfl
                have hVb : V.getD p false = vb := by rw [List.getD_eq_getElem?_getD, hvb]; rfl
                rw [hRb, hUb, hVb] at q1 q2
                have Q1 := Lib.hid q1
                have Q2 := Lib.hid q2
                have s1 : (0 : Int) ≤ p := by omega
                have s2 : (p : Int) < k := by omega
                have s3 : (h0 : Int) + (j : Int) ≤ 100 := by omega
                clear hrc huc hvc hRb hUb hVb hrb hub hvb q1 q2
                rcases Nat.lt_trichotomy j i0 with hc | hc | hc
                · have hpv : ((p : Int) != (v : Int)) = true := by
                    have : p ≠ v := fun e => by have := HIV2.out.1 e; omega
                    simp; omega
                  have hpa : decide (j ≤ i0) = true := by simp; omega
                  rw [hpa]
                  cases rb
                  · obtain rfl : vb = ub := Q2.out (.inr rfl)
                    clear hpa Q1 Q2
                    cases vb
                    all_goals
                      go_wp2
                      go_big_quiet (fail)
                      go_wp2
                      go_roundw
                      case rel => exact ⟨j + 1, by go_num, by omega, by rw [show decide (j + 1 ≤ i0) = true by simp; omega], M2.out.keep ((Held.refl wr).drewN _)⟩
                      case measure => (simp [intOf]) <;> omega
                  · obtain ⟨rfl, rfl⟩ := Q1.out hc rfl
                    clear hpa Q1 Q2
                    go_wp2
                    go_big_quiet (fail)
                    go_wp2
                    go_roundw
                    case rel => exact ⟨j + 1, by go_num, by omega, by rw [show decide (j + 1 ≤ i0) = true by simp; omega], M2.out.keep ((Held.refl wr).drewN _)⟩
                    case measure => (simp [intOf]) <;> omega
                · subst hc
                  have hpv : ((p : Int) != (v : Int)) = false := by
                    have : p = v := HIV2.out.2 rfl
                    simp; omega
                  have hpa : decide (j ≤ j) = true := by simp
                  rw [hpa]
                  obtain rfl : vb = ub := Q2.out (.inl (by omega))
                  clear hpa Q1 Q2
                  cases vb <;> cases rb
                  all_goals
                    go_wp2
                    go_big_quiet (fail)
                    go_wp2
                    go_roundw
                    case rel => exact ⟨j + 1, by go_num, by omega, by rw [show decide (j + 1 ≤ j) = false by simp], M2.out.keep ((Held.refl wr).drewN _)⟩
                    case measure => (simp [intOf]) <;> omega
                · have hpa : decide (j ≤ i0) = false := by simp; omega
                  rw [hpa]
                  obtain rfl : vb = ub := Q2.out (.inl (by omega))
                  clear hpa Q1 Q2
                  cases vb <;> cases rb
                  all_goals
                    go_wp2
                    go_big_quiet (fail)
                    go_wp2
                    go_roundw
                    case rel => exact ⟨j + 1, by go_num, by omega, by rw [show decide (j + 1 ≤ i0) = false by simp; omega], M2.out.keep ((Held.refl wr).drewN _)⟩
                    case measure => (simp [intOf]) <;> omega
              · obtain rfl : j = k := by omega
                go_wp2_with (go_at_call 9; refine (HAW.out _).mono ?_; rintro e w2 ⟨rfl, h2⟩; have M3 := Lib.hid (M2.out.keep h2); clear h2)
                go_ret
                exact ⟨rfl, M3.out.held⟩
  · have g3b : ((n2 : Int) != n1) = true := by simp; omega
    clear h1 h2 h1n
    go_enter Try.func4, Try.ntmps4
    go_wp2_with (go_at_call 9; refine (HAW.out _).mono ?_; rintro e w1 ⟨rfl, h1⟩)
    go_ret
    exact ⟨rfl, h1⟩
theorem chance (A1 : Option Addr) (n1 c1 : Nat) (U : List Bool) (A2 : Option Addr) (n2 c2 : Nat) (R : List Bool) (hand : Int) (hh : (Lit.int .i64 hand).wf = true) (W : World)
    (h1 : Sl 1 boC W A1 n1 U ∧ (A1 = none → n1 = 0) ∧ n1 ≤ c1 ∧ c1 ≤ maxLen) (h2 : Sl 1 boC W A2 n2 R ∧ (A2 = none → n2 = 0) ∧ n2 ≤ c2 ∧ c2 ≤ maxLen) :
    Calls Try.prog 4 #[.slice A1 n1 c1, .slice A2 n2 c2, .int .i64 hand] W fun e w' => e = .returned (.bool true) ∧ Below W.heap.size W w' := by
  have m1 := h1.2.2.2
  have m2 := h2.2.2.2
  have m3 := h1.2.2.1
  have m4 := h2.2.2.1
  unfold maxLen at m1 m2
  exact chance_any A1 n1 c1 U A2 n2 c2 R hand W h1.1 h1.2.1 h2.1 (by omega) (by omega) (Rw.bd_i64 hh)
end Pg
end Go.Proofs.Ytgfbfmgdlbdlhaa
