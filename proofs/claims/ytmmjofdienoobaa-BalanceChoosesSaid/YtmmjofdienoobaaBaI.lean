/-
  Contracts: Choose (chapter 40), of the reference.
-/
import Derived.Test.YtmmjofdienoobaaBaH
import Derived.Lib.QuietBelow
set_option linter.unusedVariables false
set_option linter.unusedSimpArgs false
set_option maxRecDepth 100000
namespace Go.Proofs.Ytmmjofdienoobaa
open Go.RowKit Go.BigFrame Go.Sort
namespace Ba
open Ad Adm
set_option maxHeartbeats 2000000 in
theorem chooseZ_ref (A : Option Addr) (n cap : Nat) (A2 : Option Addr) (n2 cap2 : Nat) (A3 : Option Addr) (n3 cap3 : Nat) (A4 : Option Addr) (n4 cap4 : Nat) (H : List Hc) (L : List Dem) (on no : List Int) (d : Dem) (but : Int) (w : World)
    (hh : Sl 3 hcC w A n H) (hl : Sl 4 demC w A2 n2 L) (ho : Sl 1 inC w A3 n3 on) (hno : Sl 1 inC w A4 n4 no) (hn4 : (n4 : Int) ≤ 1000000) (hn : (n : Int) ≤ 6) (hn2 : (n2 : Int) ≤ 16) (hn3 : n2 = n3) :
    Calls Try.prog 55 #[.slice A n cap, .slice A2 n2 cap2, .slice A3 n3 cap3, .int .i64 but, .agg #[.int .i64 d.r, .int .i64 d.l, .int .i64 d.c, .int .i64 d.g], .slice A4 n4 cap4] w fun e w' => e = .returned (.tuple #[.int .i64 (chooseZ H (noAt but (L.zip on)) d no).1, .bool (chooseZ H (noAt but (L.zip on)) d no).2]) ∧ Held w w' := by
  subst hn3
  have HP : Hid (chooseZ H (noAt but (L.zip on)) d no = pick (chooseTo H (noAt but (L.zip on)) d no n)) := show _ = _ by unfold chooseZ; rw [hh.1]
  have HH := Lib.hid hh
  have HL := Lib.hid hl
  have HO := Lib.hid ho
  have HNO := Lib.hid hno
  have HLL := Lib.hid hl.1
  have HNT := Lib.hid (take_all hno.1 (Nat.le_refl n4))
  have M0 := Lib.hid ((Mem.start w).alloc #[.int .i64 d.r, .int .i64 d.l, .int .i64 d.c, .int .i64 d.g] 43)
  obtain ⟨Z, hZ⟩ : ∃ Z, noAt but (L.zip on) = Z := ⟨_, rfl⟩
  rw [hZ] at HP ⊢
  have HZ := Lib.hid hZ
  clear hh hl ho hno hZ
  go_enter Try.func55, Try.ntmps55
  go_wp2
  go_loopw [14, 15, 16] (fun b m i wr => ∃ k : Nat, i = .int .i64 k ∧ k ≤ n ∧ b = .int .i64 (chooseTo H Z d no k).1 ∧ m = .int .i64 (chooseTo H Z d no k).2 ∧ Mem w wr [.box w.heap.size #[.int .i64 d.r, .int .i64 d.l, .int .i64 d.c, .int .i64 d.g] 43]) (fun _ _ i _ => n - (intOf i).toNat)
  case atStart => exact ⟨0, rfl, Nat.zero_le _, rfl, rfl, M0.out⟩
  case round =>
    obtain ⟨k, rfl, hk, rfl, rfl, M⟩ := hrel
    have M2 := Lib.hid M
    have hcb := ch_bd H Z d no k
    clear M M0
    by_cases hlt : (k : Int) < n
    · obtain ⟨s, hs⟩ : ∃ s, chooseTo H Z d no k = s := ⟨_, rfl⟩
      rw [hs] at hcb ⊢
      have HS := Lib.hid hs
      obtain ⟨best, most⟩ := s
      simp only at hcb ⊢
      clear hs
      obtain ⟨wA, hwA⟩ : ∃ wA, wA = wr := ⟨_, rfl⟩
      rw [← hwA] at M2 ⊢
      clear hwA wr
      go_wp2
      go_loopw [17, 18] (fun o i w2 => ∃ j : Nat, i = .int .i64 j ∧ j ≤ n4 ∧ o = .bool (hasI (no.take j) k) ∧ w2 = wA) (fun _ i _ => n4 - (intOf i).toNat)
      case atStart => exact ⟨0, rfl, Nat.zero_le _, rfl, rfl⟩
      case round =>
        obtain ⟨j, rfl, hj, rfl, rfl⟩ := hrel
        obtain ⟨q, hq⟩ : ∃ q, hasI (no.take j) k = q := ⟨_, rfl⟩
        rw [hq]
        have HQ := Lib.hid hq
        clear hq
        by_cases hlt4 : (j : Int) < n4
        · obtain ⟨b4, off4, y, rfl, lb4, hy, y0⟩ := Sl.at1 HNO.out M2.out.held (k := j) (by omega)
          have HN := Lib.hid (hasI_next (x := k) hy)
          have j1 : ¬ (j : Int) < 0 := by omega
          clear hy
          cases q
          · by_cases hyk : y = k
            · have hb : (y == (k : Int)) = true := by simp [hyk]
              have HN2 : Hid (hasI (no.take (j + 1)) k = true) := show _ = _ by rw [HN.out, HQ.out]; simp [hyk]
              clear hyk
              go_wp2
              go_roundw
              case rel => exact ⟨j + 1, by go_num, by omega, by rw [HN2.out], by trivial⟩
              case measure => (simp [intOf]) <;> omega
            · have hb : (y == (k : Int)) = false := by simp [hyk]
              have HN2 : Hid (hasI (no.take (j + 1)) k = false) := show _ = _ by rw [HN.out, HQ.out]; simp [hyk]
              clear hyk
              go_wp2
              go_roundw
              case rel => exact ⟨j + 1, by go_num, by omega, by rw [HN2.out], by trivial⟩
              case measure => (simp [intOf]) <;> omega
          · have HN2 : Hid (hasI (no.take (j + 1)) k = true) := show _ = _ by rw [HN.out, HQ.out]; rfl
            go_wp2
            go_roundw
            case rel => exact ⟨j + 1, by go_num, by omega, by rw [HN2.out], by trivial⟩
            case measure => (simp [intOf]) <;> omega
        · obtain rfl : j = n4 := by omega
          rw [HNT.out] at HQ
          obtain ⟨b, off, c, rfl, lb, hc, x0, x1, x2⟩ := Sl.at3 HH.out M2.out.held (k := k) (by omega)
          obtain ⟨m, cc, up⟩ := c
          simp only at x0 x1 x2
          have k1 : ¬ (k : Int) < 0 := by omega
          have HG := Lib.hid (at_any A2 n2 cap2 A3 n2 cap3 L on k but wr (HL.out.held M2.out.held) (HO.out.held M2.out.held) (Nat.le_refl _) (by omega))
          rw [HZ.out] at HG
          have HX1 := Lib.hid (ch_out (Z := Z) (d := d) (no := no) hc)
          have HX2 := Lib.hid (ch_bad (Z := Z) (d := d) (no := no) hc)
          have HX3 := Lib.hid (ch_yes (Z := Z) (d := d) (no := no) hc)
          have HX4 := Lib.hid (ch_no (Z := Z) (d := d) (no := no) hc)
          have HGL : Hid (((gu Z k).length : Int) ≤ 100) := show _ ≤ _ by
            have h1 := gu_len Z k
            have h2 := noAt_len but (L.zip on)
            rw [HZ.out, List.length_zip] at h2
            have := HLL.out; omega
          obtain ⟨G, hG⟩ : ∃ G, gu Z k = G := ⟨_, rfl⟩
          simp only at HX2 HX3 HX4
          rw [hG] at HG HGL HX2 HX3 HX4
          rw [HS.out] at HX1 HX2 HX3 HX4
          rw [HQ.out] at HX1 HX3
          obtain ⟨ad, had⟩ : ∃ ad, admit m cc up G d = ad := ⟨_, rfl⟩
          obtain ⟨fr, hfr⟩ : ∃ fr, freeM m cc G = fr := ⟨_, rfl⟩
          rw [had] at HX2 HX3
          rw [hfr] at HX3 HX4
          simp only at HX1 HX2 HX3 HX4
          have HAD := Lib.hid had
          have HFR := Lib.hid hfr
          have X0 := Lib.hid (And.intro x0 (And.intro x1 x2))
          clear hc hG had hfr
          go_wp2_with fail
          refine HG.out.mono ?_
          rintro e w3 ⟨A5, cap5, rfl, hc5, ho5, h5⟩
          have HD5 := Lib.hid (ds_of_sl (Own.reads demC_len ho5).1)
          have M3 := Lib.hid (M2.out.keep h5)
          clear ho5 x0 x1 x2
          obtain ⟨x0, x1, x2⟩ : _ ∧ _ ∧ _ := ⟨h5.cell X0.out.1, h5.cell X0.out.2.1, h5.cell X0.out.2.2⟩
          clear X0
          have X1 := Lib.hid (And.intro x0 (And.intro x1 x2))
          clear h5 HG
          go_wp2_with fail
          refine (free_ref_any _ _ _ _ _ _ G _ HD5.out HGL.out).mono ?_
          rintro e w4 ⟨rfl, h6⟩
          rw [HFR.out]
          have M4 := Lib.hid (M3.out.keep h6)
          have HD6 := Lib.hid (HD5.out.held h6)
          clear x0 x1 x2
          obtain ⟨x0, x1, x2⟩ : _ ∧ _ ∧ _ := ⟨h6.cell X1.out.1, h6.cell X1.out.2.1, h6.cell X1.out.2.2⟩
          obtain ⟨⟨z0, z1, z2, z3⟩, _, zlt⟩ := M4.out.box4 0 rfl
          clear X1 h6
          have r0 := cell_regrown x0
          have r1 := cell_regrown x1
          have r2 := cell_regrown x2
          have r3 := cell_regrown z0
          have r4 := cell_regrown z1
          have r5 := cell_regrown z2
          have r6 := cell_regrown z3
          have cA := Lib.hid fun dd os => Calls.regrown_of (d := dd) (os := os) (admit_ref_any m cc up A5 G.length cap5 G d.r d.l d.c d.g (grow (redrawn w4 dd) os) (HD6.out.held (below_regrown w4 dd os)) HGL.out)
          rw [HAD.out] at cA
          clear x0 x1 x2 z0 z1 z2 z3
          cases q
          · by_cases ha : ad = 0
            · have hab : (ad == 0) = true := by simp [ha]
              have HA : Hid (ad = 0) := ha
              clear ha
              by_cases hb : best < 0
              · have hbb : decide (best < 0) = true := by simp [hb]
                have HN := Lib.hid (HX3.out rfl HA.out (.inl hb))
                go_wp2
                refine wp_region_quiet_below (by kernel_rfl) (by kernel_rfl) ?_
                repeat (go_big_quiet_step (first | (go_at_call 61; exact cA.out _ _)))
                refine wpQuiet_nil ?_
                intro _ hw'
                obtain ⟨⟨dq, osq⟩, hw''⟩ := hw'
                subst hw''
                go_wp2
                go_roundw
                case rel => exact ⟨k + 1, by go_num, by omega, by rw [HN.out], by rw [HN.out], M4.out.keep (below_regrown w4 dq osq)⟩
                case measure => (simp [intOf]) <;> omega
              · have hbb : decide (best < 0) = false := by simp; omega
                by_cases hm : most < fr
                · have hmb : decide (most < fr) = true := by simp [hm]
                  have HN := Lib.hid (HX3.out rfl HA.out (.inr hm))
                  go_wp2
                  refine wp_region_quiet_below (by kernel_rfl) (by kernel_rfl) ?_
                  repeat (go_big_quiet_step (first | (go_at_call 61; exact cA.out _ _)))
                  refine wpQuiet_nil ?_
                  intro _ hw'
                  obtain ⟨⟨dq, osq⟩, hw''⟩ := hw'
                  subst hw''
                  go_wp2
                  go_roundw
                  case rel => exact ⟨k + 1, by go_num, by omega, by rw [HN.out], by rw [HN.out], M4.out.keep (below_regrown w4 dq osq)⟩
                  case measure => (simp [intOf]) <;> omega
                · have hmb : decide (most < fr) = false := by simp; omega
                  have HN := Lib.hid (HX4.out (by omega))
                  go_wp2
                  refine wp_region_quiet_below (by kernel_rfl) (by kernel_rfl) ?_
                  repeat (go_big_quiet_step (first | (go_at_call 61; exact cA.out _ _)))
                  refine wpQuiet_nil ?_
                  intro _ hw'
                  obtain ⟨⟨dq, osq⟩, hw''⟩ := hw'
                  subst hw''
                  go_wp2
                  go_roundw
                  case rel => exact ⟨k + 1, by go_num, by omega, by rw [HN.out], by rw [HN.out], M4.out.keep (below_regrown w4 dq osq)⟩
                  case measure => (simp [intOf]) <;> omega
            · have hab : (ad == 0) = false := by simp [ha]
              have HN := Lib.hid (HX2.out ha)
              clear ha
              go_wp2
              refine wp_region_quiet_below (by kernel_rfl) (by kernel_rfl) ?_
              repeat (go_big_quiet_step (first | (go_at_call 61; exact cA.out _ _)))
              refine wpQuiet_nil ?_
              intro _ hw'
              obtain ⟨⟨dq, osq⟩, hw''⟩ := hw'
              subst hw''
              go_wp2
              go_roundw
              case rel => exact ⟨k + 1, by go_num, by omega, by rw [HN.out], by rw [HN.out], M4.out.keep (below_regrown w4 dq osq)⟩
              case measure => (simp [intOf]) <;> omega
          · have HN := Lib.hid (HX1.out rfl)
            go_wp2
            refine wp_region_quiet_below (by kernel_rfl) (by kernel_rfl) ?_
            repeat (go_big_quiet_step (first | (go_at_call 61; exact cA.out _ _)))
            refine wpQuiet_nil ?_
            intro _ hw'
            obtain ⟨⟨dq, osq⟩, hw''⟩ := hw'
            subst hw''
            go_wp2
            go_roundw
            case rel => exact ⟨k + 1, by go_num, by omega, by rw [HN.out], by rw [HN.out], M4.out.keep (below_regrown w4 dq osq)⟩
            case measure => (simp [intOf]) <;> omega
    · obtain rfl : k = n := by omega
      obtain ⟨s, hs⟩ : ∃ s, chooseTo H Z d no k = s := ⟨_, rfl⟩
      rw [hs] at HP hcb ⊢
      obtain ⟨best, most⟩ := s
      clear hs
      simp only at hcb ⊢
      by_cases hb : best < 0
      · obtain rfl : best = -1 := by omega
        have HP2 : Hid (chooseZ H Z d no = (0, false)) := show _ = _ by rw [HP.out, pick_no hb]
        go_wp2
        go_ret2
        exact ⟨ret_ib HP2.out, M2.out.held⟩
      · have HP2 : Hid (chooseZ H Z d no = (best, true)) := show _ = _ by rw [HP.out, pick_yes hb]
        have hge : decide (0 ≤ best) = true := by simp; omega
        have hb0 : ¬ best < 0 := hb
        go_wp2
        go_ret2
        exact ⟨ret_ib (by rw [HP2.out]), M2.out.held⟩
set_option maxHeartbeats 2000000 in
theorem choose_ref (A : Option Addr) (n cap : Nat) (A2 : Option Addr) (n2 cap2 : Nat) (A3 : Option Addr) (n3 cap3 : Nat) (A4 : Option Addr) (n4 cap4 : Nat) (H : List Hc) (L : List Dem) (on no : List Int) (d : Dem) (w : World)
    (hh : Sl 3 hcC w A n H) (hl : Sl 4 demC w A2 n2 L) (ho : Sl 1 inC w A3 n3 on) (hno : Sl 1 inC w A4 n4 no) (hn4 : (n4 : Int) ≤ 1000000) :
    Calls Try.prog 39 #[.slice A n cap, .slice A2 n2 cap2, .slice A3 n3 cap3, .agg #[.int .i64 d.r, .int .i64 d.l, .int .i64 d.c, .int .i64 d.g], .slice A4 n4 cap4] w fun e w' => e = .returned (.tuple #[.int .i64 (choose H L on d no).1, .bool (choose H L on d no).2]) ∧ Held w w' := by
  have HV := Lib.hid (fun w' (q : Held w w') => place_any A n cap A2 n2 cap2 A3 n3 cap3 H L on w' (hh.held q) (hl.held q) (ho.held q))
  have hh1 := hh.1
  have hl1 := hl.1
  have ho1 := ho.1
  have M0 := Lib.hid ((Mem.start w).alloc #[.int .i64 d.r, .int .i64 d.l, .int .i64 d.c, .int .i64 d.g] 43)
  obtain ⟨p, hp⟩ : ∃ p, place H L on = p := ⟨_, rfl⟩
  rw [hp] at HV
  cases p
  · have HP := Lib.hid (choose_no (d := d) (no := no) hp)
    clear hp hh hl ho hno
    go_enter Try.func39, Try.ntmps39
    go_wp2_with (go_at_call 53; refine (HV.out _ M0.out.held).mono ?_; rintro e w1 ⟨rfl, h1⟩)
    go_ret2
    exact ⟨ret_ib HP.out, M0.out.held.step h1⟩
  · have HP := Lib.hid (choose_yes (d := d) (no := no) hp)
    have hbd := place_bd hp
    rw [hh1, hl1, ho1] at hbd
    have HC := Lib.hid (fun w' (q : Held w w') => chooseZ_ref A n cap A2 n2 cap2 A3 n3 cap3 A4 n4 cap4 H L on no d (-1) w' (hh.held q) (hl.held q) (ho.held q) (hno.held q) hn4 (by omega) (by omega) (by omega))
    rw [noAt_minus, ← HP.out] at HC
    obtain ⟨r, hr⟩ : ∃ r, choose H L on d no = r := ⟨_, rfl⟩
    rw [hr] at HC ⊢
    clear hp hh hl ho hno hh1 hl1 ho1 hbd hr HP
    go_enter Try.func39, Try.ntmps39
    go_wp2_with (first | (go_at_call 53; refine (HV.out _ M0.out.held).mono ?_; rintro e w1 ⟨rfl, h1⟩; have M1 := Lib.hid (M0.out.keep h1); obtain ⟨⟨z0, z1, z2, z3⟩, _, zlt⟩ := M1.out.box4 0 rfl) | (go_at_call 55; refine (HC.out _ M1.out.held).mono ?_; rintro e w2 ⟨rfl, h2⟩))
    go_ret2
    exact ⟨rfl, M1.out.held.step h2⟩
end Ba
end Go.Proofs.Ytmmjofdienoobaa
