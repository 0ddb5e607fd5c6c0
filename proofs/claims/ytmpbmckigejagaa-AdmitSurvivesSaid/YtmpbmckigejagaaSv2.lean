/-
  Contract: Survives of the reference.
-/
import Derived.Test.YtmpbmckigejagaaSv
namespace Go.Proofs.Ytmpbmckigejagaa
open Go.RowKit
set_option linter.unusedVariables false
set_option maxRecDepth 100000
namespace Law39
open Ad Adm
theorem there_any (HA : Option Addr) (hlen hcap : Nat) (z : Int) (hh : (hlen : Int) ≤ 1000) (w : World) :
    Calls Try.prog 30 #[.slice HA hlen hcap, .int .i64 z] w fun e w' => e = .returned (.bool (there hlen z)) ∧ w = w' := by
  by_cases h0 : 0 ≤ z
  · have H : Hid (there hlen z = decide (z < hlen)) := show _ = _ by unfold there; simp [h0]
    go_enter Try.func30, Try.ntmps30
    go_wp2
    go_ret
    exact ⟨by rw [H.out]; rfl, rfl⟩
  · have H : Hid (there hlen z = false) := show _ = _ by unfold there; simp [h0]
    go_enter Try.func30, Try.ntmps30
    go_wp2
    go_ret
    exact ⟨by rw [H.out]; rfl, rfl⟩
theorem there_nat {n : Nat} {z : Int} (h : there n z = true) : ∃ k : Nat, z = k ∧ k < n := by
  unfold there at h
  simp only [Bool.and_eq_true, decide_eq_true_eq] at h
  exact ⟨z.toNat, by omega, by omega⟩
theorem upAt_there {H : List Cap} {z : Int} (h : there H.length z = false) : upAt H z = false := by unfold upAt; rw [h]; rfl
theorem upAt_at {H : List Cap} {n : Nat} {c : Cap} (h : H[n]? = some c) : upAt H (n : Int) = c.up := by
  have hl := (List.getElem?_eq_some_iff.1 h).1
  unfold upAt there
  rw [Int.toNat_natCast, h]; simp [hl]
theorem survives_ref_any (HA : Option Addr) (hlen hcap : Nat) (H : List Cap) (A : Option Addr) (len cap : Nat) (L : List Pl) (w : World) (hC : Cs w HA hlen H) (hP : Ps w A len L) (hhl : (hlen : Int) ≤ 1000) (hl : (len : Int) ≤ 1000) :
    Calls Try.prog 24 #[.slice HA hlen hcap, .slice A len cap] w fun e w' => e = .returned (.bool (survives H L)) ∧ Held w w' := by
  have HC := Lib.hid hC
  have HHL := Lib.hid hC.1
  have HP := Lib.hid hP
  have HL := Lib.hid hP.1
  clear hC hP
  have HN := fun (h : small H L = false) => Lib.hid (show survives H L = false by unfold survives; rw [h]; rfl)
  by_cases s1 : (hlen : Int) < 1
  · have H1 := HN (by unfold small; rw [HHL.out]; simp; omega)
    clear HN
    go_enter Try.func24, Try.ntmps24
    go_wp2
    go_ret
    exact ⟨by rw [H1.out]; rfl, Held.refl _⟩
  by_cases s2 : (6 : Int) < hlen
  · have H1 := HN (by unfold small; rw [HHL.out]; simp; omega)
    clear HN
    go_enter Try.func24, Try.ntmps24
    go_wp2
    go_ret
    exact ⟨by rw [H1.out]; rfl, Held.refl _⟩
  by_cases s3 : (8 : Int) < len
  · have H1 := HN (by unfold small; rw [HHL.out, HL.out]; simp; omega)
    clear HN
    go_enter Try.func24, Try.ntmps24
    go_wp2
    go_ret
    exact ⟨by rw [H1.out]; rfl, Held.refl _⟩
  have HS : Hid (survives H L = (L.all (ok1 H) && fitTo H L hlen)) := show _ = _ by
    unfold survives; rw [show small H L = true by unfold small; rw [HHL.out, HL.out]; simp; omega, HHL.out]; rfl
  clear HN
  go_enter Try.func24, Try.ntmps24
  go_wp2
  go_loopw [5] (fun i wr => ∃ k : Nat, k ≤ len ∧ i = .int .i64 k ∧ (L.take k).all (ok1 H) = true ∧ Held w wr) (fun i _ => len - (intOf i).toNat)
  case atStart => exact ⟨0, Nat.zero_le _, rfl, rfl, Held.refl _⟩
  case round =>
    obtain ⟨k, hk, rfl, hall, hh⟩ := hrel
    have HA' := Lib.hid hall
    clear hall
    by_cases hlt : k < len
    · obtain ⟨b, off, nm, r, l, c, g, x, y, rfl, hn, c0, c1, c2, c3, c4, c5, c6⟩ := HP.out.at_ hh hlt
      have HK := Lib.hid (all_at (f := ok1 H) hn)
      have HNo := fun (h : ok1 H ⟨nm, ⟨r, l, c, g⟩, x, y⟩ = false) => Lib.hid (show survives H L = false by rw [HS.out, all_no (k := k + 1) (by rw [HK.out, h, Bool.and_false])]; rfl)
      clear hn
      have i1 : (0 : Int) ≤ (k : Int) := by omega
      have i2 : (k : Int) < (len : Int) := by omega
      cases ha : there hlen x
      · have H1 := HNo (by unfold ok1; rw [upAt_there (z := x) (by rw [HHL.out]; exact ha)]; simp)
        have HA1 := Lib.hid ha
        clear HNo ha
        go_wp2
        go_quiet (fail)
        go_wp2_with (go_at_call 30; refine (there_any _ _ _ _ (by omega) _).mono ?_; rintro e w' ⟨rfl, rfl⟩; rw [HA1.out])
        go_ret
        exact ⟨by rw [H1.out]; rfl, hh.drewN _⟩
      cases hb : there hlen y
      · have H1 := HNo (by unfold ok1; rw [upAt_there (z := y) (by rw [HHL.out]; exact hb)]; simp)
        have HA1 := Lib.hid ha
        have HB1 := Lib.hid hb
        clear HNo ha hb
        go_wp2
        go_quiet (fail)
        go_wp2_with (go_at_call 30; refine (there_any _ _ _ _ (by omega) _).mono ?_; rintro e w' ⟨rfl, rfl⟩; first | rw [HA1.out] | rw [HB1.out])
        go_ret
        exact ⟨by rw [H1.out]; rfl, hh.drewN _⟩
      by_cases hxy : x = y
      · have H1 := HNo (by unfold ok1; simp [hxy])
        have HA1 := Lib.hid ha
        clear HNo ha hb
        subst hxy
        go_wp2
        go_quiet (fail)
        go_wp2_with (go_at_call 30; refine (there_any _ _ _ _ (by omega) _).mono ?_; rintro e w' ⟨rfl, rfl⟩; rw [HA1.out])
        go_ret
        exact ⟨by rw [H1.out]; rfl, hh.drewN _⟩
      have hxy' : (x == y) = false := by simp [hxy]
      have HA1 := Lib.hid ha
      have HB1 := Lib.hid hb
      obtain ⟨n, rfl, hnl⟩ := there_nat ha
      obtain ⟨n', rfl, hnl'⟩ := there_nat hb
      clear ha hb
      obtain ⟨bb, oo, m, cc, up, rfl, hbb, hq, q0, q1, q2⟩ := HC.out.at3 hh hnl
      obtain ⟨b', o', m', cc', up', hbo, hbb', hq', q0', q1', q2'⟩ := HC.out.at3 hh hnl'
      injection hbo with hbo
      injection hbo with e1 e2
      subst e1 e2
      have HU := Lib.hid (upAt_at hq)
      have HU' := Lib.hid (upAt_at hq')
      clear hq hq'
      cases up
      · have H1 := HNo (by unfold ok1; rw [HU.out]; simp)
        clear HNo
        go_wp2
        go_quiet (fail)
        go_wp2_with (go_at_call 30; refine (there_any _ _ _ _ (by omega) _).mono ?_; rintro e w' ⟨rfl, rfl⟩; first | rw [HA1.out] | rw [HB1.out])
        go_ret
        exact ⟨by rw [H1.out]; rfl, hh.drewN _⟩
      cases up'
      · have H1 := HNo (by unfold ok1; rw [HU'.out]; simp)
        clear HNo
        go_wp2
        go_quiet (fail)
        go_wp2_with (go_at_call 30; refine (there_any _ _ _ _ (by omega) _).mono ?_; rintro e w' ⟨rfl, rfl⟩; first | rw [HA1.out] | rw [HB1.out])
        go_ret
        exact ⟨by rw [H1.out]; rfl, hh.drewN _⟩
      have H2 : Hid ((L.take (k + 1)).all (ok1 H) = true) := show _ = _ by
        rw [HK.out, HA'.out]; unfold ok1; rw [HU.out, HU'.out]; simp [hxy]
      clear HNo hxy
      go_wp2
      go_quiet (fail)
      go_wp2_with (go_at_call 30; refine (there_any _ _ _ _ (by omega) _).mono ?_; rintro e w' ⟨rfl, rfl⟩; first | rw [HA1.out] | rw [HB1.out])
      go_roundw
      case rel => exact ⟨k + 1, by omega, by go_num, H2.out, hh.drewN _⟩
      case measure => simp [intOf]; omega
    · obtain rfl : k = len := by omega
      have HT : Hid (L.all (ok1 H) = true) := show _ = _ by rw [← HA'.out, ← HL.out, List.take_length]
      have HS2 : Hid (survives H L = fitTo H L hlen) := show _ = _ by rw [HS.out, HT.out]; rfl
      clear HS HA'
      go_wp2
      have HH := Lib.hid hh
      clear hh
      go_loopw [8] (fun i w2 => ∃ j : Nat, j ≤ hlen ∧ i = .int .i64 j ∧ fitTo H L j = true ∧ Held w w2) (fun i _ => hlen - (intOf i).toNat)
      case atStart => exact ⟨0, Nat.zero_le _, rfl, rfl, HH.out⟩
      case round =>
        obtain ⟨j, hj, rfl, hft, hh2⟩ := hrel
        have HT2 := Lib.hid hft
        clear hft
        by_cases hjl : j < hlen
        · obtain ⟨bb, oo, m, c, up, rfl, hbb, hq, q0, q1, q2⟩ := HC.out.at3 hh2 hjl
          have HF : Hid (fitTo H L (j + 1) = fits m c up (on L j)) := show _ = _ by rw [fitTo, HT2.out, Bool.true_and]; unfold fitAt; rw [hq]
          have hP2 := HP.out.held hh2
          have HP2 := Lib.hid hP2
          have hol := on_len L j
          have hol' : ((on L j).length : Int) ≤ 100 := by rw [HL.out] at hol; omega
          clear hq hP2 hol
          obtain ⟨ft, hf⟩ : ∃ x, fits m c up (on L j) = x := ⟨_, rfl⟩
          have HFT := Lib.hid hf
          rw [hf] at HF
          clear hf
          have i1 : (0 : Int) ≤ (j : Int) := by omega
          have i2 : (j : Int) < (hlen : Int) := by omega
          cases ft
          · have H3 : Hid (survives H L = false) := show _ = _ by rw [HS2.out]; exact fitTo_no HF.out _ (by omega)
            go_wp2
            go_region_held3 (fun w' => w'.cell? ⟨bb, oo + j * 3, none⟩ = some (.int .i64 m) ∧ w'.cell? ⟨bb, oo + j * 3 + 1, none⟩ = some (.int .i64 c) ∧ w'.cell? ⟨bb, oo + j * 3 + 2, none⟩ = some (.bool up) ∧ Held wr w')
              ((repeat' refine And.intro ?_ ?_) <;> first | exact q0 | exact q1 | exact q2 | exact (Held.refl _).drew | exact Held.cell (by assumption) q0 | exact Held.cell (by assumption) q1 | exact Held.cell (by assumption) q2 | exact (by assumption))
              (first | (go_at_call 16; refine (on_ref_any _ _ _ L _ _ (HP2.out.held (Held.refl _).drew) (by omega)).mono ?_; rintro e w3 ⟨v, rfl, hown, h3⟩; obtain ⟨A3, cp3, rfl, hcp⟩ := own_slice hown; obtain ⟨hds, hn, _⟩ := ds_of_own hown; have HDS := Lib.hid hds; clear hown hds hn; have h4 : Held wr w3 := (Held.drew (Held.refl _)).step h3) | (go_at_call 22; refine (fits_ref_any _ _ _ _ _ _ (on L j) _ HDS.out (by omega) (by omega)).mono ?_; rintro e w5 ⟨rfl, h5⟩; rw [HFT.out]; have h6 : Held wr w5 := h4.step h5))
            go_wp2
            go_ret
            exact ⟨by rw [H3.out]; rfl, hh2.step h6⟩
          · have H3 : Hid (fitTo H L (j + 1) = true) := show _ = _ by rw [HF.out]
            go_wp2
            go_region_held3 (fun w' => w'.cell? ⟨bb, oo + j * 3, none⟩ = some (.int .i64 m) ∧ w'.cell? ⟨bb, oo + j * 3 + 1, none⟩ = some (.int .i64 c) ∧ w'.cell? ⟨bb, oo + j * 3 + 2, none⟩ = some (.bool up) ∧ Held wr w')
              ((repeat' refine And.intro ?_ ?_) <;> first | exact q0 | exact q1 | exact q2 | exact (Held.refl _).drew | exact Held.cell (by assumption) q0 | exact Held.cell (by assumption) q1 | exact Held.cell (by assumption) q2 | exact (by assumption))
              (first | (go_at_call 16; refine (on_ref_any _ _ _ L _ _ (HP2.out.held (Held.refl _).drew) (by omega)).mono ?_; rintro e w3 ⟨v, rfl, hown, h3⟩; obtain ⟨A3, cp3, rfl, hcp⟩ := own_slice hown; obtain ⟨hds, hn, _⟩ := ds_of_own hown; have HDS := Lib.hid hds; clear hown hds hn; have h4 : Held wr w3 := (Held.drew (Held.refl _)).step h3) | (go_at_call 22; refine (fits_ref_any _ _ _ _ _ _ (on L j) _ HDS.out (by omega) (by omega)).mono ?_; rintro e w5 ⟨rfl, h5⟩; rw [HFT.out]; have h6 : Held wr w5 := h4.step h5))
            go_wp2
            go_roundw
            case rel => exact ⟨j + 1, by omega, by go_num, H3.out, hh2.step h6⟩
            case measure => simp [intOf]; omega
        · obtain rfl : j = hlen := by omega
          go_wp2
          go_ret
          exact ⟨by rw [HS2.out, HT2.out]; rfl, hh2⟩
end Law39
end Go.Proofs.Ytmpbmckigejagaa
