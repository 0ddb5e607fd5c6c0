/-
  Contracts: ValidRegistry of the reference (chapter 42).
  Contracts of slices.Clone at []api.Capacity that the call itself made (printed by mkslc.py).
  Contracts of slices.Clone, slices.Delete, slices.Insert at []api.Placed that the call itself made (printed by mkslc.py).
-/
import Derived.Test.YtmmnanmegdflgaaZ9
import Derived.Test.YtmmnanmegdflgaaZ5
import Derived.Test.YtmmnanmegdflgaaProg
import Derived.WalkSpells
import Derived.WalkLawsBesides
import Derived.Deep.RegionHeld3
import Derived.Outline
import Derived.Lib.SliceRun
set_option linter.unusedVariables false
set_option linter.unusedSimpArgs false
set_option maxRecDepth 100000
namespace Go.Proofs.Ytmmnanmegdflgaa
open Go.RowKit Go.BigFrame Go.Sort
namespace Jn
open Ad Adm Law39
theorem validR_v {r : Reg} {k : Nat} (hk : k < r.hs.length) (h : vAt r.hs k = false) : validR r = false := by
  unfold validR; rw [okHs_two, allN_no hk h]; simp
theorem validR_f {r : Reg} {k : Nat} (hk : k < r.hs.length) (h : fAt r.hs r.gs k = false) : validR r = false := by
  unfold validR; rw [okHs_two, allN_no (f := fAt r.hs r.gs) hk h]; simp
theorem validR_two {r : Reg} (h1 : few r = true) (h2 : okGs r = true) (h3 : allN (vAt r.hs) r.hs.length = true) (h4 : allN (fAt r.hs r.gs) r.hs.length = true) : validR r = true :=
  validR_yes h1 h2 (by rw [okHs_two, h3, h4]; rfl)
theorem v_at {H : List Cap} {k : Nat} {c : Cap} (h : H[k]? = some c) : vAt H k = vh c.m c.c := by unfold vAt; rw [h]
theorem f_at {H : List Cap} {L : List Pl} {k : Nat} {c : Cap} (h : H[k]? = some c) : fAt H L k = (!c.up || fits c.m c.c c.up (on L k)) := by unfold fAt; rw [h]
theorem geq_not (x y : ByteArray) : (Op.bytesLess y.toList x.toList || y.toList == x.toList) = !(lt x y) := leq_not y x
set_option maxHeartbeats 4000000 in
theorem valid_ref_any (HA : Option Addr) (hn hc : Nat) (GA : Option Addr) (gn gc : Nat) (H : List Cap) (G : List Pl) (w : World) (hH : Sl 3 capC w HA hn H) (hG : Sl 7 plC w GA gn G) (hhn : (hn : Int) ≤ 1000000) (hgn : (gn : Int) ≤ 1000000)
    (hnm : ∀ p ∈ G, (p.nm.size : Int) ≤ 1000000000) :
    Calls Try.prog 28 #[.agg #[.slice HA hn hc, .slice GA gn gc]] w fun e w' => e = .returned (.bool (validR ⟨H, G⟩)) ∧ Held w w' := by
  have HH := Lib.hid hH
  have HHL : Is H.length hn := ⟨hH.1⟩
  have HG := Lib.hid hG
  have HGL : Is G.length gn := ⟨hG.1⟩
  have HNM := fun (k : Nat) (p : Pl) (h : G[k]? = some p) => hnm p (List.mem_of_getElem? h)
  clear hH hG hnm
  by_cases s1 : (6 : Int) < hn
  · have HX : Is (validR ⟨H, G⟩) false := ⟨validR_few (by unfold few; simp only; rw [HHL.out, decide_eq_false (by omega)]; rfl)⟩
    go_enter Try.func28, Try.ntmps28
    go_wp2
    go_ret
    exact ⟨ret_b HX.out.symm, (Held.refl w).alloc _⟩
  by_cases s2 : (8 : Int) < gn
  · have HX : Is (validR ⟨H, G⟩) false := ⟨validR_few (by unfold few; simp only; rw [HGL.out, decide_eq_false (show ¬ gn ≤ 8 by omega), Bool.and_false])⟩
    go_enter Try.func28, Try.ntmps28
    go_wp2
    go_ret
    exact ⟨ret_b HX.out.symm, (Held.refl w).alloc _⟩
  have HFEW : Is (few ⟨H, G⟩) true := ⟨by unfold few; simp only; rw [HHL.out, HGL.out, decide_eq_true (show hn ≤ 6 by omega), decide_eq_true (show gn ≤ 8 by omega)]; rfl⟩
  have HXg := fun (k : Nat) (hk : k < gn) (h : gAt hn G k = false) => (⟨validR_g (r := ⟨H, G⟩) (k := k) (by simp only; rw [HGL.out]; exact hk) (by simp only; rw [HHL.out]; exact h)⟩ : Is (validR ⟨H, G⟩) false)
  have HXv := fun (k : Nat) (hk : k < hn) (h : vAt H k = false) => (⟨validR_v (r := ⟨H, G⟩) (k := k) (by simp only; rw [HHL.out]; exact hk) h⟩ : Is (validR ⟨H, G⟩) false)
  have HXf := fun (k : Nat) (hk : k < hn) (h : fAt H G k = false) => (⟨validR_f (r := ⟨H, G⟩) (k := k) (by simp only; rw [HHL.out]; exact hk) h⟩ : Is (validR ⟨H, G⟩) false)
  obtain ⟨wb, hwb⟩ : ∃ wb, w.alloc (.cells #[.slice HA hn hc, .slice GA gn gc] 37) = wb := ⟨_, rfl⟩
  have hB0 : wb.cell? ⟨w.heap.size, 0, none⟩ = some (.slice HA hn hc) := by rw [← hwb]; exact Bx.cell (Bx.new w _) 0 rfl
  have hB1 : wb.cell? ⟨w.heap.size, 1, none⟩ = some (.slice GA gn gc) := by rw [← hwb]; exact Bx.cell (Bx.new w _) 1 rfl
  have hWB : Held w wb := by rw [← hwb]; exact (Held.refl w).alloc _
  have HB0 := Lib.hid hB0
  have HB1 := Lib.hid hB1
  have HWB := Lib.hid hWB
  have HEQ := Lib.hid hwb
  clear hB0 hB1 hWB hwb
  go_enter Try.func28, Try.ntmps28
  go_wp2
  rw [HEQ.out]
  go_loopw [3] (fun i wr => ∃ k : Nat, k ≤ hn ∧ i = .int .i64 k ∧ Is (allN (vAt H) k) true ∧ Held wb wr) (fun i _ => hn - (intOf i).toNat)
  case atStart => exact ⟨0, Nat.zero_le _, rfl, ⟨rfl⟩, Held.refl _⟩
  case round =>
    obtain ⟨j, hj, rfl, HALLV, hh⟩ := hrel
    have HHR := Lib.hid hh
    have e0 := hh.cell HB0.out
    have e1 := hh.cell HB1.out
    clear hh
    have j0 : ¬ (j : Int) < 0 := by omega
    by_cases hlt1 : j < hn
    · obtain ⟨b, off, m, c, up, rfl, lb, hp, p0, p1, p2⟩ := capAt HH.out (HWB.out.step HHR.out) hlt1
      have HVV : Is (vAt H j) (vh m c) := ⟨v_at hp⟩
      have HVC : ∀ w, Hid (Calls Try.prog 57 #[.agg #[.int .i64 m, .int .i64 c, .bool up]] w fun e w' => e = .returned (.bool (vh m c)) ∧ Held w w') := fun w => vh_ref_any m c up w
      obtain ⟨bv, hbv⟩ : ∃ bv, vh m c = bv := ⟨_, rfl⟩
      rw [hbv] at HVV
      simp only [hbv] at HVC
      clear hbv hp
      cases bv
      · have HX := HXv j hlt1 HVV.out
        clear HXv HXg HXf
        go_wp2_with (go_at_call 57; (with_reducible refine (HVC _).out.mono ?_); rintro e w2 ⟨rfl, h2⟩)
        go_ret
        exact ⟨ret_b HX.out.symm, (HWB.out.step HHR.out).step h2⟩
      · have HA2 : Is (allN (vAt H) (j + 1)) true := ⟨allN_step HALLV.out HVV.out⟩
        go_wp2_with (go_at_call 57; (with_reducible refine (HVC _).out.mono ?_); rintro e w2 ⟨rfl, h2⟩)
        go_roundw
        case rel => exact ⟨j + 1, by omega, by go_num, HA2, HHR.out.step h2⟩
        case measure => simp [intOf]; omega
    · have HJ1 : Is j hn := ⟨by omega⟩
      have HVALL : Is (allN (vAt H) hn) true := ⟨by rw [← HJ1.out]; exact HALLV.out⟩
      clear HXv HJ1 HALLV
      obtain ⟨w0, hw0⟩ : ∃ w0, wr = w0 := ⟨_, rfl⟩
      rw [hw0] at HHR e0 e1 ⊢
      clear hw0
      go_wp2
      go_loopw [4] (fun i wr => ∃ k : Nat, k ≤ gn ∧ i = .int .i64 k ∧ Is (allN (gAt hn G) k) true ∧ Held wb wr) (fun i _ => gn - (intOf i).toNat)
      case atStart => exact ⟨0, Nat.zero_le _, rfl, ⟨rfl⟩, HHR.out⟩
      case round =>
        obtain ⟨k, hk, rfl, HALL, hh⟩ := hrel
        clear HHR e0 e1
        have HHR := Lib.hid hh
        clear hh
        have e0 := HHR.out.cell HB0.out
        have e1 := HHR.out.cell HB1.out
        have k0 : ¬ (k : Int) < 0 := by omega
        by_cases hlt : k < gn
        · obtain ⟨b, off, nm, r, l, c, g, x, y, rfl, lb, hp, p0, p1, p2, p3, p4, p5, p6⟩ := plAt HG.out (HWB.out.step HHR.out) hlt
          have hnl : (nm.size : Int) ≤ 1000000000 := HNM k _ hp
          have HGA : Is (gAt hn G k) (okG hn ⟨nm, ⟨r, l, c, g⟩, x, y⟩ && srtAt G k) := ⟨gAt_at hp⟩
          have HP := Lib.hid hp
          clear hp
          have HN : ∀ w, Hid (Calls Try.prog 58 #[.string nm] w fun e w' => e = .returned (.bool (named nm)) ∧ Held w w') := fun w => named_ref_any nm (by omega) w
          have HV : ∀ w, Hid (Calls Try.prog 59 #[.agg #[.int .i64 r, .int .i64 l, .int .i64 c, .int .i64 g]] w fun e w' => e = .returned (.bool (vd ⟨r, l, c, g⟩)) ∧ Held w w') := fun w => vd_ref_any r l c g w
          have HX0x : ∀ w, Hid (Calls Try.prog 60 #[.slice HA hn hc, .int .i64 x] w fun e w' => e = .returned (.bool (there hn x)) ∧ Held w w') := fun w => there_ref_any HA hn hc x hhn w
          have HY0y : ∀ w, Hid (Calls Try.prog 60 #[.slice HA hn hc, .int .i64 y] w fun e w' => e = .returned (.bool (there hn y)) ∧ Held w w') := fun w => there_ref_any HA hn hc y hhn w
          obtain ⟨bn, hbn⟩ : ∃ bn, named nm = bn := ⟨_, rfl⟩
          have HBN : Is (named nm) bn := ⟨hbn⟩
          obtain ⟨bv, hbv⟩ : ∃ bv, vd ⟨r, l, c, g⟩ = bv := ⟨_, rfl⟩
          have HBV : Is (vd ⟨r, l, c, g⟩) bv := ⟨hbv⟩
          have HOK : Is (okG hn ⟨nm, ⟨r, l, c, g⟩, x, y⟩) (bn && (bv && (there hn x && (there hn y && decide (x ≠ y))))) := ⟨by unfold okG; simp only; rw [HBN.out, HBV.out]⟩
          simp only [hbn] at HN
          simp only [hbv] at HV
          clear hbn hbv
          obtain ⟨so, hso⟩ : ∃ so, srtAt G k = so := ⟨_, rfl⟩
          have HSO : Is (srtAt G k) so := ⟨hso⟩
          rw [hso] at HGA
          rw [HOK.out] at HGA
          have HORD : (k = 0 ∧ so = true) ∨ ∃ (m : Nat) (q : Pl), k = m + 1 ∧ Is (lt q.nm nm) so ∧ wr.cell? ⟨b, off + m * 7, none⟩ = some (.string q.nm) := by
            rcases k with _ | m
            · exact .inl ⟨rfl, by rw [← hso]; rfl⟩
            · obtain ⟨b', off', nm', r', l', c', g', x', y', e', lb', hq', p0', _⟩ := plAt HG.out (HWB.out.step HHR.out) (show m < gn by omega)
              injection e' with e'; injection e' with e1' e2'
              subst e1' e2'
              exact .inr ⟨m, ⟨nm', ⟨r', l', c', g'⟩, x', y'⟩, rfl, ⟨by rw [← hso]; exact (srt_succ hq' HP.out).symm⟩, p0'⟩
          clear hso
          generalize there hn x = tx at *
          generalize there hn y = ty at *
          obtain ⟨w1, hw1⟩ : ∃ w1, wr.alloc (.cells #[.string nm, .int .i64 r, .int .i64 l, .int .i64 c, .int .i64 g, .int .i64 x, .int .i64 y] 75) = w1 := ⟨_, rfl⟩
          have z0 : w1.cell? ⟨wr.heap.size, 0, none⟩ = some (.string nm) := by rw [← hw1]; exact Bx.cell (Bx.new wr _) 0 rfl
          have z1 : w1.cell? ⟨wr.heap.size, 1, none⟩ = some (.int .i64 r) := by rw [← hw1]; exact Bx.cell (Bx.new wr _) 1 rfl
          have z2 : w1.cell? ⟨wr.heap.size, 2, none⟩ = some (.int .i64 l) := by rw [← hw1]; exact Bx.cell (Bx.new wr _) 2 rfl
          have z3 : w1.cell? ⟨wr.heap.size, 3, none⟩ = some (.int .i64 c) := by rw [← hw1]; exact Bx.cell (Bx.new wr _) 3 rfl
          have z4 : w1.cell? ⟨wr.heap.size, 4, none⟩ = some (.int .i64 g) := by rw [← hw1]; exact Bx.cell (Bx.new wr _) 4 rfl
          have z5 : w1.cell? ⟨wr.heap.size, 5, none⟩ = some (.int .i64 x) := by rw [← hw1]; exact Bx.cell (Bx.new wr _) 5 rfl
          have z6 : w1.cell? ⟨wr.heap.size, 6, none⟩ = some (.int .i64 y) := by rw [← hw1]; exact Bx.cell (Bx.new wr _) 6 rfl
          have H1 : Held wr w1 := by rw [← hw1]; exact (Held.refl wr).alloc _
          have v0 := H1.cell e0
          have v1 := H1.cell e1
          have HH1 := Lib.hid (HWB.out.step (HHR.out.step H1))
          have HHB1 := Lib.hid (HHR.out.step H1)
          go_upto_region 12 with (fail)
          clear hw1 e0 e1 p0 p1 p2 p3 p4 p5 p6
          generalize wr.heap.size = B at *
          cases bn
          · have HX := HXg k hlt (by rw [HGA.out]; rfl)
            clear HXg HXf
            have qz0 := cell_regrown z0
            have qz1 := cell_regrown z1
            have qz2 := cell_regrown z2
            have qz3 := cell_regrown z3
            have qz4 := cell_regrown z4
            have qz5 := cell_regrown z5
            have qz6 := cell_regrown z6
            have qv0 := cell_regrown v0
            have qv1 := cell_regrown v1
            have cN := Lib.hid fun d os => Calls.regrown_of (d := d) (os := os) (HN (grow (redrawn w1 d) os)).out
            refine wp_region_quiet_below (by kernel_rfl) (by kernel_rfl) ?_
            repeat (go_big_quiet_step (first | (go_at_call 58; (with_reducible exact cN.out _ _))))
            refine wpQuiet_nil ?_
            intro w2 hw'
            obtain ⟨⟨dq, osq⟩, hw''⟩ := hw'
            have h12 : Held w1 w2 := by rw [hw'']; exact below_regrown w1 dq osq
            clear hw'' qz0 qz1 qz2 qz3 qz4 qz5 qz6 qv0 qv1 cN
            have HW2 := Lib.hid (HH1.out.step h12)
            clear h12
            go_wp2
            go_ret
            exact ⟨ret_b HX.out.symm, HW2.out⟩
          cases bv
          · have HX := HXg k hlt (by rw [HGA.out]; rfl)
            clear HXg HXf
            have qz0 := cell_regrown z0
            have qz1 := cell_regrown z1
            have qz2 := cell_regrown z2
            have qz3 := cell_regrown z3
            have qz4 := cell_regrown z4
            have qz5 := cell_regrown z5
            have qz6 := cell_regrown z6
            have qv0 := cell_regrown v0
            have qv1 := cell_regrown v1
            have cN := Lib.hid fun d os => Calls.regrown_of (d := d) (os := os) (HN (grow (redrawn w1 d) os)).out
            have cV := Lib.hid fun d os => Calls.regrown_of (d := d) (os := os) (HV (grow (redrawn w1 d) os)).out
            refine wp_region_quiet_below (by kernel_rfl) (by kernel_rfl) ?_
            repeat (go_big_quiet_step (first | (go_at_call 58; (with_reducible exact cN.out _ _)) | (go_at_call 59; (with_reducible exact cV.out _ _))))
            refine wpQuiet_nil ?_
            intro w2 hw'
            obtain ⟨⟨dq, osq⟩, hw''⟩ := hw'
            have h12 : Held w1 w2 := by rw [hw'']; exact below_regrown w1 dq osq
            clear hw'' qz0 qz1 qz2 qz3 qz4 qz5 qz6 qv0 qv1 cN cV
            have HW2 := Lib.hid (HH1.out.step h12)
            clear h12
            go_wp2
            go_ret
            exact ⟨ret_b HX.out.symm, HW2.out⟩
          cases tx
          · have HX := HXg k hlt (by rw [HGA.out]; rfl)
            clear HXg HXf
            have qz0 := cell_regrown z0
            have qz1 := cell_regrown z1
            have qz2 := cell_regrown z2
            have qz3 := cell_regrown z3
            have qz4 := cell_regrown z4
            have qz5 := cell_regrown z5
            have qz6 := cell_regrown z6
            have qv0 := cell_regrown v0
            have qv1 := cell_regrown v1
            have cN := Lib.hid fun d os => Calls.regrown_of (d := d) (os := os) (HN (grow (redrawn w1 d) os)).out
            have cV := Lib.hid fun d os => Calls.regrown_of (d := d) (os := os) (HV (grow (redrawn w1 d) os)).out
            have cX := Lib.hid fun d os => Calls.regrown_of (d := d) (os := os) (HX0x (grow (redrawn w1 d) os)).out
            refine wp_region_quiet_below (by kernel_rfl) (by kernel_rfl) ?_
            repeat (go_big_quiet_step (first | (go_at_call 58; (with_reducible exact cN.out _ _)) | (go_at_call 59; (with_reducible exact cV.out _ _)) | (go_at_call 60; (with_reducible exact cX.out _ _))))
            refine wpQuiet_nil ?_
            intro w2 hw'
            obtain ⟨⟨dq, osq⟩, hw''⟩ := hw'
            have h12 : Held w1 w2 := by rw [hw'']; exact below_regrown w1 dq osq
            clear hw'' qz0 qz1 qz2 qz3 qz4 qz5 qz6 qv0 qv1 cN cV cX
            have HW2 := Lib.hid (HH1.out.step h12)
            clear h12
            go_wp2
            go_ret
            exact ⟨ret_b HX.out.symm, HW2.out⟩
          cases ty
          · have HX := HXg k hlt (by rw [HGA.out]; rfl)
            clear HXg HXf
            have qz0 := cell_regrown z0
            have qz1 := cell_regrown z1
            have qz2 := cell_regrown z2
            have qz3 := cell_regrown z3
            have qz4 := cell_regrown z4
            have qz5 := cell_regrown z5
            have qz6 := cell_regrown z6
            have qv0 := cell_regrown v0
            have qv1 := cell_regrown v1
            have cN := Lib.hid fun d os => Calls.regrown_of (d := d) (os := os) (HN (grow (redrawn w1 d) os)).out
            have cV := Lib.hid fun d os => Calls.regrown_of (d := d) (os := os) (HV (grow (redrawn w1 d) os)).out
            have cX := Lib.hid fun d os => Calls.regrown_of (d := d) (os := os) (HX0x (grow (redrawn w1 d) os)).out
            have cY := Lib.hid fun d os => Calls.regrown_of (d := d) (os := os) (HY0y (grow (redrawn w1 d) os)).out
            refine wp_region_quiet_below (by kernel_rfl) (by kernel_rfl) ?_
            repeat (go_big_quiet_step (first | (go_at_call 58; (with_reducible exact cN.out _ _)) | (go_at_call 59; (with_reducible exact cV.out _ _)) | (go_at_call 60; (with_reducible exact cX.out _ _)) | (go_at_call 60; (with_reducible exact cY.out _ _))))
            refine wpQuiet_nil ?_
            intro w2 hw'
            obtain ⟨⟨dq, osq⟩, hw''⟩ := hw'
            have h12 : Held w1 w2 := by rw [hw'']; exact below_regrown w1 dq osq
            clear hw'' qz0 qz1 qz2 qz3 qz4 qz5 qz6 qv0 qv1 cN cV cX cY
            have HW2 := Lib.hid (HH1.out.step h12)
            clear h12
            go_wp2
            go_ret
            exact ⟨ret_b HX.out.symm, HW2.out⟩
          by_cases hxy : x = y
          · have hq : (x == y) = true := by simp [hxy]
            have HX := HXg k hlt (by rw [HGA.out]; simp [hxy])
            clear HXg HXf hxy
            have qz0 := cell_regrown z0
            have qz1 := cell_regrown z1
            have qz2 := cell_regrown z2
            have qz3 := cell_regrown z3
            have qz4 := cell_regrown z4
            have qz5 := cell_regrown z5
            have qz6 := cell_regrown z6
            have qv0 := cell_regrown v0
            have qv1 := cell_regrown v1
            have cN := Lib.hid fun d os => Calls.regrown_of (d := d) (os := os) (HN (grow (redrawn w1 d) os)).out
            have cV := Lib.hid fun d os => Calls.regrown_of (d := d) (os := os) (HV (grow (redrawn w1 d) os)).out
            have cX := Lib.hid fun d os => Calls.regrown_of (d := d) (os := os) (HX0x (grow (redrawn w1 d) os)).out
            have cY := Lib.hid fun d os => Calls.regrown_of (d := d) (os := os) (HY0y (grow (redrawn w1 d) os)).out
            refine wp_region_quiet_below (by kernel_rfl) (by kernel_rfl) ?_
            repeat (go_big_quiet_step (first | (go_at_call 58; (with_reducible exact cN.out _ _)) | (go_at_call 59; (with_reducible exact cV.out _ _)) | (go_at_call 60; (with_reducible exact cX.out _ _)) | (go_at_call 60; (with_reducible exact cY.out _ _))))
            refine wpQuiet_nil ?_
            intro w2 hw'
            obtain ⟨⟨dq, osq⟩, hw''⟩ := hw'
            have h12 : Held w1 w2 := by rw [hw'']; exact below_regrown w1 dq osq
            clear hw'' qz0 qz1 qz2 qz3 qz4 qz5 qz6 qv0 qv1 cN cV cX cY
            have HW2 := Lib.hid (HH1.out.step h12)
            clear h12
            go_wp2
            go_ret
            exact ⟨ret_b HX.out.symm, HW2.out⟩
          have hq : (x == y) = false := by simp [hxy]
          have hqd : decide (x ≠ y) = true := by simp [hxy]
          rw [hqd] at HGA
          clear hxy hqd
          rcases HORD with ⟨hk0, hso⟩ | ⟨m, q, hkm, hso, p0⟩
          · have hk1 : decide (0 < k) = false := decide_eq_false (by omega)
            have hk2 : ¬ 0 < k := by omega
            have HA2 : Is (allN (gAt hn G) (k + 1)) true := ⟨allN_step HALL.out (by rw [HGA.out, hso]; rfl)⟩
            clear hk0 hso
            have qz0 := cell_regrown z0
            have qz1 := cell_regrown z1
            have qz2 := cell_regrown z2
            have qz3 := cell_regrown z3
            have qz4 := cell_regrown z4
            have qz5 := cell_regrown z5
            have qz6 := cell_regrown z6
            have qv0 := cell_regrown v0
            have qv1 := cell_regrown v1
            have cN := Lib.hid fun d os => Calls.regrown_of (d := d) (os := os) (HN (grow (redrawn w1 d) os)).out
            have cV := Lib.hid fun d os => Calls.regrown_of (d := d) (os := os) (HV (grow (redrawn w1 d) os)).out
            have cX := Lib.hid fun d os => Calls.regrown_of (d := d) (os := os) (HX0x (grow (redrawn w1 d) os)).out
            have cY := Lib.hid fun d os => Calls.regrown_of (d := d) (os := os) (HY0y (grow (redrawn w1 d) os)).out
            refine wp_region_quiet_below (by kernel_rfl) (by kernel_rfl) ?_
            repeat (go_big_quiet_step (first | (go_at_call 58; (with_reducible exact cN.out _ _)) | (go_at_call 59; (with_reducible exact cV.out _ _)) | (go_at_call 60; (with_reducible exact cX.out _ _)) | (go_at_call 60; (with_reducible exact cY.out _ _))))
            refine wpQuiet_nil ?_
            intro w2 hw'
            obtain ⟨⟨dq, osq⟩, hw''⟩ := hw'
            have h12 : Held w1 w2 := by rw [hw'']; exact below_regrown w1 dq osq
            clear hw'' qz0 qz1 qz2 qz3 qz4 qz5 qz6 qv0 qv1 cN cV cX cY
            have HB2 := Lib.hid (HHB1.out.step h12)
            go_wp2
            go_roundw
            case rel => exact ⟨k + 1, by omega, by go_num, HA2, HB2.out⟩
            case measure => simp [intOf]; omega
          · have hk1 : decide (0 < k) = true := decide_eq_true (by omega)
            have hk2 : 0 < k := by omega
            have hwrap : IntKind.i64.wrap ((k : Int) - 1) = (m : Int) := by unfold IntKind.wrap; simp [IntKind.signed, IntKind.bits]; omega
            have hm1 : (m : Int) < (gn : Int) := by omega
            have hm2 : ¬ (m : Int) < 0 := by omega
            have hls1 : Op.bytesLess q.nm.toList nm.toList = so := hso.out
            have hls : (Op.bytesLess nm.toList q.nm.toList || nm.toList == q.nm.toList) = !so := by rw [leq_not, hso.out]
            have y0 : w1.cell? ⟨b, off + m * 7, none⟩ = some (.string q.nm) := H1.cell p0
            generalize q.nm = qn at *
            clear hso p0 hkm
            cases so <;> simp only [Bool.not_false, Bool.not_true] at hls
            · have HX := HXg k hlt (by rw [HGA.out]; rfl)
              clear HXg HXf
              have qz0 := cell_regrown z0
              have qz1 := cell_regrown z1
              have qz2 := cell_regrown z2
              have qz3 := cell_regrown z3
              have qz4 := cell_regrown z4
              have qz5 := cell_regrown z5
              have qz6 := cell_regrown z6
              have qv0 := cell_regrown v0
              have qv1 := cell_regrown v1
              have qy0 := cell_regrown y0
              have cN := Lib.hid fun d os => Calls.regrown_of (d := d) (os := os) (HN (grow (redrawn w1 d) os)).out
              have cV := Lib.hid fun d os => Calls.regrown_of (d := d) (os := os) (HV (grow (redrawn w1 d) os)).out
              have cX := Lib.hid fun d os => Calls.regrown_of (d := d) (os := os) (HX0x (grow (redrawn w1 d) os)).out
              have cY := Lib.hid fun d os => Calls.regrown_of (d := d) (os := os) (HY0y (grow (redrawn w1 d) os)).out
              refine wp_region_quiet_below (by kernel_rfl) (by kernel_rfl) ?_
              repeat (go_big_quiet_step (first | (go_at_call 58; (with_reducible exact cN.out _ _)) | (go_at_call 59; (with_reducible exact cV.out _ _)) | (go_at_call 60; (with_reducible exact cX.out _ _)) | (go_at_call 60; (with_reducible exact cY.out _ _))))
              refine wpQuiet_nil ?_
              intro w2 hw'
              obtain ⟨⟨dq, osq⟩, hw''⟩ := hw'
              have h12 : Held w1 w2 := by rw [hw'']; exact below_regrown w1 dq osq
              clear hw'' qz0 qz1 qz2 qz3 qz4 qz5 qz6 qv0 qv1 qy0 cN cV cX cY
              have HW2 := Lib.hid (HH1.out.step h12)
              clear h12
              go_wp2
              go_ret
              exact ⟨ret_b HX.out.symm, HW2.out⟩
            · have HA2 : Is (allN (gAt hn G) (k + 1)) true := ⟨allN_step HALL.out (by rw [HGA.out]; rfl)⟩
              have qz0 := cell_regrown z0
              have qz1 := cell_regrown z1
              have qz2 := cell_regrown z2
              have qz3 := cell_regrown z3
              have qz4 := cell_regrown z4
              have qz5 := cell_regrown z5
              have qz6 := cell_regrown z6
              have qv0 := cell_regrown v0
              have qv1 := cell_regrown v1
              have qy0 := cell_regrown y0
              have cN := Lib.hid fun d os => Calls.regrown_of (d := d) (os := os) (HN (grow (redrawn w1 d) os)).out
              have cV := Lib.hid fun d os => Calls.regrown_of (d := d) (os := os) (HV (grow (redrawn w1 d) os)).out
              have cX := Lib.hid fun d os => Calls.regrown_of (d := d) (os := os) (HX0x (grow (redrawn w1 d) os)).out
              have cY := Lib.hid fun d os => Calls.regrown_of (d := d) (os := os) (HY0y (grow (redrawn w1 d) os)).out
              refine wp_region_quiet_below (by kernel_rfl) (by kernel_rfl) ?_
              repeat (go_big_quiet_step (first | (go_at_call 58; (with_reducible exact cN.out _ _)) | (go_at_call 59; (with_reducible exact cV.out _ _)) | (go_at_call 60; (with_reducible exact cX.out _ _)) | (go_at_call 60; (with_reducible exact cY.out _ _))))
              refine wpQuiet_nil ?_
              intro w2 hw'
              obtain ⟨⟨dq, osq⟩, hw''⟩ := hw'
              have h12 : Held w1 w2 := by rw [hw'']; exact below_regrown w1 dq osq
              clear hw'' qz0 qz1 qz2 qz3 qz4 qz5 qz6 qv0 qv1 qy0 cN cV cX cY
              have HB2 := Lib.hid (HHB1.out.step h12)
              go_wp2
              go_roundw
              case rel => exact ⟨k + 1, by omega, by go_num, HA2, HB2.out⟩
              case measure => simp [intOf]; omega
        · have HJ : Is k gn := ⟨by omega⟩
          have HG0 : Is (okGs ⟨H, G⟩) true := ⟨by unfold okGs; simp only; rw [HGL.out, HHL.out, ← HJ.out]; exact HALL.out⟩
          clear HXg HJ HALL
          obtain ⟨w0', hw0⟩ : ∃ w0, wr = w0 := ⟨_, rfl⟩
          rw [hw0] at HHR e0 e1 ⊢
          clear hw0
          go_wp2
          go_loopw [6] (fun i wr => ∃ k : Nat, k ≤ hn ∧ i = .int .i64 k ∧ Is (allN (fAt H G) k) true ∧ Held wb wr) (fun i _ => hn - (intOf i).toNat)
          case atStart => exact ⟨0, Nat.zero_le _, rfl, ⟨rfl⟩, HHR.out⟩
          case round =>
            obtain ⟨j', hj', rfl, HALLF, hh⟩ := hrel
            clear HHR e0 e1
            have HHR := Lib.hid hh
            clear hh
            have v0 := HHR.out.cell HB0.out
            have v1 := HHR.out.cell HB1.out
            have j0' : ¬ (j' : Int) < 0 := by omega
            by_cases hlt3 : j' < hn
            · obtain ⟨b, off, m, c, up, rfl, lb, hp, z0, z1, z2⟩ := capAt HH.out (HWB.out.step HHR.out) hlt3
              have HVF : Is (fAt H G j') (!up || fits m c up (on G j')) := ⟨f_at hp⟩
              clear hp
              have hol := on_len G j'
              have hol2 : ((on G j').length : Int) ≤ 100 := by rw [HGL.out] at hol; omega
              have HON : ∀ w1, Held w w1 → Hid (Calls Try.prog 62 #[.slice GA gn gc, .int .i64 j'] w1 (MakesDs (on G j') w1)) := fun w1 h1 => on_ref_any GA gn gc G j' w1 (ps_of (HG.out.held h1)) (by omega)
              generalize on G j' = D at *
              clear hol
              go_upto_region 17 with (fail)
              have HW1 := Lib.hid (HWB.out.step HHR.out)
              cases up
              · have HA2 : Is (allN (fAt H G) (j' + 1)) true := ⟨allN_step HALLF.out (by rw [HVF.out]; rfl)⟩
                have qz0 := cell_regrown z0
                have qz1 := cell_regrown z1
                have qz2 := cell_regrown z2
                have qv0 := cell_regrown v0
                have qv1 := cell_regrown v1
                refine wp_region_quiet_below (by kernel_rfl) (by kernel_rfl) ?_
                repeat (go_big_quiet_step (fail))
                refine wpQuiet_nil ?_
                intro w2 hw'
                obtain ⟨⟨dq, osq⟩, hw''⟩ := hw'
                have h12 : Held wr w2 := by rw [hw'']; exact below_regrown wr dq osq
                clear hw'' qz0 qz1 qz2 qv0 qv1 
                have HB2 := Lib.hid (HHR.out.step h12)
                go_wp2
                go_roundw
                case rel => exact ⟨j' + 1, by omega, by go_num, HA2, HB2.out⟩
                case measure => simp [intOf]; omega
              · obtain ⟨q, hq⟩ : ∃ q, fits m c true D = q := ⟨_, rfl⟩
                have HQ := Lib.hid hq
                rw [hq] at HVF
                clear hq
                cases q
                · have HX := HXf j' hlt3 (by rw [HVF.out]; rfl)
                  clear HXf
                  go_region_held3 (fun w' => w'.cell? ⟨b, off + j' * 3, none⟩ = some (.int .i64 m) ∧ w'.cell? ⟨b, off + j' * 3 + 1, none⟩ = some (.int .i64 c) ∧ w'.cell? ⟨b, off + j' * 3 + 2, none⟩ = some (.bool true) ∧ w'.cell? ⟨w.heap.size, 0, none⟩ = some (.slice (some ⟨b, off, none⟩) hn hc) ∧ w'.cell? ⟨w.heap.size, 1, none⟩ = some (.slice GA gn gc) ∧ Held wr w')
                    ((repeat' refine And.intro ?_ ?_) <;> first | exact z0 | exact z1 | exact z2 | exact v0 | exact v1 | exact (Held.refl _).drew | exact Held.cell (by assumption) z0 | exact Held.cell (by assumption) z1 | exact Held.cell (by assumption) z2 | exact Held.cell (by assumption) v0 | exact Held.cell (by assumption) v1 | exact (by assumption))
                    (first | (go_at_call 62; refine (HON _ (HW1.out.step (Held.refl _).drew)).out.mono ?_; rintro e w3 ⟨v3, rfl, ho3, h3⟩; obtain ⟨A3, cp3, rfl, hcp3⟩ := own_slice ho3; obtain ⟨hds, _, _⟩ := ds_of_own ho3; have HDS := Lib.hid hds; have k3 : Held wr w3 := (Held.refl _).drew.step h3; clear ho3 hds) | (go_at_call 61; refine (fits_ref_any _ _ _ _ _ _ D _ HDS.out hol2 hcp3).mono ?_; rintro e w5 ⟨rfl, h5⟩; rw [HQ.out]; have k5 : Held wr w5 := k3.step h5))
                  go_wp2
                  go_ret
                  exact ⟨ret_b HX.out.symm, HW1.out.step k5⟩
                · have HA2 : Is (allN (fAt H G) (j' + 1)) true := ⟨allN_step HALLF.out (by rw [HVF.out]; rfl)⟩
                  go_region_held3 (fun w' => w'.cell? ⟨b, off + j' * 3, none⟩ = some (.int .i64 m) ∧ w'.cell? ⟨b, off + j' * 3 + 1, none⟩ = some (.int .i64 c) ∧ w'.cell? ⟨b, off + j' * 3 + 2, none⟩ = some (.bool true) ∧ w'.cell? ⟨w.heap.size, 0, none⟩ = some (.slice (some ⟨b, off, none⟩) hn hc) ∧ w'.cell? ⟨w.heap.size, 1, none⟩ = some (.slice GA gn gc) ∧ Held wr w')
                    ((repeat' refine And.intro ?_ ?_) <;> first | exact z0 | exact z1 | exact z2 | exact v0 | exact v1 | exact (Held.refl _).drew | exact Held.cell (by assumption) z0 | exact Held.cell (by assumption) z1 | exact Held.cell (by assumption) z2 | exact Held.cell (by assumption) v0 | exact Held.cell (by assumption) v1 | exact (by assumption))
                    (first | (go_at_call 62; refine (HON _ (HW1.out.step (Held.refl _).drew)).out.mono ?_; rintro e w3 ⟨v3, rfl, ho3, h3⟩; obtain ⟨A3, cp3, rfl, hcp3⟩ := own_slice ho3; obtain ⟨hds, _, _⟩ := ds_of_own ho3; have HDS := Lib.hid hds; have k3 : Held wr w3 := (Held.refl _).drew.step h3; clear ho3 hds) | (go_at_call 61; refine (fits_ref_any _ _ _ _ _ _ D _ HDS.out hol2 hcp3).mono ?_; rintro e w5 ⟨rfl, h5⟩; rw [HQ.out]; have k5 : Held wr w5 := k3.step h5))
                  go_wp2
                  go_roundw
                  case rel => exact ⟨j' + 1, by omega, by go_num, HA2, HHR.out.step k5⟩
                  case measure => simp [intOf]; omega
            · have HJ2 : Is j' hn := ⟨by omega⟩
              have HX : Is (validR ⟨H, G⟩) true := ⟨validR_two HFEW.out HG0.out (by simp only; rw [HHL.out]; exact HVALL.out) (by simp only; rw [HHL.out, ← HJ2.out]; exact HALLF.out)⟩
              clear HXf HJ2 HALLF
              go_wp2
              go_ret
              exact ⟨ret_b HX.out.symm, HWB.out.step HHR.out⟩
end Jn
end Go.Proofs.Ytmmnanmegdflgaa

set_option linter.unusedVariables false
set_option maxRecDepth 100000
namespace Go.Proofs.Ytmmnanmegdflgaa
open Go.RowKit
namespace SlcCa
theorem info : (Try.prog.info? 25).map (fun i => (i.zero, i.size, i.bytes)) = some (some (.agg #[.int .i64 0, .int .i64 0, .bool false]), 3, 24) := by kernel_rfl
theorem zero (w : World) : (zeroValue 25).run Try.prog w = .ok (.agg #[.int .i64 0, .int .i64 0, .bool false]) w := by kernel_rfl
theorem zcells (n : Nat) : ∀ u ∈ (Builtin.zeroCells (Value.cells (.agg #[.int .i64 0, .int .i64 0, .bool false])) n).toList, u.oneCell' = true := by
  intro u hu
  simp only [Builtin.zeroCells, Array.toList_map, List.mem_map] at hu
  obtain ⟨i, _, rfl⟩ := hu
  have hs : (Value.cells (.agg #[.int .i64 0, .int .i64 0, .bool false])).size = 3 := rfl
  rw [hs]
  have hm : i % 3 < 3 := Nat.mod_lt _ (by decide)
  generalize i % 3 = k at hm
  match k, hm with
  | 0, _ => rfl
  | 1, _ => rfl
  | 2, _ => rfl
  | k + 3, h => omega
section
variable {α : Type} {f : α → List Value}
theorem clone_any (hf : ∀ x, (f x).length = 3) (hf1 : ∀ x, ∀ u ∈ f x, u.oneCell' = true) (A : Option Addr) (n cap : Nat) (L : List α) (w : World) (h : Sl 3 f w A n L) (hn : A = none → n = 0) (hmax : n ≤ 1099511627776) :
    Calls Try.prog 67 #[.slice A n cap] w (Sg.New 25 3 f L w) := by
  have hlen := h.1
  have q := fun (w : World) (a : Option Addr) (n c n' c' : Nat) => Lib.run_eql_slice_nil (P := Try.prog) w 34 25 a n c n' c' Try.underlying34
  cases A with
  | none =>
    have h0 := hn rfl
    have hL : L = [] := List.eq_nil_of_length_eq_zero (by rw [hlen, h0])
    subst hL h0
    have hfin : Hid (Sg.New 25 3 f ([] : List α) w (.returned (.slice none 0 0)) w) := Sg.New.mk (Own.nil w) (Held.refl w)
    clear h hlen hn
    go_enter Try.func67, Try.ntmps67
    go_wp2
    go_ret
    exact hfin.out
  | some ad =>
    have hnw := Sg.sl_news (s := 3) hf (by decide) (h.held (((Held.refl w).alloc (.cells #[] 25))))
    have HN := Lib.hid hnw
    have HL := Lib.hid hlen
    clear h hlen hn hnw
    go_enter Try.func67, Try.ntmps67
    go_wp2_with (at_builtin; refine Own.apps _ rfl _ _ _ rfl _ 24 Try.underlying34 info rfl (by decide) hf hf1 w ((Held.refl w).alloc _) (.slice (some ⟨w.heap.size, 0, none⟩) 0 0) ([] : List α) L ad n _ rfl (Own.empty (Nat.le_refl _)) rfl HL.out HN.out (by simp; omega) (by decide) ?_; intro v1 w1 hown1 hheld1 _)
    go_ret
    exact Sg.New.mk hown1 hheld1
end
end SlcCa
end Go.Proofs.Ytmmnanmegdflgaa

set_option linter.unusedVariables false
set_option maxRecDepth 100000
namespace Go.Proofs.Ytmmnanmegdflgaa
open Go.RowKit
namespace SlcPl
theorem info : (Try.prog.info? 75).map (fun i => (i.zero, i.size, i.bytes)) = some (some (.agg #[.string ⟨#[]⟩, .int .i64 0, .int .i64 0, .int .i64 0, .int .i64 0, .int .i64 0, .int .i64 0]), 7, 64) := by kernel_rfl
theorem zero (w : World) : (zeroValue 75).run Try.prog w = .ok (.agg #[.string ⟨#[]⟩, .int .i64 0, .int .i64 0, .int .i64 0, .int .i64 0, .int .i64 0, .int .i64 0]) w := by kernel_rfl
theorem zcells (n : Nat) : ∀ u ∈ (Builtin.zeroCells (Value.cells (.agg #[.string ⟨#[]⟩, .int .i64 0, .int .i64 0, .int .i64 0, .int .i64 0, .int .i64 0, .int .i64 0])) n).toList, u.oneCell' = true := by
  intro u hu
  simp only [Builtin.zeroCells, Array.toList_map, List.mem_map] at hu
  obtain ⟨i, _, rfl⟩ := hu
  have hs : (Value.cells (.agg #[.string ⟨#[]⟩, .int .i64 0, .int .i64 0, .int .i64 0, .int .i64 0, .int .i64 0, .int .i64 0])).size = 7 := rfl
  rw [hs]
  have hm : i % 7 < 7 := Nat.mod_lt _ (by decide)
  generalize i % 7 = k at hm
  match k, hm with
  | 0, _ => rfl
  | 1, _ => rfl
  | 2, _ => rfl
  | 3, _ => rfl
  | 4, _ => rfl
  | 5, _ => rfl
  | 6, _ => rfl
  | k + 7, h => omega
section
variable {α : Type} {f : α → List Value}
theorem delete_any (hf : ∀ x, (f x).length = 7) (hf1 : ∀ x, ∀ u ∈ f x, u.oneCell' = true) (base : Nat) (v : Value) (L : List α) (i j : Nat) (w : World) (h : Own 75 7 f base w v L) (hij : i < j) (hj : j ≤ L.length) (hmax : (L.length : Int) ≤ 1099511627776) :
    Calls Try.prog 72 #[v, .int .i64 i, .int .i64 j] w (Sg.Got 75 7 f base v (L.take i ++ L.drop j) w) := by
  obtain ⟨i0, hi0, hz0, hz1, hz2⟩ := info_parts info
  obtain ⟨A, cap, rfl⟩ : ∃ A cap, v = .slice A L.length cap := by obtain ⟨A, cap, hv, _⟩ := h.shape; exact ⟨A, cap, hv⟩
  obtain ⟨g, C, rfl, hb, hrow, hlen, htake, _, hcap, hm⟩ := Sg.own_row hf h (by omega)
  obtain ⟨n, hn⟩ : ∃ n, L.length = n := ⟨_, rfl⟩
  rw [hn] at h htake hcap hj hmax ⊢
  have hfl : (L.flatMap f).length = n * 7 := by rw [flat_len hf, hn]
  have hcs : n * 7 ≤ C.length := by rw [hlen]; exact Nat.mul_le_mul_right _ hcap
  -- what is moved
  obtain ⟨news, hnews⟩ : ∃ news, news = (L.flatMap f).drop (j * 7) := ⟨_, rfl⟩
  have hnl : news.length = (n - j) * 7 := by rw [hnews, List.length_drop, hfl]; omega
  have hn1 : ∀ u ∈ news, u.oneCell' = true := by
    intro u hu
    rw [hnews] at hu
    have := List.mem_of_mem_drop hu
    rw [List.mem_flatMap] at this
    obtain ⟨x, _, hx⟩ := this
    exact hf1 x u hx
  have hnC : news = (C.drop (j * 7)).take ((n - j) * 7) := by
    rw [hnews, ← htake, List.drop_take]; congr 1; omega
  obtain ⟨A2, hA2, hnw⟩ : ∃ A2 : Addr, (if cap = j then (⟨g, 0, none⟩ : Addr) else ⟨g, j * 7, none⟩) = A2 ∧ ∀ k u, news[k]? = some u → w.drew.cell? (A2.add k) = some u := by
    by_cases hcj : cap = j
    · refine ⟨_, if_pos hcj, fun k u hk => ?_⟩
      have : news.length = 0 := by rw [hnl]; omega
      rw [List.eq_nil_of_length_eq_zero this] at hk; cases hk
    · refine ⟨_, if_neg hcj, fun k u hk => ?_⟩
      rw [hnC] at hk
      exact Sg.news_at hrow.drew _ _ k u hk
  obtain ⟨w1, hr1, hrow1⟩ := Sg.app_room (P := Try.prog) (ty := 35) Try.underlying35 hi0 hz1 hrow.drew i cap A2 (n - j) (cap - j) news hnl hnw hn1 (by omega) (by rw [hnl, ← Nat.add_mul]; exact Nat.le_trans (Nat.mul_le_mul_right _ (by omega)) hcs)
  have hl1 : (Sg.lay C (i * 7) news).length = C.length := Sg.lay_len (by rw [hnl, ← Nat.add_mul]; exact Nat.le_trans (Nat.mul_le_mul_right _ (by omega)) hcs)
  have hzs : (Value.cells (.agg #[.string ⟨#[]⟩, .int .i64 0, .int .i64 0, .int .i64 0, .int .i64 0, .int .i64 0, .int .i64 0])).size = 7 := rfl
  obtain ⟨w2, hr2, hrow2⟩ := Sg.clear_row (P := Try.prog) (t := 35) (ty := 0) Try.underlying35 zero (zcells 1) hrow1 ((i + (n - j)) * 7) (n - (i + (n - j))) (cap - (i + (n - j))) (by omega) (zcells _) (by rw [hl1, hzs, ← Nat.add_mul]; exact Nat.le_trans (Nat.mul_le_mul_right _ (by omega)) hcs)
  have hfin : Hid (Sg.Got 75 7 f base (.slice (some ⟨g, 0, none⟩) n cap) (L.take i ++ L.drop j) w (.returned (.slice (some ⟨g, 0, none⟩) (i + (n - j)) cap)) w2) := by
    refine Sg.Got.mk (Sg.row_own hf hrow2 hb ?_ ?_ (by omega) hm ?_) hrow2.grown (.inl rfl)
    · rw [Sg.lay_len (by simp only [Builtin.zeroCells, Array.toList_map, List.length_map]; rw [hl1]; simp [hzs]; first | (rw [← Nat.add_mul]; exact Nat.le_trans (Nat.mul_le_mul_right _ (by omega)) hcs) | omega), hl1, hlen]
    · rw [List.length_append, List.length_take, List.length_drop]; omega
    · rw [Sg.lay_low (by rw [hl1]; exact Nat.le_trans (Nat.mul_le_mul_right _ (by omega)) hcs) (Nat.le_refl _)]
      have e1 : (i + (n - j)) * 7 = i * 7 + news.length := by rw [hnl, Nat.add_mul]
      rw [e1, Sg.lay_take (Nat.le_trans (Nat.mul_le_mul_right _ (by omega)) hcs), List.flatMap_append, Sg.flat_take hf L i (by omega), Sg.flat_drop hf L j (by omega), hnews, ← htake, List.take_take, Nat.min_eq_left (Nat.mul_le_mul_right _ (by omega))]
  have hsl : ∀ w', (Instr.slice 35 (.slice (some ⟨g, 0, none⟩) n cap) (some (.int .i64 j)) none none).run Try.prog w' = .ok (.slice (some A2) (n - j) (cap - j)) w' := by
    intro w'
    have := Sg.slice_from (P := Try.prog) Try.underlying35 hi0 hz1 g 0 n cap j hj hcap w'
    rw [Nat.zero_add, hA2] at this
    exact this
  clear hA2
  have b1 : (i : Int) ≤ j := by omega
  have b2 : (j : Int) ≤ n := by omega
  have b3 : (n : Int) ≤ cap := by omega
  have b4 : (cap : Int) ≤ 9223372036854775807 := by unfold maxLen at hm; omega
  have b9 : (i : Int) ≤ cap := by omega
  have b10 : (0 : Int) ≤ i := by omega
  have b5 : ((i : Int) == j) = false := by simp; omega
  have b6 : ¬ (i : Int) = j := by omega
  have b7 : ¬ cap = i + (n - j) := by omega
  have b8 : ((i + (n - j) : Nat) : Int) ≤ n := by omega
  clear hrow hrow1 hrow2 hlen htake hcap hm hfl hcs hnl hn1 hnC hnw hl1 hzs h hi0 hz0 hz1 hz2 hnews
  go_enter Try.func72, Try.ntmps72
  go_wp2
  go_region_held3 (fun _ => True) (trivial) (refine Sg.step_append (by rfl) _ _ _ _ 35 (by rfl) (by rfl) (by rfl) (by rfl) hr1 ?_)
  go_wp2
  go_ret
  exact hfin.out
theorem clone_any (hf : ∀ x, (f x).length = 7) (hf1 : ∀ x, ∀ u ∈ f x, u.oneCell' = true) (A : Option Addr) (n cap : Nat) (L : List α) (w : World) (h : Sl 7 f w A n L) (hn : A = none → n = 0) (hmax : n ≤ 1099511627776) :
    Calls Try.prog 68 #[.slice A n cap] w (Sg.New 75 7 f L w) := by
  have hlen := h.1
  have q := fun (w : World) (a : Option Addr) (n c n' c' : Nat) => Lib.run_eql_slice_nil (P := Try.prog) w 35 75 a n c n' c' Try.underlying35
  cases A with
  | none =>
    have h0 := hn rfl
    have hL : L = [] := List.eq_nil_of_length_eq_zero (by rw [hlen, h0])
    subst hL h0
    have hfin : Hid (Sg.New 75 7 f ([] : List α) w (.returned (.slice none 0 0)) w) := Sg.New.mk (Own.nil w) (Held.refl w)
    clear h hlen hn
    go_enter Try.func68, Try.ntmps68
    go_wp2
    go_ret
    exact hfin.out
  | some ad =>
    have hnw := Sg.sl_news (s := 7) hf (by decide) (h.held (((Held.refl w).alloc (.cells #[] 75))))
    have HN := Lib.hid hnw
    have HL := Lib.hid hlen
    clear h hlen hn hnw
    go_enter Try.func68, Try.ntmps68
    go_wp2_with (at_builtin; refine Own.apps _ rfl _ _ _ rfl _ 64 Try.underlying35 info rfl (by decide) hf hf1 w ((Held.refl w).alloc _) (.slice (some ⟨w.heap.size, 0, none⟩) 0 0) ([] : List α) L ad n _ rfl (Own.empty (Nat.le_refl _)) rfl HL.out HN.out (by simp; omega) (by decide) ?_; intro v1 w1 hown1 hheld1 _)
    go_ret
    exact Sg.New.mk hown1 hheld1
set_option maxHeartbeats 4000000 in
theorem insert_any (hf : ∀ x, (f x).length = 7) (hf1 : ∀ x, ∀ u ∈ f x, u.oneCell' = true) (base : Nat) (v : Value) (L : List α) (i : Nat) (x : α) (w : World) (h : Own 75 7 f base w v L) (hi : i ≤ L.length) (hmax : (L.length : Int) ≤ 1099511627776) (hbase : base ≤ w.heap.size)
    (gx : Nat) (hx : w.heap[gx]? = some (.cells (f x).toArray 75 (0, 0))) (hgx : v.ownBlock ≠ some gx) :
    Calls Try.prog 71 #[v, .int .i64 i, .slice (some ⟨gx, 0, none⟩) 1 1] w (Sg.Got 75 7 f base v (L.take i ++ [x] ++ L.drop i) w) := by
  obtain ⟨i0, hi0, hz0, hz1, hz2⟩ := info_parts info
  obtain ⟨A, cap, rfl, hncap, hmcap⟩ := h.shape
  obtain ⟨n, hn⟩ : ∃ n, L.length = n := ⟨_, rfl⟩
  rw [hn] at h hi hmax hncap ⊢
  have hxr : Sg.Row 75 w gx (f x) w := Sg.Row.start hx
  have hxn : ∀ j u, (f x)[j]? = some u → w.cell? ((⟨gx, 0, none⟩ : Addr).add j) = some u := by
    intro j u hu
    rw [Sg.addr_at, Nat.zero_add, hxr.cell]; exact hu
  by_cases hin : i = n
  · -- behind the last
    have hL : L.take i ++ [x] ++ L.drop i = L ++ [x] := by
      subst hin
      rw [← hn, List.take_length, List.drop_length, List.append_nil]
    rw [hL]
    have hrun := run_append_lies (P := Try.prog) w 35 35 base 75 i0 (.agg #[.string ⟨#[]⟩, .int .i64 0, .int .i64 0, .int .i64 0, .int .i64 0, .int .i64 0, .int .i64 0]) 7 64 Try.underlying35 hi0 hz0 hz1 hz2 rfl (by decide) (.slice A n cap) n (L.flatMap f) (hn ▸ h) ⟨gx, 0, none⟩ 1 1 (f x) (by rw [hf]) hxn (hf1 x) (by decide) (by unfold maxLen; omega) (by omega) hbase w.heap.size rfl
    obtain ⟨g, cap2, w1, hr1, hown1, hg1, hat1, hlt1⟩ := hrun
    have hfin : Hid (Sg.Got 75 7 f base (.slice A n cap) (L ++ [x]) w (.returned (.slice (some ⟨g, 0, none⟩) (n + 1) cap2)) w1) := by
      refine Sg.Got.mk ?_ hg1 ?_
      · unfold Own
        rw [List.flatMap_append, List.flatMap_singleton, List.length_append, List.length_singleton, hn]
        exact hown1
      · rcases hat1 with h1 | h1
        · exact .inl h1.symm
        · exact .inr ⟨g, rfl, by omega⟩
    have b1 : (n : Int) ≤ cap := by omega
    have b2 : (cap : Int) ≤ 9223372036854775807 := by unfold maxLen at hmcap; omega
    subst hin
    clear hL hn hown1 hg1 hat1 hlt1 h hx hxr hxn hgx hi0 hz0 hz1 hz2
    by_cases hic : cap = i
    · subst hic
      go_enter Try.func71, Try.ntmps71
      go_wp2_with (refine Sg.list_append rfl _ _ _ _ 35 rfl rfl rfl rfl hr1 ?_)
      go_ret
      exact hfin.out
    · go_enter Try.func71, Try.ntmps71
      go_wp2_with (refine Sg.list_append rfl _ _ _ _ 35 rfl rfl rfl rfl hr1 ?_)
      go_ret
      exact hfin.out
  · -- in the midst
    obtain ⟨g, C, rfl, hb, hrow, hlen, htake, _, hcap, hm⟩ := Sg.own_row hf (hn ▸ h) (by omega)
    have hne : gx ≠ g := fun e => hgx (by rw [e]; rfl)
    have hfl : (L.flatMap f).length = n * 7 := by rw [flat_len hf, hn]
    have hcs : n * 7 ≤ C.length := by rw [hlen]; exact Nat.mul_le_mul_right _ hncap
    have hin' : i < n := by omega
    obtain ⟨news, hnews⟩ : ∃ news, news = (C.drop (i * 7)).take ((n - i) * 7) := ⟨_, rfl⟩
    have hnX : news = (L.flatMap f).drop (i * 7) := by
      rw [hnews, ← htake, List.drop_take]; congr 1; omega
    have hnl : news.length = (n - i) * 7 := by rw [hnX, List.length_drop, hfl]; omega
    have hn1 : ∀ u ∈ news, u.oneCell' = true := by
      intro u hu
      rw [hnX] at hu
      have := List.mem_of_mem_drop hu
      rw [List.mem_flatMap] at this
      obtain ⟨y, _, hy⟩ := this
      exact hf1 y u hy
    have hXi : C.take (i * 7) = (L.take i).flatMap f := by
      rw [Sg.flat_take hf L i (by omega), ← htake, List.take_take, Nat.min_eq_left (Nat.mul_le_mul_right _ (by omega))]
    have b1 : (n : Int) ≤ cap := by omega
    have b2 : (cap : Int) ≤ 9223372036854775807 := by unfold maxLen at hmcap; omega
    have b3 : (i : Int) < n := by omega
    have b4 : ¬ (i : Int) = n := by omega
    have b5 : ((i : Int) == n) = false := by simp; omega
    have b6 : ¬ cap = i := by omega
    by_cases hroom : n + 1 ≤ cap
    · have hc2 : (n + 1) * 7 ≤ C.length := by rw [hlen]; exact Nat.mul_le_mul_right _ hroom
      obtain ⟨w1, hr1, hrow1⟩ := Sg.copy_row (P := Try.prog) (t := 35) (t' := 35) (ty := 3) Try.underlying35 hi0 hz1 hrow.drew ((i + 1) * 7) (n - i) (cap - (i + 1)) ⟨g, i * 7, none⟩ (n + 1 - i) (cap - i) (n - i) (by omega) news hnl
        (by rw [hnews]; exact Sg.news_at hrow.drew _ _) hn1 (by rw [hnl, ← Nat.add_mul]; exact Nat.le_trans (Nat.mul_le_mul_right _ (by omega)) hc2)
      have hl1 : (Sg.lay C ((i + 1) * 7) news).length = C.length := Sg.lay_len (by rw [hnl, ← Nat.add_mul]; exact Nat.le_trans (Nat.mul_le_mul_right _ (by omega)) hc2)
      have hxw1 : ∀ j u, (f x)[j]? = some u → w1.cell? ((⟨gx, 0, none⟩ : Addr).add j) = some u := by
        intro j u hu
        rw [Sg.addr_at, Nat.zero_add, World.cell?_of_block (hrow1.rest gx hxr.lt hne)]
        rw [hxr.cell]; exact hu
      have hfx : (f x).length = 1 * 7 := by rw [hf, Nat.one_mul]
      obtain ⟨w2, hr2, hrow2⟩ := Sg.copy_row (P := Try.prog) (t := 35) (t' := 35) (ty := 3) Try.underlying35 hi0 hz1 hrow1 (i * 7) (n + 1 - i) (cap - i) ⟨gx, 0, none⟩ 1 1 1 (by omega) (f x) hfx hxw1 (hf1 x) (by rw [hl1, hfx, ← Nat.add_mul]; exact Nat.le_trans (Nat.mul_le_mul_right _ (by omega)) hc2)
      have hfin : Hid (Sg.Got 75 7 f base (.slice (some ⟨g, 0, none⟩) n cap) (L.take i ++ [x] ++ L.drop i) w (.returned (.slice (some ⟨g, 0, none⟩) (n + 1) cap)) w2) := by
        refine Sg.Got.mk (Sg.row_own hf hrow2 hb ?_ ?_ hroom hm ?_) hrow2.grown (.inl rfl)
        · rw [Sg.lay_len (by rw [hl1, hfx, ← Nat.add_mul]; exact Nat.le_trans (Nat.mul_le_mul_right _ (by omega)) hc2), hl1, hlen]
        · simp only [List.length_append, List.length_take, List.length_drop, List.length_singleton]; omega
        · have hi2 : i * 7 ≤ C.length := Nat.le_trans (Nat.mul_le_mul_right _ (by omega)) hc2
          have hi3 : (i + 1) * 7 ≤ C.length := Nat.le_trans (Nat.mul_le_mul_right _ (by omega)) hc2
          rw [Sg.shift_take hi2 (by rw [hf, Nat.add_mul, Nat.one_mul]) hi3 (by rw [hnl, ← Nat.add_mul]; congr 1; omega), hXi, hnX, ← Sg.flat_drop hf L i (by omega), List.flatMap_append, List.flatMap_append, List.flatMap_singleton]
      have hov : ∀ lb cb, (callFunc 88 #[.slice (some ⟨gx, 0, none⟩) 1 1, .slice (some ⟨g, (i + 1) * 7, none⟩) lb cb]).run Try.prog w = .ok (.value (.bool false)) w := fun lb cb => by
        rw [run_callFunc_extern Try.func88 (by kernel_rfl) (by kernel_rfl) (by kernel_rfl) (e := Extern.SlicesOverlaps.overlaps #[35, 35] #[4]) (by kernel_rfl),
          Lib.run_overlaps_apart w 35 4 75 Try.underlying35 7 (fun w => by simp [sizeOf, typeInfo, hi0, hz1]) ⟨gx, 0, none⟩ ⟨g, (i + 1) * 7, none⟩ 1 1 lb cb hne 75 75 7 C.length
            (by simp [World.shape?, hx, hf]) (by simp [World.shape?, hrow.blk]) (by omega) (by simp [World.frozen?, hx]) (by simp [World.frozen?, hx])]
        rfl
      have b7 : (n : Int) + 1 ≤ cap := by omega
      have b8 : ¬ (cap : Int) < (n : Int) + 1 := by omega
      have b9 : IntKind.i64.wrap ((i : Int) + 1) = (i : Int) + 1 := IntWalk.i64_in _ (by omega)
      have b10 : (0 : Int) ≤ (i : Int) + 1 := by omega
      have b11 : ((i : Int) + 1).toNat = i + 1 := by omega
      have b12 : ¬ cap = i + 1 := by omega
      have b13 : (i : Int) ≤ (n : Int) + 1 := by omega
      have b14 : (i : Int) + 1 ≤ (n : Int) + 1 := by omega
      clear hrow hrow1 hrow2 hlen htake hcap hm hfl hcs hnl hn1 hl1 h hi0 hz0 hz1 hz2 hnews hnX hXi hc2 hxr hxn hx hgx hxw1 hfx hin
      go_enter Try.func71, Try.ntmps71
      go_wp2_with (simp only [hov])
      go_region_held3 (fun _ => True) (trivial) (refine Sg.step_copy (by rfl) _ _ _ _ 3 (by rfl) (by rfl) (by rfl) (by rfl) hr1 ?_)
      go_wp2_with (refine Sg.list_copy rfl _ _ _ _ 3 rfl rfl rfl rfl hr2 ?_)
      go_ret
      exact hfin.out
    · obtain ⟨k, hk⟩ : ∃ k, k = n + 1 - i := ⟨_, rfl⟩
      have hik : i + k = n + 1 := by omega
      have holds : (Builtin.firstCells i0.size i (.slice (some ⟨g, 0, none⟩) i cap)).run Try.prog w.drew = .ok (C.take (i * 7)).toArray w.drew := by
        have h0 : (C.take (i * 7)).length = i * i0.size := by rw [hz1, List.length_take]; exact Nat.min_eq_left (Nat.le_trans (Nat.mul_le_mul_right _ (by omega)) hcs)
        refine run_firstCells_some w.drew i0.size i ⟨g, 0, none⟩ i cap _ h0 (fun j u hu => ?_)
        have := Sg.news_at hrow.drew 0 (i * 7) j u (by simpa using hu)
        exact this
      have hrz := Lib.run_append_grow_zeros (P := Try.prog) w 35 3 35 75 i0 (.agg #[.string ⟨#[]⟩, .int .i64 0, .int .i64 0, .int .i64 0, .int .i64 0, .int .i64 0, .int .i64 0]) .i64 .i64 Try.underlying35 Try.underlying3 hi0 hz0 (some ⟨g, 0, none⟩) i cap (C.take (i * 7)) holds k (by omega) (by rw [hz1]; decide) (by omega) (by omega) (by rw [hz2]; omega) (by rw [hz2]; exact growslice_fits (by omega) (by omega))
      rw [hik] at hrz
      obtain ⟨cn, hcn, hcn2⟩ : ∃ cn, grownCap w (n + 1) cap 75 = cn ∧ n + 1 ≤ cn := ⟨_, rfl, grownCap_ge _ _ _ _⟩
      have hcm : cn ≤ maxLen := by rw [← hcn]; exact grownCap_le_maxLen _ _ _ _ (by unfold maxLen; omega)
      rw [hcn] at hrz
      obtain ⟨cur, hcur⟩ : ∃ cur, cur = (C.take (i * 7)).toArray ++ Builtin.zeroCells (Value.cells (.agg #[.string ⟨#[]⟩, .int .i64 0, .int .i64 0, .int .i64 0, .int .i64 0, .int .i64 0, .int .i64 0])) k ++ Builtin.zeroCells (Value.cells (.agg #[.string ⟨#[]⟩, .int .i64 0, .int .i64 0, .int .i64 0, .int .i64 0, .int .i64 0, .int .i64 0])) (cn - (n + 1)) := ⟨_, rfl⟩
      rw [← hcur] at hrz
      have hcl : cur.toList.length = cn * 7 := by
        have hzs : (Value.cells (.agg #[.string ⟨#[]⟩, .int .i64 0, .int .i64 0, .int .i64 0, .int .i64 0, .int .i64 0, .int .i64 0])).size = 7 := rfl
        rw [hcur]
        simp only [Array.toList_append, List.length_append, Array.length_toList, Builtin.zeroCells, Array.size_map, Array.size_range, hzs, List.length_take]
        rw [Nat.min_eq_left (Nat.le_trans (Nat.mul_le_mul_right _ (by omega)) hcs), ← Nat.add_mul, ← Nat.add_mul]
        congr 1; omega
      have hct : cur.toList.take (i * 7) = C.take (i * 7) := by
        have h0 : (C.take (i * 7)).length = i * 7 := by rw [List.length_take]; exact Nat.min_eq_left (Nat.le_trans (Nat.mul_le_mul_right _ (by omega)) hcs)
        rw [hcur]
        simp only [Array.toList_append, List.append_assoc]
        rw [List.take_append_of_le_length (by omega), List.take_of_length_le (by omega)]
      obtain ⟨w1, hw1⟩ : ∃ w1, w1 = w.drew.alloc (.cells cur 75) := ⟨_, rfl⟩
      rw [← hw1] at hrz
      have hheld : Held w w1 := by rw [hw1]; exact (Held.refl w).drew.alloc _
      have hrow0 : Sg.Row 75 w1 w.heap.size cur.toList w1 := Sg.Row.start (by rw [hw1]; exact heap_alloc_new w.drew _)
      clear hw1 hcur hcn holds
      have hgn : g < w.heap.size := hrow.lt
      have hxn0 : gx < w.heap.size := hxr.lt
      have hfx : (f x).length = 1 * 7 := by rw [hf, Nat.one_mul]
      have hcap1 : (i + 1) * 7 ≤ cur.toList.length := by rw [hcl]; exact Nat.mul_le_mul_right _ (by omega)
      have hi2 : i * 7 + (f x).length ≤ cur.toList.length := by rw [hfx, ← Nat.add_mul]; exact hcap1
      have hxw1 : ∀ j u, (f x)[j]? = some u → w1.cell? ((⟨gx, 0, none⟩ : Addr).add j) = some u := fun j u hu => hheld.cell (hxn j u hu)
      obtain ⟨w2, hr1, hrow1⟩ := Sg.copy_row (P := Try.prog) (t := 35) (t' := 35) (ty := 3) Try.underlying35 hi0 hz1 hrow0 (i * 7) (n + 1 - i) (cn - i) ⟨gx, 0, none⟩ 1 1 1 (by omega) (f x) hfx hxw1 (hf1 x) hi2
      have hnw2 : ∀ j u, news[j]? = some u → w2.drew.cell? ((⟨g, i * 7, none⟩ : Addr).add j) = some u := by
        intro j u hu
        rw [hnews] at hu
        have h1 := hheld.cell (Sg.news_at hrow (i * 7) ((n - i) * 7) j u hu)
        rw [Sg.addr_at] at h1 ⊢
        show w2.cell? _ = _
        rw [World.cell?_of_block (hrow1.rest g (Nat.lt_of_lt_of_le hgn hheld.le) (by show g ≠ _; omega))]
        exact h1
      have hl1 : (Sg.lay cur.toList (i * 7) (f x)).length = cur.toList.length := Sg.lay_len hi2
      obtain ⟨w3, hr2, hrow2⟩ := Sg.copy_row (P := Try.prog) (t := 35) (t' := 35) (ty := 3) Try.underlying35 hi0 hz1 hrow1.drew ((i + 1) * 7) (n - i) (cn - (i + 1)) ⟨g, i * 7, none⟩ (n - i) (cap - i) (n - i) (by omega) news hnl hnw2 hn1 (by rw [hl1, hnl, ← Nat.add_mul, hcl]; exact Nat.mul_le_mul_right _ (by omega))
      have hfin : Hid (Sg.Got 75 7 f base (.slice (some ⟨g, 0, none⟩) n cap) (L.take i ++ [x] ++ L.drop i) w (.returned (.slice (some ⟨w.heap.size, 0, none⟩) (n + 1) cn)) w3) := by
        refine Sg.Got.mk (Sg.row_own hf hrow2 hbase ?_ ?_ hcn2 hcm ?_) ?_ (.inr ⟨_, rfl, Nat.le_refl _⟩)
        · rw [Sg.lay_len (by rw [hl1, hnl, ← Nat.add_mul, hcl]; exact Nat.mul_le_mul_right _ (by omega)), hl1, hcl]
        · simp only [List.length_append, List.length_take, List.length_drop, List.length_singleton]; omega
        · rw [Sg.fill_take (Nat.le_trans (Nat.mul_le_mul_right _ (by omega)) hcap1) (by rw [hf, Nat.add_mul, Nat.one_mul]) hi2 (by rw [hnl, ← Nat.add_mul]; congr 1; omega), hct, hXi, hnX, ← Sg.flat_drop hf L i (by omega), List.flatMap_append, List.flatMap_append, List.flatMap_singleton]
        · refine ⟨hrow2.os.trans hheld.os, hrow2.tape.trans hheld.tape, hrow2.output.trans hheld.output, Nat.le_trans hheld.le hrow2.size, fun q hq _ => ?_⟩
          rw [hrow2.rest q (Nat.lt_of_lt_of_le hq hheld.le) (by omega)]
          exact hheld.block q hq
      have b7 : (cap : Int) < (n : Int) + 1 := by omega
      have b8 : IntKind.i64.wrap ((i : Int) + 1) = (i : Int) + 1 := IntWalk.i64_in _ (by omega)
      have b9 : (n : Int) + 1 - i = k := by omega
      have b10 : (0 : Int) ≤ (i : Int) + 1 := by omega
      have b11 : ((i : Int) + 1).toNat = i + 1 := by omega
      have b12 : ¬ cn = i + 1 := by omega
      have b13 : ¬ cn = i := by omega
      have b14 : (i : Int) ≤ (n : Int) + 1 := by omega
      have b15 : (i : Int) + 1 ≤ (n : Int) + 1 := by omega
      have b16 : (i : Int) ≤ cap := by omega
      have b17 : ((n : Int) + 1) ≤ cn := by omega
      have b18 : (cn : Int) ≤ 9223372036854775807 := by unfold maxLen at hcm; omega
      clear hrow hrow0 hrow1 hrow2 hlen htake hcap hm hfl hcs hnl hn1 hl1 h hi0 hz0 hz1 hz2 hnews hnX hXi hxr hxn hx hgx hxw1 hfx hin hcl hct hnw2 hi2 hcap1 hk hik
      go_enter Try.func71, Try.ntmps71
      go_wp2_with (first | (refine Sg.list_append rfl _ _ _ _ 35 rfl rfl rfl rfl hrz ?_) | (refine Sg.list_copy rfl _ _ _ _ 3 rfl rfl rfl rfl hr1 ?_))
      go_region_held3 (fun _ => True) (trivial) (refine Sg.step_copy (by rfl) _ _ _ _ 3 (by rfl) (by rfl) (by rfl) (by rfl) hr2 ?_)
      go_wp2
      go_ret
      exact hfin.out
end
end SlcPl
end Go.Proofs.Ytmmnanmegdflgaa
