/-
  Contracts: Valid of the program (chapter 42).
-/
import Derived.Test.YtmmnanmegdflgaaZ8
import Derived.Outline
import Derived.Deep.DeepCutAuto
set_option linter.unusedVariables false
set_option linter.unusedSimpArgs false
set_option maxRecDepth 100000
namespace Go.Proofs.Ytmmnanmegdflgaa
open Go.RowKit Go.BigFrame Go.Sort
namespace Jn
open Ad Adm Law39
theorem validR_few {r : Reg} (h : few r = false) : validR r = false := by unfold validR; rw [h]; rfl
theorem validR_g {r : Reg} {k : Nat} (hk : k < r.gs.length) (h : gAt r.hs.length r.gs k = false) : validR r = false := by
  unfold validR okGs; rw [allN_no hk h]; simp
theorem validR_h {r : Reg} {k : Nat} (hk : k < r.hs.length) (h : (vAt r.hs k && fAt r.hs r.gs k) = false) : validR r = false := by
  unfold validR okHs; rw [allN_no (f := fun i => vAt r.hs i && fAt r.hs r.gs i) hk h]; simp
theorem validR_yes {r : Reg} (h1 : few r = true) (h2 : okGs r = true) (h3 : okHs r = true) : validR r = true := by unfold validR; rw [h1, h2, h3]; rfl
theorem gAt_at {n : Nat} {L : List Pl} {k : Nat} {p : Pl} (h : L[k]? = some p) : gAt n L k = (okG n p && srtAt L k) := by unfold gAt; rw [h]
theorem vf_at {H : List Cap} {L : List Pl} {k : Nat} {c : Cap} (h : H[k]? = some c) : (vAt H k && fAt H L k) = (vh c.m c.c && (!c.up || fits c.m c.c c.up (on L k))) := by unfold vAt fAt; rw [h]
theorem leq_not (x y : ByteArray) : (Op.bytesLess x.toList y.toList || x.toList == y.toList) = !(lt y x) := by
  show (lt x y || same x y) = !(lt y x)
  rcases lt_tri x y with h | h | h
  · rw [h, lt_asym h]; rfl
  · subst h; rw [lt_irr, (same_iff x x).2 rfl]; rfl
  · rw [h, lt_asym h]
    cases e : same x y
    · rfl
    · have := (same_iff x y).1 e
      subst this
      rw [lt_irr] at h; cases h
theorem srt_zero (L : List Pl) : srtAt L 0 = true := rfl
theorem srt_succ {L : List Pl} {k : Nat} {q p : Pl} (hq : L[k]? = some q) (hp : L[k + 1]? = some p) : srtAt L (k + 1) = lt q.nm p.nm := by
  unfold srtAt; rw [Nat.add_sub_cancel, hq, hp]
set_option maxHeartbeats 4000000 in
theorem valid_any (HA : Option Addr) (hn hc : Nat) (GA : Option Addr) (gn gc : Nat) (H : List Cap) (G : List Pl) (w : World) (hH : Sl 3 capC w HA hn H) (hG : Sl 7 plC w GA gn G) (hhn : (hn : Int) ≤ 1000000) (hgn : (gn : Int) ≤ 1000000)
    (hnm : ∀ p ∈ G, (p.nm.size : Int) ≤ 1000000000) :
    Calls Try.prog 16 #[.agg #[.slice HA hn hc, .slice GA gn gc]] w fun e w' => e = .returned (.bool (validR ⟨H, G⟩)) ∧ Held w w' := by
  have HH := Lib.hid hH
  have HHL : Is H.length hn := ⟨hH.1⟩
  have HG := Lib.hid hG
  have HGL : Is G.length gn := ⟨hG.1⟩
  have HNM := fun (k : Nat) (p : Pl) (h : G[k]? = some p) => hnm p (List.mem_of_getElem? h)
  clear hH hG hnm
  by_cases s1 : (6 : Int) < hn
  · have HX : Is (validR ⟨H, G⟩) false := ⟨validR_few (by unfold few; simp only; rw [HHL.out, decide_eq_false (by omega)]; rfl)⟩
    go_enter Try.func16, Try.ntmps16
    go_wp2
    go_ret
    exact ⟨ret_b HX.out.symm, (Held.refl w).alloc _⟩
  by_cases s2 : (8 : Int) < gn
  · have HX : Is (validR ⟨H, G⟩) false := ⟨validR_few (by unfold few; simp only; rw [HGL.out, decide_eq_false (show ¬ gn ≤ 8 by omega), Bool.and_false])⟩
    go_enter Try.func16, Try.ntmps16
    go_wp2
    go_ret
    exact ⟨ret_b HX.out.symm, (Held.refl w).alloc _⟩
  have HFEW : Is (few ⟨H, G⟩) true := ⟨by unfold few; simp only; rw [HHL.out, HGL.out, decide_eq_true (show hn ≤ 6 by omega), decide_eq_true (show gn ≤ 8 by omega)]; rfl⟩
  have HX0 := fun (k : Nat) (hk : k < gn) (h : gAt hn G k = false) => (⟨validR_g (r := ⟨H, G⟩) (k := k) (by simp only; rw [HGL.out]; exact hk) (by simp only; rw [HHL.out]; exact h)⟩ : Is (validR ⟨H, G⟩) false)
  have HY0 := fun (k : Nat) (hk : k < hn) (h : (vAt H k && fAt H G k) = false) => (⟨validR_h (r := ⟨H, G⟩) (k := k) (by simp only; rw [HHL.out]; exact hk) h⟩ : Is (validR ⟨H, G⟩) false)
  obtain ⟨wb, hwb⟩ : ∃ wb, w.alloc (.cells #[.slice HA hn hc, .slice GA gn gc] 37) = wb := ⟨_, rfl⟩
  have hB0 : wb.cell? ⟨w.heap.size, 0, none⟩ = some (.slice HA hn hc) := by rw [← hwb]; exact Bx.cell (Bx.new w _) 0 rfl
  have hB1 : wb.cell? ⟨w.heap.size, 1, none⟩ = some (.slice GA gn gc) := by rw [← hwb]; exact Bx.cell (Bx.new w _) 1 rfl
  have hWB : Held w wb := by rw [← hwb]; exact (Held.refl w).alloc _
  have HB0 := Lib.hid hB0
  have HB1 := Lib.hid hB1
  have HWB := Lib.hid hWB
  have HEQ := Lib.hid hwb
  clear hB0 hB1 hWB hwb
  go_enter Try.func16, Try.ntmps16
  go_wp2
  rw [HEQ.out]
  go_loopw [20] (fun i wr => ∃ k : Nat, k ≤ gn ∧ i = .int .i64 k ∧ Is (allN (gAt hn G) k) true ∧ Held wb wr) (fun i _ => gn - (intOf i).toNat)
  case atStart => exact ⟨0, Nat.zero_le _, rfl, ⟨rfl⟩, Held.refl _⟩
  case round =>
    obtain ⟨k, hk, rfl, HALL, hh⟩ := hrel
    have HHR := Lib.hid hh
    clear hh
    by_cases hlt : k < gn
    · obtain ⟨b, off, nm, r, l, c, g, x, y, rfl, lb, hp, p0, p1, p2, p3, p4, p5, p6⟩ := plAt HG.out (HWB.out.step HHR.out) hlt
      have hnl : (nm.size : Int) ≤ 1000000000 := HNM k _ hp
      have HGA : Is (gAt hn G k) (okG hn ⟨nm, ⟨r, l, c, g⟩, x, y⟩ && srtAt G k) := ⟨gAt_at hp⟩
      have HP := Lib.hid hp
      have e0 := HHR.out.cell HB0.out
      have e1 := HHR.out.cell HB1.out
      have k0 : ¬ (k : Int) < 0 := by omega
      clear hp
      have HN : ∀ w, Hid (Calls Try.prog 45 #[.string nm] w fun e w' => e = .returned (.bool (named nm)) ∧ Held w w') := fun w => named_any nm (by omega) w
      have HV : ∀ w, Hid (Calls Try.prog 46 #[.agg #[.int .i64 r, .int .i64 l, .int .i64 c, .int .i64 g]] w fun e w' => e = .returned (.bool (vd ⟨r, l, c, g⟩)) ∧ Held w w') := fun w => vd_any r l c g w
      obtain ⟨bn, hbn⟩ : ∃ bn, named nm = bn := ⟨_, rfl⟩
      have HBN : Is (named nm) bn := ⟨hbn⟩
      obtain ⟨bv, hbv⟩ : ∃ bv, vd ⟨r, l, c, g⟩ = bv := ⟨_, rfl⟩
      have HBV : Is (vd ⟨r, l, c, g⟩) bv := ⟨hbv⟩
      have HOK : Is (okG hn ⟨nm, ⟨r, l, c, g⟩, x, y⟩) (bn && (bv && (there hn x && (there hn y && decide (x ≠ y))))) := ⟨by unfold okG; simp only; rw [HBN.out, HBV.out]⟩
      simp only [hbn] at HN
      simp only [hbv] at HV
      clear hbn hbv
      -- the order of the names
      obtain ⟨so, hso⟩ : ∃ so, srtAt G k = so := ⟨_, rfl⟩
      have HSO : Is (srtAt G k) so := ⟨hso⟩
      rw [hso] at HGA
      rw [HOK.out] at HGA
      have HORD : (k = 0 ∧ so = true) ∨ ∃ (m : Nat) (q : Pl), k = m + 1 ∧ Is (lt q.nm nm) so ∧ wr.cell? ⟨b, off + m * 7, none⟩ = some (.string q.nm) := by
        rcases k with _ | m
        · exact .inl ⟨rfl, by rw [← hso]; rfl⟩
        · obtain ⟨b', off', nm', r', l', c', g', x', y', e', lb', hq', p0', _⟩ := plAt HG.out (HWB.out.step HHR.out) (show m < gn by omega)
          injection e' with e'; injection e' with e1' e2'
          subst e1' e2'
          exact .inr ⟨m, ⟨nm', ⟨r', l', c', g'⟩, x', y'⟩, rfl, ⟨by rw [← hso]; exact (srt_succ hq' HP.out).symm⟩, p0'⟩
      clear hso
      obtain ⟨w1, hw1⟩ : ∃ w1, wr.alloc (.cells #[.string nm, .int .i64 r, .int .i64 l, .int .i64 c, .int .i64 g, .int .i64 x, .int .i64 y] 75) = w1 := ⟨_, rfl⟩
      have HQ1 := Lib.hid hw1
      have z0 : w1.cell? ⟨wr.heap.size, 0, none⟩ = some (.string nm) := by rw [← hw1]; exact Bx.cell (Bx.new wr _) 0 rfl
      have z1 : w1.cell? ⟨wr.heap.size, 1, none⟩ = some (.int .i64 r) := by rw [← hw1]; exact Bx.cell (Bx.new wr _) 1 rfl
      have z2 : w1.cell? ⟨wr.heap.size, 2, none⟩ = some (.int .i64 l) := by rw [← hw1]; exact Bx.cell (Bx.new wr _) 2 rfl
      have z3 : w1.cell? ⟨wr.heap.size, 3, none⟩ = some (.int .i64 c) := by rw [← hw1]; exact Bx.cell (Bx.new wr _) 3 rfl
      have z4 : w1.cell? ⟨wr.heap.size, 4, none⟩ = some (.int .i64 g) := by rw [← hw1]; exact Bx.cell (Bx.new wr _) 4 rfl
      have z5 : w1.cell? ⟨wr.heap.size, 5, none⟩ = some (.int .i64 x) := by rw [← hw1]; exact Bx.cell (Bx.new wr _) 5 rfl
      have z6 : w1.cell? ⟨wr.heap.size, 6, none⟩ = some (.int .i64 y) := by rw [← hw1]; exact Bx.cell (Bx.new wr _) 6 rfl
      have H1 : Held wr w1 := by rw [← hw1]; exact (Held.refl wr).alloc _
      have v0 := H1.cell e0
      have v1 := H1.cell e1
      have HH1 := Lib.hid (HWB.out.step (HHR.out.step H1))
      have HHB1 := Lib.hid (HHR.out.step H1)
      go_upto_region 6 with (fail)
      clear hw1 HQ1 e0 e1 p0 p1 p2 p3 p4 p5 p6
      have hIHx : ∀ w, Hid (Calls Try.prog 47 #[.agg #[.slice HA hn hc, .slice (some ⟨b, off, none⟩) gn gc], .int .i64 x] w fun e w' => e = .returned (.bool (there hn x)) ∧ Held w w') := fun w => isHost_any HA hn hc (some ⟨b, off, none⟩) gn gc x hhn w
      have hIHy : ∀ w, Hid (Calls Try.prog 47 #[.agg #[.slice HA hn hc, .slice (some ⟨b, off, none⟩) gn gc], .int .i64 y] w fun e w' => e = .returned (.bool (there hn y)) ∧ Held w w') := fun w => isHost_any HA hn hc (some ⟨b, off, none⟩) gn gc y hhn w
      generalize there hn x = tx at *
      generalize there hn y = ty at *
      generalize wr.heap.size = B at *
      cases bn
      · have HX := HX0 k hlt (by rw [HGA.out]; rfl)
        clear HX0 HY0
        have qz0 := cell_regrown z0
        have qz1 := cell_regrown z1
        have qz2 := cell_regrown z2
        have qz3 := cell_regrown z3
        have qz4 := cell_regrown z4
        have qv0 := cell_regrown v0
        have qv1 := cell_regrown v1
        have cN := Lib.hid fun d os => Calls.regrown_of (d := d) (os := os) (HN (grow (redrawn w1 d) os)).out
        refine wp_region_quiet_below (by kernel_rfl) (by kernel_rfl) ?_
        repeat (go_big_quiet_step (first | (go_at_call 45; (with_reducible exact cN.out _ _))))
        refine wpQuiet_nil ?_
        intro w2 hw'
        obtain ⟨⟨dq, osq⟩, hw''⟩ := hw'
        have h12 : Held w1 w2 := by rw [hw'']; exact below_regrown w1 dq osq
        clear hw'' qz0 qz1 qz2 qz3 qz4 qv0 qv1 cN
        have HW2 := Lib.hid (HH1.out.step h12)
        clear h12
        go_wp2
        go_ret
        exact ⟨ret_b HX.out.symm, HW2.out⟩
      rcases HORD with ⟨hk0, hso⟩ | ⟨m, q, hkm, hso, p0⟩
      · have hk1 : decide (0 < k) = false := decide_eq_false (by omega)
        have hk2 : ¬ 0 < k := by omega
        subst hso
        clear hk0
        cases bv
        · have HX := HX0 k hlt (by rw [HGA.out]; rfl)
          clear HX0 HY0
          have qz0 := cell_regrown z0
          have qz1 := cell_regrown z1
          have qz2 := cell_regrown z2
          have qz3 := cell_regrown z3
          have qz4 := cell_regrown z4
          have qv0 := cell_regrown v0
          have qv1 := cell_regrown v1
          have cN := Lib.hid fun d os => Calls.regrown_of (d := d) (os := os) (HN (grow (redrawn w1 d) os)).out
          have cV := Lib.hid fun d os => Calls.regrown_of (d := d) (os := os) (HV (grow (redrawn w1 d) os)).out
          refine wp_region_quiet_below (by kernel_rfl) (by kernel_rfl) ?_
          repeat (go_big_quiet_step (first | (go_at_call 45; (with_reducible exact cN.out _ _)) | (go_at_call 46; (with_reducible exact cV.out _ _))))
          refine wpQuiet_nil ?_
          intro w2 hw'
          obtain ⟨⟨dq, osq⟩, hw''⟩ := hw'
          have h12 : Held w1 w2 := by rw [hw'']; exact below_regrown w1 dq osq
          clear hw'' qz0 qz1 qz2 qz3 qz4 qv0 qv1 cN cV
          have HW2 := Lib.hid (HH1.out.step h12)
          clear h12
          go_wp2
          go_ret
          exact ⟨ret_b HX.out.symm, HW2.out⟩
        · have qz0 := cell_regrown z0
          have qz1 := cell_regrown z1
          have qz2 := cell_regrown z2
          have qz3 := cell_regrown z3
          have qz4 := cell_regrown z4
          have qv0 := cell_regrown v0
          have qv1 := cell_regrown v1
          have cN := Lib.hid fun d os => Calls.regrown_of (d := d) (os := os) (HN (grow (redrawn w1 d) os)).out
          have cV := Lib.hid fun d os => Calls.regrown_of (d := d) (os := os) (HV (grow (redrawn w1 d) os)).out
          refine wp_region_quiet_below (by kernel_rfl) (by kernel_rfl) ?_
          repeat (go_big_quiet_step (first | (go_at_call 45; (with_reducible exact cN.out _ _)) | (go_at_call 46; (with_reducible exact cV.out _ _))))
          refine wpQuiet_nil ?_
          intro w2 hw'
          obtain ⟨⟨dq, osq⟩, hw''⟩ := hw'
          have h12 : Held w1 w2 := by rw [hw'']; exact below_regrown w1 dq osq
          clear hw'' qz0 qz1 qz2 qz3 qz4 qv0 qv1 cN cV
          have HW2 := Lib.hid (HH1.out.step h12)
          have HB2 := Lib.hid (HHB1.out.step h12)
          have a0 := h12.cell v0
          have a1 := h12.cell v1
          have a5 := h12.cell z5
          have a6 := h12.cell z6
          clear h12 z0 z1 z2 z3 z4 z5 z6 v0 v1
          cases tx
          · have HX := HX0 k hlt (by rw [HGA.out]; rfl)
            clear HX0 HY0
            go_wp2_with (go_at_call 47; (with_reducible refine (hIHx _).out.mono ?_); rintro e w3 ⟨rfl, h3⟩)
            go_ret
            exact ⟨ret_b HX.out.symm, HW2.out.step h3⟩
          · cases ty
            · have HX := HX0 k hlt (by rw [HGA.out]; rfl)
              clear HX0 HY0
              go_wp2_with (first | (go_at_call 47; (with_reducible refine (hIHy _).out.mono ?_); rintro e w4 ⟨rfl, h4⟩; have h34 := h3.step h4) | (go_at_call 47; (with_reducible refine (hIHx _).out.mono ?_); rintro e w3 ⟨rfl, h3⟩; have b0 := h3.cell a0; have b1 := h3.cell a1; have b5 := h3.cell a5; have b6 := h3.cell a6; clear a0 a1 a5 a6))
              go_ret
              exact ⟨ret_b HX.out.symm, HW2.out.step h34⟩
            · by_cases hxy : x = y
              · have HX := HX0 k hlt (by rw [HGA.out]; simp [hxy])
                have hq : (x == y) = true := by simp [hxy]
                clear HX0 HY0 hxy
                go_wp2_with (first | (go_at_call 47; (with_reducible refine (hIHy _).out.mono ?_); rintro e w4 ⟨rfl, h4⟩; have h34 := h3.step h4; have d5 := h4.cell b5; have d6 := h4.cell b6; clear b0 b1 b5 b6) | (go_at_call 47; (with_reducible refine (hIHx _).out.mono ?_); rintro e w3 ⟨rfl, h3⟩; have b0 := h3.cell a0; have b1 := h3.cell a1; have b5 := h3.cell a5; have b6 := h3.cell a6; clear a0 a1 a5 a6))
                go_ret
                exact ⟨ret_b HX.out.symm, HW2.out.step h34⟩
              · have hq : (x == y) = false := by simp [hxy]
                have HA2 : Is (allN (gAt hn G) (k + 1)) true := ⟨allN_step HALL.out (by rw [HGA.out]; simp [hxy])⟩
                clear hxy
                go_wp2_with (first | (go_at_call 47; (with_reducible refine (hIHy _).out.mono ?_); rintro e w4 ⟨rfl, h4⟩; have h34 := h3.step h4; have d5 := h4.cell b5; have d6 := h4.cell b6; clear b0 b1 b5 b6) | (go_at_call 47; (with_reducible refine (hIHx _).out.mono ?_); rintro e w3 ⟨rfl, h3⟩; have b0 := h3.cell a0; have b1 := h3.cell a1; have b5 := h3.cell a5; have b6 := h3.cell a6; clear a0 a1 a5 a6))
                go_roundw
                case rel => exact ⟨k + 1, by omega, by go_num, HA2, HB2.out.step h34⟩
                case measure => simp [intOf]; omega
      · have hk1 : decide (0 < k) = true := decide_eq_true (by omega)
        have hk2 : 0 < k := by omega
        have hwrap : IntKind.i64.wrap ((k : Int) - 1) = (m : Int) := by unfold IntKind.wrap; simp [IntKind.signed, IntKind.bits]; omega
        have hm1 : (m : Int) < (gn : Int) := by omega
        have hm2 : ¬ (m : Int) < 0 := by omega
        have hls : (Op.bytesLess nm.toList q.nm.toList || nm.toList == q.nm.toList) = !so := by rw [leq_not, hso.out]
        have p1 := HHB1.out.cell (HB0.out)
        have y0 : w1.cell? ⟨b, off + m * 7, none⟩ = some (.string q.nm) := H1.cell p0
        generalize q.nm = qn at *
        clear hso p0 p1 hkm
        cases so <;> simp only [Bool.not_false, Bool.not_true] at hls
        · have HX := HX0 k hlt (by rw [HGA.out]; cases bv <;> cases tx <;> cases ty <;> cases (decide (x ≠ y)) <;> rfl)
          clear HX0 HY0
          have qz0 := cell_regrown z0
          have qz1 := cell_regrown z1
          have qz2 := cell_regrown z2
          have qz3 := cell_regrown z3
          have qz4 := cell_regrown z4
          have qv0 := cell_regrown v0
          have qv1 := cell_regrown v1
          have qy0 := cell_regrown y0
          have cN := Lib.hid fun d os => Calls.regrown_of (d := d) (os := os) (HN (grow (redrawn w1 d) os)).out
          refine wp_region_quiet_below (by kernel_rfl) (by kernel_rfl) ?_
          repeat (go_big_quiet_step (first | (go_at_call 45; (with_reducible exact cN.out _ _))))
          refine wpQuiet_nil ?_
          intro w2 hw'
          obtain ⟨⟨dq, osq⟩, hw''⟩ := hw'
          have h12 : Held w1 w2 := by rw [hw'']; exact below_regrown w1 dq osq
          clear hw'' qz0 qz1 qz2 qz3 qz4 qv0 qv1 qy0 cN
          have HW2 := Lib.hid (HH1.out.step h12)
          clear h12
          go_wp2
          go_ret
          exact ⟨ret_b HX.out.symm, HW2.out⟩
        · cases bv
          · have HX := HX0 k hlt (by rw [HGA.out]; rfl)
            clear HX0 HY0
            have qz0 := cell_regrown z0
            have qz1 := cell_regrown z1
            have qz2 := cell_regrown z2
            have qz3 := cell_regrown z3
            have qz4 := cell_regrown z4
            have qv0 := cell_regrown v0
            have qv1 := cell_regrown v1
            have qy0 := cell_regrown y0
            have cN := Lib.hid fun d os => Calls.regrown_of (d := d) (os := os) (HN (grow (redrawn w1 d) os)).out
            have cV := Lib.hid fun d os => Calls.regrown_of (d := d) (os := os) (HV (grow (redrawn w1 d) os)).out
            refine wp_region_quiet_below (by kernel_rfl) (by kernel_rfl) ?_
            repeat (go_big_quiet_step (first | (go_at_call 45; (with_reducible exact cN.out _ _)) | (go_at_call 46; (with_reducible exact cV.out _ _))))
            refine wpQuiet_nil ?_
            intro w2 hw'
            obtain ⟨⟨dq, osq⟩, hw''⟩ := hw'
            have h12 : Held w1 w2 := by rw [hw'']; exact below_regrown w1 dq osq
            clear hw'' qz0 qz1 qz2 qz3 qz4 qv0 qv1 qy0 cN cV
            have HW2 := Lib.hid (HH1.out.step h12)
            clear h12
            go_wp2
            go_ret
            exact ⟨ret_b HX.out.symm, HW2.out⟩
          · have qz0 := cell_regrown z0
            have qz1 := cell_regrown z1
            have qz2 := cell_regrown z2
            have qz3 := cell_regrown z3
            have qz4 := cell_regrown z4
            have qv0 := cell_regrown v0
            have qv1 := cell_regrown v1
            have qy0 := cell_regrown y0
            have cN := Lib.hid fun d os => Calls.regrown_of (d := d) (os := os) (HN (grow (redrawn w1 d) os)).out
            have cV := Lib.hid fun d os => Calls.regrown_of (d := d) (os := os) (HV (grow (redrawn w1 d) os)).out
            refine wp_region_quiet_below (by kernel_rfl) (by kernel_rfl) ?_
            repeat (go_big_quiet_step (first | (go_at_call 45; (with_reducible exact cN.out _ _)) | (go_at_call 46; (with_reducible exact cV.out _ _))))
            refine wpQuiet_nil ?_
            intro w2 hw'
            obtain ⟨⟨dq, osq⟩, hw''⟩ := hw'
            have h12 : Held w1 w2 := by rw [hw'']; exact below_regrown w1 dq osq
            clear hw'' qz0 qz1 qz2 qz3 qz4 qv0 qv1 qy0 cN cV
            have HW2 := Lib.hid (HH1.out.step h12)
            have HB2 := Lib.hid (HHB1.out.step h12)
            have a0 := h12.cell v0
            have a1 := h12.cell v1
            have a5 := h12.cell z5
            have a6 := h12.cell z6
            clear h12 z0 z1 z2 z3 z4 z5 z6 v0 v1
            cases tx
            · have HX := HX0 k hlt (by rw [HGA.out]; rfl)
              clear HX0 HY0
              go_wp2_with (go_at_call 47; (with_reducible refine (hIHx _).out.mono ?_); rintro e w3 ⟨rfl, h3⟩)
              go_ret
              exact ⟨ret_b HX.out.symm, HW2.out.step h3⟩
            · cases ty
              · have HX := HX0 k hlt (by rw [HGA.out]; rfl)
                clear HX0 HY0
                go_wp2_with (first | (go_at_call 47; (with_reducible refine (hIHy _).out.mono ?_); rintro e w4 ⟨rfl, h4⟩; have h34 := h3.step h4) | (go_at_call 47; (with_reducible refine (hIHx _).out.mono ?_); rintro e w3 ⟨rfl, h3⟩; have b0 := h3.cell a0; have b1 := h3.cell a1; have b5 := h3.cell a5; have b6 := h3.cell a6; clear a0 a1 a5 a6))
                go_ret
                exact ⟨ret_b HX.out.symm, HW2.out.step h34⟩
              · by_cases hxy : x = y
                · have HX := HX0 k hlt (by rw [HGA.out]; simp [hxy])
                  have hq : (x == y) = true := by simp [hxy]
                  clear HX0 HY0 hxy
                  go_wp2_with (first | (go_at_call 47; (with_reducible refine (hIHy _).out.mono ?_); rintro e w4 ⟨rfl, h4⟩; have h34 := h3.step h4; have d5 := h4.cell b5; have d6 := h4.cell b6; clear b0 b1 b5 b6) | (go_at_call 47; (with_reducible refine (hIHx _).out.mono ?_); rintro e w3 ⟨rfl, h3⟩; have b0 := h3.cell a0; have b1 := h3.cell a1; have b5 := h3.cell a5; have b6 := h3.cell a6; clear a0 a1 a5 a6))
                  go_ret
                  exact ⟨ret_b HX.out.symm, HW2.out.step h34⟩
                · have hq : (x == y) = false := by simp [hxy]
                  have HA2 : Is (allN (gAt hn G) (k + 1)) true := ⟨allN_step HALL.out (by rw [HGA.out]; simp [hxy])⟩
                  clear hxy
                  go_wp2_with (first | (go_at_call 47; (with_reducible refine (hIHy _).out.mono ?_); rintro e w4 ⟨rfl, h4⟩; have h34 := h3.step h4; have d5 := h4.cell b5; have d6 := h4.cell b6; clear b0 b1 b5 b6) | (go_at_call 47; (with_reducible refine (hIHx _).out.mono ?_); rintro e w3 ⟨rfl, h3⟩; have b0 := h3.cell a0; have b1 := h3.cell a1; have b5 := h3.cell a5; have b6 := h3.cell a6; clear a0 a1 a5 a6))
                  go_roundw
                  case rel => exact ⟨k + 1, by omega, by go_num, HA2, HB2.out.step h34⟩
                  case measure => simp [intOf]; omega
    · have HJ : Is k gn := ⟨by omega⟩
      have HG0 : Is (okGs ⟨H, G⟩) true := ⟨by unfold okGs; simp only; rw [HGL.out, HHL.out, ← HJ.out]; exact HALL.out⟩
      have e0 := HHR.out.cell HB0.out
      have e1 := HHR.out.cell HB1.out
      have hkn : ¬ k < gn := hlt
      clear HX0 HJ HALL
      obtain ⟨w0, hw0⟩ : ∃ w0, wr = w0 := ⟨_, rfl⟩
      rw [hw0] at HHR e0 e1 ⊢
      clear hw0
      go_wp2
      go_loopw [78] (fun i wr => ∃ k : Nat, k ≤ hn ∧ i = .int .i64 k ∧ Is (allN (fun i => vAt H i && fAt H G i) k) true ∧ Held wb wr) (fun i _ => hn - (intOf i).toNat)
      case atStart => exact ⟨0, Nat.zero_le _, rfl, ⟨rfl⟩, HHR.out⟩
      case round =>
        obtain ⟨j, hj, rfl, HALL, hh⟩ := hrel
        clear HHR e0 e1
        have HHR := Lib.hid hh
        clear hh
        by_cases hlt2 : j < hn
        · obtain ⟨b, off, m, c, up, rfl, lb, hp, p0, p1, p2⟩ := capAt HH.out (HWB.out.step HHR.out) hlt2
          have e0 := HHR.out.cell HB0.out
          have e1 := HHR.out.cell HB1.out
          have HVF : Is (vAt H j && fAt H G j) (vh m c && (!up || fits m c up (on G j))) := ⟨vf_at hp⟩
          clear hp
          have j0 : ¬ (j : Int) < 0 := by omega
          have HV : ∀ w, Hid (Calls Try.prog 48 #[.agg #[.int .i64 m, .int .i64 c, .bool up]] w fun e w' => e = .returned (.bool (vh m c)) ∧ Held w w') := fun w => vh_any m c up w
          have hol := on_len G j
          have hol2 : ((on G j).length : Int) ≤ 100 := by rw [HGL.out] at hol; omega
          have HON : ∀ w1, Held w w1 → Hid (Calls Try.prog 50 #[.slice GA gn gc, .int .i64 j] w1 (MakesDs (on G j) w1)) := fun w1 h1 => on_any GA gn gc G j w1 (ps_of (HG.out.held h1)) (by omega)
          generalize on G j = D at *
          clear hol
          obtain ⟨bv, hbv⟩ : ∃ bv, vh m c = bv := ⟨_, rfl⟩
          rw [hbv] at HVF
          simp only [hbv] at HV
          clear hbv
          obtain ⟨w1, hw1⟩ : ∃ w1, wr.alloc (.cells #[.int .i64 m, .int .i64 c, .bool up] 25) = w1 := ⟨_, rfl⟩
          have z0 : w1.cell? ⟨wr.heap.size, 0, none⟩ = some (.int .i64 m) := by rw [← hw1]; exact Bx.cell (Bx.new wr _) 0 rfl
          have z1 : w1.cell? ⟨wr.heap.size, 1, none⟩ = some (.int .i64 c) := by rw [← hw1]; exact Bx.cell (Bx.new wr _) 1 rfl
          have z2 : w1.cell? ⟨wr.heap.size, 2, none⟩ = some (.bool up) := by rw [← hw1]; exact Bx.cell (Bx.new wr _) 2 rfl
          have H1 : Held wr w1 := by rw [← hw1]; exact (Held.refl wr).alloc _
          have v0 := H1.cell e0
          have v1 := H1.cell e1
          have HH1 := Lib.hid (HWB.out.step (HHR.out.step H1))
          have HHB1 := Lib.hid (HHR.out.step H1)
          go_upto_region 14 with (fail)
          clear hw1 e0 e1 p0 p1 p2
          generalize wr.heap.size = B at *
          cases bv
          · have HX := HY0 j hlt2 (by rw [HVF.out]; rfl)
            clear HY0
            have qz0 := cell_regrown z0
            have qz1 := cell_regrown z1
            have qz2 := cell_regrown z2
            have cH := Lib.hid fun d os => Calls.regrown_of (d := d) (os := os) (HV (grow (redrawn w1 d) os)).out
            refine wp_region_quiet_below (by kernel_rfl) (by kernel_rfl) ?_
            repeat (go_big_quiet_step (first | (go_at_call 48; (with_reducible exact cH.out _ _))))
            refine wpQuiet_nil ?_
            intro w2 hw'
            obtain ⟨⟨dq, osq⟩, hw''⟩ := hw'
            have h12 : Held w1 w2 := by rw [hw'']; exact below_regrown w1 dq osq
            clear hw'' qz0 qz1 qz2 cH
            have HW2 := Lib.hid (HH1.out.step h12)
            clear h12
            go_wp2
            go_ret
            exact ⟨ret_b HX.out.symm, HW2.out⟩
          · cases up
            · have HA2 : Is (allN (fun i => vAt H i && fAt H G i) (j + 1)) true := ⟨allN_step HALL.out (show (vAt H j && fAt H G j) = true by rw [HVF.out]; rfl)⟩
              have qz0 := cell_regrown z0
              have qz1 := cell_regrown z1
              have qz2 := cell_regrown z2
              have cH := Lib.hid fun d os => Calls.regrown_of (d := d) (os := os) (HV (grow (redrawn w1 d) os)).out
              refine wp_region_quiet_below (by kernel_rfl) (by kernel_rfl) ?_
              repeat (go_big_quiet_step (first | (go_at_call 48; (with_reducible exact cH.out _ _))))
              refine wpQuiet_nil ?_
              intro w2 hw'
              obtain ⟨⟨dq, osq⟩, hw''⟩ := hw'
              have h12 : Held w1 w2 := by rw [hw'']; exact below_regrown w1 dq osq
              clear hw'' qz0 qz1 qz2 cH
              have HB2 := Lib.hid (HHB1.out.step h12)
              go_wp2
              go_roundw
              case rel => exact ⟨j + 1, by omega, by go_num, HA2, HB2.out⟩
              case measure => simp [intOf]; omega
            · obtain ⟨q, hq⟩ : ∃ q, fits m c true D = q := ⟨_, rfl⟩
              have HQ := Lib.hid hq
              rw [hq] at HVF
              clear hq
              have HR3 : ∀ S : Prop, S → True := fun _ _ => trivial
              cases q
              · have HX := HY0 j hlt2 (by rw [HVF.out]; rfl)
                clear HY0 HR3
                go_region_held3 (fun w' => w'.cell? ⟨B, 0, none⟩ = some (.int .i64 m) ∧ w'.cell? ⟨B, 1, none⟩ = some (.int .i64 c) ∧ w'.cell? ⟨B, 2, none⟩ = some (.bool true) ∧ w'.cell? ⟨w.heap.size, 1, none⟩ = some (.slice GA gn gc) ∧ Held w1 w')
                  ((repeat' refine And.intro ?_ ?_) <;> first | exact z0 | exact z1 | exact z2 | exact v1 | exact (Held.refl _).drew | exact Held.cell (by assumption) z0 | exact Held.cell (by assumption) z1 | exact Held.cell (by assumption) z2 | exact Held.cell (by assumption) v1 | exact (by assumption))
                  (first | (go_at_call 48; (with_reducible refine (HV _).out.mono ?_); rintro e w2 ⟨rfl, h2⟩; have k2 : Held w1 w2 := (Held.refl _).drew.step h2) | (go_at_call 50; refine (HON _ (HH1.out.step k2)).out.mono ?_; rintro e w3 ⟨v3, rfl, ho3, h3⟩; obtain ⟨A3, cp3, rfl, hcp3⟩ := own_slice ho3; obtain ⟨hds, _, _⟩ := ds_of_own ho3; have HDS := Lib.hid hds; have k3 : Held w1 w3 := k2.step h3; clear ho3 hds) | (go_at_call 49; refine (fits_any _ _ _ _ _ _ D _ HDS.out hol2 hcp3).mono ?_; rintro e w5 ⟨rfl, h5⟩; rw [HQ.out]; have k5 : Held w1 w5 := k3.step h5))
                go_wp2
                go_ret
                exact ⟨ret_b HX.out.symm, HH1.out.step k5⟩
              · have HA2 : Is (allN (fun i => vAt H i && fAt H G i) (j + 1)) true := ⟨allN_step HALL.out (show (vAt H j && fAt H G j) = true by rw [HVF.out]; rfl)⟩
                clear HR3
                go_region_held3 (fun w' => w'.cell? ⟨B, 0, none⟩ = some (.int .i64 m) ∧ w'.cell? ⟨B, 1, none⟩ = some (.int .i64 c) ∧ w'.cell? ⟨B, 2, none⟩ = some (.bool true) ∧ w'.cell? ⟨w.heap.size, 1, none⟩ = some (.slice GA gn gc) ∧ Held w1 w')
                  ((repeat' refine And.intro ?_ ?_) <;> first | exact z0 | exact z1 | exact z2 | exact v1 | exact (Held.refl _).drew | exact Held.cell (by assumption) z0 | exact Held.cell (by assumption) z1 | exact Held.cell (by assumption) z2 | exact Held.cell (by assumption) v1 | exact (by assumption))
                  (first | (go_at_call 48; (with_reducible refine (HV _).out.mono ?_); rintro e w2 ⟨rfl, h2⟩; have k2 : Held w1 w2 := (Held.refl _).drew.step h2) | (go_at_call 50; refine (HON _ (HH1.out.step k2)).out.mono ?_; rintro e w3 ⟨v3, rfl, ho3, h3⟩; obtain ⟨A3, cp3, rfl, hcp3⟩ := own_slice ho3; obtain ⟨hds, _, _⟩ := ds_of_own ho3; have HDS := Lib.hid hds; have k3 : Held w1 w3 := k2.step h3; clear ho3 hds) | (go_at_call 49; refine (fits_any _ _ _ _ _ _ D _ HDS.out hol2 hcp3).mono ?_; rintro e w5 ⟨rfl, h5⟩; rw [HQ.out]; have k5 : Held w1 w5 := k3.step h5))
                go_wp2
                go_roundw
                case rel => exact ⟨j + 1, by omega, by go_num, HA2, HHB1.out.step k5⟩
                case measure => simp [intOf]; omega
        · have HJ : Is j hn := ⟨by omega⟩
          have HO : Is (okHs ⟨H, G⟩) true := ⟨by unfold okHs; simp only; rw [HHL.out, ← HJ.out]; exact HALL.out⟩
          have HX : Is (validR ⟨H, G⟩) true := ⟨validR_yes HFEW.out HG0.out HO.out⟩
          clear HY0 HJ
          go_wp2
          go_ret
          exact ⟨ret_b HX.out.symm, HWB.out.step HHR.out⟩
end Jn
end Go.Proofs.Ytmmnanmegdflgaa
