/-
  Contracts: move of the reference (chapter 42).
-/
import Derived.Test.YtmmnanmegdflgaaZ16
set_option linter.unusedVariables false
set_option linter.unusedSimpArgs false
set_option maxRecDepth 100000
namespace Go.Proofs.Ytmmnanmegdflgaa
open Go.RowKit Go.BigFrame Go.Sort
namespace Jn
open Ad Adm Law39
set_option maxHeartbeats 4000000 in
theorem move_ref_any (HA : Option Addr) (n hc : Nat) (GA : Option Addr) (gn gc : Nat) (r : Reg) (k : Int) (nm : ByteArray) (a b dr dl dc dg cm cc : Int) (up : Bool) (w : World) (h : RegR w HA n GA gn r) (hcp : Caps HA n hc GA gn gc) (hs : Srt r.gs) (hl : (n : Int) ≤ 1000) (hg : (gn : Int) ≤ 50) :
    Calls Try.prog 44 #[.agg #[.slice HA n hc, .slice GA gn gc], .agg #[.int .i64 k, .string nm, .int .i64 a, .int .i64 b, .int .i64 dr, .int .i64 dl, .int .i64 dc, .int .i64 dg, .int .i64 cm, .int .i64 cc, .bool up]] w (ApTo (move r ⟨k, nm, a, b, ⟨dr, dl, dc, dg⟩, ⟨cm, cc, up⟩⟩) w) := by
  have HR := Lib.hid h
  have HNL : Is r.hs.length n := ⟨h.hs.1⟩
  have HGL : Is r.gs.length gn := ⟨h.gs.1⟩
  obtain ⟨W2, hW2⟩ : ∃ W2, ((w.alloc (.cells #[.slice HA n hc, .slice GA gn gc] 37)).alloc (.cells #[.int .i64 k, .string nm, .int .i64 a, .int .i64 b, .int .i64 dr, .int .i64 dl, .int .i64 dc, .int .i64 dg, .int .i64 cm, .int .i64 cc, .bool up] 27)).alloc (.cells #[.slice none 0 0, .slice none 0 0] 37) = W2 := ⟨_, rfl⟩
  have M : Hid (Mem w W2 [.box w.heap.size #[.slice HA n hc, .slice GA gn gc] 37, .box (w.heap.size + 1) #[.int .i64 k, .string nm, .int .i64 a, .int .i64 b, .int .i64 dr, .int .i64 dl, .int .i64 dc, .int .i64 dg, .int .i64 cm, .int .i64 cc, .bool up] 27, .box (w.heap.size + 1 + 1) #[.slice none 0 0, .slice none 0 0] 37]) := by
    rw [← hW2]; exact (((Mem.start w).alloc' (b := w.heap.size) rfl _ _).alloc' (b := w.heap.size + 1) (by simp) _ _).alloc' (b := w.heap.size + 1 + 1) (by simp) _ _
  have HEQ := Lib.hid hW2
  clear hW2 h
  have HSRT := Lib.hid hs
  clear hs
  have hfind := find_ref_any HA n hc GA gn gc r.gs nm W2 (HR.out.gs.held M.out.held) HSRT.out (by omega)
  obtain ⟨⟨c0, c1⟩, ⟨e0, e1⟩, ltc⟩ := M.out.box2 0 rfl
  obtain ⟨⟨m0, m1, m2, m3, m4, m5, m6, m7, m8, m9, m10⟩, _, ltm⟩ := M.out.box11 1 rfl
  obtain ⟨⟨d0, d1⟩, ⟨f0, f1⟩, ltd⟩ := M.out.box2 2 rfl
  cases hh : hasG r.gs nm
  · have HX : Is (move r ⟨k, nm, a, b, ⟨dr, dl, dc, dg⟩, ⟨cm, cc, up⟩⟩) (r, 4202) := ⟨move_no hh⟩
    rw [findZ_no hh] at hfind
    have HFI := Lib.hid hfind
    clear hfind hh
    go_enter Try.func44, Try.ntmps44
    go_wp2_with fail
    rw [HEQ.out]
    refine HFI.out.mono ?_
    rintro e w3 ⟨rfl, h3⟩
    have M3 := Lib.hid (M.out.keep h3)
    clear M h3 HFI
    clear c0 c1 e0 e1 m0 m1 m2 m3 m4 m5 m6 m7 m8 m9 m10 d0 d1 f0 f1 ltc ltm ltd
    obtain ⟨⟨c0, c1⟩, ⟨e0, e1⟩, ltc⟩ := M3.out.box2 0 rfl
    obtain ⟨⟨m0, m1, m2, m3, m4, m5, m6, m7, m8, m9, m10⟩, _, ltm⟩ := M3.out.box11 1 rfl
    obtain ⟨⟨d0, d1⟩, ⟨f0, f1⟩, ltd⟩ := M3.out.box2 2 rfl
    go_wp2
    have MF := (M3.out.put 2 rfl 0 (.slice HA n hc)).put 2 rfl 1 (.slice GA gn gc)
    refine bodyPost_ret (Bx.res_ct Try.results44 rfl (reg_load (MF.blk 2 rfl))) rfl ?_
    rw [HX.out]
    exact ⟨_, _, _, _, _, _, rfl, MF.held, HR.out.held MF.held, hcp⟩
  have HHAS : Is (hasG r.gs nm) true := ⟨hh⟩
  obtain ⟨pp, hpp, _, hpl⟩ := has_at hh
  rw [HGL.out] at hpl
  rw [findZ_yes hh] at hfind
  clear hh
  obtain ⟨q, hq⟩ : ∃ q, pos r.gs nm = q := ⟨_, rfl⟩
  have HQ : Is (pos r.gs nm) q := ⟨hq⟩
  have HXP : Is (r.gs[pos r.gs nm]?) (some pp) := ⟨hpp⟩
  rw [hq] at hpp hpl hfind
  have HFI := Lib.hid hfind
  obtain ⟨b2, o2, pn, pr, pl, pc, pg, px, py, hGA, _, hx2, s0, s1, s2, s3, s4, s5, s6⟩ := plAt HR.out.gs (Held.refl w) hpl
  subst hGA
  rw [hpp] at hx2
  injection hx2 with hx2
  subst hx2
  have ZF : Hid (∀ w', Held w w' → w'.cell? ⟨b2, o2 + q * 7 + 1, none⟩ = some (.int .i64 pr) ∧ w'.cell? ⟨b2, o2 + q * 7 + 2, none⟩ = some (.int .i64 pl) ∧ w'.cell? ⟨b2, o2 + q * 7 + 3, none⟩ = some (.int .i64 pc) ∧ w'.cell? ⟨b2, o2 + q * 7 + 4, none⟩ = some (.int .i64 pg) ∧ w'.cell? ⟨b2, o2 + q * 7 + 5, none⟩ = some (.int .i64 px) ∧ w'.cell? ⟨b2, o2 + q * 7 + 6, none⟩ = some (.int .i64 py)) := (fun w' h => ⟨h.cell s1, h.cell s2, h.cell s3, h.cell s4, h.cell s5, h.cell s6⟩ : ∀ w', Held w w' → _)
  clear s0 s1 s2 s3 s4 s5 s6
  have HX2 : Is (r.gs[q]?) (some ⟨pn, ⟨pr, pl, pc, pg⟩, px, py⟩) := ⟨hpp⟩
  have qn0 : (q : Int) < gn := by omega
  have qp0 : ¬ (q : Int) < 0 := by omega
  obtain ⟨L', hL'⟩ : ∃ L', r.gs.eraseIdx q = L' := ⟨_, rfl⟩
  have HERP : Is (r.gs.eraseIdx q) L' := ⟨hL'⟩
  have hLl : (L'.length : Int) ≤ 50 := by rw [← hL']; have := List.length_eraseIdx_le r.gs q; rw [HGL.out] at this; omega
  clear hfind hq hpp hL'
  have HI : ∀ w, Hid (Calls Try.prog 60 #[.slice HA n hc, .int .i64 b] w fun e w' => e = .returned (.bool (there n b)) ∧ Held w w') := fun w => there_ref_any HA n hc b (by omega) w
  obtain ⟨tb, htb⟩ : ∃ tb, there n b = tb := ⟨_, rfl⟩
  have HTB : Is (there n b) tb := ⟨htb⟩
  simp only [htb] at HI
  clear htb
  by_cases ha0 : a = 0
  · subst ha0
    cases tb
    · have HX : Is (move r ⟨k, nm, 0, b, ⟨dr, dl, dc, dg⟩, ⟨cm, cc, up⟩⟩) (r, 4200) := ⟨move_bad HHAS.out HXP.out (by unfold moveBad; simp only; rw [HNL.out, HTB.out]; simp)⟩
      go_enter Try.func44, Try.ntmps44
      go_wp2_with fail
      rw [HEQ.out]
      refine HFI.out.mono ?_
      rintro e w3 ⟨rfl, h3⟩
      have M3 := Lib.hid (M.out.keep h3)
      clear M h3 HFI
      clear c0 c1 e0 e1 m0 m1 m2 m3 m4 m5 m6 m7 m8 m9 m10 d0 d1 f0 f1 ltc ltm ltd
      obtain ⟨⟨c0, c1⟩, ⟨e0, e1⟩, ltc⟩ := M3.out.box2 0 rfl
      obtain ⟨⟨m0, m1, m2, m3, m4, m5, m6, m7, m8, m9, m10⟩, _, ltm⟩ := M3.out.box11 1 rfl
      obtain ⟨⟨d0, d1⟩, ⟨f0, f1⟩, ltd⟩ := M3.out.box2 2 rfl
      obtain ⟨z1, z2, z3, z4, z5, z6⟩ := ZF.out _ M3.out.held
      have hw0 : IntKind.i64.wrap ((1 : Int) - 0) = 1 := by decide
      have hw1 : IntKind.i64.wrap 1 = 1 := by decide
      have hw2 : (1 : Int) - 0 = 1 := by decide
      have qc0 := cell_regrown c0
      have qc1 := cell_regrown c1
      have qm2 := cell_regrown m2
      have qm3 := cell_regrown m3
      have qz6 := cell_regrown z6
      have cI := Lib.hid fun d os => Calls.regrown_of (d := d) (os := os) (HI (grow (redrawn w3 d) os)).out
      go_wp2
      refine wp_region_quiet_below (by kernel_rfl) (by kernel_rfl) ?_
      repeat (go_big_quiet_step (first | (go_at_call 60; (with_reducible exact cI.out _ _))))
      refine wpQuiet_nil ?_
      intro w4 hw'
      obtain ⟨⟨dq, osq⟩, hw''⟩ := hw'
      have h12 : Held w3 w4 := by rw [hw'']; exact below_regrown w3 dq osq
      clear hw'' qc0 qc1 qm2 qm3 qz6 cI
      have M4 := Lib.hid (M3.out.keep h12)
      clear M3 h12
      clear c0 c1 e0 e1 m0 m1 m2 m3 m4 m5 m6 m7 m8 m9 m10 d0 d1 f0 f1 ltc ltm ltd
      clear z1 z2 z3 z4 z5 z6
      obtain ⟨⟨c0, c1⟩, ⟨e0, e1⟩, ltc⟩ := M4.out.box2 0 rfl
      obtain ⟨⟨m0, m1, m2, m3, m4, m5, m6, m7, m8, m9, m10⟩, _, ltm⟩ := M4.out.box11 1 rfl
      obtain ⟨⟨d0, d1⟩, ⟨f0, f1⟩, ltd⟩ := M4.out.box2 2 rfl
      go_wp2
      have MF := (M4.out.put 2 rfl 0 (.slice HA n hc)).put 2 rfl 1 (.slice (some ⟨b2, o2, none⟩) gn gc)
      refine bodyPost_ret (Bx.res_ct Try.results44 rfl (reg_load (MF.blk 2 rfl))) rfl ?_
      rw [HX.out]
      exact ⟨_, _, _, _, _, _, rfl, MF.held, HR.out.held MF.held, hcp⟩
    obtain ⟨ib, hib, hibn⟩ := there_nat HTB.out
    subst hib
    have HTB2 : Is (there n (ib : Int)) true := HTB
    by_cases hsb : py = (ib : Int)
    · have HX : Is (move r ⟨k, nm, 0, (ib : Int), ⟨dr, dl, dc, dg⟩, ⟨cm, cc, up⟩⟩) (r, 4200) := ⟨move_bad HHAS.out HXP.out (by unfold moveBad; simp only; rw [HNL.out, HTB2.out]; simp [side]; exact hsb)⟩
      have hsb1 : (py == (ib : Int)) = true := by simp [hsb]
      clear hsb
      go_enter Try.func44, Try.ntmps44
      go_wp2_with fail
      rw [HEQ.out]
      refine HFI.out.mono ?_
      rintro e w3 ⟨rfl, h3⟩
      have M3 := Lib.hid (M.out.keep h3)
      clear M h3 HFI
      clear c0 c1 e0 e1 m0 m1 m2 m3 m4 m5 m6 m7 m8 m9 m10 d0 d1 f0 f1 ltc ltm ltd
      obtain ⟨⟨c0, c1⟩, ⟨e0, e1⟩, ltc⟩ := M3.out.box2 0 rfl
      obtain ⟨⟨m0, m1, m2, m3, m4, m5, m6, m7, m8, m9, m10⟩, _, ltm⟩ := M3.out.box11 1 rfl
      obtain ⟨⟨d0, d1⟩, ⟨f0, f1⟩, ltd⟩ := M3.out.box2 2 rfl
      obtain ⟨z1, z2, z3, z4, z5, z6⟩ := ZF.out _ M3.out.held
      have hw0 : IntKind.i64.wrap ((1 : Int) - 0) = 1 := by decide
      have hw1 : IntKind.i64.wrap 1 = 1 := by decide
      have hw2 : (1 : Int) - 0 = 1 := by decide
      have qc0 := cell_regrown c0
      have qc1 := cell_regrown c1
      have qm2 := cell_regrown m2
      have qm3 := cell_regrown m3
      have qz6 := cell_regrown z6
      have cI := Lib.hid fun d os => Calls.regrown_of (d := d) (os := os) (HI (grow (redrawn w3 d) os)).out
      go_wp2
      refine wp_region_quiet_below (by kernel_rfl) (by kernel_rfl) ?_
      repeat (go_big_quiet_step (first | (go_at_call 60; (with_reducible exact cI.out _ _))))
      refine wpQuiet_nil ?_
      intro w4 hw'
      obtain ⟨⟨dq, osq⟩, hw''⟩ := hw'
      have h12 : Held w3 w4 := by rw [hw'']; exact below_regrown w3 dq osq
      clear hw'' qc0 qc1 qm2 qm3 qz6 cI
      have M4 := Lib.hid (M3.out.keep h12)
      clear M3 h12
      clear c0 c1 e0 e1 m0 m1 m2 m3 m4 m5 m6 m7 m8 m9 m10 d0 d1 f0 f1 ltc ltm ltd
      clear z1 z2 z3 z4 z5 z6
      obtain ⟨⟨c0, c1⟩, ⟨e0, e1⟩, ltc⟩ := M4.out.box2 0 rfl
      obtain ⟨⟨m0, m1, m2, m3, m4, m5, m6, m7, m8, m9, m10⟩, _, ltm⟩ := M4.out.box11 1 rfl
      obtain ⟨⟨d0, d1⟩, ⟨f0, f1⟩, ltd⟩ := M4.out.box2 2 rfl
      go_wp2
      have MF := (M4.out.put 2 rfl 0 (.slice HA n hc)).put 2 rfl 1 (.slice (some ⟨b2, o2, none⟩) gn gc)
      refine bodyPost_ret (Bx.res_ct Try.results44 rfl (reg_load (MF.blk 2 rfl))) rfl ?_
      rw [HX.out]
      exact ⟨_, _, _, _, _, _, rfl, MF.held, HR.out.held MF.held, hcp⟩
    · have hsb1 : (py == (ib : Int)) = false := by simp [hsb]
      have HMB : Is (moveBad r ⟨k, nm, 0, (ib : Int), ⟨dr, dl, dc, dg⟩, ⟨cm, cc, up⟩⟩ ⟨pn, ⟨pr, pl, pc, pg⟩, px, py⟩) false := ⟨by unfold moveBad; simp only; rw [HNL.out, HTB2.out]; simp [side]; exact hsb⟩
      clear hsb
      obtain ⟨gb, goff, hm, hk, hup, hAh, _, hpx, q0, q1, q2⟩ := capAt HR.out.hs (Held.refl w) (show ib < n by omega)
      subst hAh
      have PF : Hid (∀ w', Held w w' → w'.cell? ⟨gb, goff + ib * 3, none⟩ = some (.int .i64 hm) ∧ w'.cell? ⟨gb, goff + ib * 3 + 1, none⟩ = some (.int .i64 hk) ∧ w'.cell? ⟨gb, goff + ib * 3 + 2, none⟩ = some (.bool hup)) := (fun w' h => ⟨h.cell q0, h.cell q1, h.cell q2⟩ : ∀ w', Held w w' → _)
      have HAM : Is (admAt r.hs L' (ib : Int) ⟨pr, pl, pc, pg⟩) (admit hm hk hup (on L' ib) ⟨pr, pl, pc, pg⟩) := ⟨adm_at hpx⟩
      clear q0 q1 q2 hpx
      have hol := on_len L' ib
      have hol2 : ((on L' ib).length : Int) ≤ 100 := by omega
      have ibn : (ib : Int) < n := by omega
      have ibp : ¬ (ib : Int) < 0 := by omega
      obtain ⟨ad, had⟩ : ∃ ad, admit hm hk hup (on L' ib) ⟨pr, pl, pc, pg⟩ = ad := ⟨_, rfl⟩
      have HAD := Lib.hid had
      rw [had] at HAM
      clear had hol
      by_cases h0 : ad = 0
      · have h0b : (ad != 0) = false := by simp [h0]
        have h0c : (ad == 0) = true := by simp [h0]
        have HX : Is (move r ⟨k, nm, 0, (ib : Int), ⟨dr, dl, dc, dg⟩, ⟨cm, cc, up⟩⟩) (⟨r.hs, r.gs.set q ⟨pn, ⟨pr, pl, pc, pg⟩, (ib : Int), py⟩⟩, 0) := ⟨by
          have h := move_ok (r := r) (o := ⟨k, nm, 0, (ib : Int), ⟨dr, dl, dc, dg⟩, ⟨cm, cc, up⟩⟩) HHAS.out HXP.out HMB.out (by simp only; rw [HQ.out, HERP.out, HAM.out, h0])
          rw [h]; simp only; rw [HQ.out]; rfl⟩
        clear h0 HAM
        go_enter Try.func44, Try.ntmps44
        go_wp2_with fail
        rw [HEQ.out]
        refine HFI.out.mono ?_
        rintro e w3 ⟨rfl, h3⟩
        have M3 := Lib.hid (M.out.keep h3)
        clear M h3 HFI
        clear c0 c1 e0 e1 m0 m1 m2 m3 m4 m5 m6 m7 m8 m9 m10 d0 d1 f0 f1 ltc ltm ltd
        obtain ⟨⟨c0, c1⟩, ⟨e0, e1⟩, ltc⟩ := M3.out.box2 0 rfl
        obtain ⟨⟨m0, m1, m2, m3, m4, m5, m6, m7, m8, m9, m10⟩, _, ltm⟩ := M3.out.box11 1 rfl
        obtain ⟨⟨d0, d1⟩, ⟨f0, f1⟩, ltd⟩ := M3.out.box2 2 rfl
        obtain ⟨z1, z2, z3, z4, z5, z6⟩ := ZF.out _ M3.out.held
        have hw0 : IntKind.i64.wrap ((1 : Int) - 0) = 1 := by decide
        have hw1 : IntKind.i64.wrap 1 = 1 := by decide
        have hw2 : (1 : Int) - 0 = 1 := by decide
        have qc0 := cell_regrown c0
        have qc1 := cell_regrown c1
        have qm2 := cell_regrown m2
        have qm3 := cell_regrown m3
        have qz6 := cell_regrown z6
        have cI := Lib.hid fun d os => Calls.regrown_of (d := d) (os := os) (HI (grow (redrawn w3 d) os)).out
        go_wp2
        refine wp_region_quiet_below (by kernel_rfl) (by kernel_rfl) ?_
        repeat (go_big_quiet_step (first | (go_at_call 60; (with_reducible exact cI.out _ _))))
        refine wpQuiet_nil ?_
        intro w4 hw'
        obtain ⟨⟨dq, osq⟩, hw''⟩ := hw'
        have h12 : Held w3 w4 := by rw [hw'']; exact below_regrown w3 dq osq
        clear hw'' qc0 qc1 qm2 qm3 qz6 cI
        have M4 := Lib.hid (M3.out.keep h12)
        clear M3 h12
        clear c0 c1 e0 e1 m0 m1 m2 m3 m4 m5 m6 m7 m8 m9 m10 d0 d1 f0 f1 ltc ltm ltd
        clear z1 z2 z3 z4 z5 z6
        obtain ⟨⟨c0, c1⟩, ⟨e0, e1⟩, ltc⟩ := M4.out.box2 0 rfl
        obtain ⟨⟨m0, m1, m2, m3, m4, m5, m6, m7, m8, m9, m10⟩, _, ltm⟩ := M4.out.box11 1 rfl
        obtain ⟨⟨d0, d1⟩, ⟨f0, f1⟩, ltd⟩ := M4.out.box2 2 rfl
        obtain ⟨z1, z2, z3, z4, z5, z6⟩ := ZF.out _ M4.out.held
        have HSO := Lib.hid (HR.out.gs.held M4.out.held)
        obtain ⟨p0, p1, p2⟩ := PF.out _ M4.out.held
        go_wp2
        go_region_held3 (fun w' => w'.cell? ⟨w.heap.size, 0, none⟩ = some (.slice (some ⟨gb, goff, none⟩) n hc) ∧ w'.cell? ⟨w.heap.size, 1, none⟩ = some (.slice (some ⟨b2, o2, none⟩) gn gc) ∧ w'.cell? ⟨w.heap.size + 1, 3, none⟩ = some (.int .i64 (ib : Int)) ∧ w'.cell? ⟨b2, o2 + q * 7 + 1, none⟩ = some (.int .i64 pr) ∧ w'.cell? ⟨b2, o2 + q * 7 + 2, none⟩ = some (.int .i64 pl) ∧ w'.cell? ⟨b2, o2 + q * 7 + 3, none⟩ = some (.int .i64 pc) ∧ w'.cell? ⟨b2, o2 + q * 7 + 4, none⟩ = some (.int .i64 pg) ∧ w'.cell? ⟨gb, goff + ib * 3, none⟩ = some (.int .i64 hm) ∧ w'.cell? ⟨gb, goff + ib * 3 + 1, none⟩ = some (.int .i64 hk) ∧ w'.cell? ⟨gb, goff + ib * 3 + 2, none⟩ = some (.bool hup) ∧ Held w4 w')
          ((repeat' refine And.intro ?_ ?_) <;> first | exact c0 | exact c1 | exact m3 | exact z1 | exact z2 | exact z3 | exact z4 | exact p0 | exact p1 | exact p2 | exact (Held.refl _).drew | exact Held.cell (by assumption) c0 | exact Held.cell (by assumption) c1 | exact Held.cell (by assumption) m3 | exact Held.cell (by assumption) z1 | exact Held.cell (by assumption) z2 | exact Held.cell (by assumption) z3 | exact Held.cell (by assumption) z4 | exact Held.cell (by assumption) p0 | exact Held.cell (by assumption) p1 | exact Held.cell (by assumption) p2 | exact (by assumption))
          (first | (go_at_call 43; refine (others_ref_any (some ⟨gb, goff, none⟩) n hc (some ⟨b2, o2, none⟩) gn gc r.gs q _ (HSO.out.held (Held.refl _).drew) (by omega)).mono ?_; rintro e w5 ⟨A5, n5, cp5, rfl, ho5, h5⟩; rw [HERP.out] at ho5; obtain ⟨hsl5, hn5, _⟩ := Own.reads plC_len ho5; subst hn5; have HS5 := Lib.hid hsl5; have k5 : Held w4 w5 := (Held.refl _).drew.step h5; clear ho5 hsl5) | (go_at_call 62; refine (on_ref_any A5 L'.length cp5 L' ib _ (ps_of HS5.out) (by omega)).mono ?_; rintro e w8 ⟨v8, rfl, ho8, h8⟩; obtain ⟨A8, cp8, rfl, hcp8⟩ := own_slice ho8; obtain ⟨hds, _, _⟩ := ds_of_own ho8; have HDS := Lib.hid hds; have k8 : Held w4 w8 := k5.step h8; clear ho8 hds) | (go_at_call 74; refine (admit_ref_any hm hk hup _ _ _ (on L' ib) pr pl pc pg _ HDS.out hol2).mono ?_; rintro e w9 ⟨rfl, h9⟩; rw [HAD.out]; have k9 : Held w4 w9 := k8.step h9))
        have M10 := Lib.hid (M4.out.keep k9)
        clear M4 p0 p1 p2
        clear c0 c1 e0 e1 m0 m1 m2 m3 m4 m5 m6 m7 m8 m9 m10 d0 d1 f0 f1 ltc ltm ltd
        clear z1 z2 z3 z4 z5 z6
        obtain ⟨⟨c0, c1⟩, ⟨e0, e1⟩, ltc⟩ := M10.out.box2 0 rfl
        obtain ⟨⟨m0, m1, m2, m3, m4, m5, m6, m7, m8, m9, m10⟩, _, ltm⟩ := M10.out.box11 1 rfl
        obtain ⟨⟨d0, d1⟩, ⟨f0, f1⟩, ltd⟩ := M10.out.box2 2 rfl
        have ME := Lib.hid (M10.out.emptyRow (e := 75) (s := 7) (f := plC) (b := w9.heap.size) rfl)
        go_wp2_with (at_builtin; refine Mem.wp_cat ME.out 3 rfl rfl _ _ _ rfl _ 64 Try.underlying35 SlcPl.info rfl (by decide) plC_len plC_one r.gs (some ⟨b2, o2, none⟩) gn gc rfl rfl (HR.out.gs.held ME.out.held) rfl (by omega) (by decide) ?_; intro A6 cp6 w6 M6x hA6; simp only [Nat.zero_add, List.nil_append] at M6x ⊢; have M6 := Lib.hid M6x; clear M6x M10 ME c0 c1 e0 e1 m0 m1 m2 m3 m4 m5 m6 m7 m8 m9 m10 d0 d1 f0 f1 ltc ltm ltd)
        obtain ⟨g6, x6, hA6', _, _, hx6, _⟩ := M6.out.slot 3 rfl plC_len (by decide) (k := q) (by rw [HGL.out]; omega)
        subst hA6'
        obtain ⟨lz, hcz⟩ := M6.out.at_ 3 rfl plC_len (by decide) HX2.out
        have y5 := (hcz 5 (by decide)).2 _ rfl
        have y6 := (hcz 6 (by decide)).2 _ rfl
        have n5' := (hcz 5 (by decide)).1
        have n6' := (hcz 6 (by decide)).1
        clear hcz hx6 hA6
        obtain ⟨⟨c0, c1⟩, ⟨e0, e1⟩, ltc⟩ := M6.out.box2 0 rfl
        obtain ⟨⟨m0, m1, m2, m3, m4, m5, m6, m7, m8, m9, m10⟩, _, ltm⟩ := M6.out.box11 1 rfl
        obtain ⟨⟨d0, d1⟩, ⟨f0, f1⟩, ltd⟩ := M6.out.box2 2 rfl
        have qn1 : (q : Int) < gn := by omega
        go_region
        have M11 := (M6.out.putAt 3 rfl plC_len HX2.out (j := 5) (by decide) (.int .i64 (ib : Int)) ⟨pn, ⟨pr, pl, pc, pg⟩, (ib : Int), py⟩ rfl).drew
        obtain ⟨w11, hw11⟩ : ∃ w11, (w6.setCell ⟨g6, q * 7 + 5, none⟩ (.int .i64 (ib : Int))).drew = w11 := ⟨_, rfl⟩
        rw [hw11] at M11 ⊢
        have M12 := Lib.hid M11
        clear M11 M6 hw11 y5 y6 n5' n6' lz
        clear c0 c1 e0 e1 m0 m1 m2 m3 m4 m5 m6 m7 m8 m9 m10 d0 d1 f0 f1 ltc ltm ltd
        obtain ⟨⟨c0, c1⟩, ⟨e0, e1⟩, ltc⟩ := M12.out.box2 0 rfl
        obtain ⟨⟨m0, m1, m2, m3, m4, m5, m6, m7, m8, m9, m10⟩, _, ltm⟩ := M12.out.box11 1 rfl
        obtain ⟨⟨d0, d1⟩, ⟨f0, f1⟩, ltd⟩ := M12.out.box2 2 rfl
        go_wp2
        have MF := (M12.out.put 2 rfl 0 (.slice (some ⟨gb, goff, none⟩) n hc)).put 2 rfl 1 (.slice (some ⟨g6, 0, none⟩) gn cp6)
        refine bodyPost_ret (Bx.res_ct Try.results44 rfl (reg_load (MF.blk 2 rfl))) rfl ?_
        rw [HX.out]
        exact ⟨_, _, _, _, _, _, rfl, MF.held, ⟨HR.out.hs.held MF.held, (Own.reads plC_len (MF.row 3 rfl)).1⟩, Caps.guests hcp (MF.row 3 rfl)⟩
      · have h0b : (ad != 0) = true := by simp [h0]
        have h0c : (ad == 0) = false := by simp [h0]
        have HX : Is (move r ⟨k, nm, 0, (ib : Int), ⟨dr, dl, dc, dg⟩, ⟨cm, cc, up⟩⟩) (r, ad) := ⟨move_err (r := r) (o := ⟨k, nm, 0, (ib : Int), ⟨dr, dl, dc, dg⟩, ⟨cm, cc, up⟩⟩) HHAS.out HXP.out HMB.out (by simp only; rw [HQ.out, HERP.out, HAM.out]) h0⟩
        clear h0 HAM
        go_enter Try.func44, Try.ntmps44
        go_wp2_with fail
        rw [HEQ.out]
        refine HFI.out.mono ?_
        rintro e w3 ⟨rfl, h3⟩
        have M3 := Lib.hid (M.out.keep h3)
        clear M h3 HFI
        clear c0 c1 e0 e1 m0 m1 m2 m3 m4 m5 m6 m7 m8 m9 m10 d0 d1 f0 f1 ltc ltm ltd
        obtain ⟨⟨c0, c1⟩, ⟨e0, e1⟩, ltc⟩ := M3.out.box2 0 rfl
        obtain ⟨⟨m0, m1, m2, m3, m4, m5, m6, m7, m8, m9, m10⟩, _, ltm⟩ := M3.out.box11 1 rfl
        obtain ⟨⟨d0, d1⟩, ⟨f0, f1⟩, ltd⟩ := M3.out.box2 2 rfl
        obtain ⟨z1, z2, z3, z4, z5, z6⟩ := ZF.out _ M3.out.held
        have hw0 : IntKind.i64.wrap ((1 : Int) - 0) = 1 := by decide
        have hw1 : IntKind.i64.wrap 1 = 1 := by decide
        have hw2 : (1 : Int) - 0 = 1 := by decide
        have qc0 := cell_regrown c0
        have qc1 := cell_regrown c1
        have qm2 := cell_regrown m2
        have qm3 := cell_regrown m3
        have qz6 := cell_regrown z6
        have cI := Lib.hid fun d os => Calls.regrown_of (d := d) (os := os) (HI (grow (redrawn w3 d) os)).out
        go_wp2
        refine wp_region_quiet_below (by kernel_rfl) (by kernel_rfl) ?_
        repeat (go_big_quiet_step (first | (go_at_call 60; (with_reducible exact cI.out _ _))))
        refine wpQuiet_nil ?_
        intro w4 hw'
        obtain ⟨⟨dq, osq⟩, hw''⟩ := hw'
        have h12 : Held w3 w4 := by rw [hw'']; exact below_regrown w3 dq osq
        clear hw'' qc0 qc1 qm2 qm3 qz6 cI
        have M4 := Lib.hid (M3.out.keep h12)
        clear M3 h12
        clear c0 c1 e0 e1 m0 m1 m2 m3 m4 m5 m6 m7 m8 m9 m10 d0 d1 f0 f1 ltc ltm ltd
        clear z1 z2 z3 z4 z5 z6
        obtain ⟨⟨c0, c1⟩, ⟨e0, e1⟩, ltc⟩ := M4.out.box2 0 rfl
        obtain ⟨⟨m0, m1, m2, m3, m4, m5, m6, m7, m8, m9, m10⟩, _, ltm⟩ := M4.out.box11 1 rfl
        obtain ⟨⟨d0, d1⟩, ⟨f0, f1⟩, ltd⟩ := M4.out.box2 2 rfl
        obtain ⟨z1, z2, z3, z4, z5, z6⟩ := ZF.out _ M4.out.held
        have HSO := Lib.hid (HR.out.gs.held M4.out.held)
        obtain ⟨p0, p1, p2⟩ := PF.out _ M4.out.held
        go_wp2
        go_region_held3 (fun w' => w'.cell? ⟨w.heap.size, 0, none⟩ = some (.slice (some ⟨gb, goff, none⟩) n hc) ∧ w'.cell? ⟨w.heap.size, 1, none⟩ = some (.slice (some ⟨b2, o2, none⟩) gn gc) ∧ w'.cell? ⟨w.heap.size + 1, 3, none⟩ = some (.int .i64 (ib : Int)) ∧ w'.cell? ⟨b2, o2 + q * 7 + 1, none⟩ = some (.int .i64 pr) ∧ w'.cell? ⟨b2, o2 + q * 7 + 2, none⟩ = some (.int .i64 pl) ∧ w'.cell? ⟨b2, o2 + q * 7 + 3, none⟩ = some (.int .i64 pc) ∧ w'.cell? ⟨b2, o2 + q * 7 + 4, none⟩ = some (.int .i64 pg) ∧ w'.cell? ⟨gb, goff + ib * 3, none⟩ = some (.int .i64 hm) ∧ w'.cell? ⟨gb, goff + ib * 3 + 1, none⟩ = some (.int .i64 hk) ∧ w'.cell? ⟨gb, goff + ib * 3 + 2, none⟩ = some (.bool hup) ∧ Held w4 w')
          ((repeat' refine And.intro ?_ ?_) <;> first | exact c0 | exact c1 | exact m3 | exact z1 | exact z2 | exact z3 | exact z4 | exact p0 | exact p1 | exact p2 | exact (Held.refl _).drew | exact Held.cell (by assumption) c0 | exact Held.cell (by assumption) c1 | exact Held.cell (by assumption) m3 | exact Held.cell (by assumption) z1 | exact Held.cell (by assumption) z2 | exact Held.cell (by assumption) z3 | exact Held.cell (by assumption) z4 | exact Held.cell (by assumption) p0 | exact Held.cell (by assumption) p1 | exact Held.cell (by assumption) p2 | exact (by assumption))
          (first | (go_at_call 43; refine (others_ref_any (some ⟨gb, goff, none⟩) n hc (some ⟨b2, o2, none⟩) gn gc r.gs q _ (HSO.out.held (Held.refl _).drew) (by omega)).mono ?_; rintro e w5 ⟨A5, n5, cp5, rfl, ho5, h5⟩; rw [HERP.out] at ho5; obtain ⟨hsl5, hn5, _⟩ := Own.reads plC_len ho5; subst hn5; have HS5 := Lib.hid hsl5; have k5 : Held w4 w5 := (Held.refl _).drew.step h5; clear ho5 hsl5) | (go_at_call 62; refine (on_ref_any A5 L'.length cp5 L' ib _ (ps_of HS5.out) (by omega)).mono ?_; rintro e w8 ⟨v8, rfl, ho8, h8⟩; obtain ⟨A8, cp8, rfl, hcp8⟩ := own_slice ho8; obtain ⟨hds, _, _⟩ := ds_of_own ho8; have HDS := Lib.hid hds; have k8 : Held w4 w8 := k5.step h8; clear ho8 hds) | (go_at_call 74; refine (admit_ref_any hm hk hup _ _ _ (on L' ib) pr pl pc pg _ HDS.out hol2).mono ?_; rintro e w9 ⟨rfl, h9⟩; rw [HAD.out]; have k9 : Held w4 w9 := k8.step h9))
        have M10 := Lib.hid (M4.out.keep k9)
        clear M4 p0 p1 p2
        clear c0 c1 e0 e1 m0 m1 m2 m3 m4 m5 m6 m7 m8 m9 m10 d0 d1 f0 f1 ltc ltm ltd
        clear z1 z2 z3 z4 z5 z6
        obtain ⟨⟨c0, c1⟩, ⟨e0, e1⟩, ltc⟩ := M10.out.box2 0 rfl
        obtain ⟨⟨m0, m1, m2, m3, m4, m5, m6, m7, m8, m9, m10⟩, _, ltm⟩ := M10.out.box11 1 rfl
        obtain ⟨⟨d0, d1⟩, ⟨f0, f1⟩, ltd⟩ := M10.out.box2 2 rfl
        go_wp2
        have MF := (M10.out.put 2 rfl 0 (.slice (some ⟨gb, goff, none⟩) n hc)).put 2 rfl 1 (.slice (some ⟨b2, o2, none⟩) gn gc)
        refine bodyPost_ret (Bx.res_ct Try.results44 rfl (reg_load (MF.blk 2 rfl))) rfl ?_
        rw [HX.out]
        exact ⟨_, _, _, _, _, _, rfl, MF.held, HR.out.held MF.held, hcp⟩
  by_cases ha1 : a = 1
  · subst ha1
    cases tb
    · have HX : Is (move r ⟨k, nm, 1, b, ⟨dr, dl, dc, dg⟩, ⟨cm, cc, up⟩⟩) (r, 4200) := ⟨move_bad HHAS.out HXP.out (by unfold moveBad; simp only; rw [HNL.out, HTB.out]; simp)⟩
      go_enter Try.func44, Try.ntmps44
      go_wp2_with fail
      rw [HEQ.out]
      refine HFI.out.mono ?_
      rintro e w3 ⟨rfl, h3⟩
      have M3 := Lib.hid (M.out.keep h3)
      clear M h3 HFI
      clear c0 c1 e0 e1 m0 m1 m2 m3 m4 m5 m6 m7 m8 m9 m10 d0 d1 f0 f1 ltc ltm ltd
      obtain ⟨⟨c0, c1⟩, ⟨e0, e1⟩, ltc⟩ := M3.out.box2 0 rfl
      obtain ⟨⟨m0, m1, m2, m3, m4, m5, m6, m7, m8, m9, m10⟩, _, ltm⟩ := M3.out.box11 1 rfl
      obtain ⟨⟨d0, d1⟩, ⟨f0, f1⟩, ltd⟩ := M3.out.box2 2 rfl
      obtain ⟨z1, z2, z3, z4, z5, z6⟩ := ZF.out _ M3.out.held
      have hw0 : IntKind.i64.wrap ((1 : Int) - 1) = 0 := by decide
      have hw1 : IntKind.i64.wrap 0 = 0 := by decide
      have hw2 : (1 : Int) - 1 = 0 := by decide
      have qc0 := cell_regrown c0
      have qc1 := cell_regrown c1
      have qm2 := cell_regrown m2
      have qm3 := cell_regrown m3
      have qz5 := cell_regrown z5
      have cI := Lib.hid fun d os => Calls.regrown_of (d := d) (os := os) (HI (grow (redrawn w3 d) os)).out
      go_wp2
      refine wp_region_quiet_below (by kernel_rfl) (by kernel_rfl) ?_
      repeat (go_big_quiet_step (first | (go_at_call 60; (with_reducible exact cI.out _ _))))
      refine wpQuiet_nil ?_
      intro w4 hw'
      obtain ⟨⟨dq, osq⟩, hw''⟩ := hw'
      have h12 : Held w3 w4 := by rw [hw'']; exact below_regrown w3 dq osq
      clear hw'' qc0 qc1 qm2 qm3 qz5 cI
      have M4 := Lib.hid (M3.out.keep h12)
      clear M3 h12
      clear c0 c1 e0 e1 m0 m1 m2 m3 m4 m5 m6 m7 m8 m9 m10 d0 d1 f0 f1 ltc ltm ltd
      clear z1 z2 z3 z4 z5 z6
      obtain ⟨⟨c0, c1⟩, ⟨e0, e1⟩, ltc⟩ := M4.out.box2 0 rfl
      obtain ⟨⟨m0, m1, m2, m3, m4, m5, m6, m7, m8, m9, m10⟩, _, ltm⟩ := M4.out.box11 1 rfl
      obtain ⟨⟨d0, d1⟩, ⟨f0, f1⟩, ltd⟩ := M4.out.box2 2 rfl
      go_wp2
      have MF := (M4.out.put 2 rfl 0 (.slice HA n hc)).put 2 rfl 1 (.slice (some ⟨b2, o2, none⟩) gn gc)
      refine bodyPost_ret (Bx.res_ct Try.results44 rfl (reg_load (MF.blk 2 rfl))) rfl ?_
      rw [HX.out]
      exact ⟨_, _, _, _, _, _, rfl, MF.held, HR.out.held MF.held, hcp⟩
    obtain ⟨ib, hib, hibn⟩ := there_nat HTB.out
    subst hib
    have HTB2 : Is (there n (ib : Int)) true := HTB
    by_cases hsb : px = (ib : Int)
    · have HX : Is (move r ⟨k, nm, 1, (ib : Int), ⟨dr, dl, dc, dg⟩, ⟨cm, cc, up⟩⟩) (r, 4200) := ⟨move_bad HHAS.out HXP.out (by unfold moveBad; simp only; rw [HNL.out, HTB2.out]; simp [side]; exact hsb)⟩
      have hsb1 : (px == (ib : Int)) = true := by simp [hsb]
      clear hsb
      go_enter Try.func44, Try.ntmps44
      go_wp2_with fail
      rw [HEQ.out]
      refine HFI.out.mono ?_
      rintro e w3 ⟨rfl, h3⟩
      have M3 := Lib.hid (M.out.keep h3)
      clear M h3 HFI
      clear c0 c1 e0 e1 m0 m1 m2 m3 m4 m5 m6 m7 m8 m9 m10 d0 d1 f0 f1 ltc ltm ltd
      obtain ⟨⟨c0, c1⟩, ⟨e0, e1⟩, ltc⟩ := M3.out.box2 0 rfl
      obtain ⟨⟨m0, m1, m2, m3, m4, m5, m6, m7, m8, m9, m10⟩, _, ltm⟩ := M3.out.box11 1 rfl
      obtain ⟨⟨d0, d1⟩, ⟨f0, f1⟩, ltd⟩ := M3.out.box2 2 rfl
      obtain ⟨z1, z2, z3, z4, z5, z6⟩ := ZF.out _ M3.out.held
      have hw0 : IntKind.i64.wrap ((1 : Int) - 1) = 0 := by decide
      have hw1 : IntKind.i64.wrap 0 = 0 := by decide
      have hw2 : (1 : Int) - 1 = 0 := by decide
      have qc0 := cell_regrown c0
      have qc1 := cell_regrown c1
      have qm2 := cell_regrown m2
      have qm3 := cell_regrown m3
      have qz5 := cell_regrown z5
      have cI := Lib.hid fun d os => Calls.regrown_of (d := d) (os := os) (HI (grow (redrawn w3 d) os)).out
      go_wp2
      refine wp_region_quiet_below (by kernel_rfl) (by kernel_rfl) ?_
      repeat (go_big_quiet_step (first | (go_at_call 60; (with_reducible exact cI.out _ _))))
      refine wpQuiet_nil ?_
      intro w4 hw'
      obtain ⟨⟨dq, osq⟩, hw''⟩ := hw'
      have h12 : Held w3 w4 := by rw [hw'']; exact below_regrown w3 dq osq
      clear hw'' qc0 qc1 qm2 qm3 qz5 cI
      have M4 := Lib.hid (M3.out.keep h12)
      clear M3 h12
      clear c0 c1 e0 e1 m0 m1 m2 m3 m4 m5 m6 m7 m8 m9 m10 d0 d1 f0 f1 ltc ltm ltd
      clear z1 z2 z3 z4 z5 z6
      obtain ⟨⟨c0, c1⟩, ⟨e0, e1⟩, ltc⟩ := M4.out.box2 0 rfl
      obtain ⟨⟨m0, m1, m2, m3, m4, m5, m6, m7, m8, m9, m10⟩, _, ltm⟩ := M4.out.box11 1 rfl
      obtain ⟨⟨d0, d1⟩, ⟨f0, f1⟩, ltd⟩ := M4.out.box2 2 rfl
      go_wp2
      have MF := (M4.out.put 2 rfl 0 (.slice HA n hc)).put 2 rfl 1 (.slice (some ⟨b2, o2, none⟩) gn gc)
      refine bodyPost_ret (Bx.res_ct Try.results44 rfl (reg_load (MF.blk 2 rfl))) rfl ?_
      rw [HX.out]
      exact ⟨_, _, _, _, _, _, rfl, MF.held, HR.out.held MF.held, hcp⟩
    · have hsb1 : (px == (ib : Int)) = false := by simp [hsb]
      have HMB : Is (moveBad r ⟨k, nm, 1, (ib : Int), ⟨dr, dl, dc, dg⟩, ⟨cm, cc, up⟩⟩ ⟨pn, ⟨pr, pl, pc, pg⟩, px, py⟩) false := ⟨by unfold moveBad; simp only; rw [HNL.out, HTB2.out]; simp [side]; exact hsb⟩
      clear hsb
      obtain ⟨gb, goff, hm, hk, hup, hAh, _, hpx, q0, q1, q2⟩ := capAt HR.out.hs (Held.refl w) (show ib < n by omega)
      subst hAh
      have PF : Hid (∀ w', Held w w' → w'.cell? ⟨gb, goff + ib * 3, none⟩ = some (.int .i64 hm) ∧ w'.cell? ⟨gb, goff + ib * 3 + 1, none⟩ = some (.int .i64 hk) ∧ w'.cell? ⟨gb, goff + ib * 3 + 2, none⟩ = some (.bool hup)) := (fun w' h => ⟨h.cell q0, h.cell q1, h.cell q2⟩ : ∀ w', Held w w' → _)
      have HAM : Is (admAt r.hs L' (ib : Int) ⟨pr, pl, pc, pg⟩) (admit hm hk hup (on L' ib) ⟨pr, pl, pc, pg⟩) := ⟨adm_at hpx⟩
      clear q0 q1 q2 hpx
      have hol := on_len L' ib
      have hol2 : ((on L' ib).length : Int) ≤ 100 := by omega
      have ibn : (ib : Int) < n := by omega
      have ibp : ¬ (ib : Int) < 0 := by omega
      obtain ⟨ad, had⟩ : ∃ ad, admit hm hk hup (on L' ib) ⟨pr, pl, pc, pg⟩ = ad := ⟨_, rfl⟩
      have HAD := Lib.hid had
      rw [had] at HAM
      clear had hol
      by_cases h0 : ad = 0
      · have h0b : (ad != 0) = false := by simp [h0]
        have h0c : (ad == 0) = true := by simp [h0]
        have HX : Is (move r ⟨k, nm, 1, (ib : Int), ⟨dr, dl, dc, dg⟩, ⟨cm, cc, up⟩⟩) (⟨r.hs, r.gs.set q ⟨pn, ⟨pr, pl, pc, pg⟩, px, (ib : Int)⟩⟩, 0) := ⟨by
          have h := move_ok (r := r) (o := ⟨k, nm, 1, (ib : Int), ⟨dr, dl, dc, dg⟩, ⟨cm, cc, up⟩⟩) HHAS.out HXP.out HMB.out (by simp only; rw [HQ.out, HERP.out, HAM.out, h0])
          rw [h]; simp only; rw [HQ.out]; rfl⟩
        clear h0 HAM
        go_enter Try.func44, Try.ntmps44
        go_wp2_with fail
        rw [HEQ.out]
        refine HFI.out.mono ?_
        rintro e w3 ⟨rfl, h3⟩
        have M3 := Lib.hid (M.out.keep h3)
        clear M h3 HFI
        clear c0 c1 e0 e1 m0 m1 m2 m3 m4 m5 m6 m7 m8 m9 m10 d0 d1 f0 f1 ltc ltm ltd
        obtain ⟨⟨c0, c1⟩, ⟨e0, e1⟩, ltc⟩ := M3.out.box2 0 rfl
        obtain ⟨⟨m0, m1, m2, m3, m4, m5, m6, m7, m8, m9, m10⟩, _, ltm⟩ := M3.out.box11 1 rfl
        obtain ⟨⟨d0, d1⟩, ⟨f0, f1⟩, ltd⟩ := M3.out.box2 2 rfl
        obtain ⟨z1, z2, z3, z4, z5, z6⟩ := ZF.out _ M3.out.held
        have hw0 : IntKind.i64.wrap ((1 : Int) - 1) = 0 := by decide
        have hw1 : IntKind.i64.wrap 0 = 0 := by decide
        have hw2 : (1 : Int) - 1 = 0 := by decide
        have qc0 := cell_regrown c0
        have qc1 := cell_regrown c1
        have qm2 := cell_regrown m2
        have qm3 := cell_regrown m3
        have qz5 := cell_regrown z5
        have cI := Lib.hid fun d os => Calls.regrown_of (d := d) (os := os) (HI (grow (redrawn w3 d) os)).out
        go_wp2
        refine wp_region_quiet_below (by kernel_rfl) (by kernel_rfl) ?_
        repeat (go_big_quiet_step (first | (go_at_call 60; (with_reducible exact cI.out _ _))))
        refine wpQuiet_nil ?_
        intro w4 hw'
        obtain ⟨⟨dq, osq⟩, hw''⟩ := hw'
        have h12 : Held w3 w4 := by rw [hw'']; exact below_regrown w3 dq osq
        clear hw'' qc0 qc1 qm2 qm3 qz5 cI
        have M4 := Lib.hid (M3.out.keep h12)
        clear M3 h12
        clear c0 c1 e0 e1 m0 m1 m2 m3 m4 m5 m6 m7 m8 m9 m10 d0 d1 f0 f1 ltc ltm ltd
        clear z1 z2 z3 z4 z5 z6
        obtain ⟨⟨c0, c1⟩, ⟨e0, e1⟩, ltc⟩ := M4.out.box2 0 rfl
        obtain ⟨⟨m0, m1, m2, m3, m4, m5, m6, m7, m8, m9, m10⟩, _, ltm⟩ := M4.out.box11 1 rfl
        obtain ⟨⟨d0, d1⟩, ⟨f0, f1⟩, ltd⟩ := M4.out.box2 2 rfl
        obtain ⟨z1, z2, z3, z4, z5, z6⟩ := ZF.out _ M4.out.held
        have HSO := Lib.hid (HR.out.gs.held M4.out.held)
        obtain ⟨p0, p1, p2⟩ := PF.out _ M4.out.held
        go_wp2
        go_region_held3 (fun w' => w'.cell? ⟨w.heap.size, 0, none⟩ = some (.slice (some ⟨gb, goff, none⟩) n hc) ∧ w'.cell? ⟨w.heap.size, 1, none⟩ = some (.slice (some ⟨b2, o2, none⟩) gn gc) ∧ w'.cell? ⟨w.heap.size + 1, 3, none⟩ = some (.int .i64 (ib : Int)) ∧ w'.cell? ⟨b2, o2 + q * 7 + 1, none⟩ = some (.int .i64 pr) ∧ w'.cell? ⟨b2, o2 + q * 7 + 2, none⟩ = some (.int .i64 pl) ∧ w'.cell? ⟨b2, o2 + q * 7 + 3, none⟩ = some (.int .i64 pc) ∧ w'.cell? ⟨b2, o2 + q * 7 + 4, none⟩ = some (.int .i64 pg) ∧ w'.cell? ⟨gb, goff + ib * 3, none⟩ = some (.int .i64 hm) ∧ w'.cell? ⟨gb, goff + ib * 3 + 1, none⟩ = some (.int .i64 hk) ∧ w'.cell? ⟨gb, goff + ib * 3 + 2, none⟩ = some (.bool hup) ∧ Held w4 w')
          ((repeat' refine And.intro ?_ ?_) <;> first | exact c0 | exact c1 | exact m3 | exact z1 | exact z2 | exact z3 | exact z4 | exact p0 | exact p1 | exact p2 | exact (Held.refl _).drew | exact Held.cell (by assumption) c0 | exact Held.cell (by assumption) c1 | exact Held.cell (by assumption) m3 | exact Held.cell (by assumption) z1 | exact Held.cell (by assumption) z2 | exact Held.cell (by assumption) z3 | exact Held.cell (by assumption) z4 | exact Held.cell (by assumption) p0 | exact Held.cell (by assumption) p1 | exact Held.cell (by assumption) p2 | exact (by assumption))
          (first | (go_at_call 43; refine (others_ref_any (some ⟨gb, goff, none⟩) n hc (some ⟨b2, o2, none⟩) gn gc r.gs q _ (HSO.out.held (Held.refl _).drew) (by omega)).mono ?_; rintro e w5 ⟨A5, n5, cp5, rfl, ho5, h5⟩; rw [HERP.out] at ho5; obtain ⟨hsl5, hn5, _⟩ := Own.reads plC_len ho5; subst hn5; have HS5 := Lib.hid hsl5; have k5 : Held w4 w5 := (Held.refl _).drew.step h5; clear ho5 hsl5) | (go_at_call 62; refine (on_ref_any A5 L'.length cp5 L' ib _ (ps_of HS5.out) (by omega)).mono ?_; rintro e w8 ⟨v8, rfl, ho8, h8⟩; obtain ⟨A8, cp8, rfl, hcp8⟩ := own_slice ho8; obtain ⟨hds, _, _⟩ := ds_of_own ho8; have HDS := Lib.hid hds; have k8 : Held w4 w8 := k5.step h8; clear ho8 hds) | (go_at_call 74; refine (admit_ref_any hm hk hup _ _ _ (on L' ib) pr pl pc pg _ HDS.out hol2).mono ?_; rintro e w9 ⟨rfl, h9⟩; rw [HAD.out]; have k9 : Held w4 w9 := k8.step h9))
        have M10 := Lib.hid (M4.out.keep k9)
        clear M4 p0 p1 p2
        clear c0 c1 e0 e1 m0 m1 m2 m3 m4 m5 m6 m7 m8 m9 m10 d0 d1 f0 f1 ltc ltm ltd
        clear z1 z2 z3 z4 z5 z6
        obtain ⟨⟨c0, c1⟩, ⟨e0, e1⟩, ltc⟩ := M10.out.box2 0 rfl
        obtain ⟨⟨m0, m1, m2, m3, m4, m5, m6, m7, m8, m9, m10⟩, _, ltm⟩ := M10.out.box11 1 rfl
        obtain ⟨⟨d0, d1⟩, ⟨f0, f1⟩, ltd⟩ := M10.out.box2 2 rfl
        have ME := Lib.hid (M10.out.emptyRow (e := 75) (s := 7) (f := plC) (b := w9.heap.size) rfl)
        go_wp2_with (at_builtin; refine Mem.wp_cat ME.out 3 rfl rfl _ _ _ rfl _ 64 Try.underlying35 SlcPl.info rfl (by decide) plC_len plC_one r.gs (some ⟨b2, o2, none⟩) gn gc rfl rfl (HR.out.gs.held ME.out.held) rfl (by omega) (by decide) ?_; intro A6 cp6 w6 M6x hA6; simp only [Nat.zero_add, List.nil_append] at M6x ⊢; have M6 := Lib.hid M6x; clear M6x M10 ME c0 c1 e0 e1 m0 m1 m2 m3 m4 m5 m6 m7 m8 m9 m10 d0 d1 f0 f1 ltc ltm ltd)
        obtain ⟨g6, x6, hA6', _, _, hx6, _⟩ := M6.out.slot 3 rfl plC_len (by decide) (k := q) (by rw [HGL.out]; omega)
        subst hA6'
        obtain ⟨lz, hcz⟩ := M6.out.at_ 3 rfl plC_len (by decide) HX2.out
        have y5 := (hcz 5 (by decide)).2 _ rfl
        have y6 := (hcz 6 (by decide)).2 _ rfl
        have n5' := (hcz 5 (by decide)).1
        have n6' := (hcz 6 (by decide)).1
        clear hcz hx6 hA6
        obtain ⟨⟨c0, c1⟩, ⟨e0, e1⟩, ltc⟩ := M6.out.box2 0 rfl
        obtain ⟨⟨m0, m1, m2, m3, m4, m5, m6, m7, m8, m9, m10⟩, _, ltm⟩ := M6.out.box11 1 rfl
        obtain ⟨⟨d0, d1⟩, ⟨f0, f1⟩, ltd⟩ := M6.out.box2 2 rfl
        have qn1 : (q : Int) < gn := by omega
        go_region
        have M11 := (M6.out.putAt 3 rfl plC_len HX2.out (j := 6) (by decide) (.int .i64 (ib : Int)) ⟨pn, ⟨pr, pl, pc, pg⟩, px, (ib : Int)⟩ rfl).drew
        obtain ⟨w11, hw11⟩ : ∃ w11, (w6.setCell ⟨g6, q * 7 + 6, none⟩ (.int .i64 (ib : Int))).drew = w11 := ⟨_, rfl⟩
        rw [hw11] at M11 ⊢
        have M12 := Lib.hid M11
        clear M11 M6 hw11 y5 y6 n5' n6' lz
        clear c0 c1 e0 e1 m0 m1 m2 m3 m4 m5 m6 m7 m8 m9 m10 d0 d1 f0 f1 ltc ltm ltd
        obtain ⟨⟨c0, c1⟩, ⟨e0, e1⟩, ltc⟩ := M12.out.box2 0 rfl
        obtain ⟨⟨m0, m1, m2, m3, m4, m5, m6, m7, m8, m9, m10⟩, _, ltm⟩ := M12.out.box11 1 rfl
        obtain ⟨⟨d0, d1⟩, ⟨f0, f1⟩, ltd⟩ := M12.out.box2 2 rfl
        go_wp2
        have MF := (M12.out.put 2 rfl 0 (.slice (some ⟨gb, goff, none⟩) n hc)).put 2 rfl 1 (.slice (some ⟨g6, 0, none⟩) gn cp6)
        refine bodyPost_ret (Bx.res_ct Try.results44 rfl (reg_load (MF.blk 2 rfl))) rfl ?_
        rw [HX.out]
        exact ⟨_, _, _, _, _, _, rfl, MF.held, ⟨HR.out.hs.held MF.held, (Own.reads plC_len (MF.row 3 rfl)).1⟩, Caps.guests hcp (MF.row 3 rfl)⟩
      · have h0b : (ad != 0) = true := by simp [h0]
        have h0c : (ad == 0) = false := by simp [h0]
        have HX : Is (move r ⟨k, nm, 1, (ib : Int), ⟨dr, dl, dc, dg⟩, ⟨cm, cc, up⟩⟩) (r, ad) := ⟨move_err (r := r) (o := ⟨k, nm, 1, (ib : Int), ⟨dr, dl, dc, dg⟩, ⟨cm, cc, up⟩⟩) HHAS.out HXP.out HMB.out (by simp only; rw [HQ.out, HERP.out, HAM.out]) h0⟩
        clear h0 HAM
        go_enter Try.func44, Try.ntmps44
        go_wp2_with fail
        rw [HEQ.out]
        refine HFI.out.mono ?_
        rintro e w3 ⟨rfl, h3⟩
        have M3 := Lib.hid (M.out.keep h3)
        clear M h3 HFI
        clear c0 c1 e0 e1 m0 m1 m2 m3 m4 m5 m6 m7 m8 m9 m10 d0 d1 f0 f1 ltc ltm ltd
        obtain ⟨⟨c0, c1⟩, ⟨e0, e1⟩, ltc⟩ := M3.out.box2 0 rfl
        obtain ⟨⟨m0, m1, m2, m3, m4, m5, m6, m7, m8, m9, m10⟩, _, ltm⟩ := M3.out.box11 1 rfl
        obtain ⟨⟨d0, d1⟩, ⟨f0, f1⟩, ltd⟩ := M3.out.box2 2 rfl
        obtain ⟨z1, z2, z3, z4, z5, z6⟩ := ZF.out _ M3.out.held
        have hw0 : IntKind.i64.wrap ((1 : Int) - 1) = 0 := by decide
        have hw1 : IntKind.i64.wrap 0 = 0 := by decide
        have hw2 : (1 : Int) - 1 = 0 := by decide
        have qc0 := cell_regrown c0
        have qc1 := cell_regrown c1
        have qm2 := cell_regrown m2
        have qm3 := cell_regrown m3
        have qz5 := cell_regrown z5
        have cI := Lib.hid fun d os => Calls.regrown_of (d := d) (os := os) (HI (grow (redrawn w3 d) os)).out
        go_wp2
        refine wp_region_quiet_below (by kernel_rfl) (by kernel_rfl) ?_
        repeat (go_big_quiet_step (first | (go_at_call 60; (with_reducible exact cI.out _ _))))
        refine wpQuiet_nil ?_
        intro w4 hw'
        obtain ⟨⟨dq, osq⟩, hw''⟩ := hw'
        have h12 : Held w3 w4 := by rw [hw'']; exact below_regrown w3 dq osq
        clear hw'' qc0 qc1 qm2 qm3 qz5 cI
        have M4 := Lib.hid (M3.out.keep h12)
        clear M3 h12
        clear c0 c1 e0 e1 m0 m1 m2 m3 m4 m5 m6 m7 m8 m9 m10 d0 d1 f0 f1 ltc ltm ltd
        clear z1 z2 z3 z4 z5 z6
        obtain ⟨⟨c0, c1⟩, ⟨e0, e1⟩, ltc⟩ := M4.out.box2 0 rfl
        obtain ⟨⟨m0, m1, m2, m3, m4, m5, m6, m7, m8, m9, m10⟩, _, ltm⟩ := M4.out.box11 1 rfl
        obtain ⟨⟨d0, d1⟩, ⟨f0, f1⟩, ltd⟩ := M4.out.box2 2 rfl
        obtain ⟨z1, z2, z3, z4, z5, z6⟩ := ZF.out _ M4.out.held
        have HSO := Lib.hid (HR.out.gs.held M4.out.held)
        obtain ⟨p0, p1, p2⟩ := PF.out _ M4.out.held
        go_wp2
        go_region_held3 (fun w' => w'.cell? ⟨w.heap.size, 0, none⟩ = some (.slice (some ⟨gb, goff, none⟩) n hc) ∧ w'.cell? ⟨w.heap.size, 1, none⟩ = some (.slice (some ⟨b2, o2, none⟩) gn gc) ∧ w'.cell? ⟨w.heap.size + 1, 3, none⟩ = some (.int .i64 (ib : Int)) ∧ w'.cell? ⟨b2, o2 + q * 7 + 1, none⟩ = some (.int .i64 pr) ∧ w'.cell? ⟨b2, o2 + q * 7 + 2, none⟩ = some (.int .i64 pl) ∧ w'.cell? ⟨b2, o2 + q * 7 + 3, none⟩ = some (.int .i64 pc) ∧ w'.cell? ⟨b2, o2 + q * 7 + 4, none⟩ = some (.int .i64 pg) ∧ w'.cell? ⟨gb, goff + ib * 3, none⟩ = some (.int .i64 hm) ∧ w'.cell? ⟨gb, goff + ib * 3 + 1, none⟩ = some (.int .i64 hk) ∧ w'.cell? ⟨gb, goff + ib * 3 + 2, none⟩ = some (.bool hup) ∧ Held w4 w')
          ((repeat' refine And.intro ?_ ?_) <;> first | exact c0 | exact c1 | exact m3 | exact z1 | exact z2 | exact z3 | exact z4 | exact p0 | exact p1 | exact p2 | exact (Held.refl _).drew | exact Held.cell (by assumption) c0 | exact Held.cell (by assumption) c1 | exact Held.cell (by assumption) m3 | exact Held.cell (by assumption) z1 | exact Held.cell (by assumption) z2 | exact Held.cell (by assumption) z3 | exact Held.cell (by assumption) z4 | exact Held.cell (by assumption) p0 | exact Held.cell (by assumption) p1 | exact Held.cell (by assumption) p2 | exact (by assumption))
          (first | (go_at_call 43; refine (others_ref_any (some ⟨gb, goff, none⟩) n hc (some ⟨b2, o2, none⟩) gn gc r.gs q _ (HSO.out.held (Held.refl _).drew) (by omega)).mono ?_; rintro e w5 ⟨A5, n5, cp5, rfl, ho5, h5⟩; rw [HERP.out] at ho5; obtain ⟨hsl5, hn5, _⟩ := Own.reads plC_len ho5; subst hn5; have HS5 := Lib.hid hsl5; have k5 : Held w4 w5 := (Held.refl _).drew.step h5; clear ho5 hsl5) | (go_at_call 62; refine (on_ref_any A5 L'.length cp5 L' ib _ (ps_of HS5.out) (by omega)).mono ?_; rintro e w8 ⟨v8, rfl, ho8, h8⟩; obtain ⟨A8, cp8, rfl, hcp8⟩ := own_slice ho8; obtain ⟨hds, _, _⟩ := ds_of_own ho8; have HDS := Lib.hid hds; have k8 : Held w4 w8 := k5.step h8; clear ho8 hds) | (go_at_call 74; refine (admit_ref_any hm hk hup _ _ _ (on L' ib) pr pl pc pg _ HDS.out hol2).mono ?_; rintro e w9 ⟨rfl, h9⟩; rw [HAD.out]; have k9 : Held w4 w9 := k8.step h9))
        have M10 := Lib.hid (M4.out.keep k9)
        clear M4 p0 p1 p2
        clear c0 c1 e0 e1 m0 m1 m2 m3 m4 m5 m6 m7 m8 m9 m10 d0 d1 f0 f1 ltc ltm ltd
        clear z1 z2 z3 z4 z5 z6
        obtain ⟨⟨c0, c1⟩, ⟨e0, e1⟩, ltc⟩ := M10.out.box2 0 rfl
        obtain ⟨⟨m0, m1, m2, m3, m4, m5, m6, m7, m8, m9, m10⟩, _, ltm⟩ := M10.out.box11 1 rfl
        obtain ⟨⟨d0, d1⟩, ⟨f0, f1⟩, ltd⟩ := M10.out.box2 2 rfl
        go_wp2
        have MF := (M10.out.put 2 rfl 0 (.slice (some ⟨gb, goff, none⟩) n hc)).put 2 rfl 1 (.slice (some ⟨b2, o2, none⟩) gn gc)
        refine bodyPost_ret (Bx.res_ct Try.results44 rfl (reg_load (MF.blk 2 rfl))) rfl ?_
        rw [HX.out]
        exact ⟨_, _, _, _, _, _, rfl, MF.held, HR.out.held MF.held, hcp⟩
  have HX : Is (move r ⟨k, nm, a, b, ⟨dr, dl, dc, dg⟩, ⟨cm, cc, up⟩⟩) (r, 4200) := ⟨move_bad HHAS.out HXP.out (by unfold moveBad; simp only; simp [ha0, ha1])⟩
  have ha0b : (a != 0) = true := by simp [ha0]
  have ha1b : (a != 1) = true := by simp [ha1]
  have ha0c : (a == 0) = false := by simp [ha0]
  have ha1c : (a == 1) = false := by simp [ha1]
  clear ha0 ha1
  go_enter Try.func44, Try.ntmps44
  go_wp2_with fail
  rw [HEQ.out]
  refine HFI.out.mono ?_
  rintro e w3 ⟨rfl, h3⟩
  have M3 := Lib.hid (M.out.keep h3)
  clear M h3 HFI
  clear c0 c1 e0 e1 m0 m1 m2 m3 m4 m5 m6 m7 m8 m9 m10 d0 d1 f0 f1 ltc ltm ltd
  obtain ⟨⟨c0, c1⟩, ⟨e0, e1⟩, ltc⟩ := M3.out.box2 0 rfl
  obtain ⟨⟨m0, m1, m2, m3, m4, m5, m6, m7, m8, m9, m10⟩, _, ltm⟩ := M3.out.box11 1 rfl
  obtain ⟨⟨d0, d1⟩, ⟨f0, f1⟩, ltd⟩ := M3.out.box2 2 rfl
  have qc0 := cell_regrown c0
  have qc1 := cell_regrown c1
  have qm2 := cell_regrown m2
  have qm3 := cell_regrown m3
  go_wp2
  refine wp_region_quiet_below (by kernel_rfl) (by kernel_rfl) ?_
  repeat (go_big_quiet_step (fail))
  refine wpQuiet_nil ?_
  intro w4 hw'
  obtain ⟨⟨dq, osq⟩, hw''⟩ := hw'
  have h12 : Held w3 w4 := by rw [hw'']; exact below_regrown w3 dq osq
  clear hw'' qc0 qc1 qm2 qm3 
  have M4 := Lib.hid (M3.out.keep h12)
  clear M3 h12
  clear c0 c1 e0 e1 m0 m1 m2 m3 m4 m5 m6 m7 m8 m9 m10 d0 d1 f0 f1 ltc ltm ltd
  obtain ⟨⟨c0, c1⟩, ⟨e0, e1⟩, ltc⟩ := M4.out.box2 0 rfl
  obtain ⟨⟨m0, m1, m2, m3, m4, m5, m6, m7, m8, m9, m10⟩, _, ltm⟩ := M4.out.box11 1 rfl
  obtain ⟨⟨d0, d1⟩, ⟨f0, f1⟩, ltd⟩ := M4.out.box2 2 rfl
  go_wp2
  have MF := (M4.out.put 2 rfl 0 (.slice HA n hc)).put 2 rfl 1 (.slice (some ⟨b2, o2, none⟩) gn gc)
  refine bodyPost_ret (Bx.res_ct Try.results44 rfl (reg_load (MF.blk 2 rfl))) rfl ?_
  rw [HX.out]
  exact ⟨_, _, _, _, _, _, rfl, MF.held, HR.out.held MF.held, hcp⟩
end Jn
end Go.Proofs.Ytmmnanmegdflgaa
