/-
  Contracts: add of the reference (chapter 42).
-/
import Derived.Test.YtmmnanmegdflgaaZ15
set_option linter.unusedVariables false
set_option linter.unusedSimpArgs false
set_option maxRecDepth 100000
namespace Go.Proofs.Ytmmnanmegdflgaa
open Go.RowKit Go.BigFrame Go.Sort
namespace Jn
open Ad Adm Law39
theorem findZ_no {G : List Pl} {s : ByteArray} (h : hasG G s = false) : findZ G s = -1 := by unfold findZ; rw [if_neg (by rw [h]; decide)]
theorem findZ_yes {G : List Pl} {s : ByteArray} (h : hasG G s = true) : findZ G s = ((pos G s : Nat) : Int) := by unfold findZ; rw [if_pos h]
theorem Sl.dropX {α : Type} {s : Nat} {f : α → List Value} {w : World} {A : Option Addr} {n : Nat} {L : List α} (h : Sl s f w A n L) {k : Nat} (hk : k < n) : ∃ b off, A = some ⟨b, off, none⟩ ∧ Sl s f w (some ⟨b, off + k * s, none⟩) (n - k) (L.drop k) := by
  rcases h.2 with h0 | ⟨b, off, rfl, _⟩
  · omega
  · exact ⟨b, off, rfl, Sl.drop h (by omega)⟩
set_option maxHeartbeats 4000000 in
theorem add_ref_any (HA : Option Addr) (n hc : Nat) (GA : Option Addr) (gn gc : Nat) (r : Reg) (k : Int) (nm : ByteArray) (a b dr dl dc dg cm cc : Int) (up : Bool) (w : World) (h : RegR w HA n GA gn r) (hcp : Caps HA n hc GA gn gc) (hs : Srt r.gs) (hl : (n : Int) ≤ 1000) (hg : (gn : Int) ≤ 50) (hnl : (nm.size : Int) ≤ 1000000000) :
    Calls Try.prog 41 #[.agg #[.slice HA n hc, .slice GA gn gc], .agg #[.int .i64 k, .string nm, .int .i64 a, .int .i64 b, .int .i64 dr, .int .i64 dl, .int .i64 dc, .int .i64 dg, .int .i64 cm, .int .i64 cc, .bool up]] w (ApTo (add r ⟨k, nm, a, b, ⟨dr, dl, dc, dg⟩, ⟨cm, cc, up⟩⟩) w) := by
  have HR := Lib.hid h
  have HNL : Is r.hs.length n := ⟨h.hs.1⟩
  have HGL : Is r.gs.length gn := ⟨h.gs.1⟩
  obtain ⟨W2, hW2⟩ : ∃ W2, ((w.alloc (.cells #[.slice HA n hc, .slice GA gn gc] 37)).alloc (.cells #[.int .i64 k, .string nm, .int .i64 a, .int .i64 b, .int .i64 dr, .int .i64 dl, .int .i64 dc, .int .i64 dg, .int .i64 cm, .int .i64 cc, .bool up] 27)).alloc (.cells #[.slice none 0 0, .slice none 0 0] 37) = W2 := ⟨_, rfl⟩
  have M : Hid (Mem w W2 [.box w.heap.size #[.slice HA n hc, .slice GA gn gc] 37, .box (w.heap.size + 1) #[.int .i64 k, .string nm, .int .i64 a, .int .i64 b, .int .i64 dr, .int .i64 dl, .int .i64 dc, .int .i64 dg, .int .i64 cm, .int .i64 cc, .bool up] 27, .box (w.heap.size + 1 + 1) #[.slice none 0 0, .slice none 0 0] 37]) := by
    rw [← hW2]; exact (((Mem.start w).alloc' (b := w.heap.size) rfl _ _).alloc' (b := w.heap.size + 1) (by simp) _ _).alloc' (b := w.heap.size + 1 + 1) (by simp) _ _
  have HEQ := Lib.hid hW2
  clear hW2 h
  have HSRT := Lib.hid hs
  clear hs
  have HN : ∀ w, Hid (Calls Try.prog 58 #[.string nm] w fun e w' => e = .returned (.bool (named nm)) ∧ Held w w') := fun w => named_ref_any nm (by omega) w
  have HVD : ∀ w, Hid (Calls Try.prog 59 #[.agg #[.int .i64 dr, .int .i64 dl, .int .i64 dc, .int .i64 dg]] w fun e w' => e = .returned (.bool (vd ⟨dr, dl, dc, dg⟩)) ∧ Held w w') := fun w => vd_ref_any dr dl dc dg w
  have HIA : ∀ w, Hid (Calls Try.prog 60 #[.slice HA n hc, .int .i64 a] w fun e w' => e = .returned (.bool (there n a)) ∧ Held w w') := fun w => there_ref_any HA n hc a (by omega) w
  have HIB : ∀ w, Hid (Calls Try.prog 60 #[.slice HA n hc, .int .i64 b] w fun e w' => e = .returned (.bool (there n b)) ∧ Held w w') := fun w => there_ref_any HA n hc b (by omega) w
  obtain ⟨bn, hbn⟩ : ∃ bn, named nm = bn := ⟨_, rfl⟩
  have HBN : Is (named nm) bn := ⟨hbn⟩
  obtain ⟨bv, hbv⟩ : ∃ bv, vd ⟨dr, dl, dc, dg⟩ = bv := ⟨_, rfl⟩
  have HBV : Is (vd ⟨dr, dl, dc, dg⟩) bv := ⟨hbv⟩
  obtain ⟨tx, htx⟩ : ∃ tx, there n a = tx := ⟨_, rfl⟩
  have HTX : Is (there n a) tx := ⟨htx⟩
  obtain ⟨ty, hty⟩ : ∃ ty, there n b = ty := ⟨_, rfl⟩
  have HTY : Is (there n b) ty := ⟨hty⟩
  simp only [hbn] at HN
  simp only [hbv] at HVD
  simp only [htx] at HIA
  simp only [hty] at HIB
  have HADD : Is (addBad r ⟨k, nm, a, b, ⟨dr, dl, dc, dg⟩, ⟨cm, cc, up⟩⟩) (!(bn && (bv && (tx && (ty && decide (a ≠ b)))))) := ⟨by unfold addBad; simp only; rw [HNL.out, hbn, hbv, htx, hty]⟩
  clear hbn hbv htx hty
  obtain ⟨⟨c0, c1⟩, ⟨e0, e1⟩, ltc⟩ := M.out.box2 0 rfl
  obtain ⟨⟨m0, m1, m2, m3, m4, m5, m6, m7, m8, m9, m10⟩, _, ltm⟩ := M.out.box11 1 rfl
  obtain ⟨⟨d0, d1⟩, ⟨f0, f1⟩, ltd⟩ := M.out.box2 2 rfl
  cases bn
  · have HX : Is (add r ⟨k, nm, a, b, ⟨dr, dl, dc, dg⟩, ⟨cm, cc, up⟩⟩) (r, 4200) := ⟨add_bad (by rw [HADD.out]; rfl)⟩
    clear HADD
    go_enter Try.func41, Try.ntmps41
    go_upto_region 1 with (fail)
    rw [HEQ.out]
    go_wp2_with (first | (go_at_call 58; (with_reducible refine (HN _).out.mono ?_); rintro e w3 ⟨rfl, h3⟩; have M3 := Lib.hid (M.out.keep h3); clear h3; clear c0 c1 e0 e1 m0 m1 m2 m3 m4 m5 m6 m7 m8 m9 m10 d0 d1 f0 f1 ltc ltm ltd; obtain ⟨⟨c0, c1⟩, ⟨e0, e1⟩, ltc⟩ := M3.out.box2 0 rfl; obtain ⟨⟨m0, m1, m2, m3, m4, m5, m6, m7, m8, m9, m10⟩, _, ltm⟩ := M3.out.box11 1 rfl; obtain ⟨⟨d0, d1⟩, ⟨f0, f1⟩, ltd⟩ := M3.out.box2 2 rfl))
    have MF := (M3.out.put 2 rfl 0 (.slice HA n hc)).put 2 rfl 1 (.slice GA gn gc)
    refine bodyPost_ret (Bx.res_ct Try.results41 rfl (reg_load (MF.blk 2 rfl))) rfl ?_
    rw [HX.out]
    exact ⟨_, _, _, _, _, _, rfl, MF.held, HR.out.held MF.held, hcp⟩
  cases bv
  · have HX : Is (add r ⟨k, nm, a, b, ⟨dr, dl, dc, dg⟩, ⟨cm, cc, up⟩⟩) (r, 4200) := ⟨add_bad (by rw [HADD.out]; rfl)⟩
    clear HADD
    go_enter Try.func41, Try.ntmps41
    go_upto_region 1 with (fail)
    rw [HEQ.out]
    go_wp2_with (first | (go_at_call 59; (with_reducible refine (HVD _).out.mono ?_); rintro e w4 ⟨rfl, h4⟩; have M4 := Lib.hid (M3.out.keep h4); clear h4; clear c0 c1 e0 e1 m0 m1 m2 m3 m4 m5 m6 m7 m8 m9 m10 d0 d1 f0 f1 ltc ltm ltd; obtain ⟨⟨c0, c1⟩, ⟨e0, e1⟩, ltc⟩ := M4.out.box2 0 rfl; obtain ⟨⟨m0, m1, m2, m3, m4, m5, m6, m7, m8, m9, m10⟩, _, ltm⟩ := M4.out.box11 1 rfl; obtain ⟨⟨d0, d1⟩, ⟨f0, f1⟩, ltd⟩ := M4.out.box2 2 rfl) | (go_at_call 58; (with_reducible refine (HN _).out.mono ?_); rintro e w3 ⟨rfl, h3⟩; have M3 := Lib.hid (M.out.keep h3); clear h3; clear c0 c1 e0 e1 m0 m1 m2 m3 m4 m5 m6 m7 m8 m9 m10 d0 d1 f0 f1 ltc ltm ltd; obtain ⟨⟨c0, c1⟩, ⟨e0, e1⟩, ltc⟩ := M3.out.box2 0 rfl; obtain ⟨⟨m0, m1, m2, m3, m4, m5, m6, m7, m8, m9, m10⟩, _, ltm⟩ := M3.out.box11 1 rfl; obtain ⟨⟨d0, d1⟩, ⟨f0, f1⟩, ltd⟩ := M3.out.box2 2 rfl))
    have MF := (M4.out.put 2 rfl 0 (.slice HA n hc)).put 2 rfl 1 (.slice GA gn gc)
    refine bodyPost_ret (Bx.res_ct Try.results41 rfl (reg_load (MF.blk 2 rfl))) rfl ?_
    rw [HX.out]
    exact ⟨_, _, _, _, _, _, rfl, MF.held, HR.out.held MF.held, hcp⟩
  cases tx
  · have HX : Is (add r ⟨k, nm, a, b, ⟨dr, dl, dc, dg⟩, ⟨cm, cc, up⟩⟩) (r, 4200) := ⟨add_bad (by rw [HADD.out]; rfl)⟩
    clear HADD
    go_enter Try.func41, Try.ntmps41
    go_upto_region 1 with (fail)
    rw [HEQ.out]
    go_wp2_with (first | (go_at_call 60; (with_reducible refine (HIA _).out.mono ?_); rintro e w5 ⟨rfl, h5⟩; have M5 := Lib.hid (M4.out.keep h5); clear h5; clear c0 c1 e0 e1 m0 m1 m2 m3 m4 m5 m6 m7 m8 m9 m10 d0 d1 f0 f1 ltc ltm ltd; obtain ⟨⟨c0, c1⟩, ⟨e0, e1⟩, ltc⟩ := M5.out.box2 0 rfl; obtain ⟨⟨m0, m1, m2, m3, m4, m5, m6, m7, m8, m9, m10⟩, _, ltm⟩ := M5.out.box11 1 rfl; obtain ⟨⟨d0, d1⟩, ⟨f0, f1⟩, ltd⟩ := M5.out.box2 2 rfl) | (go_at_call 59; (with_reducible refine (HVD _).out.mono ?_); rintro e w4 ⟨rfl, h4⟩; have M4 := Lib.hid (M3.out.keep h4); clear h4; clear c0 c1 e0 e1 m0 m1 m2 m3 m4 m5 m6 m7 m8 m9 m10 d0 d1 f0 f1 ltc ltm ltd; obtain ⟨⟨c0, c1⟩, ⟨e0, e1⟩, ltc⟩ := M4.out.box2 0 rfl; obtain ⟨⟨m0, m1, m2, m3, m4, m5, m6, m7, m8, m9, m10⟩, _, ltm⟩ := M4.out.box11 1 rfl; obtain ⟨⟨d0, d1⟩, ⟨f0, f1⟩, ltd⟩ := M4.out.box2 2 rfl) | (go_at_call 58; (with_reducible refine (HN _).out.mono ?_); rintro e w3 ⟨rfl, h3⟩; have M3 := Lib.hid (M.out.keep h3); clear h3; clear c0 c1 e0 e1 m0 m1 m2 m3 m4 m5 m6 m7 m8 m9 m10 d0 d1 f0 f1 ltc ltm ltd; obtain ⟨⟨c0, c1⟩, ⟨e0, e1⟩, ltc⟩ := M3.out.box2 0 rfl; obtain ⟨⟨m0, m1, m2, m3, m4, m5, m6, m7, m8, m9, m10⟩, _, ltm⟩ := M3.out.box11 1 rfl; obtain ⟨⟨d0, d1⟩, ⟨f0, f1⟩, ltd⟩ := M3.out.box2 2 rfl))
    have MF := (M5.out.put 2 rfl 0 (.slice HA n hc)).put 2 rfl 1 (.slice GA gn gc)
    refine bodyPost_ret (Bx.res_ct Try.results41 rfl (reg_load (MF.blk 2 rfl))) rfl ?_
    rw [HX.out]
    exact ⟨_, _, _, _, _, _, rfl, MF.held, HR.out.held MF.held, hcp⟩
  cases ty
  · have HX : Is (add r ⟨k, nm, a, b, ⟨dr, dl, dc, dg⟩, ⟨cm, cc, up⟩⟩) (r, 4200) := ⟨add_bad (by rw [HADD.out]; rfl)⟩
    clear HADD
    go_enter Try.func41, Try.ntmps41
    go_upto_region 1 with (fail)
    rw [HEQ.out]
    go_wp2_with (first | (go_at_call 60; (with_reducible refine (HIB _).out.mono ?_); rintro e w6 ⟨rfl, h6⟩; have M6 := Lib.hid (M5.out.keep h6); clear h6; clear c0 c1 e0 e1 m0 m1 m2 m3 m4 m5 m6 m7 m8 m9 m10 d0 d1 f0 f1 ltc ltm ltd; obtain ⟨⟨c0, c1⟩, ⟨e0, e1⟩, ltc⟩ := M6.out.box2 0 rfl; obtain ⟨⟨m0, m1, m2, m3, m4, m5, m6, m7, m8, m9, m10⟩, _, ltm⟩ := M6.out.box11 1 rfl; obtain ⟨⟨d0, d1⟩, ⟨f0, f1⟩, ltd⟩ := M6.out.box2 2 rfl) | (go_at_call 60; (with_reducible refine (HIA _).out.mono ?_); rintro e w5 ⟨rfl, h5⟩; have M5 := Lib.hid (M4.out.keep h5); clear h5; clear c0 c1 e0 e1 m0 m1 m2 m3 m4 m5 m6 m7 m8 m9 m10 d0 d1 f0 f1 ltc ltm ltd; obtain ⟨⟨c0, c1⟩, ⟨e0, e1⟩, ltc⟩ := M5.out.box2 0 rfl; obtain ⟨⟨m0, m1, m2, m3, m4, m5, m6, m7, m8, m9, m10⟩, _, ltm⟩ := M5.out.box11 1 rfl; obtain ⟨⟨d0, d1⟩, ⟨f0, f1⟩, ltd⟩ := M5.out.box2 2 rfl) | (go_at_call 59; (with_reducible refine (HVD _).out.mono ?_); rintro e w4 ⟨rfl, h4⟩; have M4 := Lib.hid (M3.out.keep h4); clear h4; clear c0 c1 e0 e1 m0 m1 m2 m3 m4 m5 m6 m7 m8 m9 m10 d0 d1 f0 f1 ltc ltm ltd; obtain ⟨⟨c0, c1⟩, ⟨e0, e1⟩, ltc⟩ := M4.out.box2 0 rfl; obtain ⟨⟨m0, m1, m2, m3, m4, m5, m6, m7, m8, m9, m10⟩, _, ltm⟩ := M4.out.box11 1 rfl; obtain ⟨⟨d0, d1⟩, ⟨f0, f1⟩, ltd⟩ := M4.out.box2 2 rfl) | (go_at_call 58; (with_reducible refine (HN _).out.mono ?_); rintro e w3 ⟨rfl, h3⟩; have M3 := Lib.hid (M.out.keep h3); clear h3; clear c0 c1 e0 e1 m0 m1 m2 m3 m4 m5 m6 m7 m8 m9 m10 d0 d1 f0 f1 ltc ltm ltd; obtain ⟨⟨c0, c1⟩, ⟨e0, e1⟩, ltc⟩ := M3.out.box2 0 rfl; obtain ⟨⟨m0, m1, m2, m3, m4, m5, m6, m7, m8, m9, m10⟩, _, ltm⟩ := M3.out.box11 1 rfl; obtain ⟨⟨d0, d1⟩, ⟨f0, f1⟩, ltd⟩ := M3.out.box2 2 rfl))
    have MF := (M6.out.put 2 rfl 0 (.slice HA n hc)).put 2 rfl 1 (.slice GA gn gc)
    refine bodyPost_ret (Bx.res_ct Try.results41 rfl (reg_load (MF.blk 2 rfl))) rfl ?_
    rw [HX.out]
    exact ⟨_, _, _, _, _, _, rfl, MF.held, HR.out.held MF.held, hcp⟩
  by_cases hab : a = b
  · have hq : (a == b) = true := by simp [hab]
    have HX : Is (add r ⟨k, nm, a, b, ⟨dr, dl, dc, dg⟩, ⟨cm, cc, up⟩⟩) (r, 4200) := ⟨add_bad (by rw [HADD.out]; simp [hab])⟩
    clear HADD hab
    go_enter Try.func41, Try.ntmps41
    go_upto_region 1 with (fail)
    rw [HEQ.out]
    go_wp2_with (first | (go_at_call 60; (with_reducible refine (HIB _).out.mono ?_); rintro e w6 ⟨rfl, h6⟩; have M6 := Lib.hid (M5.out.keep h6); clear h6; clear c0 c1 e0 e1 m0 m1 m2 m3 m4 m5 m6 m7 m8 m9 m10 d0 d1 f0 f1 ltc ltm ltd; obtain ⟨⟨c0, c1⟩, ⟨e0, e1⟩, ltc⟩ := M6.out.box2 0 rfl; obtain ⟨⟨m0, m1, m2, m3, m4, m5, m6, m7, m8, m9, m10⟩, _, ltm⟩ := M6.out.box11 1 rfl; obtain ⟨⟨d0, d1⟩, ⟨f0, f1⟩, ltd⟩ := M6.out.box2 2 rfl) | (go_at_call 60; (with_reducible refine (HIA _).out.mono ?_); rintro e w5 ⟨rfl, h5⟩; have M5 := Lib.hid (M4.out.keep h5); clear h5; clear c0 c1 e0 e1 m0 m1 m2 m3 m4 m5 m6 m7 m8 m9 m10 d0 d1 f0 f1 ltc ltm ltd; obtain ⟨⟨c0, c1⟩, ⟨e0, e1⟩, ltc⟩ := M5.out.box2 0 rfl; obtain ⟨⟨m0, m1, m2, m3, m4, m5, m6, m7, m8, m9, m10⟩, _, ltm⟩ := M5.out.box11 1 rfl; obtain ⟨⟨d0, d1⟩, ⟨f0, f1⟩, ltd⟩ := M5.out.box2 2 rfl) | (go_at_call 59; (with_reducible refine (HVD _).out.mono ?_); rintro e w4 ⟨rfl, h4⟩; have M4 := Lib.hid (M3.out.keep h4); clear h4; clear c0 c1 e0 e1 m0 m1 m2 m3 m4 m5 m6 m7 m8 m9 m10 d0 d1 f0 f1 ltc ltm ltd; obtain ⟨⟨c0, c1⟩, ⟨e0, e1⟩, ltc⟩ := M4.out.box2 0 rfl; obtain ⟨⟨m0, m1, m2, m3, m4, m5, m6, m7, m8, m9, m10⟩, _, ltm⟩ := M4.out.box11 1 rfl; obtain ⟨⟨d0, d1⟩, ⟨f0, f1⟩, ltd⟩ := M4.out.box2 2 rfl) | (go_at_call 58; (with_reducible refine (HN _).out.mono ?_); rintro e w3 ⟨rfl, h3⟩; have M3 := Lib.hid (M.out.keep h3); clear h3; clear c0 c1 e0 e1 m0 m1 m2 m3 m4 m5 m6 m7 m8 m9 m10 d0 d1 f0 f1 ltc ltm ltd; obtain ⟨⟨c0, c1⟩, ⟨e0, e1⟩, ltc⟩ := M3.out.box2 0 rfl; obtain ⟨⟨m0, m1, m2, m3, m4, m5, m6, m7, m8, m9, m10⟩, _, ltm⟩ := M3.out.box11 1 rfl; obtain ⟨⟨d0, d1⟩, ⟨f0, f1⟩, ltd⟩ := M3.out.box2 2 rfl))
    have MF := (M6.out.put 2 rfl 0 (.slice HA n hc)).put 2 rfl 1 (.slice GA gn gc)
    refine bodyPost_ret (Bx.res_ct Try.results41 rfl (reg_load (MF.blk 2 rfl))) rfl ?_
    rw [HX.out]
    exact ⟨_, _, _, _, _, _, rfl, MF.held, HR.out.held MF.held, hcp⟩
  have hq : (a == b) = false := by simp [hab]
  have HAB : Is (addBad r ⟨k, nm, a, b, ⟨dr, dl, dc, dg⟩, ⟨cm, cc, up⟩⟩) false := ⟨by rw [HADD.out]; simp [hab]⟩
  clear hab HADD
  obtain ⟨ia, hia, hian⟩ := there_nat HTX.out
  obtain ⟨ib, hib, hibn⟩ := there_nat HTY.out
  subst hia hib
  cases hh : hasG r.gs nm
  · have HHAS : Is (hasG r.gs nm) false := ⟨hh⟩
    clear hh
    by_cases h8 : (8 : Int) ≤ gn
    · have HX : Is (add r ⟨k, nm, (ia : Int), (ib : Int), ⟨dr, dl, dc, dg⟩, ⟨cm, cc, up⟩⟩) (r, 4203) := ⟨add_full HAB.out HHAS.out (by rw [HGL.out]; omega)⟩
      go_enter Try.func41, Try.ntmps41
      go_upto_region 1 with (fail)
      rw [HEQ.out]
      go_wp2_with (first | (go_at_call 60; (with_reducible refine (HIB _).out.mono ?_); rintro e w6 ⟨rfl, h6⟩; have M6 := Lib.hid (M5.out.keep h6); clear h6; clear c0 c1 e0 e1 m0 m1 m2 m3 m4 m5 m6 m7 m8 m9 m10 d0 d1 f0 f1 ltc ltm ltd; obtain ⟨⟨c0, c1⟩, ⟨e0, e1⟩, ltc⟩ := M6.out.box2 0 rfl; obtain ⟨⟨m0, m1, m2, m3, m4, m5, m6, m7, m8, m9, m10⟩, _, ltm⟩ := M6.out.box11 1 rfl; obtain ⟨⟨d0, d1⟩, ⟨f0, f1⟩, ltd⟩ := M6.out.box2 2 rfl) | (go_at_call 60; (with_reducible refine (HIA _).out.mono ?_); rintro e w5 ⟨rfl, h5⟩; have M5 := Lib.hid (M4.out.keep h5); clear h5; clear c0 c1 e0 e1 m0 m1 m2 m3 m4 m5 m6 m7 m8 m9 m10 d0 d1 f0 f1 ltc ltm ltd; obtain ⟨⟨c0, c1⟩, ⟨e0, e1⟩, ltc⟩ := M5.out.box2 0 rfl; obtain ⟨⟨m0, m1, m2, m3, m4, m5, m6, m7, m8, m9, m10⟩, _, ltm⟩ := M5.out.box11 1 rfl; obtain ⟨⟨d0, d1⟩, ⟨f0, f1⟩, ltd⟩ := M5.out.box2 2 rfl) | (go_at_call 59; (with_reducible refine (HVD _).out.mono ?_); rintro e w4 ⟨rfl, h4⟩; have M4 := Lib.hid (M3.out.keep h4); clear h4; clear c0 c1 e0 e1 m0 m1 m2 m3 m4 m5 m6 m7 m8 m9 m10 d0 d1 f0 f1 ltc ltm ltd; obtain ⟨⟨c0, c1⟩, ⟨e0, e1⟩, ltc⟩ := M4.out.box2 0 rfl; obtain ⟨⟨m0, m1, m2, m3, m4, m5, m6, m7, m8, m9, m10⟩, _, ltm⟩ := M4.out.box11 1 rfl; obtain ⟨⟨d0, d1⟩, ⟨f0, f1⟩, ltd⟩ := M4.out.box2 2 rfl) | (go_at_call 58; (with_reducible refine (HN _).out.mono ?_); rintro e w3 ⟨rfl, h3⟩; have M3 := Lib.hid (M.out.keep h3); clear h3; clear c0 c1 e0 e1 m0 m1 m2 m3 m4 m5 m6 m7 m8 m9 m10 d0 d1 f0 f1 ltc ltm ltd; obtain ⟨⟨c0, c1⟩, ⟨e0, e1⟩, ltc⟩ := M3.out.box2 0 rfl; obtain ⟨⟨m0, m1, m2, m3, m4, m5, m6, m7, m8, m9, m10⟩, _, ltm⟩ := M3.out.box11 1 rfl; obtain ⟨⟨d0, d1⟩, ⟨f0, f1⟩, ltd⟩ := M3.out.box2 2 rfl))
      have hfind := find_ref_any HA n hc GA gn gc r.gs nm w6 (HR.out.gs.held M6.out.held) HSRT.out (by omega)
      rw [findZ_no HHAS.out] at hfind
      have HFI := Lib.hid hfind
      clear hfind
      refine HFI.out.mono ?_
      rintro e w7 ⟨rfl, h7⟩
      have M7 := Lib.hid (M6.out.keep h7)
      clear h7 M6 HFI
      clear c0 c1 e0 e1 m0 m1 m2 m3 m4 m5 m6 m7 m8 m9 m10 d0 d1 f0 f1 ltc ltm ltd
      obtain ⟨⟨c0, c1⟩, ⟨e0, e1⟩, ltc⟩ := M7.out.box2 0 rfl
      obtain ⟨⟨m0, m1, m2, m3, m4, m5, m6, m7, m8, m9, m10⟩, _, ltm⟩ := M7.out.box11 1 rfl
      obtain ⟨⟨d0, d1⟩, ⟨f0, f1⟩, ltd⟩ := M7.out.box2 2 rfl
      go_wp2
      have MF := (M7.out.put 2 rfl 0 (.slice HA n hc)).put 2 rfl 1 (.slice GA gn gc)
      refine bodyPost_ret (Bx.res_ct Try.results41 rfl (reg_load (MF.blk 2 rfl))) rfl ?_
      rw [HX.out]
      exact ⟨_, _, _, _, _, _, rfl, MF.held, HR.out.held MF.held, hcp⟩
    · have h8n : ¬ 8 ≤ r.gs.length := by rw [HGL.out]; omega
      have H8N := Lib.hid h8n
      clear h8n
      obtain ⟨gbia, goffia, hmia, hkia, huia, hAia, _, hpxia, q0, q1, q2⟩ := capAt HR.out.hs (Held.refl w) (show ia < n by omega)
      have HAMia : Is (admAt r.hs r.gs (ia : Int) ⟨dr, dl, dc, dg⟩) (admit hmia hkia huia (on r.gs ia) ⟨dr, dl, dc, dg⟩) := ⟨adm_at hpxia⟩
      subst hAia
      have q0ia : Hid (∀ w', Held w w' → w'.cell? ⟨gbia, goffia + ia * 3, none⟩ = some (.int .i64 hmia) ∧ w'.cell? ⟨gbia, goffia + ia * 3 + 1, none⟩ = some (.int .i64 hkia) ∧ w'.cell? ⟨gbia, goffia + ia * 3 + 2, none⟩ = some (.bool huia)) := (fun w' h => ⟨h.cell q0, h.cell q1, h.cell q2⟩ : ∀ w', Held w w' → _)
      clear q0 q1 q2 hpxia
      obtain ⟨gbib, goffib, hmib, hkib, huib, hAib, _, hpxib, q0, q1, q2⟩ := capAt HR.out.hs (Held.refl w) (show ib < n by omega)
      have HAMib : Is (admAt r.hs r.gs (ib : Int) ⟨dr, dl, dc, dg⟩) (admit hmib hkib huib (on r.gs ib) ⟨dr, dl, dc, dg⟩) := ⟨adm_at hpxib⟩
      injection hAib with hAib
      injection hAib with hb1 hb2
      subst hb1 hb2
      have q0ib : Hid (∀ w', Held w w' → w'.cell? ⟨gbia, goffia + ib * 3, none⟩ = some (.int .i64 hmib) ∧ w'.cell? ⟨gbia, goffia + ib * 3 + 1, none⟩ = some (.int .i64 hkib) ∧ w'.cell? ⟨gbia, goffia + ib * 3 + 2, none⟩ = some (.bool huib)) := (fun w' h => ⟨h.cell q0, h.cell q1, h.cell q2⟩ : ∀ w', Held w w' → _)
      clear q0 q1 q2 hpxib
      have hola0 := on_len r.gs ia
      have holb0 := on_len r.gs ib
      have holia : ((on r.gs ia).length : Int) ≤ 100 := by rw [HGL.out] at hola0; omega
      have holib : ((on r.gs ib).length : Int) ≤ 100 := by rw [HGL.out] at holb0; omega
      clear hola0 holb0
      have ian : (ia : Int) < n := by omega
      have iap : ¬ (ia : Int) < 0 := by omega
      have ibn : (ib : Int) < n := by omega
      have ibp : ¬ (ib : Int) < 0 := by omega
      obtain ⟨ada, hada⟩ : ∃ ad, admit hmia hkia huia (on r.gs ia) ⟨dr, dl, dc, dg⟩ = ad := ⟨_, rfl⟩
      have HADia := Lib.hid hada
      rw [hada] at HAMia
      obtain ⟨adb, hadb⟩ : ∃ ad, admit hmib hkib huib (on r.gs ib) ⟨dr, dl, dc, dg⟩ = ad := ⟨_, rfl⟩
      have HADib := Lib.hid hadb
      rw [hadb] at HAMib
      clear hada hadb
      by_cases ha0 : ada = 0
      · have ha0b : (ada == 0) = true := by simp [ha0]
        have ha0c : (ada != 0) = false := by simp [ha0]
        have HZA : Is (admAt r.hs r.gs (ia : Int) ⟨dr, dl, dc, dg⟩) 0 := ⟨by rw [HAMia.out, ha0]⟩
        clear ha0 HAMia
        by_cases hb0 : adb = 0
        · have hb0b : (adb == 0) = true := by simp [hb0]
          have hb0c : (adb != 0) = false := by simp [hb0]
          have HZB : Is (admAt r.hs r.gs (ib : Int) ⟨dr, dl, dc, dg⟩) 0 := ⟨by rw [HAMib.out, hb0]⟩
          have HX : Is (add r ⟨k, nm, (ia : Int), (ib : Int), ⟨dr, dl, dc, dg⟩, ⟨cm, cc, up⟩⟩) (⟨r.hs, insG r.gs ⟨nm, ⟨dr, dl, dc, dg⟩, (ia : Int), (ib : Int)⟩⟩, 0) := ⟨add_ok HAB.out HHAS.out H8N.out HZA.out HZB.out⟩
          clear hb0 HAMib
          go_enter Try.func41, Try.ntmps41
          go_upto_region 1 with (fail)
          rw [HEQ.out]
          go_wp2_with (first | (go_at_call 60; (with_reducible refine (HIB _).out.mono ?_); rintro e w6 ⟨rfl, h6⟩; have M6 := Lib.hid (M5.out.keep h6); clear h6; clear c0 c1 e0 e1 m0 m1 m2 m3 m4 m5 m6 m7 m8 m9 m10 d0 d1 f0 f1 ltc ltm ltd; obtain ⟨⟨c0, c1⟩, ⟨e0, e1⟩, ltc⟩ := M6.out.box2 0 rfl; obtain ⟨⟨m0, m1, m2, m3, m4, m5, m6, m7, m8, m9, m10⟩, _, ltm⟩ := M6.out.box11 1 rfl; obtain ⟨⟨d0, d1⟩, ⟨f0, f1⟩, ltd⟩ := M6.out.box2 2 rfl) | (go_at_call 60; (with_reducible refine (HIA _).out.mono ?_); rintro e w5 ⟨rfl, h5⟩; have M5 := Lib.hid (M4.out.keep h5); clear h5; clear c0 c1 e0 e1 m0 m1 m2 m3 m4 m5 m6 m7 m8 m9 m10 d0 d1 f0 f1 ltc ltm ltd; obtain ⟨⟨c0, c1⟩, ⟨e0, e1⟩, ltc⟩ := M5.out.box2 0 rfl; obtain ⟨⟨m0, m1, m2, m3, m4, m5, m6, m7, m8, m9, m10⟩, _, ltm⟩ := M5.out.box11 1 rfl; obtain ⟨⟨d0, d1⟩, ⟨f0, f1⟩, ltd⟩ := M5.out.box2 2 rfl) | (go_at_call 59; (with_reducible refine (HVD _).out.mono ?_); rintro e w4 ⟨rfl, h4⟩; have M4 := Lib.hid (M3.out.keep h4); clear h4; clear c0 c1 e0 e1 m0 m1 m2 m3 m4 m5 m6 m7 m8 m9 m10 d0 d1 f0 f1 ltc ltm ltd; obtain ⟨⟨c0, c1⟩, ⟨e0, e1⟩, ltc⟩ := M4.out.box2 0 rfl; obtain ⟨⟨m0, m1, m2, m3, m4, m5, m6, m7, m8, m9, m10⟩, _, ltm⟩ := M4.out.box11 1 rfl; obtain ⟨⟨d0, d1⟩, ⟨f0, f1⟩, ltd⟩ := M4.out.box2 2 rfl) | (go_at_call 58; (with_reducible refine (HN _).out.mono ?_); rintro e w3 ⟨rfl, h3⟩; have M3 := Lib.hid (M.out.keep h3); clear h3; clear c0 c1 e0 e1 m0 m1 m2 m3 m4 m5 m6 m7 m8 m9 m10 d0 d1 f0 f1 ltc ltm ltd; obtain ⟨⟨c0, c1⟩, ⟨e0, e1⟩, ltc⟩ := M3.out.box2 0 rfl; obtain ⟨⟨m0, m1, m2, m3, m4, m5, m6, m7, m8, m9, m10⟩, _, ltm⟩ := M3.out.box11 1 rfl; obtain ⟨⟨d0, d1⟩, ⟨f0, f1⟩, ltd⟩ := M3.out.box2 2 rfl))
          have hfind := find_ref_any (some ⟨gbia, goffia, none⟩) n hc GA gn gc r.gs nm w6 (HR.out.gs.held M6.out.held) HSRT.out (by omega)
          rw [findZ_no HHAS.out] at hfind
          have HFI := Lib.hid hfind
          clear hfind
          refine HFI.out.mono ?_
          rintro e w7 ⟨rfl, h7⟩
          have M7 := Lib.hid (M6.out.keep h7)
          clear h7 M6 HFI
          clear c0 c1 e0 e1 m0 m1 m2 m3 m4 m5 m6 m7 m8 m9 m10 d0 d1 f0 f1 ltc ltm ltd
          obtain ⟨⟨c0, c1⟩, ⟨e0, e1⟩, ltc⟩ := M7.out.box2 0 rfl
          obtain ⟨⟨m0, m1, m2, m3, m4, m5, m6, m7, m8, m9, m10⟩, _, ltm⟩ := M7.out.box11 1 rfl
          obtain ⟨⟨d0, d1⟩, ⟨f0, f1⟩, ltd⟩ := M7.out.box2 2 rfl
          obtain ⟨p0, p1, p2⟩ := q0ia.out _ M7.out.held
          have HSGia := Lib.hid (HR.out.gs.held M7.out.held)
          go_wp2
          go_region_held3 (fun w' => w'.cell? ⟨w.heap.size, 0, none⟩ = some (.slice (some ⟨gbia, goffia, none⟩) n hc) ∧ w'.cell? ⟨w.heap.size, 1, none⟩ = some (.slice GA gn gc) ∧ w'.cell? ⟨w.heap.size + 1, 2, none⟩ = some (.int .i64 (ia : Int)) ∧ w'.cell? ⟨w.heap.size + 1, 4, none⟩ = some (.int .i64 dr) ∧ w'.cell? ⟨w.heap.size + 1, 5, none⟩ = some (.int .i64 dl) ∧ w'.cell? ⟨w.heap.size + 1, 6, none⟩ = some (.int .i64 dc) ∧ w'.cell? ⟨w.heap.size + 1, 7, none⟩ = some (.int .i64 dg) ∧ w'.cell? ⟨gbia, goffia + ia * 3, none⟩ = some (.int .i64 hmia) ∧ w'.cell? ⟨gbia, goffia + ia * 3 + 1, none⟩ = some (.int .i64 hkia) ∧ w'.cell? ⟨gbia, goffia + ia * 3 + 2, none⟩ = some (.bool huia) ∧ Held w7 w')
            ((repeat' refine And.intro ?_ ?_) <;> first | exact c0 | exact c1 | exact m2 | exact m4 | exact m5 | exact m6 | exact m7 | exact p0 | exact p1 | exact p2 | exact (Held.refl _).drew | exact Held.cell (by assumption) c0 | exact Held.cell (by assumption) c1 | exact Held.cell (by assumption) m2 | exact Held.cell (by assumption) m4 | exact Held.cell (by assumption) m5 | exact Held.cell (by assumption) m6 | exact Held.cell (by assumption) m7 | exact Held.cell (by assumption) p0 | exact Held.cell (by assumption) p1 | exact Held.cell (by assumption) p2 | exact (by assumption))
            (first | (go_at_call 62; refine (on_ref_any GA gn gc r.gs ia _ (ps_of (HSGia.out.held (Held.refl _).drew)) (by omega)).mono ?_; rintro e w8 ⟨v8, rfl, ho8, h8⟩; obtain ⟨A8, cp8, rfl, hcp8⟩ := own_slice ho8; obtain ⟨hds, _, _⟩ := ds_of_own ho8; have HDSia := Lib.hid hds; have k8 : Held w7 w8 := (Held.refl _).drew.step h8; clear ho8 hds) | (go_at_call 74; refine (admit_ref_any hmia hkia huia _ _ _ (on r.gs ia) dr dl dc dg _ HDSia.out holia).mono ?_; rintro e w9 ⟨rfl, h9⟩; rw [HADia.out]; have k9 : Held w7 w9 := k8.step h9))
          have MNia := Lib.hid (M7.out.keep k9)
          clear M7 p0 p1 p2
          clear c0 c1 e0 e1 m0 m1 m2 m3 m4 m5 m6 m7 m8 m9 m10 d0 d1 f0 f1 ltc ltm ltd
          obtain ⟨⟨c0, c1⟩, ⟨e0, e1⟩, ltc⟩ := MNia.out.box2 0 rfl
          obtain ⟨⟨m0, m1, m2, m3, m4, m5, m6, m7, m8, m9, m10⟩, _, ltm⟩ := MNia.out.box11 1 rfl
          obtain ⟨⟨d0, d1⟩, ⟨f0, f1⟩, ltd⟩ := MNia.out.box2 2 rfl
          obtain ⟨p0, p1, p2⟩ := q0ib.out _ MNia.out.held
          have HSGib := Lib.hid (HR.out.gs.held MNia.out.held)
          go_wp2
          go_region_held3 (fun w' => w'.cell? ⟨w.heap.size, 0, none⟩ = some (.slice (some ⟨gbia, goffia, none⟩) n hc) ∧ w'.cell? ⟨w.heap.size, 1, none⟩ = some (.slice GA gn gc) ∧ w'.cell? ⟨w.heap.size + 1, 3, none⟩ = some (.int .i64 (ib : Int)) ∧ w'.cell? ⟨w.heap.size + 1, 4, none⟩ = some (.int .i64 dr) ∧ w'.cell? ⟨w.heap.size + 1, 5, none⟩ = some (.int .i64 dl) ∧ w'.cell? ⟨w.heap.size + 1, 6, none⟩ = some (.int .i64 dc) ∧ w'.cell? ⟨w.heap.size + 1, 7, none⟩ = some (.int .i64 dg) ∧ w'.cell? ⟨gbia, goffia + ib * 3, none⟩ = some (.int .i64 hmib) ∧ w'.cell? ⟨gbia, goffia + ib * 3 + 1, none⟩ = some (.int .i64 hkib) ∧ w'.cell? ⟨gbia, goffia + ib * 3 + 2, none⟩ = some (.bool huib) ∧ Held w9 w')
            ((repeat' refine And.intro ?_ ?_) <;> first | exact c0 | exact c1 | exact m3 | exact m4 | exact m5 | exact m6 | exact m7 | exact p0 | exact p1 | exact p2 | exact (Held.refl _).drew | exact Held.cell (by assumption) c0 | exact Held.cell (by assumption) c1 | exact Held.cell (by assumption) m3 | exact Held.cell (by assumption) m4 | exact Held.cell (by assumption) m5 | exact Held.cell (by assumption) m6 | exact Held.cell (by assumption) m7 | exact Held.cell (by assumption) p0 | exact Held.cell (by assumption) p1 | exact Held.cell (by assumption) p2 | exact (by assumption))
            (first | (go_at_call 62; refine (on_ref_any GA gn gc r.gs ib _ (ps_of (HSGib.out.held (Held.refl _).drew)) (by omega)).mono ?_; rintro e w18 ⟨v18, rfl, ho18, h18⟩; obtain ⟨A18, cp18, rfl, hcp18⟩ := own_slice ho18; obtain ⟨hds, _, _⟩ := ds_of_own ho18; have HDSib := Lib.hid hds; have k18 : Held w9 w18 := (Held.refl _).drew.step h18; clear ho18 hds) | (go_at_call 74; refine (admit_ref_any hmib hkib huib _ _ _ (on r.gs ib) dr dl dc dg _ HDSib.out holib).mono ?_; rintro e w19 ⟨rfl, h19⟩; rw [HADib.out]; have k19 : Held w9 w19 := k18.step h19))
          have MNib := Lib.hid (MNia.out.keep k19)
          clear MNia p0 p1 p2
          clear c0 c1 e0 e1 m0 m1 m2 m3 m4 m5 m6 m7 m8 m9 m10 d0 d1 f0 f1 ltc ltm ltd
          obtain ⟨⟨c0, c1⟩, ⟨e0, e1⟩, ltc⟩ := MNib.out.box2 0 rfl
          obtain ⟨⟨m0, m1, m2, m3, m4, m5, m6, m7, m8, m9, m10⟩, _, ltm⟩ := MNib.out.box11 1 rfl
          obtain ⟨⟨d0, d1⟩, ⟨f0, f1⟩, ltd⟩ := MNib.out.box2 2 rfl
          clear HN HVD HIA HIB q0ia q0ib HADia HADib
          go_wp2
          go_loopw [7] (fun i wr => ∃ j : Nat, j ≤ pos r.gs nm ∧ i = .int .i64 j ∧ Hid (Mem w wr [.box w.heap.size #[.slice (some ⟨gbia, goffia, none⟩) n hc, .slice GA gn gc] 37, .box (w.heap.size + 1) #[.int .i64 k, .string nm, .int .i64 (ia : Int), .int .i64 (ib : Int), .int .i64 dr, .int .i64 dl, .int .i64 dc, .int .i64 dg, .int .i64 cm, .int .i64 cc, .bool up] 27, .box (w.heap.size + 1 + 1) #[.slice none 0 0, .slice none 0 0] 37])) (fun i _ => gn - (intOf i).toNat)
          case atStart => exact ⟨0, Nat.zero_le _, rfl, MNib.out⟩
          case round =>
            clear c0 c1 e0 e1 m0 m1 m2 m3 m4 m5 m6 m7 m8 m9 m10 d0 d1 f0 f1 ltc ltm ltd
            clear MNib
            obtain ⟨j, hj, rfl, MR⟩ := hrel
            obtain ⟨⟨c0, c1⟩, ⟨e0, e1⟩, ltc⟩ := MR.out.box2 0 rfl
            obtain ⟨⟨m0, m1, m2, m3, m4, m5, m6, m7, m8, m9, m10⟩, _, ltm⟩ := MR.out.box11 1 rfl
            obtain ⟨⟨d0, d1⟩, ⟨f0, f1⟩, ltd⟩ := MR.out.box2 2 rfl
            have hpl := pos_le r.gs nm
            rw [HGL.out] at hpl
            have hgc := hcp.g
            have j0 : ¬ (j : Int) < 0 := by omega
            by_cases hjg : j < gn
            · obtain ⟨b2, off2, pnm, pr, pl, pc, pg, px, py, hGA, _, hpx, p0, _⟩ := plAt HR.out.gs MR.out.held hjg
              have hjl : j < r.gs.length := by rw [HGL.out]; exact hjg
              have hpe : r.gs[j].nm = pnm := by rw [List.getElem?_eq_getElem hjl] at hpx; injection hpx with hpx; rw [hpx]
              have HGA := Lib.hid hGA
              subst hGA
              have hjd : decide (j < gn) = true := decide_eq_true hjg
              by_cases hjp : j < pos r.gs nm
              · have hlt : Op.bytesLess pnm.toList nm.toList = true := by have := pos_below hjp hjl; rw [hpe] at this; exact this
                clear hpx hpe hjl
                go_wp2
                have qc0 := cell_regrown c0
                have qc1 := cell_regrown c1
                have qm1 := cell_regrown m1
                have qp0 := cell_regrown p0
                refine wp_region_quiet_below (by kernel_rfl) (by kernel_rfl) ?_
                repeat (go_big_quiet_step (fail))
                refine wpQuiet_nil ?_
                intro w2 hw'
                obtain ⟨⟨dq, osq⟩, hw''⟩ := hw'
                have h12 : Held wr w2 := by rw [hw'']; exact below_regrown wr dq osq
                clear hw'' qc0 qc1 qm1 qp0
                have MR2 := Lib.hid (MR.out.keep h12)
                clear MR h12
                clear c0 c1 e0 e1 m0 m1 m2 m3 m4 m5 m6 m7 m8 m9 m10 d0 d1 f0 f1 ltc ltm ltd
                obtain ⟨⟨c0, c1⟩, ⟨e0, e1⟩, ltc⟩ := MR2.out.box2 0 rfl
                obtain ⟨⟨m0, m1, m2, m3, m4, m5, m6, m7, m8, m9, m10⟩, _, ltm⟩ := MR2.out.box11 1 rfl
                obtain ⟨⟨d0, d1⟩, ⟨f0, f1⟩, ltd⟩ := MR2.out.box2 2 rfl
                go_wp2
                go_roundw
                case rel => exact ⟨j + 1, by omega, by go_num, MR2.out⟩
                case measure => simp [intOf]; omega
              · have hjq : j = pos r.gs nm := by omega
                have hlt : Op.bytesLess pnm.toList nm.toList = false := by
                  have hpl2 : pos r.gs nm < r.gs.length := by rw [← hjq]; exact hjl
                  have h := pos_here hpl2
                  have e : r.gs[pos r.gs nm].nm = pnm := by rw [← hpe]; simp only [hjq]
                  rw [e] at h; exact h
                have HJQ : Is (pos r.gs nm) j := ⟨hjq.symm⟩
                clear hpx hpe hjl hjq
                go_wp2
                have qc0 := cell_regrown c0
                have qc1 := cell_regrown c1
                have qm1 := cell_regrown m1
                have qp0 := cell_regrown p0
                refine wp_region_quiet_below (by kernel_rfl) (by kernel_rfl) ?_
                repeat (go_big_quiet_step (fail))
                refine wpQuiet_nil ?_
                intro w2 hw'
                obtain ⟨⟨dq, osq⟩, hw''⟩ := hw'
                have h12 : Held wr w2 := by rw [hw'']; exact below_regrown wr dq osq
                clear hw'' qc0 qc1 qm1 qp0
                have MR2 := Lib.hid (MR.out.keep h12)
                clear MR h12
                clear c0 c1 e0 e1 m0 m1 m2 m3 m4 m5 m6 m7 m8 m9 m10 d0 d1 f0 f1 ltc ltm ltd
                obtain ⟨⟨c0, c1⟩, ⟨e0, e1⟩, ltc⟩ := MR2.out.box2 0 rfl
                obtain ⟨⟨m0, m1, m2, m3, m4, m5, m6, m7, m8, m9, m10⟩, _, ltm⟩ := MR2.out.box11 1 rfl
                obtain ⟨⟨d0, d1⟩, ⟨f0, f1⟩, ltd⟩ := MR2.out.box2 2 rfl
                have hcg1 : ¬ gc = j := by omega
                have hjc : (j : Int) ≤ gc := by omega
                have hjg2 : (j : Int) ≤ gn := by omega
                have HTL : Is (r.gs.take j).length j := ⟨by rw [List.length_take, HGL.out]; omega⟩
                have HTL1 : Is (r.gs.take j ++ [(⟨nm, ⟨dr, dl, dc, dg⟩, (ia : Int), (ib : Int)⟩ : Pl)]).length (j + 1) := ⟨by rw [List.length_append, HTL.out]; rfl⟩
                have HINS : Is (r.gs.take j ++ [(⟨nm, ⟨dr, dl, dc, dg⟩, (ia : Int), (ib : Int)⟩ : Pl)] ++ r.gs.drop j) (insG r.gs ⟨nm, ⟨dr, dl, dc, dg⟩, (ia : Int), (ib : Int)⟩) := ⟨by rw [← HJQ.out]; exact ins_eq r.gs ⟨nm, ⟨dr, dl, dc, dg⟩, (ia : Int), (ib : Int)⟩⟩
                have HDN : Is (r.gs.drop gn) [] := ⟨List.drop_eq_nil_of_le (by rw [HGL.out]; exact Nat.le_refl _)⟩
                have ME := Lib.hid (MR2.out.emptyRow (e := 75) (s := 7) (f := plC) (b := w2.heap.size) rfl)
                go_wp2_with (first | (at_builtin; refine Mem.wp_app (M5.out.skip _) 3 rfl rfl _ _ _ rfl _ 64 Try.underlying35 SlcPl.info rfl (by decide) plC_len plC_one ⟨nm, ⟨dr, dl, dc, dg⟩, (ia : Int), (ib : Int)⟩ ⟨w5.heap.size, 0, none⟩ 1 rfl rfl (cells_new _ (by simp) _ _) j HTL.out (by omega) (by decide) ?_; intro g6 cp6 w6 M6x; have M6 := Lib.hid M6x; clear M6x M5 c0 c1 e0 e1 m0 m1 m2 m3 m4 m5 m6 m7 m8 m9 m10 d0 d1 f0 f1 ltc ltm ltd; obtain ⟨⟨c0, c1⟩, ⟨e0, e1⟩, ltc⟩ := M6.out.box2 0 rfl; obtain ⟨⟨m0, m1, m2, m3, m4, m5, m6, m7, m8, m9, m10⟩, _, ltm⟩ := M6.out.box11 1 rfl; obtain ⟨⟨d0, d1⟩, ⟨f0, f1⟩, ltd⟩ := M6.out.box2 2 rfl) | (at_builtin; refine Mem.wp_cat ME.out 3 rfl rfl _ _ _ rfl _ 64 Try.underlying35 SlcPl.info rfl (by decide) plC_len plC_one (r.gs.take j) (some ⟨b2, off2, none⟩) j gc rfl rfl ((HR.out.gs.held ME.out.held).take (by omega)) rfl (by omega) (by decide) ?_; intro A5 cp5 w5 M5x hA5; simp only [Nat.zero_add, List.nil_append] at M5x ⊢; have M5 := Lib.hid M5x; clear M5x c0 c1 e0 e1 m0 m1 m2 m3 m4 m5 m6 m7 m8 m9 m10 d0 d1 f0 f1 ltc ltm ltd; obtain ⟨⟨c0, c1⟩, ⟨e0, e1⟩, ltc⟩ := M5.out.box2 0 rfl; obtain ⟨⟨m0, m1, m2, m3, m4, m5, m6, m7, m8, m9, m10⟩, _, ltm⟩ := M5.out.box11 1 rfl; obtain ⟨⟨d0, d1⟩, ⟨f0, f1⟩, ltd⟩ := M5.out.box2 2 rfl))
                have M6d := Lib.hid M6.out.drew
                have y0 : w6.drew.cell? ⟨w.heap.size, 0, none⟩ = some (.slice (some ⟨gbia, goffia, none⟩) n hc) := c0
                have y1 : w6.drew.cell? ⟨w.heap.size, 1, none⟩ = some (.slice (some ⟨b2, off2, none⟩) gn gc) := c1
                go_region_held3 (fun w' => w'.cell? ⟨w.heap.size, 0, none⟩ = some (.slice (some ⟨gbia, goffia, none⟩) n hc) ∧ w'.cell? ⟨w.heap.size, 1, none⟩ = some (.slice (some ⟨b2, off2, none⟩) gn gc))
                  ((repeat' refine And.intro ?_ ?_) <;> with_reducible assumption)
                  (first | (refine Mem.step_cat M6d.out 3 rfl (by rfl) _ _ _ (by rfl) _ 64 Try.underlying35 SlcPl.info (by rfl) (by decide) plC_len plC_one (r.gs.drop j) (some ⟨b2, off2 + j * 7, none⟩) (gn - j) (gc - j) (by rfl) (by rfl) (Sl.drop (HR.out.gs.held (Mem.held (by assumption))) (by omega)) HTL1.out (by omega) (by decide) ?_; intro A7 cp7 w7 M7x hA7; have M7 := Lib.hid M7x; clear M7x; have x0 : w7.cell? ⟨w.heap.size, 0, none⟩ = some (.slice (some ⟨gbia, goffia, none⟩) n hc) := M7.out.cell 0 rfl 0 rfl; have x1 : w7.cell? ⟨w.heap.size, 1, none⟩ = some (.slice (some ⟨b2, off2, none⟩) gn gc) := M7.out.cell 0 rfl 1 rfl; obtain ⟨⟨d0', d1'⟩, ⟨f0', f1'⟩, ltd'⟩ := M7.out.box2 2 rfl; have MP := (M7.out.put 2 rfl 0 (.slice (some ⟨gbia, goffia, none⟩) n hc)).put 2 rfl 1 (.slice A7 (j + 1 + (gn - j)) cp7); have z0 : ((w7.setCell ⟨w.heap.size + 1 + 1, 0, none⟩ (.slice (some ⟨gbia, goffia, none⟩) n hc)).setCell ⟨w.heap.size + 1 + 1, 1, none⟩ (.slice A7 (j + 1 + (gn - j)) cp7)).cell? ⟨w.heap.size, 0, none⟩ = some (.slice (some ⟨gbia, goffia, none⟩) n hc) := MP.cell 0 rfl 0 rfl; have z1 : ((w7.setCell ⟨w.heap.size + 1 + 1, 0, none⟩ (.slice (some ⟨gbia, goffia, none⟩) n hc)).setCell ⟨w.heap.size + 1 + 1, 1, none⟩ (.slice A7 (j + 1 + (gn - j)) cp7)).cell? ⟨w.heap.size, 1, none⟩ = some (.slice (some ⟨b2, off2, none⟩) gn gc) := MP.cell 0 rfl 1 rfl; clear MP))
                have MF := (M7.out.put 2 rfl 0 (.slice (some ⟨gbia, goffia, none⟩) n hc)).put 2 rfl 1 (.slice A7 (j + 1 + (gn - j)) cp7)
                go_wp2
                refine bodyPost_ret (Bx.res_ct Try.results41 rfl (reg_load (MF.blk 2 rfl))) rfl ?_
                rw [HX.out]
                have hrow := MF.row 3 rfl
                skip
                rw [HINS.out] at hrow
                exact ⟨_, _, _, _, _, _, rfl, MF.held, ⟨HR.out.hs.held MF.held, (Own.reads plC_len hrow).1⟩, Caps.guests hcp hrow⟩
            · obtain rfl : j = gn := by omega
              have hjd : decide (j < j) = false := decide_eq_false hjg
              have HJQ : Is (pos r.gs nm) j := ⟨by omega⟩
              go_wp2
              have qc0 := cell_regrown c0
              have qc1 := cell_regrown c1
              refine wp_region_quiet_below (by kernel_rfl) (by kernel_rfl) ?_
              repeat (go_big_quiet_step (fail))
              refine wpQuiet_nil ?_
              intro w2 hw'
              obtain ⟨⟨dq, osq⟩, hw''⟩ := hw'
              have h12 : Held wr w2 := by rw [hw'']; exact below_regrown wr dq osq
              clear hw'' qc0 qc1
              have MR2 := Lib.hid (MR.out.keep h12)
              clear MR h12
              clear c0 c1 e0 e1 m0 m1 m2 m3 m4 m5 m6 m7 m8 m9 m10 d0 d1 f0 f1 ltc ltm ltd
              obtain ⟨⟨c0, c1⟩, ⟨e0, e1⟩, ltc⟩ := MR2.out.box2 0 rfl
              obtain ⟨⟨m0, m1, m2, m3, m4, m5, m6, m7, m8, m9, m10⟩, _, ltm⟩ := MR2.out.box11 1 rfl
              obtain ⟨⟨d0, d1⟩, ⟨f0, f1⟩, ltd⟩ := MR2.out.box2 2 rfl
              by_cases hcg : gc = j
              · subst hcg
                have hjc : (gc : Int) ≤ gc := by omega
                have hjg2 : (gc : Int) ≤ gc := by omega
                have HTL : Is (r.gs.take gc).length gc := ⟨by rw [List.length_take, HGL.out]; omega⟩
                have HTL1 : Is (r.gs.take gc ++ [(⟨nm, ⟨dr, dl, dc, dg⟩, (ia : Int), (ib : Int)⟩ : Pl)]).length (gc + 1) := ⟨by rw [List.length_append, HTL.out]; rfl⟩
                have HINS : Is (r.gs.take gc ++ [(⟨nm, ⟨dr, dl, dc, dg⟩, (ia : Int), (ib : Int)⟩ : Pl)] ++ r.gs.drop gc) (insG r.gs ⟨nm, ⟨dr, dl, dc, dg⟩, (ia : Int), (ib : Int)⟩) := ⟨by rw [← HJQ.out]; exact ins_eq r.gs ⟨nm, ⟨dr, dl, dc, dg⟩, (ia : Int), (ib : Int)⟩⟩
                have HDN : Is (r.gs.drop gc) [] := ⟨List.drop_eq_nil_of_le (by rw [HGL.out]; exact Nat.le_refl _)⟩
                have ME := Lib.hid (MR2.out.emptyRow (e := 75) (s := 7) (f := plC) (b := w2.heap.size) rfl)
                go_wp2_with (first | (at_builtin; refine Mem.wp_app (M5.out.skip _) 3 rfl rfl _ _ _ rfl _ 64 Try.underlying35 SlcPl.info rfl (by decide) plC_len plC_one ⟨nm, ⟨dr, dl, dc, dg⟩, (ia : Int), (ib : Int)⟩ ⟨w5.heap.size, 0, none⟩ 1 rfl rfl (cells_new _ (by simp) _ _) gc HTL.out (by omega) (by decide) ?_; intro g6 cp6 w6 M6x; have M6 := Lib.hid M6x; clear M6x M5 c0 c1 e0 e1 m0 m1 m2 m3 m4 m5 m6 m7 m8 m9 m10 d0 d1 f0 f1 ltc ltm ltd; obtain ⟨⟨c0, c1⟩, ⟨e0, e1⟩, ltc⟩ := M6.out.box2 0 rfl; obtain ⟨⟨m0, m1, m2, m3, m4, m5, m6, m7, m8, m9, m10⟩, _, ltm⟩ := M6.out.box11 1 rfl; obtain ⟨⟨d0, d1⟩, ⟨f0, f1⟩, ltd⟩ := M6.out.box2 2 rfl) | (at_builtin; refine Mem.wp_cat ME.out 3 rfl rfl _ _ _ rfl _ 64 Try.underlying35 SlcPl.info rfl (by decide) plC_len plC_one (r.gs.take gc) GA gc gc rfl rfl ((HR.out.gs.held ME.out.held).take (by omega)) rfl (by omega) (by decide) ?_; intro A5 cp5 w5 M5x hA5; simp only [Nat.zero_add, List.nil_append] at M5x ⊢; have M5 := Lib.hid M5x; clear M5x c0 c1 e0 e1 m0 m1 m2 m3 m4 m5 m6 m7 m8 m9 m10 d0 d1 f0 f1 ltc ltm ltd; obtain ⟨⟨c0, c1⟩, ⟨e0, e1⟩, ltc⟩ := M5.out.box2 0 rfl; obtain ⟨⟨m0, m1, m2, m3, m4, m5, m6, m7, m8, m9, m10⟩, _, ltm⟩ := M5.out.box11 1 rfl; obtain ⟨⟨d0, d1⟩, ⟨f0, f1⟩, ltd⟩ := M5.out.box2 2 rfl))
                have M6d := Lib.hid M6.out.drew
                have y0 : w6.drew.cell? ⟨w.heap.size, 0, none⟩ = some (.slice (some ⟨gbia, goffia, none⟩) n hc) := c0
                have y1 : w6.drew.cell? ⟨w.heap.size, 1, none⟩ = some (.slice GA gc gc) := c1
                go_region_held3 (fun w' => w'.cell? ⟨w.heap.size, 0, none⟩ = some (.slice (some ⟨gbia, goffia, none⟩) n hc) ∧ w'.cell? ⟨w.heap.size, 1, none⟩ = some (.slice GA gc gc))
                  ((repeat' refine And.intro ?_ ?_) <;> with_reducible assumption)
                  (first | (refine Mem.step_cat M6d.out 3 rfl (by rfl) _ _ _ (by rfl) _ 64 Try.underlying35 SlcPl.info (by rfl) (by decide) plC_len plC_one [] _ _ _ (by rfl) (by rfl) (Sl.nil _ _) HTL1.out (by omega) (by decide) ?_; intro A7 cp7 w7 M7x hA7; have M7 := Lib.hid M7x; clear M7x; have x0 : w7.cell? ⟨w.heap.size, 0, none⟩ = some (.slice (some ⟨gbia, goffia, none⟩) n hc) := M7.out.cell 0 rfl 0 rfl; have x1 : w7.cell? ⟨w.heap.size, 1, none⟩ = some (.slice GA gc gc) := M7.out.cell 0 rfl 1 rfl; obtain ⟨⟨d0', d1'⟩, ⟨f0', f1'⟩, ltd'⟩ := M7.out.box2 2 rfl; have MP := (M7.out.put 2 rfl 0 (.slice (some ⟨gbia, goffia, none⟩) n hc)).put 2 rfl 1 (.slice A7 (gc + 1) cp7); have z0 : ((w7.setCell ⟨w.heap.size + 1 + 1, 0, none⟩ (.slice (some ⟨gbia, goffia, none⟩) n hc)).setCell ⟨w.heap.size + 1 + 1, 1, none⟩ (.slice A7 (gc + 1) cp7)).cell? ⟨w.heap.size, 0, none⟩ = some (.slice (some ⟨gbia, goffia, none⟩) n hc) := MP.cell 0 rfl 0 rfl; have z1 : ((w7.setCell ⟨w.heap.size + 1 + 1, 0, none⟩ (.slice (some ⟨gbia, goffia, none⟩) n hc)).setCell ⟨w.heap.size + 1 + 1, 1, none⟩ (.slice A7 (gc + 1) cp7)).cell? ⟨w.heap.size, 1, none⟩ = some (.slice GA gc gc) := MP.cell 0 rfl 1 rfl; clear MP))
                have MF := (M7.out.put 2 rfl 0 (.slice (some ⟨gbia, goffia, none⟩) n hc)).put 2 rfl 1 (.slice A7 (gc + 1) cp7)
                go_wp2
                refine bodyPost_ret (Bx.res_ct Try.results41 rfl (reg_load (MF.blk 2 rfl))) rfl ?_
                rw [HX.out]
                have hrow := MF.row 3 rfl
                rw [HDN.out] at HINS
                rw [HINS.out] at hrow
                exact ⟨_, _, _, _, _, _, rfl, MF.held, ⟨HR.out.hs.held MF.held, (Own.reads plC_len hrow).1⟩, Caps.guests hcp hrow⟩
              · have hcg1 : ¬ (gc : Int) = j := by omega
                cases GA with
                | none => exact absurd (hcp.zg rfl) (by omega)
                | some ad =>
                  have hjc : (j : Int) ≤ gc := by omega
                  have hjg2 : (j : Int) ≤ j := by omega
                  have HTL : Is (r.gs.take j).length j := ⟨by rw [List.length_take, HGL.out]; omega⟩
                  have HTL1 : Is (r.gs.take j ++ [(⟨nm, ⟨dr, dl, dc, dg⟩, (ia : Int), (ib : Int)⟩ : Pl)]).length (j + 1) := ⟨by rw [List.length_append, HTL.out]; rfl⟩
                  have HINS : Is (r.gs.take j ++ [(⟨nm, ⟨dr, dl, dc, dg⟩, (ia : Int), (ib : Int)⟩ : Pl)] ++ r.gs.drop j) (insG r.gs ⟨nm, ⟨dr, dl, dc, dg⟩, (ia : Int), (ib : Int)⟩) := ⟨by rw [← HJQ.out]; exact ins_eq r.gs ⟨nm, ⟨dr, dl, dc, dg⟩, (ia : Int), (ib : Int)⟩⟩
                  have HDN : Is (r.gs.drop j) [] := ⟨List.drop_eq_nil_of_le (by rw [HGL.out]; exact Nat.le_refl _)⟩
                  have ME := Lib.hid (MR2.out.emptyRow (e := 75) (s := 7) (f := plC) (b := w2.heap.size) rfl)
                  go_wp2_with (first | (at_builtin; refine Mem.wp_app (M5.out.skip _) 3 rfl rfl _ _ _ rfl _ 64 Try.underlying35 SlcPl.info rfl (by decide) plC_len plC_one ⟨nm, ⟨dr, dl, dc, dg⟩, (ia : Int), (ib : Int)⟩ ⟨w5.heap.size, 0, none⟩ 1 rfl rfl (cells_new _ (by simp) _ _) j HTL.out (by omega) (by decide) ?_; intro g6 cp6 w6 M6x; have M6 := Lib.hid M6x; clear M6x M5 c0 c1 e0 e1 m0 m1 m2 m3 m4 m5 m6 m7 m8 m9 m10 d0 d1 f0 f1 ltc ltm ltd; obtain ⟨⟨c0, c1⟩, ⟨e0, e1⟩, ltc⟩ := M6.out.box2 0 rfl; obtain ⟨⟨m0, m1, m2, m3, m4, m5, m6, m7, m8, m9, m10⟩, _, ltm⟩ := M6.out.box11 1 rfl; obtain ⟨⟨d0, d1⟩, ⟨f0, f1⟩, ltd⟩ := M6.out.box2 2 rfl) | (at_builtin; refine Mem.wp_cat ME.out 3 rfl rfl _ _ _ rfl _ 64 Try.underlying35 SlcPl.info rfl (by decide) plC_len plC_one (r.gs.take j) (some ad) j gc rfl rfl ((HR.out.gs.held ME.out.held).take (by omega)) rfl (by omega) (by decide) ?_; intro A5 cp5 w5 M5x hA5; simp only [Nat.zero_add, List.nil_append] at M5x ⊢; have M5 := Lib.hid M5x; clear M5x c0 c1 e0 e1 m0 m1 m2 m3 m4 m5 m6 m7 m8 m9 m10 d0 d1 f0 f1 ltc ltm ltd; obtain ⟨⟨c0, c1⟩, ⟨e0, e1⟩, ltc⟩ := M5.out.box2 0 rfl; obtain ⟨⟨m0, m1, m2, m3, m4, m5, m6, m7, m8, m9, m10⟩, _, ltm⟩ := M5.out.box11 1 rfl; obtain ⟨⟨d0, d1⟩, ⟨f0, f1⟩, ltd⟩ := M5.out.box2 2 rfl))
                  have M6d := Lib.hid M6.out.drew
                  have y0 : w6.drew.cell? ⟨w.heap.size, 0, none⟩ = some (.slice (some ⟨gbia, goffia, none⟩) n hc) := c0
                  have y1 : w6.drew.cell? ⟨w.heap.size, 1, none⟩ = some (.slice (some ad) j gc) := c1
                  go_region_held3 (fun w' => w'.cell? ⟨w.heap.size, 0, none⟩ = some (.slice (some ⟨gbia, goffia, none⟩) n hc) ∧ w'.cell? ⟨w.heap.size, 1, none⟩ = some (.slice (some ad) j gc))
                    ((repeat' refine And.intro ?_ ?_) <;> with_reducible assumption)
                    (first | (refine Mem.step_cat M6d.out 3 rfl (by rfl) _ _ _ (by rfl) _ 64 Try.underlying35 SlcPl.info (by rfl) (by decide) plC_len plC_one [] _ _ _ (by rfl) (by rfl) (Sl.nil _ _) HTL1.out (by omega) (by decide) ?_; intro A7 cp7 w7 M7x hA7; have M7 := Lib.hid M7x; clear M7x; have x0 : w7.cell? ⟨w.heap.size, 0, none⟩ = some (.slice (some ⟨gbia, goffia, none⟩) n hc) := M7.out.cell 0 rfl 0 rfl; have x1 : w7.cell? ⟨w.heap.size, 1, none⟩ = some (.slice (some ad) j gc) := M7.out.cell 0 rfl 1 rfl; obtain ⟨⟨d0', d1'⟩, ⟨f0', f1'⟩, ltd'⟩ := M7.out.box2 2 rfl; have MP := (M7.out.put 2 rfl 0 (.slice (some ⟨gbia, goffia, none⟩) n hc)).put 2 rfl 1 (.slice A7 (j + 1) cp7); have z0 : ((w7.setCell ⟨w.heap.size + 1 + 1, 0, none⟩ (.slice (some ⟨gbia, goffia, none⟩) n hc)).setCell ⟨w.heap.size + 1 + 1, 1, none⟩ (.slice A7 (j + 1) cp7)).cell? ⟨w.heap.size, 0, none⟩ = some (.slice (some ⟨gbia, goffia, none⟩) n hc) := MP.cell 0 rfl 0 rfl; have z1 : ((w7.setCell ⟨w.heap.size + 1 + 1, 0, none⟩ (.slice (some ⟨gbia, goffia, none⟩) n hc)).setCell ⟨w.heap.size + 1 + 1, 1, none⟩ (.slice A7 (j + 1) cp7)).cell? ⟨w.heap.size, 1, none⟩ = some (.slice (some ad) j gc) := MP.cell 0 rfl 1 rfl; clear MP))
                  have MF := (M7.out.put 2 rfl 0 (.slice (some ⟨gbia, goffia, none⟩) n hc)).put 2 rfl 1 (.slice A7 (j + 1) cp7)
                  go_wp2
                  refine bodyPost_ret (Bx.res_ct Try.results41 rfl (reg_load (MF.blk 2 rfl))) rfl ?_
                  rw [HX.out]
                  have hrow := MF.row 3 rfl
                  rw [HDN.out] at HINS
                  rw [HINS.out] at hrow
                  exact ⟨_, _, _, _, _, _, rfl, MF.held, ⟨HR.out.hs.held MF.held, (Own.reads plC_len hrow).1⟩, Caps.guests hcp hrow⟩
        · have hb0b : (adb == 0) = false := by simp [hb0]
          have hb0c : (adb != 0) = true := by simp [hb0]
          have HX : Is (add r ⟨k, nm, (ia : Int), (ib : Int), ⟨dr, dl, dc, dg⟩, ⟨cm, cc, up⟩⟩) (r, adb) := ⟨add_b HAB.out HHAS.out H8N.out HZA.out HAMib.out hb0⟩
          clear hb0 HAMib
          go_enter Try.func41, Try.ntmps41
          go_upto_region 1 with (fail)
          rw [HEQ.out]
          go_wp2_with (first | (go_at_call 60; (with_reducible refine (HIB _).out.mono ?_); rintro e w6 ⟨rfl, h6⟩; have M6 := Lib.hid (M5.out.keep h6); clear h6; clear c0 c1 e0 e1 m0 m1 m2 m3 m4 m5 m6 m7 m8 m9 m10 d0 d1 f0 f1 ltc ltm ltd; obtain ⟨⟨c0, c1⟩, ⟨e0, e1⟩, ltc⟩ := M6.out.box2 0 rfl; obtain ⟨⟨m0, m1, m2, m3, m4, m5, m6, m7, m8, m9, m10⟩, _, ltm⟩ := M6.out.box11 1 rfl; obtain ⟨⟨d0, d1⟩, ⟨f0, f1⟩, ltd⟩ := M6.out.box2 2 rfl) | (go_at_call 60; (with_reducible refine (HIA _).out.mono ?_); rintro e w5 ⟨rfl, h5⟩; have M5 := Lib.hid (M4.out.keep h5); clear h5; clear c0 c1 e0 e1 m0 m1 m2 m3 m4 m5 m6 m7 m8 m9 m10 d0 d1 f0 f1 ltc ltm ltd; obtain ⟨⟨c0, c1⟩, ⟨e0, e1⟩, ltc⟩ := M5.out.box2 0 rfl; obtain ⟨⟨m0, m1, m2, m3, m4, m5, m6, m7, m8, m9, m10⟩, _, ltm⟩ := M5.out.box11 1 rfl; obtain ⟨⟨d0, d1⟩, ⟨f0, f1⟩, ltd⟩ := M5.out.box2 2 rfl) | (go_at_call 59; (with_reducible refine (HVD _).out.mono ?_); rintro e w4 ⟨rfl, h4⟩; have M4 := Lib.hid (M3.out.keep h4); clear h4; clear c0 c1 e0 e1 m0 m1 m2 m3 m4 m5 m6 m7 m8 m9 m10 d0 d1 f0 f1 ltc ltm ltd; obtain ⟨⟨c0, c1⟩, ⟨e0, e1⟩, ltc⟩ := M4.out.box2 0 rfl; obtain ⟨⟨m0, m1, m2, m3, m4, m5, m6, m7, m8, m9, m10⟩, _, ltm⟩ := M4.out.box11 1 rfl; obtain ⟨⟨d0, d1⟩, ⟨f0, f1⟩, ltd⟩ := M4.out.box2 2 rfl) | (go_at_call 58; (with_reducible refine (HN _).out.mono ?_); rintro e w3 ⟨rfl, h3⟩; have M3 := Lib.hid (M.out.keep h3); clear h3; clear c0 c1 e0 e1 m0 m1 m2 m3 m4 m5 m6 m7 m8 m9 m10 d0 d1 f0 f1 ltc ltm ltd; obtain ⟨⟨c0, c1⟩, ⟨e0, e1⟩, ltc⟩ := M3.out.box2 0 rfl; obtain ⟨⟨m0, m1, m2, m3, m4, m5, m6, m7, m8, m9, m10⟩, _, ltm⟩ := M3.out.box11 1 rfl; obtain ⟨⟨d0, d1⟩, ⟨f0, f1⟩, ltd⟩ := M3.out.box2 2 rfl))
          have hfind := find_ref_any (some ⟨gbia, goffia, none⟩) n hc GA gn gc r.gs nm w6 (HR.out.gs.held M6.out.held) HSRT.out (by omega)
          rw [findZ_no HHAS.out] at hfind
          have HFI := Lib.hid hfind
          clear hfind
          refine HFI.out.mono ?_
          rintro e w7 ⟨rfl, h7⟩
          have M7 := Lib.hid (M6.out.keep h7)
          clear h7 M6 HFI
          clear c0 c1 e0 e1 m0 m1 m2 m3 m4 m5 m6 m7 m8 m9 m10 d0 d1 f0 f1 ltc ltm ltd
          obtain ⟨⟨c0, c1⟩, ⟨e0, e1⟩, ltc⟩ := M7.out.box2 0 rfl
          obtain ⟨⟨m0, m1, m2, m3, m4, m5, m6, m7, m8, m9, m10⟩, _, ltm⟩ := M7.out.box11 1 rfl
          obtain ⟨⟨d0, d1⟩, ⟨f0, f1⟩, ltd⟩ := M7.out.box2 2 rfl
          obtain ⟨p0, p1, p2⟩ := q0ia.out _ M7.out.held
          have HSGia := Lib.hid (HR.out.gs.held M7.out.held)
          go_wp2
          go_region_held3 (fun w' => w'.cell? ⟨w.heap.size, 0, none⟩ = some (.slice (some ⟨gbia, goffia, none⟩) n hc) ∧ w'.cell? ⟨w.heap.size, 1, none⟩ = some (.slice GA gn gc) ∧ w'.cell? ⟨w.heap.size + 1, 2, none⟩ = some (.int .i64 (ia : Int)) ∧ w'.cell? ⟨w.heap.size + 1, 4, none⟩ = some (.int .i64 dr) ∧ w'.cell? ⟨w.heap.size + 1, 5, none⟩ = some (.int .i64 dl) ∧ w'.cell? ⟨w.heap.size + 1, 6, none⟩ = some (.int .i64 dc) ∧ w'.cell? ⟨w.heap.size + 1, 7, none⟩ = some (.int .i64 dg) ∧ w'.cell? ⟨gbia, goffia + ia * 3, none⟩ = some (.int .i64 hmia) ∧ w'.cell? ⟨gbia, goffia + ia * 3 + 1, none⟩ = some (.int .i64 hkia) ∧ w'.cell? ⟨gbia, goffia + ia * 3 + 2, none⟩ = some (.bool huia) ∧ Held w7 w')
            ((repeat' refine And.intro ?_ ?_) <;> first | exact c0 | exact c1 | exact m2 | exact m4 | exact m5 | exact m6 | exact m7 | exact p0 | exact p1 | exact p2 | exact (Held.refl _).drew | exact Held.cell (by assumption) c0 | exact Held.cell (by assumption) c1 | exact Held.cell (by assumption) m2 | exact Held.cell (by assumption) m4 | exact Held.cell (by assumption) m5 | exact Held.cell (by assumption) m6 | exact Held.cell (by assumption) m7 | exact Held.cell (by assumption) p0 | exact Held.cell (by assumption) p1 | exact Held.cell (by assumption) p2 | exact (by assumption))
            (first | (go_at_call 62; refine (on_ref_any GA gn gc r.gs ia _ (ps_of (HSGia.out.held (Held.refl _).drew)) (by omega)).mono ?_; rintro e w8 ⟨v8, rfl, ho8, h8⟩; obtain ⟨A8, cp8, rfl, hcp8⟩ := own_slice ho8; obtain ⟨hds, _, _⟩ := ds_of_own ho8; have HDSia := Lib.hid hds; have k8 : Held w7 w8 := (Held.refl _).drew.step h8; clear ho8 hds) | (go_at_call 74; refine (admit_ref_any hmia hkia huia _ _ _ (on r.gs ia) dr dl dc dg _ HDSia.out holia).mono ?_; rintro e w9 ⟨rfl, h9⟩; rw [HADia.out]; have k9 : Held w7 w9 := k8.step h9))
          have MNia := Lib.hid (M7.out.keep k9)
          clear M7 p0 p1 p2
          clear c0 c1 e0 e1 m0 m1 m2 m3 m4 m5 m6 m7 m8 m9 m10 d0 d1 f0 f1 ltc ltm ltd
          obtain ⟨⟨c0, c1⟩, ⟨e0, e1⟩, ltc⟩ := MNia.out.box2 0 rfl
          obtain ⟨⟨m0, m1, m2, m3, m4, m5, m6, m7, m8, m9, m10⟩, _, ltm⟩ := MNia.out.box11 1 rfl
          obtain ⟨⟨d0, d1⟩, ⟨f0, f1⟩, ltd⟩ := MNia.out.box2 2 rfl
          obtain ⟨p0, p1, p2⟩ := q0ib.out _ MNia.out.held
          have HSGib := Lib.hid (HR.out.gs.held MNia.out.held)
          go_wp2
          go_region_held3 (fun w' => w'.cell? ⟨w.heap.size, 0, none⟩ = some (.slice (some ⟨gbia, goffia, none⟩) n hc) ∧ w'.cell? ⟨w.heap.size, 1, none⟩ = some (.slice GA gn gc) ∧ w'.cell? ⟨w.heap.size + 1, 3, none⟩ = some (.int .i64 (ib : Int)) ∧ w'.cell? ⟨w.heap.size + 1, 4, none⟩ = some (.int .i64 dr) ∧ w'.cell? ⟨w.heap.size + 1, 5, none⟩ = some (.int .i64 dl) ∧ w'.cell? ⟨w.heap.size + 1, 6, none⟩ = some (.int .i64 dc) ∧ w'.cell? ⟨w.heap.size + 1, 7, none⟩ = some (.int .i64 dg) ∧ w'.cell? ⟨gbia, goffia + ib * 3, none⟩ = some (.int .i64 hmib) ∧ w'.cell? ⟨gbia, goffia + ib * 3 + 1, none⟩ = some (.int .i64 hkib) ∧ w'.cell? ⟨gbia, goffia + ib * 3 + 2, none⟩ = some (.bool huib) ∧ Held w9 w')
            ((repeat' refine And.intro ?_ ?_) <;> first | exact c0 | exact c1 | exact m3 | exact m4 | exact m5 | exact m6 | exact m7 | exact p0 | exact p1 | exact p2 | exact (Held.refl _).drew | exact Held.cell (by assumption) c0 | exact Held.cell (by assumption) c1 | exact Held.cell (by assumption) m3 | exact Held.cell (by assumption) m4 | exact Held.cell (by assumption) m5 | exact Held.cell (by assumption) m6 | exact Held.cell (by assumption) m7 | exact Held.cell (by assumption) p0 | exact Held.cell (by assumption) p1 | exact Held.cell (by assumption) p2 | exact (by assumption))
            (first | (go_at_call 62; refine (on_ref_any GA gn gc r.gs ib _ (ps_of (HSGib.out.held (Held.refl _).drew)) (by omega)).mono ?_; rintro e w18 ⟨v18, rfl, ho18, h18⟩; obtain ⟨A18, cp18, rfl, hcp18⟩ := own_slice ho18; obtain ⟨hds, _, _⟩ := ds_of_own ho18; have HDSib := Lib.hid hds; have k18 : Held w9 w18 := (Held.refl _).drew.step h18; clear ho18 hds) | (go_at_call 74; refine (admit_ref_any hmib hkib huib _ _ _ (on r.gs ib) dr dl dc dg _ HDSib.out holib).mono ?_; rintro e w19 ⟨rfl, h19⟩; rw [HADib.out]; have k19 : Held w9 w19 := k18.step h19))
          have MNib := Lib.hid (MNia.out.keep k19)
          clear MNia p0 p1 p2
          clear c0 c1 e0 e1 m0 m1 m2 m3 m4 m5 m6 m7 m8 m9 m10 d0 d1 f0 f1 ltc ltm ltd
          obtain ⟨⟨c0, c1⟩, ⟨e0, e1⟩, ltc⟩ := MNib.out.box2 0 rfl
          obtain ⟨⟨m0, m1, m2, m3, m4, m5, m6, m7, m8, m9, m10⟩, _, ltm⟩ := MNib.out.box11 1 rfl
          obtain ⟨⟨d0, d1⟩, ⟨f0, f1⟩, ltd⟩ := MNib.out.box2 2 rfl
          go_wp2
          have MF := (MNib.out.put 2 rfl 0 (.slice (some ⟨gbia, goffia, none⟩) n hc)).put 2 rfl 1 (.slice GA gn gc)
          refine bodyPost_ret (Bx.res_ct Try.results41 rfl (reg_load (MF.blk 2 rfl))) rfl ?_
          rw [HX.out]
          exact ⟨_, _, _, _, _, _, rfl, MF.held, HR.out.held MF.held, hcp⟩
      · have ha0b : (ada == 0) = false := by simp [ha0]
        have ha0c : (ada != 0) = true := by simp [ha0]
        have HX : Is (add r ⟨k, nm, (ia : Int), (ib : Int), ⟨dr, dl, dc, dg⟩, ⟨cm, cc, up⟩⟩) (r, ada) := ⟨add_a HAB.out HHAS.out H8N.out HAMia.out ha0⟩
        clear ha0 HAMia
        go_enter Try.func41, Try.ntmps41
        go_upto_region 1 with (fail)
        rw [HEQ.out]
        go_wp2_with (first | (go_at_call 60; (with_reducible refine (HIB _).out.mono ?_); rintro e w6 ⟨rfl, h6⟩; have M6 := Lib.hid (M5.out.keep h6); clear h6; clear c0 c1 e0 e1 m0 m1 m2 m3 m4 m5 m6 m7 m8 m9 m10 d0 d1 f0 f1 ltc ltm ltd; obtain ⟨⟨c0, c1⟩, ⟨e0, e1⟩, ltc⟩ := M6.out.box2 0 rfl; obtain ⟨⟨m0, m1, m2, m3, m4, m5, m6, m7, m8, m9, m10⟩, _, ltm⟩ := M6.out.box11 1 rfl; obtain ⟨⟨d0, d1⟩, ⟨f0, f1⟩, ltd⟩ := M6.out.box2 2 rfl) | (go_at_call 60; (with_reducible refine (HIA _).out.mono ?_); rintro e w5 ⟨rfl, h5⟩; have M5 := Lib.hid (M4.out.keep h5); clear h5; clear c0 c1 e0 e1 m0 m1 m2 m3 m4 m5 m6 m7 m8 m9 m10 d0 d1 f0 f1 ltc ltm ltd; obtain ⟨⟨c0, c1⟩, ⟨e0, e1⟩, ltc⟩ := M5.out.box2 0 rfl; obtain ⟨⟨m0, m1, m2, m3, m4, m5, m6, m7, m8, m9, m10⟩, _, ltm⟩ := M5.out.box11 1 rfl; obtain ⟨⟨d0, d1⟩, ⟨f0, f1⟩, ltd⟩ := M5.out.box2 2 rfl) | (go_at_call 59; (with_reducible refine (HVD _).out.mono ?_); rintro e w4 ⟨rfl, h4⟩; have M4 := Lib.hid (M3.out.keep h4); clear h4; clear c0 c1 e0 e1 m0 m1 m2 m3 m4 m5 m6 m7 m8 m9 m10 d0 d1 f0 f1 ltc ltm ltd; obtain ⟨⟨c0, c1⟩, ⟨e0, e1⟩, ltc⟩ := M4.out.box2 0 rfl; obtain ⟨⟨m0, m1, m2, m3, m4, m5, m6, m7, m8, m9, m10⟩, _, ltm⟩ := M4.out.box11 1 rfl; obtain ⟨⟨d0, d1⟩, ⟨f0, f1⟩, ltd⟩ := M4.out.box2 2 rfl) | (go_at_call 58; (with_reducible refine (HN _).out.mono ?_); rintro e w3 ⟨rfl, h3⟩; have M3 := Lib.hid (M.out.keep h3); clear h3; clear c0 c1 e0 e1 m0 m1 m2 m3 m4 m5 m6 m7 m8 m9 m10 d0 d1 f0 f1 ltc ltm ltd; obtain ⟨⟨c0, c1⟩, ⟨e0, e1⟩, ltc⟩ := M3.out.box2 0 rfl; obtain ⟨⟨m0, m1, m2, m3, m4, m5, m6, m7, m8, m9, m10⟩, _, ltm⟩ := M3.out.box11 1 rfl; obtain ⟨⟨d0, d1⟩, ⟨f0, f1⟩, ltd⟩ := M3.out.box2 2 rfl))
        have hfind := find_ref_any (some ⟨gbia, goffia, none⟩) n hc GA gn gc r.gs nm w6 (HR.out.gs.held M6.out.held) HSRT.out (by omega)
        rw [findZ_no HHAS.out] at hfind
        have HFI := Lib.hid hfind
        clear hfind
        refine HFI.out.mono ?_
        rintro e w7 ⟨rfl, h7⟩
        have M7 := Lib.hid (M6.out.keep h7)
        clear h7 M6 HFI
        clear c0 c1 e0 e1 m0 m1 m2 m3 m4 m5 m6 m7 m8 m9 m10 d0 d1 f0 f1 ltc ltm ltd
        obtain ⟨⟨c0, c1⟩, ⟨e0, e1⟩, ltc⟩ := M7.out.box2 0 rfl
        obtain ⟨⟨m0, m1, m2, m3, m4, m5, m6, m7, m8, m9, m10⟩, _, ltm⟩ := M7.out.box11 1 rfl
        obtain ⟨⟨d0, d1⟩, ⟨f0, f1⟩, ltd⟩ := M7.out.box2 2 rfl
        obtain ⟨p0, p1, p2⟩ := q0ia.out _ M7.out.held
        have HSGia := Lib.hid (HR.out.gs.held M7.out.held)
        go_wp2
        go_region_held3 (fun w' => w'.cell? ⟨w.heap.size, 0, none⟩ = some (.slice (some ⟨gbia, goffia, none⟩) n hc) ∧ w'.cell? ⟨w.heap.size, 1, none⟩ = some (.slice GA gn gc) ∧ w'.cell? ⟨w.heap.size + 1, 2, none⟩ = some (.int .i64 (ia : Int)) ∧ w'.cell? ⟨w.heap.size + 1, 4, none⟩ = some (.int .i64 dr) ∧ w'.cell? ⟨w.heap.size + 1, 5, none⟩ = some (.int .i64 dl) ∧ w'.cell? ⟨w.heap.size + 1, 6, none⟩ = some (.int .i64 dc) ∧ w'.cell? ⟨w.heap.size + 1, 7, none⟩ = some (.int .i64 dg) ∧ w'.cell? ⟨gbia, goffia + ia * 3, none⟩ = some (.int .i64 hmia) ∧ w'.cell? ⟨gbia, goffia + ia * 3 + 1, none⟩ = some (.int .i64 hkia) ∧ w'.cell? ⟨gbia, goffia + ia * 3 + 2, none⟩ = some (.bool huia) ∧ Held w7 w')
          ((repeat' refine And.intro ?_ ?_) <;> first | exact c0 | exact c1 | exact m2 | exact m4 | exact m5 | exact m6 | exact m7 | exact p0 | exact p1 | exact p2 | exact (Held.refl _).drew | exact Held.cell (by assumption) c0 | exact Held.cell (by assumption) c1 | exact Held.cell (by assumption) m2 | exact Held.cell (by assumption) m4 | exact Held.cell (by assumption) m5 | exact Held.cell (by assumption) m6 | exact Held.cell (by assumption) m7 | exact Held.cell (by assumption) p0 | exact Held.cell (by assumption) p1 | exact Held.cell (by assumption) p2 | exact (by assumption))
          (first | (go_at_call 62; refine (on_ref_any GA gn gc r.gs ia _ (ps_of (HSGia.out.held (Held.refl _).drew)) (by omega)).mono ?_; rintro e w8 ⟨v8, rfl, ho8, h8⟩; obtain ⟨A8, cp8, rfl, hcp8⟩ := own_slice ho8; obtain ⟨hds, _, _⟩ := ds_of_own ho8; have HDSia := Lib.hid hds; have k8 : Held w7 w8 := (Held.refl _).drew.step h8; clear ho8 hds) | (go_at_call 74; refine (admit_ref_any hmia hkia huia _ _ _ (on r.gs ia) dr dl dc dg _ HDSia.out holia).mono ?_; rintro e w9 ⟨rfl, h9⟩; rw [HADia.out]; have k9 : Held w7 w9 := k8.step h9))
        have MNia := Lib.hid (M7.out.keep k9)
        clear M7 p0 p1 p2
        clear c0 c1 e0 e1 m0 m1 m2 m3 m4 m5 m6 m7 m8 m9 m10 d0 d1 f0 f1 ltc ltm ltd
        obtain ⟨⟨c0, c1⟩, ⟨e0, e1⟩, ltc⟩ := MNia.out.box2 0 rfl
        obtain ⟨⟨m0, m1, m2, m3, m4, m5, m6, m7, m8, m9, m10⟩, _, ltm⟩ := MNia.out.box11 1 rfl
        obtain ⟨⟨d0, d1⟩, ⟨f0, f1⟩, ltd⟩ := MNia.out.box2 2 rfl
        go_wp2
        have MF := (MNia.out.put 2 rfl 0 (.slice (some ⟨gbia, goffia, none⟩) n hc)).put 2 rfl 1 (.slice GA gn gc)
        refine bodyPost_ret (Bx.res_ct Try.results41 rfl (reg_load (MF.blk 2 rfl))) rfl ?_
        rw [HX.out]
        exact ⟨_, _, _, _, _, _, rfl, MF.held, HR.out.held MF.held, hcp⟩
  · have HX : Is (add r ⟨k, nm, (ia : Int), (ib : Int), ⟨dr, dl, dc, dg⟩, ⟨cm, cc, up⟩⟩) (r, 4201) := ⟨add_twice HAB.out hh⟩
    go_enter Try.func41, Try.ntmps41
    go_upto_region 1 with (fail)
    rw [HEQ.out]
    go_wp2_with (first | (go_at_call 60; (with_reducible refine (HIB _).out.mono ?_); rintro e w6 ⟨rfl, h6⟩; have M6 := Lib.hid (M5.out.keep h6); clear h6; clear c0 c1 e0 e1 m0 m1 m2 m3 m4 m5 m6 m7 m8 m9 m10 d0 d1 f0 f1 ltc ltm ltd; obtain ⟨⟨c0, c1⟩, ⟨e0, e1⟩, ltc⟩ := M6.out.box2 0 rfl; obtain ⟨⟨m0, m1, m2, m3, m4, m5, m6, m7, m8, m9, m10⟩, _, ltm⟩ := M6.out.box11 1 rfl; obtain ⟨⟨d0, d1⟩, ⟨f0, f1⟩, ltd⟩ := M6.out.box2 2 rfl) | (go_at_call 60; (with_reducible refine (HIA _).out.mono ?_); rintro e w5 ⟨rfl, h5⟩; have M5 := Lib.hid (M4.out.keep h5); clear h5; clear c0 c1 e0 e1 m0 m1 m2 m3 m4 m5 m6 m7 m8 m9 m10 d0 d1 f0 f1 ltc ltm ltd; obtain ⟨⟨c0, c1⟩, ⟨e0, e1⟩, ltc⟩ := M5.out.box2 0 rfl; obtain ⟨⟨m0, m1, m2, m3, m4, m5, m6, m7, m8, m9, m10⟩, _, ltm⟩ := M5.out.box11 1 rfl; obtain ⟨⟨d0, d1⟩, ⟨f0, f1⟩, ltd⟩ := M5.out.box2 2 rfl) | (go_at_call 59; (with_reducible refine (HVD _).out.mono ?_); rintro e w4 ⟨rfl, h4⟩; have M4 := Lib.hid (M3.out.keep h4); clear h4; clear c0 c1 e0 e1 m0 m1 m2 m3 m4 m5 m6 m7 m8 m9 m10 d0 d1 f0 f1 ltc ltm ltd; obtain ⟨⟨c0, c1⟩, ⟨e0, e1⟩, ltc⟩ := M4.out.box2 0 rfl; obtain ⟨⟨m0, m1, m2, m3, m4, m5, m6, m7, m8, m9, m10⟩, _, ltm⟩ := M4.out.box11 1 rfl; obtain ⟨⟨d0, d1⟩, ⟨f0, f1⟩, ltd⟩ := M4.out.box2 2 rfl) | (go_at_call 58; (with_reducible refine (HN _).out.mono ?_); rintro e w3 ⟨rfl, h3⟩; have M3 := Lib.hid (M.out.keep h3); clear h3; clear c0 c1 e0 e1 m0 m1 m2 m3 m4 m5 m6 m7 m8 m9 m10 d0 d1 f0 f1 ltc ltm ltd; obtain ⟨⟨c0, c1⟩, ⟨e0, e1⟩, ltc⟩ := M3.out.box2 0 rfl; obtain ⟨⟨m0, m1, m2, m3, m4, m5, m6, m7, m8, m9, m10⟩, _, ltm⟩ := M3.out.box11 1 rfl; obtain ⟨⟨d0, d1⟩, ⟨f0, f1⟩, ltd⟩ := M3.out.box2 2 rfl))
    have hfind := find_ref_any HA n hc GA gn gc r.gs nm w6 (HR.out.gs.held M6.out.held) HSRT.out (by omega)
    rw [findZ_yes hh] at hfind
    have HFI := Lib.hid hfind
    clear hfind
    refine HFI.out.mono ?_
    rintro e w7 ⟨rfl, h7⟩
    have M7 := Lib.hid (M6.out.keep h7)
    clear h7 M6 HFI
    clear c0 c1 e0 e1 m0 m1 m2 m3 m4 m5 m6 m7 m8 m9 m10 d0 d1 f0 f1 ltc ltm ltd
    obtain ⟨⟨c0, c1⟩, ⟨e0, e1⟩, ltc⟩ := M7.out.box2 0 rfl
    obtain ⟨⟨m0, m1, m2, m3, m4, m5, m6, m7, m8, m9, m10⟩, _, ltm⟩ := M7.out.box11 1 rfl
    obtain ⟨⟨d0, d1⟩, ⟨f0, f1⟩, ltd⟩ := M7.out.box2 2 rfl
    go_wp2
    have MF := (M7.out.put 2 rfl 0 (.slice HA n hc)).put 2 rfl 1 (.slice GA gn gc)
    refine bodyPost_ret (Bx.res_ct Try.results41 rfl (reg_load (MF.blk 2 rfl))) rfl ?_
    rw [HX.out]
    exact ⟨_, _, _, _, _, _, rfl, MF.held, HR.out.held MF.held, hcp⟩
end Jn
end Go.Proofs.Ytmmnanmegdflgaa
