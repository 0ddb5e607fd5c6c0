/-
  Contracts: add of the program (chapter 42).
-/
import Derived.Test.YtmmnanmegdflgaaZ11
set_option linter.unusedVariables false
set_option linter.unusedSimpArgs false
set_option maxRecDepth 100000
namespace Go.Proofs.Ytmmnanmegdflgaa
open Go.RowKit Go.BigFrame Go.Sort
namespace Jn
open Ad Adm Law39
theorem add_bad {r : Reg} {o : Man} (h : addBad r o = true) : add r o = (r, 4200) := by unfold add; rw [if_pos h]
theorem add_twice {r : Reg} {o : Man} (h : addBad r o = false) (h2 : hasG r.gs o.nm = true) : add r o = (r, 4201) := by unfold add; rw [if_neg (by rw [h]; decide), if_pos h2]
theorem add_full {r : Reg} {o : Man} (h : addBad r o = false) (h2 : hasG r.gs o.nm = false) (h3 : 8 ≤ r.gs.length) : add r o = (r, 4203) := by
  unfold add; rw [if_neg (by rw [h]; decide), if_neg (by rw [h2]; decide), if_pos h3]
theorem add_a {r : Reg} {o : Man} (h : addBad r o = false) (h2 : hasG r.gs o.nm = false) (h3 : ¬ 8 ≤ r.gs.length) {x : Int} (hx : admAt r.hs r.gs o.a o.d = x) (h0 : x ≠ 0) : add r o = (r, x) := by
  unfold add; rw [if_neg (by rw [h]; decide), if_neg (by rw [h2]; decide), if_neg h3, if_pos (by rw [hx]; exact h0), hx]
theorem add_b {r : Reg} {o : Man} (h : addBad r o = false) (h2 : hasG r.gs o.nm = false) (h3 : ¬ 8 ≤ r.gs.length) (hx : admAt r.hs r.gs o.a o.d = 0) {y : Int} (hy : admAt r.hs r.gs o.b o.d = y) (h0 : y ≠ 0) : add r o = (r, y) := by
  unfold add; rw [if_neg (by rw [h]; decide), if_neg (by rw [h2]; decide), if_neg h3, if_neg (by rw [hx]; decide), if_pos (by rw [hy]; exact h0), hy]
theorem add_ok {r : Reg} {o : Man} (h : addBad r o = false) (h2 : hasG r.gs o.nm = false) (h3 : ¬ 8 ≤ r.gs.length) (hx : admAt r.hs r.gs o.a o.d = 0) (hy : admAt r.hs r.gs o.b o.d = 0) : add r o = (⟨r.hs, insG r.gs ⟨o.nm, o.d, o.a, o.b⟩⟩, 0) := by
  unfold add; rw [if_neg (by rw [h]; decide), if_neg (by rw [h2]; decide), if_neg h3, if_neg (by rw [hx]; decide), if_neg (by rw [hy]; decide)]
theorem there_nat {n : Nat} {z : Int} (h : there n z = true) : ∃ k : Nat, z = k ∧ k < n := by
  unfold there at h
  rw [Bool.and_eq_true, decide_eq_true_eq, decide_eq_true_eq] at h
  exact ⟨z.toNat, by omega, by omega⟩
theorem adm_at {H : List Cap} {L : List Pl} {k : Nat} {c : Cap} {d : Dem} (h : H[k]? = some c) : admAt H L k d = admit c.m c.c c.up (on L k) d := by unfold admAt; rw [Int.toNat_natCast, h]
theorem ins_eq (L : List Pl) (p : Pl) : L.take (pos L p.nm) ++ [p] ++ L.drop (pos L p.nm) = insG L p := by unfold insG; simp
set_option maxHeartbeats 4000000 in
theorem add_any (W : World) (v1 v2 : Value) (r : Reg) (k : Int) (nm : ByteArray) (a b dr dl dc dg cm cc : Int) (up : Bool) (w : World) (h : OwnR W w v1 v2 r) (hs : Srt r.gs) (hl : (r.hs.length : Int) ≤ 1000) (hg : (r.gs.length : Int) ≤ 50) (hnl : (nm.size : Int) ≤ 1000000000) :
    Calls Try.prog 36 #[.agg #[v1, v2], .agg #[.int .i64 k, .string nm, .int .i64 a, .int .i64 b, .int .i64 dr, .int .i64 dl, .int .i64 dc, .int .i64 dg, .int .i64 cm, .int .i64 cc, .bool up]] w (StepTo (add r ⟨k, nm, a, b, ⟨dr, dl, dc, dg⟩, ⟨cm, cc, up⟩⟩) W) := by
  obtain ⟨A1, cp1, rfl, hc1, _⟩ := (h.row 0 rfl).shape
  obtain ⟨A2, cp2, rfl, hc2, _⟩ := (h.row 1 rfl).shape
  obtain ⟨W2, hW2⟩ : ∃ W2, ((w.alloc (.cells #[.slice A1 r.hs.length cp1, .slice A2 r.gs.length cp2] 37)).alloc (.cells #[.int .i64 k, .string nm, .int .i64 a, .int .i64 b, .int .i64 dr, .int .i64 dl, .int .i64 dc, .int .i64 dg, .int .i64 cm, .int .i64 cc, .bool up] 27)).alloc (.cells #[.slice none 0 0, .slice none 0 0] 37) = W2 := ⟨_, rfl⟩
  have M := Lib.hid (three h #[.int .i64 k, .string nm, .int .i64 a, .int .i64 b, .int .i64 dr, .int .i64 dl, .int .i64 dc, .int .i64 dg, .int .i64 cm, .int .i64 cc, .bool up])
  rw [hW2] at M
  have HEQ := Lib.hid hW2
  obtain ⟨n, hn⟩ : ∃ n, r.hs.length = n := ⟨_, rfl⟩
  have HNL : Is r.hs.length n := ⟨hn⟩
  rw [hn] at M HEQ hl hc1 ⊢
  obtain ⟨gn, hgn⟩ : ∃ gn, r.gs.length = gn := ⟨_, rfl⟩
  have HGL : Is r.gs.length gn := ⟨hgn⟩
  rw [hgn] at M HEQ hg hc2 ⊢
  clear hW2 h hn hgn
  have HSRT := Lib.hid hs
  clear hs
  have HN : ∀ w, Hid (Calls Try.prog 45 #[.string nm] w fun e w' => e = .returned (.bool (named nm)) ∧ Held w w') := fun w => named_any nm (by omega) w
  have HVD : ∀ w, Hid (Calls Try.prog 46 #[.agg #[.int .i64 dr, .int .i64 dl, .int .i64 dc, .int .i64 dg]] w fun e w' => e = .returned (.bool (vd ⟨dr, dl, dc, dg⟩)) ∧ Held w w') := fun w => vd_any dr dl dc dg w
  have HIA : ∀ w, Hid (Calls Try.prog 47 #[.agg #[.slice A1 n cp1, .slice A2 gn cp2], .int .i64 a] w fun e w' => e = .returned (.bool (there n a)) ∧ Held w w') := fun w => isHost_any A1 n cp1 A2 gn cp2 a (by omega) w
  have HIB : ∀ w, Hid (Calls Try.prog 47 #[.agg #[.slice A1 n cp1, .slice A2 gn cp2], .int .i64 b] w fun e w' => e = .returned (.bool (there n b)) ∧ Held w w') := fun w => isHost_any A1 n cp1 A2 gn cp2 b (by omega) w
  obtain ⟨bn, hbn⟩ : ∃ bn, named nm = bn := ⟨_, rfl⟩
  have HBN : Is (named nm) bn := ⟨hbn⟩
  obtain ⟨bv, hbv⟩ : ∃ bv, vd ⟨dr, dl, dc, dg⟩ = bv := ⟨_, rfl⟩
  have HBV : Is (vd ⟨dr, dl, dc, dg⟩) bv := ⟨hbv⟩
  obtain ⟨tx, htx⟩ : ∃ tx, there n a = tx := ⟨_, rfl⟩
  have HTX : Is (there n a) tx := ⟨htx⟩
  obtain ⟨ty, hty⟩ : ∃ ty, there n b = ty := ⟨_, rfl⟩
  have HTY : Is (there n b) ty := ⟨hty⟩
  simp only [hbn] at HN
  simp only [hbv] at HVD
  simp only [htx] at HIA
  simp only [hty] at HIB
  have HADD : Is (addBad r ⟨k, nm, a, b, ⟨dr, dl, dc, dg⟩, ⟨cm, cc, up⟩⟩) (!(bn && (bv && (tx && (ty && decide (a ≠ b)))))) := ⟨by unfold addBad; simp only; rw [HNL.out, hbn, hbv, htx, hty]⟩
  clear hbn hbv htx hty
  obtain ⟨⟨c0, c1⟩, ⟨e0, e1⟩, ltc⟩ := M.out.box2 2 rfl
  obtain ⟨⟨m0, m1, m2, m3, m4, m5, m6, m7, m8, m9, m10⟩, _, ltm⟩ := M.out.box11 3 rfl
  obtain ⟨⟨d0, d1⟩, ⟨f0, f1⟩, ltd⟩ := M.out.box2 4 rfl
  cases bn
  · have HX : Is (add r ⟨k, nm, a, b, ⟨dr, dl, dc, dg⟩, ⟨cm, cc, up⟩⟩) (r, 4200) := ⟨add_bad (by rw [HADD.out]; rfl)⟩
    clear HADD
    go_enter Try.func36, Try.ntmps36
    go_upto_region 1 with (fail)
    rw [HEQ.out]
    go_wp2_with (first | (go_at_call 45; (with_reducible refine (HN _).out.mono ?_); rintro e w3 ⟨rfl, h3⟩; have M3 := Lib.hid (M.out.keep h3); clear h3; clear c0 c1 e0 e1 m0 m1 m2 m3 m4 m5 m6 m7 m8 m9 m10 d0 d1 f0 f1 ltc ltm ltd; obtain ⟨⟨c0, c1⟩, ⟨e0, e1⟩, ltc⟩ := M3.out.box2 2 rfl; obtain ⟨⟨m0, m1, m2, m3, m4, m5, m6, m7, m8, m9, m10⟩, _, ltm⟩ := M3.out.box11 3 rfl; obtain ⟨⟨d0, d1⟩, ⟨f0, f1⟩, ltd⟩ := M3.out.box2 4 rfl))
    have MF := (M3.out.put 4 rfl 0 (.slice A1 n cp1)).put 4 rfl 1 (.slice A2 gn cp2)
    refine bodyPost_ret (Bx.res_ct Try.results36 rfl (reg_load (MF.blk 4 rfl))) rfl ?_
    rw [HX.out]
    exact StepTo.err (by decide) MF.held
  cases bv
  · have HX : Is (add r ⟨k, nm, a, b, ⟨dr, dl, dc, dg⟩, ⟨cm, cc, up⟩⟩) (r, 4200) := ⟨add_bad (by rw [HADD.out]; rfl)⟩
    clear HADD
    go_enter Try.func36, Try.ntmps36
    go_upto_region 1 with (fail)
    rw [HEQ.out]
    go_wp2_with (first | (go_at_call 46; (with_reducible refine (HVD _).out.mono ?_); rintro e w4 ⟨rfl, h4⟩; have M4 := Lib.hid (M3.out.keep h4); clear h4; clear c0 c1 e0 e1 m0 m1 m2 m3 m4 m5 m6 m7 m8 m9 m10 d0 d1 f0 f1 ltc ltm ltd; obtain ⟨⟨c0, c1⟩, ⟨e0, e1⟩, ltc⟩ := M4.out.box2 2 rfl; obtain ⟨⟨m0, m1, m2, m3, m4, m5, m6, m7, m8, m9, m10⟩, _, ltm⟩ := M4.out.box11 3 rfl; obtain ⟨⟨d0, d1⟩, ⟨f0, f1⟩, ltd⟩ := M4.out.box2 4 rfl) | (go_at_call 45; (with_reducible refine (HN _).out.mono ?_); rintro e w3 ⟨rfl, h3⟩; have M3 := Lib.hid (M.out.keep h3); clear h3; clear c0 c1 e0 e1 m0 m1 m2 m3 m4 m5 m6 m7 m8 m9 m10 d0 d1 f0 f1 ltc ltm ltd; obtain ⟨⟨c0, c1⟩, ⟨e0, e1⟩, ltc⟩ := M3.out.box2 2 rfl; obtain ⟨⟨m0, m1, m2, m3, m4, m5, m6, m7, m8, m9, m10⟩, _, ltm⟩ := M3.out.box11 3 rfl; obtain ⟨⟨d0, d1⟩, ⟨f0, f1⟩, ltd⟩ := M3.out.box2 4 rfl))
    have MF := (M4.out.put 4 rfl 0 (.slice A1 n cp1)).put 4 rfl 1 (.slice A2 gn cp2)
    refine bodyPost_ret (Bx.res_ct Try.results36 rfl (reg_load (MF.blk 4 rfl))) rfl ?_
    rw [HX.out]
    exact StepTo.err (by decide) MF.held
  cases tx
  · have HX : Is (add r ⟨k, nm, a, b, ⟨dr, dl, dc, dg⟩, ⟨cm, cc, up⟩⟩) (r, 4200) := ⟨add_bad (by rw [HADD.out]; rfl)⟩
    clear HADD
    go_enter Try.func36, Try.ntmps36
    go_upto_region 1 with (fail)
    rw [HEQ.out]
    go_wp2_with (first | (go_at_call 47; (with_reducible refine (HIA _).out.mono ?_); rintro e w5 ⟨rfl, h5⟩; have M5 := Lib.hid (M4.out.keep h5); clear h5; clear c0 c1 e0 e1 m0 m1 m2 m3 m4 m5 m6 m7 m8 m9 m10 d0 d1 f0 f1 ltc ltm ltd; obtain ⟨⟨c0, c1⟩, ⟨e0, e1⟩, ltc⟩ := M5.out.box2 2 rfl; obtain ⟨⟨m0, m1, m2, m3, m4, m5, m6, m7, m8, m9, m10⟩, _, ltm⟩ := M5.out.box11 3 rfl; obtain ⟨⟨d0, d1⟩, ⟨f0, f1⟩, ltd⟩ := M5.out.box2 4 rfl) | (go_at_call 46; (with_reducible refine (HVD _).out.mono ?_); rintro e w4 ⟨rfl, h4⟩; have M4 := Lib.hid (M3.out.keep h4); clear h4; clear c0 c1 e0 e1 m0 m1 m2 m3 m4 m5 m6 m7 m8 m9 m10 d0 d1 f0 f1 ltc ltm ltd; obtain ⟨⟨c0, c1⟩, ⟨e0, e1⟩, ltc⟩ := M4.out.box2 2 rfl; obtain ⟨⟨m0, m1, m2, m3, m4, m5, m6, m7, m8, m9, m10⟩, _, ltm⟩ := M4.out.box11 3 rfl; obtain ⟨⟨d0, d1⟩, ⟨f0, f1⟩, ltd⟩ := M4.out.box2 4 rfl) | (go_at_call 45; (with_reducible refine (HN _).out.mono ?_); rintro e w3 ⟨rfl, h3⟩; have M3 := Lib.hid (M.out.keep h3); clear h3; clear c0 c1 e0 e1 m0 m1 m2 m3 m4 m5 m6 m7 m8 m9 m10 d0 d1 f0 f1 ltc ltm ltd; obtain ⟨⟨c0, c1⟩, ⟨e0, e1⟩, ltc⟩ := M3.out.box2 2 rfl; obtain ⟨⟨m0, m1, m2, m3, m4, m5, m6, m7, m8, m9, m10⟩, _, ltm⟩ := M3.out.box11 3 rfl; obtain ⟨⟨d0, d1⟩, ⟨f0, f1⟩, ltd⟩ := M3.out.box2 4 rfl))
    have MF := (M5.out.put 4 rfl 0 (.slice A1 n cp1)).put 4 rfl 1 (.slice A2 gn cp2)
    refine bodyPost_ret (Bx.res_ct Try.results36 rfl (reg_load (MF.blk 4 rfl))) rfl ?_
    rw [HX.out]
    exact StepTo.err (by decide) MF.held
  cases ty
  · have HX : Is (add r ⟨k, nm, a, b, ⟨dr, dl, dc, dg⟩, ⟨cm, cc, up⟩⟩) (r, 4200) := ⟨add_bad (by rw [HADD.out]; rfl)⟩
    clear HADD
    go_enter Try.func36, Try.ntmps36
    go_upto_region 1 with (fail)
    rw [HEQ.out]
    go_wp2_with (first | (go_at_call 47; (with_reducible refine (HIB _).out.mono ?_); rintro e w6 ⟨rfl, h6⟩; have M6 := Lib.hid (M5.out.keep h6); clear h6; clear c0 c1 e0 e1 m0 m1 m2 m3 m4 m5 m6 m7 m8 m9 m10 d0 d1 f0 f1 ltc ltm ltd; obtain ⟨⟨c0, c1⟩, ⟨e0, e1⟩, ltc⟩ := M6.out.box2 2 rfl; obtain ⟨⟨m0, m1, m2, m3, m4, m5, m6, m7, m8, m9, m10⟩, _, ltm⟩ := M6.out.box11 3 rfl; obtain ⟨⟨d0, d1⟩, ⟨f0, f1⟩, ltd⟩ := M6.out.box2 4 rfl) | (go_at_call 47; (with_reducible refine (HIA _).out.mono ?_); rintro e w5 ⟨rfl, h5⟩; have M5 := Lib.hid (M4.out.keep h5); clear h5; clear c0 c1 e0 e1 m0 m1 m2 m3 m4 m5 m6 m7 m8 m9 m10 d0 d1 f0 f1 ltc ltm ltd; obtain ⟨⟨c0, c1⟩, ⟨e0, e1⟩, ltc⟩ := M5.out.box2 2 rfl; obtain ⟨⟨m0, m1, m2, m3, m4, m5, m6, m7, m8, m9, m10⟩, _, ltm⟩ := M5.out.box11 3 rfl; obtain ⟨⟨d0, d1⟩, ⟨f0, f1⟩, ltd⟩ := M5.out.box2 4 rfl) | (go_at_call 46; (with_reducible refine (HVD _).out.mono ?_); rintro e w4 ⟨rfl, h4⟩; have M4 := Lib.hid (M3.out.keep h4); clear h4; clear c0 c1 e0 e1 m0 m1 m2 m3 m4 m5 m6 m7 m8 m9 m10 d0 d1 f0 f1 ltc ltm ltd; obtain ⟨⟨c0, c1⟩, ⟨e0, e1⟩, ltc⟩ := M4.out.box2 2 rfl; obtain ⟨⟨m0, m1, m2, m3, m4, m5, m6, m7, m8, m9, m10⟩, _, ltm⟩ := M4.out.box11 3 rfl; obtain ⟨⟨d0, d1⟩, ⟨f0, f1⟩, ltd⟩ := M4.out.box2 4 rfl) | (go_at_call 45; (with_reducible refine (HN _).out.mono ?_); rintro e w3 ⟨rfl, h3⟩; have M3 := Lib.hid (M.out.keep h3); clear h3; clear c0 c1 e0 e1 m0 m1 m2 m3 m4 m5 m6 m7 m8 m9 m10 d0 d1 f0 f1 ltc ltm ltd; obtain ⟨⟨c0, c1⟩, ⟨e0, e1⟩, ltc⟩ := M3.out.box2 2 rfl; obtain ⟨⟨m0, m1, m2, m3, m4, m5, m6, m7, m8, m9, m10⟩, _, ltm⟩ := M3.out.box11 3 rfl; obtain ⟨⟨d0, d1⟩, ⟨f0, f1⟩, ltd⟩ := M3.out.box2 4 rfl))
    have MF := (M6.out.put 4 rfl 0 (.slice A1 n cp1)).put 4 rfl 1 (.slice A2 gn cp2)
    refine bodyPost_ret (Bx.res_ct Try.results36 rfl (reg_load (MF.blk 4 rfl))) rfl ?_
    rw [HX.out]
    exact StepTo.err (by decide) MF.held
  by_cases hab : a = b
  · have hq : (a == b) = true := by simp [hab]
    have HX : Is (add r ⟨k, nm, a, b, ⟨dr, dl, dc, dg⟩, ⟨cm, cc, up⟩⟩) (r, 4200) := ⟨add_bad (by rw [HADD.out]; simp [hab])⟩
    clear HADD hab
    go_enter Try.func36, Try.ntmps36
    go_upto_region 1 with (fail)
    rw [HEQ.out]
    go_wp2_with (first | (go_at_call 47; (with_reducible refine (HIB _).out.mono ?_); rintro e w6 ⟨rfl, h6⟩; have M6 := Lib.hid (M5.out.keep h6); clear h6; clear c0 c1 e0 e1 m0 m1 m2 m3 m4 m5 m6 m7 m8 m9 m10 d0 d1 f0 f1 ltc ltm ltd; obtain ⟨⟨c0, c1⟩, ⟨e0, e1⟩, ltc⟩ := M6.out.box2 2 rfl; obtain ⟨⟨m0, m1, m2, m3, m4, m5, m6, m7, m8, m9, m10⟩, _, ltm⟩ := M6.out.box11 3 rfl; obtain ⟨⟨d0, d1⟩, ⟨f0, f1⟩, ltd⟩ := M6.out.box2 4 rfl) | (go_at_call 47; (with_reducible refine (HIA _).out.mono ?_); rintro e w5 ⟨rfl, h5⟩; have M5 := Lib.hid (M4.out.keep h5); clear h5; clear c0 c1 e0 e1 m0 m1 m2 m3 m4 m5 m6 m7 m8 m9 m10 d0 d1 f0 f1 ltc ltm ltd; obtain ⟨⟨c0, c1⟩, ⟨e0, e1⟩, ltc⟩ := M5.out.box2 2 rfl; obtain ⟨⟨m0, m1, m2, m3, m4, m5, m6, m7, m8, m9, m10⟩, _, ltm⟩ := M5.out.box11 3 rfl; obtain ⟨⟨d0, d1⟩, ⟨f0, f1⟩, ltd⟩ := M5.out.box2 4 rfl) | (go_at_call 46; (with_reducible refine (HVD _).out.mono ?_); rintro e w4 ⟨rfl, h4⟩; have M4 := Lib.hid (M3.out.keep h4); clear h4; clear c0 c1 e0 e1 m0 m1 m2 m3 m4 m5 m6 m7 m8 m9 m10 d0 d1 f0 f1 ltc ltm ltd; obtain ⟨⟨c0, c1⟩, ⟨e0, e1⟩, ltc⟩ := M4.out.box2 2 rfl; obtain ⟨⟨m0, m1, m2, m3, m4, m5, m6, m7, m8, m9, m10⟩, _, ltm⟩ := M4.out.box11 3 rfl; obtain ⟨⟨d0, d1⟩, ⟨f0, f1⟩, ltd⟩ := M4.out.box2 4 rfl) | (go_at_call 45; (with_reducible refine (HN _).out.mono ?_); rintro e w3 ⟨rfl, h3⟩; have M3 := Lib.hid (M.out.keep h3); clear h3; clear c0 c1 e0 e1 m0 m1 m2 m3 m4 m5 m6 m7 m8 m9 m10 d0 d1 f0 f1 ltc ltm ltd; obtain ⟨⟨c0, c1⟩, ⟨e0, e1⟩, ltc⟩ := M3.out.box2 2 rfl; obtain ⟨⟨m0, m1, m2, m3, m4, m5, m6, m7, m8, m9, m10⟩, _, ltm⟩ := M3.out.box11 3 rfl; obtain ⟨⟨d0, d1⟩, ⟨f0, f1⟩, ltd⟩ := M3.out.box2 4 rfl))
    have MF := (M6.out.put 4 rfl 0 (.slice A1 n cp1)).put 4 rfl 1 (.slice A2 gn cp2)
    refine bodyPost_ret (Bx.res_ct Try.results36 rfl (reg_load (MF.blk 4 rfl))) rfl ?_
    rw [HX.out]
    exact StepTo.err (by decide) MF.held
  have hq : (a == b) = false := by simp [hab]
  have HAB : Is (addBad r ⟨k, nm, a, b, ⟨dr, dl, dc, dg⟩, ⟨cm, cc, up⟩⟩) false := ⟨by rw [HADD.out]; simp [hab]⟩
  clear hab HADD
  obtain ⟨ia, hia, hian⟩ := there_nat HTX.out
  obtain ⟨ib, hib, hibn⟩ := there_nat HTY.out
  have HIAE := Lib.hid hia
  have HIBE := Lib.hid hib
  subst hia hib
  clear HIAE HIBE
  have ix : ∀ j : Nat, j < 2 → ∀ w' : World, (Instr.index 73 (.agg #[.int .i64 (ia : Int), .int .i64 (ib : Int)]) (.int .i64 j)).run Try.prog w' = .ok (.int .i64 (if j = 0 then (ia : Int) else (ib : Int))) w' := by
    intro j hj w'
    rcases j with _ | _ | j
    all_goals first | omega | kernel_rfl
  have HIX := Lib.hid ix
  clear ix
  cases hh : hasG r.gs nm
  · have HHAS : Is (hasG r.gs nm) false := ⟨hh⟩
    clear hh
    by_cases h8 : (8 : Int) ≤ gn
    · have HX : Is (add r ⟨k, nm, (ia : Int), (ib : Int), ⟨dr, dl, dc, dg⟩, ⟨cm, cc, up⟩⟩) (r, 4203) := ⟨add_full HAB.out HHAS.out (by rw [HGL.out]; omega)⟩
      go_enter Try.func36, Try.ntmps36
      go_upto_region 1 with (fail)
      rw [HEQ.out]
      go_wp2_with (first | (go_at_call 47; (with_reducible refine (HIB _).out.mono ?_); rintro e w6 ⟨rfl, h6⟩; have M6 := Lib.hid (M5.out.keep h6); clear h6; clear c0 c1 e0 e1 m0 m1 m2 m3 m4 m5 m6 m7 m8 m9 m10 d0 d1 f0 f1 ltc ltm ltd; obtain ⟨⟨c0, c1⟩, ⟨e0, e1⟩, ltc⟩ := M6.out.box2 2 rfl; obtain ⟨⟨m0, m1, m2, m3, m4, m5, m6, m7, m8, m9, m10⟩, _, ltm⟩ := M6.out.box11 3 rfl; obtain ⟨⟨d0, d1⟩, ⟨f0, f1⟩, ltd⟩ := M6.out.box2 4 rfl) | (go_at_call 47; (with_reducible refine (HIA _).out.mono ?_); rintro e w5 ⟨rfl, h5⟩; have M5 := Lib.hid (M4.out.keep h5); clear h5; clear c0 c1 e0 e1 m0 m1 m2 m3 m4 m5 m6 m7 m8 m9 m10 d0 d1 f0 f1 ltc ltm ltd; obtain ⟨⟨c0, c1⟩, ⟨e0, e1⟩, ltc⟩ := M5.out.box2 2 rfl; obtain ⟨⟨m0, m1, m2, m3, m4, m5, m6, m7, m8, m9, m10⟩, _, ltm⟩ := M5.out.box11 3 rfl; obtain ⟨⟨d0, d1⟩, ⟨f0, f1⟩, ltd⟩ := M5.out.box2 4 rfl) | (go_at_call 46; (with_reducible refine (HVD _).out.mono ?_); rintro e w4 ⟨rfl, h4⟩; have M4 := Lib.hid (M3.out.keep h4); clear h4; clear c0 c1 e0 e1 m0 m1 m2 m3 m4 m5 m6 m7 m8 m9 m10 d0 d1 f0 f1 ltc ltm ltd; obtain ⟨⟨c0, c1⟩, ⟨e0, e1⟩, ltc⟩ := M4.out.box2 2 rfl; obtain ⟨⟨m0, m1, m2, m3, m4, m5, m6, m7, m8, m9, m10⟩, _, ltm⟩ := M4.out.box11 3 rfl; obtain ⟨⟨d0, d1⟩, ⟨f0, f1⟩, ltd⟩ := M4.out.box2 4 rfl) | (go_at_call 45; (with_reducible refine (HN _).out.mono ?_); rintro e w3 ⟨rfl, h3⟩; have M3 := Lib.hid (M.out.keep h3); clear h3; clear c0 c1 e0 e1 m0 m1 m2 m3 m4 m5 m6 m7 m8 m9 m10 d0 d1 f0 f1 ltc ltm ltd; obtain ⟨⟨c0, c1⟩, ⟨e0, e1⟩, ltc⟩ := M3.out.box2 2 rfl; obtain ⟨⟨m0, m1, m2, m3, m4, m5, m6, m7, m8, m9, m10⟩, _, ltm⟩ := M3.out.box11 3 rfl; obtain ⟨⟨d0, d1⟩, ⟨f0, f1⟩, ltd⟩ := M3.out.box2 4 rfl))
      have hfind := find_any A1 n cp1 A2 gn cp2 r.gs nm w6 (Own.reads plC_len (M6.out.row 1 rfl)).1 HSRT.out (by omega)
      unfold FindTo at hfind
      rw [HHAS.out] at hfind
      have HFI := Lib.hid hfind
      clear hfind
      refine HFI.out.mono ?_
      rintro e w7 ⟨rfl, h7⟩
      have M7 := Lib.hid (M6.out.keep h7)
      clear h7 M6 HFI
      clear c0 c1 e0 e1 m0 m1 m2 m3 m4 m5 m6 m7 m8 m9 m10 d0 d1 f0 f1 ltc ltm ltd
      obtain ⟨⟨c0, c1⟩, ⟨e0, e1⟩, ltc⟩ := M7.out.box2 2 rfl
      obtain ⟨⟨m0, m1, m2, m3, m4, m5, m6, m7, m8, m9, m10⟩, _, ltm⟩ := M7.out.box11 3 rfl
      obtain ⟨⟨d0, d1⟩, ⟨f0, f1⟩, ltd⟩ := M7.out.box2 4 rfl
      go_wp2
      have MF := (M7.out.put 4 rfl 0 (.slice A1 n cp1)).put 4 rfl 1 (.slice A2 gn cp2)
      refine bodyPost_ret (Bx.res_ct Try.results36 rfl (reg_load (MF.blk 4 rfl))) rfl ?_
      rw [HX.out]
      exact StepTo.err (by decide) MF.held
    · have h8n : ¬ 8 ≤ r.gs.length := by rw [HGL.out]; omega
      have H8N := Lib.hid h8n
      clear h8n
      go_enter Try.func36, Try.ntmps36
      go_upto_region 1 with (fail)
      rw [HEQ.out]
      go_wp2_with (first | (go_at_call 47; (with_reducible refine (HIB _).out.mono ?_); rintro e w6 ⟨rfl, h6⟩; have M6 := Lib.hid (M5.out.keep h6); clear h6; clear c0 c1 e0 e1 m0 m1 m2 m3 m4 m5 m6 m7 m8 m9 m10 d0 d1 f0 f1 ltc ltm ltd; obtain ⟨⟨c0, c1⟩, ⟨e0, e1⟩, ltc⟩ := M6.out.box2 2 rfl; obtain ⟨⟨m0, m1, m2, m3, m4, m5, m6, m7, m8, m9, m10⟩, _, ltm⟩ := M6.out.box11 3 rfl; obtain ⟨⟨d0, d1⟩, ⟨f0, f1⟩, ltd⟩ := M6.out.box2 4 rfl) | (go_at_call 47; (with_reducible refine (HIA _).out.mono ?_); rintro e w5 ⟨rfl, h5⟩; have M5 := Lib.hid (M4.out.keep h5); clear h5; clear c0 c1 e0 e1 m0 m1 m2 m3 m4 m5 m6 m7 m8 m9 m10 d0 d1 f0 f1 ltc ltm ltd; obtain ⟨⟨c0, c1⟩, ⟨e0, e1⟩, ltc⟩ := M5.out.box2 2 rfl; obtain ⟨⟨m0, m1, m2, m3, m4, m5, m6, m7, m8, m9, m10⟩, _, ltm⟩ := M5.out.box11 3 rfl; obtain ⟨⟨d0, d1⟩, ⟨f0, f1⟩, ltd⟩ := M5.out.box2 4 rfl) | (go_at_call 46; (with_reducible refine (HVD _).out.mono ?_); rintro e w4 ⟨rfl, h4⟩; have M4 := Lib.hid (M3.out.keep h4); clear h4; clear c0 c1 e0 e1 m0 m1 m2 m3 m4 m5 m6 m7 m8 m9 m10 d0 d1 f0 f1 ltc ltm ltd; obtain ⟨⟨c0, c1⟩, ⟨e0, e1⟩, ltc⟩ := M4.out.box2 2 rfl; obtain ⟨⟨m0, m1, m2, m3, m4, m5, m6, m7, m8, m9, m10⟩, _, ltm⟩ := M4.out.box11 3 rfl; obtain ⟨⟨d0, d1⟩, ⟨f0, f1⟩, ltd⟩ := M4.out.box2 4 rfl) | (go_at_call 45; (with_reducible refine (HN _).out.mono ?_); rintro e w3 ⟨rfl, h3⟩; have M3 := Lib.hid (M.out.keep h3); clear h3; clear c0 c1 e0 e1 m0 m1 m2 m3 m4 m5 m6 m7 m8 m9 m10 d0 d1 f0 f1 ltc ltm ltd; obtain ⟨⟨c0, c1⟩, ⟨e0, e1⟩, ltc⟩ := M3.out.box2 2 rfl; obtain ⟨⟨m0, m1, m2, m3, m4, m5, m6, m7, m8, m9, m10⟩, _, ltm⟩ := M3.out.box11 3 rfl; obtain ⟨⟨d0, d1⟩, ⟨f0, f1⟩, ltd⟩ := M3.out.box2 4 rfl))
      have hfind := find_any A1 n cp1 A2 gn cp2 r.gs nm w6 (Own.reads plC_len (M6.out.row 1 rfl)).1 HSRT.out (by omega)
      unfold FindTo at hfind
      rw [HHAS.out] at hfind
      have HFI := Lib.hid hfind
      clear hfind
      refine HFI.out.mono ?_
      rintro e w7 ⟨rfl, h7⟩
      have M7 := Lib.hid (M6.out.keep h7)
      clear h7 M6 HFI
      clear c0 c1 e0 e1 m0 m1 m2 m3 m4 m5 m6 m7 m8 m9 m10 d0 d1 f0 f1 ltc ltm ltd
      obtain ⟨⟨c0, c1⟩, ⟨e0, e1⟩, ltc⟩ := M7.out.box2 2 rfl
      obtain ⟨⟨m0, m1, m2, m3, m4, m5, m6, m7, m8, m9, m10⟩, _, ltm⟩ := M7.out.box11 3 rfl
      obtain ⟨⟨d0, d1⟩, ⟨f0, f1⟩, ltd⟩ := M7.out.box2 4 rfl
      have hpp := pos_le r.gs nm
      have HINS : Is (r.gs.take (pos r.gs nm) ++ [⟨nm, ⟨dr, dl, dc, dg⟩, (ia : Int), (ib : Int)⟩] ++ r.gs.drop (pos r.gs nm)) (insG r.gs ⟨nm, ⟨dr, dl, dc, dg⟩, (ia : Int), (ib : Int)⟩) := ⟨ins_eq r.gs ⟨nm, ⟨dr, dl, dc, dg⟩, (ia : Int), (ib : Int)⟩⟩
      generalize pos r.gs nm = q at *
      clear HN HVD HIA HIB
      go_wp2
      go_loopw [9, 10, 62] (fun _ _ i wr => ∃ j : Nat, j ≤ 2 ∧ i = .int .i64 j ∧ Hid (0 < j → admAt r.hs r.gs (ia : Int) ⟨dr, dl, dc, dg⟩ = 0) ∧ Hid (1 < j → admAt r.hs r.gs (ib : Int) ⟨dr, dl, dc, dg⟩ = 0) ∧ Hid (Mem W wr [.row 25 3 capC W.heap.size (.slice A1 n cp1) r.hs, .row 75 7 plC W.heap.size (.slice A2 gn cp2) r.gs, .box w.heap.size #[.slice A1 n cp1, .slice A2 gn cp2] 37, .box (w.heap.size + 1) #[.int .i64 k, .string nm, .int .i64 (ia : Int), .int .i64 (ib : Int), .int .i64 dr, .int .i64 dl, .int .i64 dc, .int .i64 dg, .int .i64 cm, .int .i64 cc, .bool up] 27, .box (w.heap.size + 1 + 1) #[.slice none 0 0, .slice none 0 0] 37])) (fun _ _ i _ => 2 - (intOf i).toNat)
      case atStart => exact ⟨0, by omega, rfl, (fun h => absurd h (Nat.not_lt_zero _) : 0 < 0 → _), (fun h => by omega : 1 < 0 → _), M7.out⟩
      case round =>
        clear c0 c1 e0 e1 m0 m1 m2 m3 m4 m5 m6 m7 m8 m9 m10 d0 d1 f0 f1 ltc ltm ltd
        clear M7
        obtain ⟨j, hj, rfl, Z1, Z2, MR⟩ := hrel
        obtain ⟨⟨c0, c1⟩, ⟨e0, e1⟩, ltc⟩ := MR.out.box2 2 rfl
        obtain ⟨⟨m0, m1, m2, m3, m4, m5, m6, m7, m8, m9, m10⟩, _, ltm⟩ := MR.out.box11 3 rfl
        obtain ⟨⟨d0, d1⟩, ⟨f0, f1⟩, ltd⟩ := MR.out.box2 4 rfl
        obtain rfl | rfl | rfl : j = 0 ∨ j = 1 ∨ j = 2 := by omega
        · have ix : ∀ w' : World, (Instr.index 73 (.agg #[.int .i64 (ia : Int), .int .i64 (ib : Int)]) (.int .i64 0)).run Try.prog w' = .ok (.int .i64 (ia : Int)) w' := fun w' => by
            have h := HIX.out 0 (by decide) w'
            rw [if_pos rfl] at h; exact h
          have i0n : (ia : Int) < n := by omega
          have i0p : ¬ (ia : Int) < 0 := by omega
          obtain ⟨gb, goff, hm, hc, hup, rfl, lgb, hpx, p0, p1, p2⟩ := capAt (Own.reads capC_len (MR.out.row 0 rfl)).1 (Held.refl wr) (show ia < n by omega)
          have HAM : Is (admAt r.hs r.gs (ia : Int) ⟨dr, dl, dc, dg⟩) (admit hm hc hup (on r.gs ia) ⟨dr, dl, dc, dg⟩) := ⟨adm_at hpx⟩
          have HSG := Lib.hid (Own.reads plC_len (MR.out.row 1 rfl)).1
          have hol := on_len r.gs ia
          have hol2 : ((on r.gs ia).length : Int) ≤ 100 := by rw [HGL.out] at hol; omega
          obtain ⟨ad, had⟩ : ∃ ad, admit hm hc hup (on r.gs ia) ⟨dr, dl, dc, dg⟩ = ad := ⟨_, rfl⟩
          have HAD := Lib.hid had
          rw [had] at HAM
          clear had hpx hol
          by_cases h0 : ad = 0
          · have h0b : (ad != 0) = false := by simp [h0]
            have h0c : (ad == 0) = true := by simp [h0]
            have HZ : Is (admAt r.hs r.gs (ia : Int) ⟨dr, dl, dc, dg⟩) 0 := ⟨by rw [HAM.out, h0]⟩
            clear h0 HAM
            go_wp2
            go_region_held3 (fun w' => w'.cell? ⟨w.heap.size, 0, none⟩ = some (.slice (some ⟨gb, goff, none⟩) n cp1) ∧ w'.cell? ⟨w.heap.size, 1, none⟩ = some (.slice A2 gn cp2) ∧ w'.cell? ⟨w.heap.size + 1, 4, none⟩ = some (.int .i64 dr) ∧ w'.cell? ⟨w.heap.size + 1, 5, none⟩ = some (.int .i64 dl) ∧ w'.cell? ⟨w.heap.size + 1, 6, none⟩ = some (.int .i64 dc) ∧ w'.cell? ⟨w.heap.size + 1, 7, none⟩ = some (.int .i64 dg) ∧ w'.cell? ⟨gb, goff + ia * 3, none⟩ = some (.int .i64 hm) ∧ w'.cell? ⟨gb, goff + ia * 3 + 1, none⟩ = some (.int .i64 hc) ∧ w'.cell? ⟨gb, goff + ia * 3 + 2, none⟩ = some (.bool hup) ∧ Held wr w')
              ((repeat' refine And.intro ?_ ?_) <;> first | exact c0 | exact c1 | exact m4 | exact m5 | exact m6 | exact m7 | exact p0 | exact p1 | exact p2 | exact (Held.refl _).drew | exact Held.cell (by assumption) c0 | exact Held.cell (by assumption) c1 | exact Held.cell (by assumption) m4 | exact Held.cell (by assumption) m5 | exact Held.cell (by assumption) m6 | exact Held.cell (by assumption) m7 | exact Held.cell (by assumption) p0 | exact Held.cell (by assumption) p1 | exact Held.cell (by assumption) p2 | exact (by assumption))
              (first | (go_at_call 50; refine (on_any A2 gn cp2 r.gs ia _ (ps_of (HSG.out.held (Held.refl _).drew)) (by omega)).mono ?_; rintro e w8 ⟨v8, rfl, ho8, h8⟩; obtain ⟨A8, cp8, rfl, hcp8⟩ := own_slice ho8; obtain ⟨hds, _, _⟩ := ds_of_own ho8; have HDS := Lib.hid hds; have k8 : Held wr w8 := (Held.refl _).drew.step h8; clear ho8 hds) | (go_at_call 70; refine (admit_any hm hc hup _ _ _ (on r.gs ia) dr dl dc dg _ HDS.out hol2).mono ?_; rintro e w9 ⟨rfl, h9⟩; rw [HAD.out]; have k9 : Held wr w9 := k8.step h9))
            go_wp2
            go_roundw
            case rel => exact ⟨1, by omega, by go_num, (fun _ => HZ.out : 0 < 1 → _), (fun h => absurd h (by decide) : 1 < 1 → _), MR.out.keep k9⟩
            case measure => simp [intOf]
          · have h0b : (ad != 0) = true := by simp [h0]
            have h0c : (ad == 0) = false := by simp [h0]
            have HX : Is (add r ⟨k, nm, (ia : Int), (ib : Int), ⟨dr, dl, dc, dg⟩, ⟨cm, cc, up⟩⟩) (r, ad) := ⟨add_a HAB.out HHAS.out H8N.out HAM.out h0⟩
            have HNE := Lib.hid h0
            clear h0 HAM
            go_wp2
            go_region_held3 (fun w' => w'.cell? ⟨w.heap.size, 0, none⟩ = some (.slice (some ⟨gb, goff, none⟩) n cp1) ∧ w'.cell? ⟨w.heap.size, 1, none⟩ = some (.slice A2 gn cp2) ∧ w'.cell? ⟨w.heap.size + 1, 4, none⟩ = some (.int .i64 dr) ∧ w'.cell? ⟨w.heap.size + 1, 5, none⟩ = some (.int .i64 dl) ∧ w'.cell? ⟨w.heap.size + 1, 6, none⟩ = some (.int .i64 dc) ∧ w'.cell? ⟨w.heap.size + 1, 7, none⟩ = some (.int .i64 dg) ∧ w'.cell? ⟨gb, goff + ia * 3, none⟩ = some (.int .i64 hm) ∧ w'.cell? ⟨gb, goff + ia * 3 + 1, none⟩ = some (.int .i64 hc) ∧ w'.cell? ⟨gb, goff + ia * 3 + 2, none⟩ = some (.bool hup) ∧ Held wr w')
              ((repeat' refine And.intro ?_ ?_) <;> first | exact c0 | exact c1 | exact m4 | exact m5 | exact m6 | exact m7 | exact p0 | exact p1 | exact p2 | exact (Held.refl _).drew | exact Held.cell (by assumption) c0 | exact Held.cell (by assumption) c1 | exact Held.cell (by assumption) m4 | exact Held.cell (by assumption) m5 | exact Held.cell (by assumption) m6 | exact Held.cell (by assumption) m7 | exact Held.cell (by assumption) p0 | exact Held.cell (by assumption) p1 | exact Held.cell (by assumption) p2 | exact (by assumption))
              (first | (go_at_call 50; refine (on_any A2 gn cp2 r.gs ia _ (ps_of (HSG.out.held (Held.refl _).drew)) (by omega)).mono ?_; rintro e w8 ⟨v8, rfl, ho8, h8⟩; obtain ⟨A8, cp8, rfl, hcp8⟩ := own_slice ho8; obtain ⟨hds, _, _⟩ := ds_of_own ho8; have HDS := Lib.hid hds; have k8 : Held wr w8 := (Held.refl _).drew.step h8; clear ho8 hds) | (go_at_call 70; refine (admit_any hm hc hup _ _ _ (on r.gs ia) dr dl dc dg _ HDS.out hol2).mono ?_; rintro e w9 ⟨rfl, h9⟩; rw [HAD.out]; have k9 : Held wr w9 := k8.step h9))
            have M10 := Lib.hid (MR.out.keep k9)
            clear MR p0 p1 p2
            clear c0 c1 e0 e1 m0 m1 m2 m3 m4 m5 m6 m7 m8 m9 m10 d0 d1 f0 f1 ltc ltm ltd
            obtain ⟨⟨c0, c1⟩, ⟨e0, e1⟩, ltc⟩ := M10.out.box2 2 rfl
            obtain ⟨⟨m0, m1, m2, m3, m4, m5, m6, m7, m8, m9, m10⟩, _, ltm⟩ := M10.out.box11 3 rfl
            obtain ⟨⟨d0, d1⟩, ⟨f0, f1⟩, ltd⟩ := M10.out.box2 4 rfl
            go_wp2
            have MF := (M10.out.put 4 rfl 0 (.slice (some ⟨gb, goff, none⟩) n cp1)).put 4 rfl 1 (.slice A2 gn cp2)
            refine bodyPost_ret (Bx.res_ct Try.results36 rfl (reg_load (MF.blk 4 rfl))) rfl ?_
            rw [HX.out]
            exact StepTo.err HNE.out MF.held
        · have ix : ∀ w' : World, (Instr.index 73 (.agg #[.int .i64 (ia : Int), .int .i64 (ib : Int)]) (.int .i64 1)).run Try.prog w' = .ok (.int .i64 (ib : Int)) w' := fun w' => by
            have h := HIX.out 1 (by decide) w'
            rw [if_neg (by decide)] at h; exact h
          have i0n : (ib : Int) < n := by omega
          have i0p : ¬ (ib : Int) < 0 := by omega
          obtain ⟨gb, goff, hm, hc, hup, rfl, lgb, hpx, p0, p1, p2⟩ := capAt (Own.reads capC_len (MR.out.row 0 rfl)).1 (Held.refl wr) (show ib < n by omega)
          have HAM : Is (admAt r.hs r.gs (ib : Int) ⟨dr, dl, dc, dg⟩) (admit hm hc hup (on r.gs ib) ⟨dr, dl, dc, dg⟩) := ⟨adm_at hpx⟩
          have HSG := Lib.hid (Own.reads plC_len (MR.out.row 1 rfl)).1
          have hol := on_len r.gs ib
          have hol2 : ((on r.gs ib).length : Int) ≤ 100 := by rw [HGL.out] at hol; omega
          obtain ⟨ad, had⟩ : ∃ ad, admit hm hc hup (on r.gs ib) ⟨dr, dl, dc, dg⟩ = ad := ⟨_, rfl⟩
          have HAD := Lib.hid had
          rw [had] at HAM
          clear had hpx hol
          by_cases h0 : ad = 0
          · have h0b : (ad != 0) = false := by simp [h0]
            have h0c : (ad == 0) = true := by simp [h0]
            have HZ : Is (admAt r.hs r.gs (ib : Int) ⟨dr, dl, dc, dg⟩) 0 := ⟨by rw [HAM.out, h0]⟩
            clear h0 HAM
            go_wp2
            go_region_held3 (fun w' => w'.cell? ⟨w.heap.size, 0, none⟩ = some (.slice (some ⟨gb, goff, none⟩) n cp1) ∧ w'.cell? ⟨w.heap.size, 1, none⟩ = some (.slice A2 gn cp2) ∧ w'.cell? ⟨w.heap.size + 1, 4, none⟩ = some (.int .i64 dr) ∧ w'.cell? ⟨w.heap.size + 1, 5, none⟩ = some (.int .i64 dl) ∧ w'.cell? ⟨w.heap.size + 1, 6, none⟩ = some (.int .i64 dc) ∧ w'.cell? ⟨w.heap.size + 1, 7, none⟩ = some (.int .i64 dg) ∧ w'.cell? ⟨gb, goff + ib * 3, none⟩ = some (.int .i64 hm) ∧ w'.cell? ⟨gb, goff + ib * 3 + 1, none⟩ = some (.int .i64 hc) ∧ w'.cell? ⟨gb, goff + ib * 3 + 2, none⟩ = some (.bool hup) ∧ Held wr w')
              ((repeat' refine And.intro ?_ ?_) <;> first | exact c0 | exact c1 | exact m4 | exact m5 | exact m6 | exact m7 | exact p0 | exact p1 | exact p2 | exact (Held.refl _).drew | exact Held.cell (by assumption) c0 | exact Held.cell (by assumption) c1 | exact Held.cell (by assumption) m4 | exact Held.cell (by assumption) m5 | exact Held.cell (by assumption) m6 | exact Held.cell (by assumption) m7 | exact Held.cell (by assumption) p0 | exact Held.cell (by assumption) p1 | exact Held.cell (by assumption) p2 | exact (by assumption))
              (first | (go_at_call 50; refine (on_any A2 gn cp2 r.gs ib _ (ps_of (HSG.out.held (Held.refl _).drew)) (by omega)).mono ?_; rintro e w8 ⟨v8, rfl, ho8, h8⟩; obtain ⟨A8, cp8, rfl, hcp8⟩ := own_slice ho8; obtain ⟨hds, _, _⟩ := ds_of_own ho8; have HDS := Lib.hid hds; have k8 : Held wr w8 := (Held.refl _).drew.step h8; clear ho8 hds) | (go_at_call 70; refine (admit_any hm hc hup _ _ _ (on r.gs ib) dr dl dc dg _ HDS.out hol2).mono ?_; rintro e w9 ⟨rfl, h9⟩; rw [HAD.out]; have k9 : Held wr w9 := k8.step h9))
            go_wp2
            go_roundw
            case rel => exact ⟨2, by omega, by go_num, (fun _ => Z1.out (by decide) : 0 < 2 → _), (fun _ => HZ.out : 1 < 2 → _), MR.out.keep k9⟩
            case measure => simp [intOf]
          · have h0b : (ad != 0) = true := by simp [h0]
            have h0c : (ad == 0) = false := by simp [h0]
            have HX : Is (add r ⟨k, nm, (ia : Int), (ib : Int), ⟨dr, dl, dc, dg⟩, ⟨cm, cc, up⟩⟩) (r, ad) := ⟨add_b HAB.out HHAS.out H8N.out (Z1.out (by decide)) HAM.out h0⟩
            have HNE := Lib.hid h0
            clear h0 HAM
            go_wp2
            go_region_held3 (fun w' => w'.cell? ⟨w.heap.size, 0, none⟩ = some (.slice (some ⟨gb, goff, none⟩) n cp1) ∧ w'.cell? ⟨w.heap.size, 1, none⟩ = some (.slice A2 gn cp2) ∧ w'.cell? ⟨w.heap.size + 1, 4, none⟩ = some (.int .i64 dr) ∧ w'.cell? ⟨w.heap.size + 1, 5, none⟩ = some (.int .i64 dl) ∧ w'.cell? ⟨w.heap.size + 1, 6, none⟩ = some (.int .i64 dc) ∧ w'.cell? ⟨w.heap.size + 1, 7, none⟩ = some (.int .i64 dg) ∧ w'.cell? ⟨gb, goff + ib * 3, none⟩ = some (.int .i64 hm) ∧ w'.cell? ⟨gb, goff + ib * 3 + 1, none⟩ = some (.int .i64 hc) ∧ w'.cell? ⟨gb, goff + ib * 3 + 2, none⟩ = some (.bool hup) ∧ Held wr w')
              ((repeat' refine And.intro ?_ ?_) <;> first | exact c0 | exact c1 | exact m4 | exact m5 | exact m6 | exact m7 | exact p0 | exact p1 | exact p2 | exact (Held.refl _).drew | exact Held.cell (by assumption) c0 | exact Held.cell (by assumption) c1 | exact Held.cell (by assumption) m4 | exact Held.cell (by assumption) m5 | exact Held.cell (by assumption) m6 | exact Held.cell (by assumption) m7 | exact Held.cell (by assumption) p0 | exact Held.cell (by assumption) p1 | exact Held.cell (by assumption) p2 | exact (by assumption))
              (first | (go_at_call 50; refine (on_any A2 gn cp2 r.gs ib _ (ps_of (HSG.out.held (Held.refl _).drew)) (by omega)).mono ?_; rintro e w8 ⟨v8, rfl, ho8, h8⟩; obtain ⟨A8, cp8, rfl, hcp8⟩ := own_slice ho8; obtain ⟨hds, _, _⟩ := ds_of_own ho8; have HDS := Lib.hid hds; have k8 : Held wr w8 := (Held.refl _).drew.step h8; clear ho8 hds) | (go_at_call 70; refine (admit_any hm hc hup _ _ _ (on r.gs ib) dr dl dc dg _ HDS.out hol2).mono ?_; rintro e w9 ⟨rfl, h9⟩; rw [HAD.out]; have k9 : Held wr w9 := k8.step h9))
            have M10 := Lib.hid (MR.out.keep k9)
            clear MR p0 p1 p2
            clear c0 c1 e0 e1 m0 m1 m2 m3 m4 m5 m6 m7 m8 m9 m10 d0 d1 f0 f1 ltc ltm ltd
            obtain ⟨⟨c0, c1⟩, ⟨e0, e1⟩, ltc⟩ := M10.out.box2 2 rfl
            obtain ⟨⟨m0, m1, m2, m3, m4, m5, m6, m7, m8, m9, m10⟩, _, ltm⟩ := M10.out.box11 3 rfl
            obtain ⟨⟨d0, d1⟩, ⟨f0, f1⟩, ltd⟩ := M10.out.box2 4 rfl
            go_wp2
            have MF := (M10.out.put 4 rfl 0 (.slice (some ⟨gb, goff, none⟩) n cp1)).put 4 rfl 1 (.slice A2 gn cp2)
            refine bodyPost_ret (Bx.res_ct Try.results36 rfl (reg_load (MF.blk 4 rfl))) rfl ?_
            rw [HX.out]
            exact StepTo.err HNE.out MF.held
        · have HX : Is (add r ⟨k, nm, (ia : Int), (ib : Int), ⟨dr, dl, dc, dg⟩, ⟨cm, cc, up⟩⟩) (⟨r.hs, insG r.gs ⟨nm, ⟨dr, dl, dc, dg⟩, (ia : Int), (ib : Int)⟩⟩, 0) := ⟨add_ok HAB.out HHAS.out H8N.out (Z1.out (by decide)) (Z2.out (by decide))⟩
          have hins := SlcPl.insert_any plC_len plC_one W.heap.size (.slice A2 gn cp2) r.gs q ⟨nm, ⟨dr, dl, dc, dg⟩, (ia : Int), (ib : Int)⟩ (wr.alloc (.cells #[.string nm, .int .i64 dr, .int .i64 dl, .int .i64 dc, .int .i64 dg, .int .i64 (ia : Int), .int .i64 (ib : Int)] 75)) ((MR.out.skip _).row 1 rfl) hpp (by rw [HGL.out]; omega) (by have := MR.out.held.le; simp; omega) wr.heap.size (heap_alloc_new _ _) (fun e => by have := (World.ownsRow.lt (MR.out.row 1 rfl) _ e).2; omega)
          rw [HINS.out] at hins
          generalize insG r.gs ⟨nm, ⟨dr, dl, dc, dg⟩, (ia : Int), (ib : Int)⟩ = L' at *
          have HI := Lib.hid hins
          clear hins HINS
          go_wp2_with fail
          refine HI.out.mono ?_
          intro e w9 hg9
          obtain ⟨A3, cp3, rfl, hc3, M9x⟩ := (MR.out.skip _).gotten 1 rfl hg9
          have M9 := Lib.hid M9x
          clear M9x hg9 HI MR
          clear c0 c1 e0 e1 m0 m1 m2 m3 m4 m5 m6 m7 m8 m9 m10 d0 d1 f0 f1 ltc ltm ltd
          obtain ⟨⟨c0, c1⟩, ⟨e0, e1⟩, ltc⟩ := M9.out.box2 2 rfl
          obtain ⟨⟨d0, d1⟩, ⟨f0, f1⟩, ltd⟩ := M9.out.box2 4 rfl
          go_wp2
          have MF := ((M9.out.put 2 rfl 1 (.slice A3 L'.length cp3)).put 4 rfl 0 (.slice A1 n cp1)).put 4 rfl 1 (.slice A3 L'.length cp3)
          refine bodyPost_ret (Bx.res_ct Try.results36 rfl (reg_load (MF.blk 4 rfl))) rfl ?_
          rw [HX.out]
          exact StepTo.ok (r := ⟨r.hs, L'⟩) (MF.take 2)
  · have HX : Is (add r ⟨k, nm, (ia : Int), (ib : Int), ⟨dr, dl, dc, dg⟩, ⟨cm, cc, up⟩⟩) (r, 4201) := ⟨add_twice HAB.out hh⟩
    go_enter Try.func36, Try.ntmps36
    go_upto_region 1 with (fail)
    rw [HEQ.out]
    go_wp2_with (first | (go_at_call 47; (with_reducible refine (HIB _).out.mono ?_); rintro e w6 ⟨rfl, h6⟩; have M6 := Lib.hid (M5.out.keep h6); clear h6; clear c0 c1 e0 e1 m0 m1 m2 m3 m4 m5 m6 m7 m8 m9 m10 d0 d1 f0 f1 ltc ltm ltd; obtain ⟨⟨c0, c1⟩, ⟨e0, e1⟩, ltc⟩ := M6.out.box2 2 rfl; obtain ⟨⟨m0, m1, m2, m3, m4, m5, m6, m7, m8, m9, m10⟩, _, ltm⟩ := M6.out.box11 3 rfl; obtain ⟨⟨d0, d1⟩, ⟨f0, f1⟩, ltd⟩ := M6.out.box2 4 rfl) | (go_at_call 47; (with_reducible refine (HIA _).out.mono ?_); rintro e w5 ⟨rfl, h5⟩; have M5 := Lib.hid (M4.out.keep h5); clear h5; clear c0 c1 e0 e1 m0 m1 m2 m3 m4 m5 m6 m7 m8 m9 m10 d0 d1 f0 f1 ltc ltm ltd; obtain ⟨⟨c0, c1⟩, ⟨e0, e1⟩, ltc⟩ := M5.out.box2 2 rfl; obtain ⟨⟨m0, m1, m2, m3, m4, m5, m6, m7, m8, m9, m10⟩, _, ltm⟩ := M5.out.box11 3 rfl; obtain ⟨⟨d0, d1⟩, ⟨f0, f1⟩, ltd⟩ := M5.out.box2 4 rfl) | (go_at_call 46; (with_reducible refine (HVD _).out.mono ?_); rintro e w4 ⟨rfl, h4⟩; have M4 := Lib.hid (M3.out.keep h4); clear h4; clear c0 c1 e0 e1 m0 m1 m2 m3 m4 m5 m6 m7 m8 m9 m10 d0 d1 f0 f1 ltc ltm ltd; obtain ⟨⟨c0, c1⟩, ⟨e0, e1⟩, ltc⟩ := M4.out.box2 2 rfl; obtain ⟨⟨m0, m1, m2, m3, m4, m5, m6, m7, m8, m9, m10⟩, _, ltm⟩ := M4.out.box11 3 rfl; obtain ⟨⟨d0, d1⟩, ⟨f0, f1⟩, ltd⟩ := M4.out.box2 4 rfl) | (go_at_call 45; (with_reducible refine (HN _).out.mono ?_); rintro e w3 ⟨rfl, h3⟩; have M3 := Lib.hid (M.out.keep h3); clear h3; clear c0 c1 e0 e1 m0 m1 m2 m3 m4 m5 m6 m7 m8 m9 m10 d0 d1 f0 f1 ltc ltm ltd; obtain ⟨⟨c0, c1⟩, ⟨e0, e1⟩, ltc⟩ := M3.out.box2 2 rfl; obtain ⟨⟨m0, m1, m2, m3, m4, m5, m6, m7, m8, m9, m10⟩, _, ltm⟩ := M3.out.box11 3 rfl; obtain ⟨⟨d0, d1⟩, ⟨f0, f1⟩, ltd⟩ := M3.out.box2 4 rfl))
    have hfind := find_any A1 n cp1 A2 gn cp2 r.gs nm w6 (Own.reads plC_len (M6.out.row 1 rfl)).1 HSRT.out (by omega)
    unfold FindTo at hfind
    rw [hh] at hfind
    have HFI := Lib.hid hfind
    clear hfind
    refine HFI.out.mono ?_
    rintro e w7 ⟨rfl, h7⟩
    have M7 := Lib.hid (M6.out.keep h7)
    clear h7 M6 HFI
    clear c0 c1 e0 e1 m0 m1 m2 m3 m4 m5 m6 m7 m8 m9 m10 d0 d1 f0 f1 ltc ltm ltd
    obtain ⟨⟨c0, c1⟩, ⟨e0, e1⟩, ltc⟩ := M7.out.box2 2 rfl
    obtain ⟨⟨m0, m1, m2, m3, m4, m5, m6, m7, m8, m9, m10⟩, _, ltm⟩ := M7.out.box11 3 rfl
    obtain ⟨⟨d0, d1⟩, ⟨f0, f1⟩, ltd⟩ := M7.out.box2 4 rfl
    go_wp2
    have MF := (M7.out.put 4 rfl 0 (.slice A1 n cp1)).put 4 rfl 1 (.slice A2 gn cp2)
    refine bodyPost_ret (Bx.res_ct Try.results36 rfl (reg_load (MF.blk 4 rfl))) rfl ?_
    rw [HX.out]
    exact StepTo.err (by decide) MF.held
end Jn
end Go.Proofs.Ytmmnanmegdflgaa
