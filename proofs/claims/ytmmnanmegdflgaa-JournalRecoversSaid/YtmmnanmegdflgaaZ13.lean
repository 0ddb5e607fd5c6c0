/-
  Contracts: move of the program (chapter 42).
-/
import Derived.Test.YtmmnanmegdflgaaZ12
set_option linter.unusedVariables false
set_option linter.unusedSimpArgs false
set_option maxRecDepth 100000
namespace Go.Proofs.Ytmmnanmegdflgaa
open Go.RowKit Go.BigFrame Go.Sort
/-- An element of a row that is known: its cells. -/
theorem Mem.at_ {W w : World} {H : List Ck} {α : Type} {e : TypeId} {s : Nat} {f : α → List Value} {base : Nat} (h : Mem W w H) (i : Nat) {g n cap : Nat} {L : List α} (hi : H[i]? = some (.row e s f base (.slice (some ⟨g, 0, none⟩) n cap) L)) (hf : ∀ x, (f x).length = s) (hs : 0 < s) {k : Nat} {x : α} (hx : L[k]? = some x) :
    g < w.heap.size ∧ ∀ j, j < s → w.frozen? ⟨g, k * s + j, none⟩ = false ∧ ∀ v, (f x)[j]? = some v → w.cell? ⟨g, k * s + j, none⟩ = some v := by
  obtain ⟨hk, rfl⟩ := List.getElem?_eq_some_iff.1 hx
  obtain ⟨g', x', hA, _, hg, hx', hc⟩ := h.slot i hi hf hs hk
  injection hA with hA
  injection hA with hA _
  subst hA
  rw [List.getElem?_eq_getElem hk] at hx'
  injection hx' with hx'
  subst hx'
  exact ⟨hg, hc⟩
namespace Jn
open Ad Adm Law39
theorem move_no {r : Reg} {o : Man} (h : hasG r.gs o.nm = false) : move r o = (r, 4202) := by unfold move; rw [if_neg (by rw [h]; decide)]
theorem move_bad {r : Reg} {o : Man} {p : Pl} (h : hasG r.gs o.nm = true) (hp : r.gs[pos r.gs o.nm]? = some p) (hb : moveBad r o p = true) : move r o = (r, 4200) := by
  unfold move; rw [if_pos h, hp]; simp only; rw [if_pos hb]
theorem move_err {r : Reg} {o : Man} {p : Pl} (h : hasG r.gs o.nm = true) (hp : r.gs[pos r.gs o.nm]? = some p) (hb : moveBad r o p = false) {x : Int} (hx : admAt r.hs (r.gs.eraseIdx (pos r.gs o.nm)) o.b p.d = x) (h0 : x ≠ 0) : move r o = (r, x) := by
  unfold move; rw [if_pos h, hp]; simp only; rw [if_neg (by rw [hb]; decide), if_pos (by rw [hx]; exact h0), hx]
theorem move_ok {r : Reg} {o : Man} {p : Pl} (h : hasG r.gs o.nm = true) (hp : r.gs[pos r.gs o.nm]? = some p) (hb : moveBad r o p = false) (hx : admAt r.hs (r.gs.eraseIdx (pos r.gs o.nm)) o.b p.d = 0) : move r o = (⟨r.hs, r.gs.set (pos r.gs o.nm) (turn p o.a o.b)⟩, 0) := by
  unfold move; rw [if_pos h, hp]; simp only; rw [if_neg (by rw [hb]; decide), if_neg (by rw [hx]; decide)]
set_option maxHeartbeats 4000000 in
theorem move_any (W : World) (v1 v2 : Value) (r : Reg) (k : Int) (nm : ByteArray) (a b dr dl dc dg cm cc : Int) (up : Bool) (w : World) (h : OwnR W w v1 v2 r) (hs : Srt r.gs) (hl : (r.hs.length : Int) ≤ 1000) (hg : (r.gs.length : Int) ≤ 50) :
    Calls Try.prog 38 #[.agg #[v1, v2], .agg #[.int .i64 k, .string nm, .int .i64 a, .int .i64 b, .int .i64 dr, .int .i64 dl, .int .i64 dc, .int .i64 dg, .int .i64 cm, .int .i64 cc, .bool up]] w (StepTo (move r ⟨k, nm, a, b, ⟨dr, dl, dc, dg⟩, ⟨cm, cc, up⟩⟩) W) := by
  obtain ⟨A1, cp1, rfl, hc1, _⟩ := (h.row 0 rfl).shape
  obtain ⟨A2, cp2, rfl, hc2, _⟩ := (h.row 1 rfl).shape
  obtain ⟨W2, hW2⟩ : ∃ W2, ((w.alloc (.cells #[.slice A1 r.hs.length cp1, .slice A2 r.gs.length cp2] 37)).alloc (.cells #[.int .i64 k, .string nm, .int .i64 a, .int .i64 b, .int .i64 dr, .int .i64 dl, .int .i64 dc, .int .i64 dg, .int .i64 cm, .int .i64 cc, .bool up] 27)).alloc (.cells #[.slice none 0 0, .slice none 0 0] 37) = W2 := ⟨_, rfl⟩
  have M := Lib.hid (three h #[.int .i64 k, .string nm, .int .i64 a, .int .i64 b, .int .i64 dr, .int .i64 dl, .int .i64 dc, .int .i64 dg, .int .i64 cm, .int .i64 cc, .bool up])
  rw [hW2] at M
  have HEQ := Lib.hid hW2
  obtain ⟨n, hn⟩ : ∃ n, r.hs.length = n := ⟨_, rfl⟩
  have HNL : Is r.hs.length n := ⟨hn⟩
  rw [hn] at M HEQ hl hc1 ⊢
  obtain ⟨gn, hgn⟩ : ∃ gn, r.gs.length = gn := ⟨_, rfl⟩
  have HGL : Is r.gs.length gn := ⟨hgn⟩
  rw [hgn] at M HEQ hg hc2 ⊢
  clear hW2 h hn hgn
  have HSRT := Lib.hid hs
  clear hs
  have hfind := find_any A1 n cp1 A2 gn cp2 r.gs nm W2 (Own.reads plC_len (M.out.row 1 rfl)).1 HSRT.out (by omega)
  unfold FindTo at hfind
  obtain ⟨⟨c0, c1⟩, ⟨e0, e1⟩, ltc⟩ := M.out.box2 2 rfl
  obtain ⟨⟨m0, m1, m2, m3, m4, m5, m6, m7, m8, m9, m10⟩, _, ltm⟩ := M.out.box11 3 rfl
  obtain ⟨⟨d0, d1⟩, ⟨f0, f1⟩, ltd⟩ := M.out.box2 4 rfl
  cases hh : hasG r.gs nm
  · have HX : Is (move r ⟨k, nm, a, b, ⟨dr, dl, dc, dg⟩, ⟨cm, cc, up⟩⟩) (r, 4202) := ⟨move_no hh⟩
    rw [hh] at hfind
    have HFI := Lib.hid hfind
    clear hfind hh
    go_enter Try.func38, Try.ntmps38
    go_wp2_with fail
    rw [HEQ.out]
    refine HFI.out.mono ?_
    rintro e w3 ⟨rfl, h3⟩
    have M3 := Lib.hid (M.out.keep h3)
    clear M h3 HFI
    clear c0 c1 e0 e1 m0 m1 m2 m3 m4 m5 m6 m7 m8 m9 m10 d0 d1 f0 f1 ltc ltm ltd
    obtain ⟨⟨c0, c1⟩, ⟨e0, e1⟩, ltc⟩ := M3.out.box2 2 rfl
    obtain ⟨⟨m0, m1, m2, m3, m4, m5, m6, m7, m8, m9, m10⟩, _, ltm⟩ := M3.out.box11 3 rfl
    obtain ⟨⟨d0, d1⟩, ⟨f0, f1⟩, ltd⟩ := M3.out.box2 4 rfl
    go_wp2
    have MF := (M3.out.put 4 rfl 0 (.slice A1 n cp1)).put 4 rfl 1 (.slice A2 gn cp2)
    refine bodyPost_ret (Bx.res_ct Try.results38 rfl (reg_load (MF.blk 4 rfl))) rfl ?_
    rw [HX.out]
    exact StepTo.err (by decide) MF.held
  have HHAS : Is (hasG r.gs nm) true := ⟨hh⟩
  obtain ⟨pp, hpp, _, hpl⟩ := has_at hh
  rw [HGL.out] at hpl
  rw [hh] at hfind
  clear hh
  obtain ⟨q, hq⟩ : ∃ q, pos r.gs nm = q := ⟨_, rfl⟩
  have HQ : Is (pos r.gs nm) q := ⟨hq⟩
  have HXP : Is (r.gs[pos r.gs nm]?) (some pp) := ⟨hpp⟩
  rw [hq] at hpp hpl hfind
  have HFI := Lib.hid hfind
  obtain ⟨g2, x2, hA2, _, _, hx2, _⟩ := M.out.slot 1 rfl plC_len (by decide) (k := q) (by rw [HGL.out]; exact hpl)
  subst hA2
  rw [hpp] at hx2
  injection hx2 with hx2
  subst hx2
  obtain ⟨pn, ⟨pr, pl, pc, pg⟩, px, py⟩ := pp
  have HX2 : Is (r.gs[q]?) (some ⟨pn, ⟨pr, pl, pc, pg⟩, px, py⟩) := ⟨hpp⟩
  have qn0 : (q : Int) < gn := by omega
  have qp0 : ¬ (q : Int) < 0 := by omega
  obtain ⟨L', hL'⟩ : ∃ L', r.gs.eraseIdx q = L' := ⟨_, rfl⟩
  have HER : Is (r.gs.take q ++ r.gs.drop (q + 1)) L' := ⟨by rw [← hL']; exact (List.eraseIdx_eq_take_drop_succ _ _).symm⟩
  have HERP : Is (r.gs.eraseIdx q) L' := ⟨hL'⟩
  have hLl : (L'.length : Int) ≤ 50 := by rw [← hL']; have := List.length_eraseIdx_le r.gs q; rw [HGL.out] at this; omega
  clear hfind hq hpp hL'
  have HI : ∀ w, Hid (Calls Try.prog 47 #[.agg #[.slice A1 n cp1, .slice (some ⟨g2, 0, none⟩) gn cp2], .int .i64 b] w fun e w' => e = .returned (.bool (there n b)) ∧ Held w w') := fun w => isHost_any A1 n cp1 (some ⟨g2, 0, none⟩) gn cp2 b (by omega) w
  obtain ⟨tb, htb⟩ : ∃ tb, there n b = tb := ⟨_, rfl⟩
  have HTB : Is (there n b) tb := ⟨htb⟩
  simp only [htb] at HI
  clear htb
  by_cases ha0 : a = 0
  · subst ha0
    cases tb
    · have HX : Is (move r ⟨k, nm, 0, b, ⟨dr, dl, dc, dg⟩, ⟨cm, cc, up⟩⟩) (r, 4200) := ⟨move_bad HHAS.out HXP.out (by unfold moveBad; simp only; rw [HNL.out, HTB.out]; simp)⟩
      go_enter Try.func38, Try.ntmps38
      go_wp2_with fail
      rw [HEQ.out]
      refine HFI.out.mono ?_
      rintro e w3 ⟨rfl, h3⟩
      have M3 := Lib.hid (M.out.keep h3)
      clear M h3 HFI
      clear c0 c1 e0 e1 m0 m1 m2 m3 m4 m5 m6 m7 m8 m9 m10 d0 d1 f0 f1 ltc ltm ltd
      obtain ⟨⟨c0, c1⟩, ⟨e0, e1⟩, ltc⟩ := M3.out.box2 2 rfl
      obtain ⟨⟨m0, m1, m2, m3, m4, m5, m6, m7, m8, m9, m10⟩, _, ltm⟩ := M3.out.box11 3 rfl
      obtain ⟨⟨d0, d1⟩, ⟨f0, f1⟩, ltd⟩ := M3.out.box2 4 rfl
      obtain ⟨lz, hcz⟩ := M3.out.at_ 1 rfl plC_len (by decide) HX2.out
      have z0 := (hcz 0 (by decide)).2 _ rfl
      have z1 := (hcz 1 (by decide)).2 _ rfl
      have z2 := (hcz 2 (by decide)).2 _ rfl
      have z3 := (hcz 3 (by decide)).2 _ rfl
      have z4 := (hcz 4 (by decide)).2 _ rfl
      have z5 := (hcz 5 (by decide)).2 _ rfl
      have z6 := (hcz 6 (by decide)).2 _ rfl
      have n5 := (hcz 5 (by decide)).1
      have n6 := (hcz 6 (by decide)).1
      rw [Nat.add_zero] at z0
      clear hcz
      have hw0 : IntKind.i64.wrap ((1 : Int) - 0) = 1 := by decide
      have hw1 : IntKind.i64.wrap 1 = 1 := by decide
      have hw2 : (1 : Int) - 0 = 1 := by decide
      have qc0 := cell_regrown c0
      have qc1 := cell_regrown c1
      have qm2 := cell_regrown m2
      have qm3 := cell_regrown m3
      have qz6 := cell_regrown z6
      have cI := Lib.hid fun d os => Calls.regrown_of (d := d) (os := os) (HI (grow (redrawn w3 d) os)).out
      go_wp2
      refine wp_region_quiet_below (by kernel_rfl) (by kernel_rfl) ?_
      repeat (go_big_quiet_step (first | (go_at_call 47; (with_reducible exact cI.out _ _))))
      refine wpQuiet_nil ?_
      intro w4 hw'
      obtain ⟨⟨dq, osq⟩, hw''⟩ := hw'
      have h12 : Held w3 w4 := by rw [hw'']; exact below_regrown w3 dq osq
      clear hw'' qc0 qc1 qm2 qm3 qz6 cI
      have M4 := Lib.hid (M3.out.keep h12)
      clear M3 h12
      clear c0 c1 e0 e1 m0 m1 m2 m3 m4 m5 m6 m7 m8 m9 m10 d0 d1 f0 f1 ltc ltm ltd
      clear z0 z1 z2 z3 z4 z5 z6 n5 n6 lz
      obtain ⟨⟨c0, c1⟩, ⟨e0, e1⟩, ltc⟩ := M4.out.box2 2 rfl
      obtain ⟨⟨m0, m1, m2, m3, m4, m5, m6, m7, m8, m9, m10⟩, _, ltm⟩ := M4.out.box11 3 rfl
      obtain ⟨⟨d0, d1⟩, ⟨f0, f1⟩, ltd⟩ := M4.out.box2 4 rfl
      go_wp2
      have MF := (M4.out.put 4 rfl 0 (.slice A1 n cp1)).put 4 rfl 1 (.slice (some ⟨g2, 0, none⟩) gn cp2)
      refine bodyPost_ret (Bx.res_ct Try.results38 rfl (reg_load (MF.blk 4 rfl))) rfl ?_
      rw [HX.out]
      exact StepTo.err (by decide) MF.held
    obtain ⟨ib, hib, hibn⟩ := there_nat HTB.out
    subst hib
    have HTB2 : Is (there n (ib : Int)) true := HTB
    by_cases hsb : py = (ib : Int)
    · have HX : Is (move r ⟨k, nm, 0, (ib : Int), ⟨dr, dl, dc, dg⟩, ⟨cm, cc, up⟩⟩) (r, 4200) := ⟨move_bad HHAS.out HXP.out (by unfold moveBad; simp only; rw [HNL.out, HTB2.out]; simp [side]; exact hsb)⟩
      have hsb1 : (py == (ib : Int)) = true := by simp [hsb]
      clear hsb
      go_enter Try.func38, Try.ntmps38
      go_wp2_with fail
      rw [HEQ.out]
      refine HFI.out.mono ?_
      rintro e w3 ⟨rfl, h3⟩
      have M3 := Lib.hid (M.out.keep h3)
      clear M h3 HFI
      clear c0 c1 e0 e1 m0 m1 m2 m3 m4 m5 m6 m7 m8 m9 m10 d0 d1 f0 f1 ltc ltm ltd
      obtain ⟨⟨c0, c1⟩, ⟨e0, e1⟩, ltc⟩ := M3.out.box2 2 rfl
      obtain ⟨⟨m0, m1, m2, m3, m4, m5, m6, m7, m8, m9, m10⟩, _, ltm⟩ := M3.out.box11 3 rfl
      obtain ⟨⟨d0, d1⟩, ⟨f0, f1⟩, ltd⟩ := M3.out.box2 4 rfl
      obtain ⟨lz, hcz⟩ := M3.out.at_ 1 rfl plC_len (by decide) HX2.out
      have z0 := (hcz 0 (by decide)).2 _ rfl
      have z1 := (hcz 1 (by decide)).2 _ rfl
      have z2 := (hcz 2 (by decide)).2 _ rfl
      have z3 := (hcz 3 (by decide)).2 _ rfl
      have z4 := (hcz 4 (by decide)).2 _ rfl
      have z5 := (hcz 5 (by decide)).2 _ rfl
      have z6 := (hcz 6 (by decide)).2 _ rfl
      have n5 := (hcz 5 (by decide)).1
      have n6 := (hcz 6 (by decide)).1
      rw [Nat.add_zero] at z0
      clear hcz
      have hw0 : IntKind.i64.wrap ((1 : Int) - 0) = 1 := by decide
      have hw1 : IntKind.i64.wrap 1 = 1 := by decide
      have hw2 : (1 : Int) - 0 = 1 := by decide
      have qc0 := cell_regrown c0
      have qc1 := cell_regrown c1
      have qm2 := cell_regrown m2
      have qm3 := cell_regrown m3
      have qz6 := cell_regrown z6
      have cI := Lib.hid fun d os => Calls.regrown_of (d := d) (os := os) (HI (grow (redrawn w3 d) os)).out
      go_wp2
      refine wp_region_quiet_below (by kernel_rfl) (by kernel_rfl) ?_
      repeat (go_big_quiet_step (first | (go_at_call 47; (with_reducible exact cI.out _ _))))
      refine wpQuiet_nil ?_
      intro w4 hw'
      obtain ⟨⟨dq, osq⟩, hw''⟩ := hw'
      have h12 : Held w3 w4 := by rw [hw'']; exact below_regrown w3 dq osq
      clear hw'' qc0 qc1 qm2 qm3 qz6 cI
      have M4 := Lib.hid (M3.out.keep h12)
      clear M3 h12
      clear c0 c1 e0 e1 m0 m1 m2 m3 m4 m5 m6 m7 m8 m9 m10 d0 d1 f0 f1 ltc ltm ltd
      clear z0 z1 z2 z3 z4 z5 z6 n5 n6 lz
      obtain ⟨⟨c0, c1⟩, ⟨e0, e1⟩, ltc⟩ := M4.out.box2 2 rfl
      obtain ⟨⟨m0, m1, m2, m3, m4, m5, m6, m7, m8, m9, m10⟩, _, ltm⟩ := M4.out.box11 3 rfl
      obtain ⟨⟨d0, d1⟩, ⟨f0, f1⟩, ltd⟩ := M4.out.box2 4 rfl
      go_wp2
      have MF := (M4.out.put 4 rfl 0 (.slice A1 n cp1)).put 4 rfl 1 (.slice (some ⟨g2, 0, none⟩) gn cp2)
      refine bodyPost_ret (Bx.res_ct Try.results38 rfl (reg_load (MF.blk 4 rfl))) rfl ?_
      rw [HX.out]
      exact StepTo.err (by decide) MF.held
    · have hsb1 : (py == (ib : Int)) = false := by simp [hsb]
      go_enter Try.func38, Try.ntmps38
      go_wp2_with fail
      rw [HEQ.out]
      refine HFI.out.mono ?_
      rintro e w3 ⟨rfl, h3⟩
      have M3 := Lib.hid (M.out.keep h3)
      clear M h3 HFI
      clear c0 c1 e0 e1 m0 m1 m2 m3 m4 m5 m6 m7 m8 m9 m10 d0 d1 f0 f1 ltc ltm ltd
      obtain ⟨⟨c0, c1⟩, ⟨e0, e1⟩, ltc⟩ := M3.out.box2 2 rfl
      obtain ⟨⟨m0, m1, m2, m3, m4, m5, m6, m7, m8, m9, m10⟩, _, ltm⟩ := M3.out.box11 3 rfl
      obtain ⟨⟨d0, d1⟩, ⟨f0, f1⟩, ltd⟩ := M3.out.box2 4 rfl
      obtain ⟨lz, hcz⟩ := M3.out.at_ 1 rfl plC_len (by decide) HX2.out
      have z0 := (hcz 0 (by decide)).2 _ rfl
      have z1 := (hcz 1 (by decide)).2 _ rfl
      have z2 := (hcz 2 (by decide)).2 _ rfl
      have z3 := (hcz 3 (by decide)).2 _ rfl
      have z4 := (hcz 4 (by decide)).2 _ rfl
      have z5 := (hcz 5 (by decide)).2 _ rfl
      have z6 := (hcz 6 (by decide)).2 _ rfl
      have n5 := (hcz 5 (by decide)).1
      have n6 := (hcz 6 (by decide)).1
      rw [Nat.add_zero] at z0
      clear hcz
      have hw0 : IntKind.i64.wrap ((1 : Int) - 0) = 1 := by decide
      have hw1 : IntKind.i64.wrap 1 = 1 := by decide
      have hw2 : (1 : Int) - 0 = 1 := by decide
      have qc0 := cell_regrown c0
      have qc1 := cell_regrown c1
      have qm2 := cell_regrown m2
      have qm3 := cell_regrown m3
      have qz6 := cell_regrown z6
      have cI := Lib.hid fun d os => Calls.regrown_of (d := d) (os := os) (HI (grow (redrawn w3 d) os)).out
      go_wp2
      refine wp_region_quiet_below (by kernel_rfl) (by kernel_rfl) ?_
      repeat (go_big_quiet_step (first | (go_at_call 47; (with_reducible exact cI.out _ _))))
      refine wpQuiet_nil ?_
      intro w4 hw'
      obtain ⟨⟨dq, osq⟩, hw''⟩ := hw'
      have h12 : Held w3 w4 := by rw [hw'']; exact below_regrown w3 dq osq
      clear hw'' qc0 qc1 qm2 qm3 qz6 cI
      have M4 := Lib.hid (M3.out.keep h12)
      clear M3 h12
      clear c0 c1 e0 e1 m0 m1 m2 m3 m4 m5 m6 m7 m8 m9 m10 d0 d1 f0 f1 ltc ltm ltd
      clear z0 z1 z2 z3 z4 z5 z6 n5 n6 lz
      obtain ⟨⟨c0, c1⟩, ⟨e0, e1⟩, ltc⟩ := M4.out.box2 2 rfl
      obtain ⟨⟨m0, m1, m2, m3, m4, m5, m6, m7, m8, m9, m10⟩, _, ltm⟩ := M4.out.box11 3 rfl
      obtain ⟨⟨d0, d1⟩, ⟨f0, f1⟩, ltd⟩ := M4.out.box2 4 rfl
      obtain ⟨lz, hcz⟩ := M4.out.at_ 1 rfl plC_len (by decide) HX2.out
      have z0 := (hcz 0 (by decide)).2 _ rfl
      have z1 := (hcz 1 (by decide)).2 _ rfl
      have z2 := (hcz 2 (by decide)).2 _ rfl
      have z3 := (hcz 3 (by decide)).2 _ rfl
      have z4 := (hcz 4 (by decide)).2 _ rfl
      have z5 := (hcz 5 (by decide)).2 _ rfl
      have z6 := (hcz 6 (by decide)).2 _ rfl
      have n5 := (hcz 5 (by decide)).1
      have n6 := (hcz 6 (by decide)).1
      rw [Nat.add_zero] at z0
      clear hcz
      have HMB : Is (moveBad r ⟨k, nm, 0, (ib : Int), ⟨dr, dl, dc, dg⟩, ⟨cm, cc, up⟩⟩ ⟨pn, ⟨pr, pl, pc, pg⟩, px, py⟩) false := ⟨by unfold moveBad; simp only; rw [HNL.out, HTB2.out]; simp [side]; exact hsb⟩
      clear hsb
      have hdel0 := SlcPl.clone_any plC_len plC_one (some ⟨g2, 0, none⟩) gn cp2 r.gs w4 (Own.reads plC_len (M4.out.row 1 rfl)).1 (fun h => by cases h) (by omega)
      have HCL := Lib.hid hdel0
      clear hdel0
      go_wp2_with fail
      refine HCL.out.mono ?_
      rintro e w5 ⟨v5, rfl, o5, h5⟩
      obtain ⟨A5', cp5', rfl, _, _⟩ := o5.shape
      rw [HGL.out] at o5 ⊢
      have M5 := Lib.hid (M4.out.own h5 o5)
      clear M4 h5 o5 HCL
      clear c0 c1 e0 e1 m0 m1 m2 m3 m4 m5 m6 m7 m8 m9 m10 d0 d1 f0 f1 ltc ltm ltd
      clear z0 z1 z2 z3 z4 z5 z6 n5 n6 lz
      have hdel := SlcPl.delete_any plC_len plC_one W.heap.size (.slice A5' gn cp5') r.gs q (q + 1) w5 (M5.out.row 5 rfl) (by omega) (by rw [HGL.out]; omega) (by rw [HGL.out]; omega)
      rw [HER.out] at hdel
      have HDEL := Lib.hid hdel
      clear hdel
      obtain ⟨⟨c0, c1⟩, ⟨e0, e1⟩, ltc⟩ := M5.out.box2 2 rfl
      obtain ⟨⟨m0, m1, m2, m3, m4, m5, m6, m7, m8, m9, m10⟩, _, ltm⟩ := M5.out.box11 3 rfl
      obtain ⟨⟨d0, d1⟩, ⟨f0, f1⟩, ltd⟩ := M5.out.box2 4 rfl
      go_wp2_with fail
      refine HDEL.out.mono ?_
      intro e w7 hg7
      obtain ⟨A5, cp5, rfl, _, M7x⟩ := M5.out.gotten 5 rfl hg7
      have M7 := Lib.hid M7x
      clear M7x M5 hg7 HDEL
      clear c0 c1 e0 e1 m0 m1 m2 m3 m4 m5 m6 m7 m8 m9 m10 d0 d1 f0 f1 ltc ltm ltd
      obtain ⟨⟨c0, c1⟩, ⟨e0, e1⟩, ltc⟩ := M7.out.box2 2 rfl
      obtain ⟨⟨m0, m1, m2, m3, m4, m5, m6, m7, m8, m9, m10⟩, _, ltm⟩ := M7.out.box11 3 rfl
      obtain ⟨⟨d0, d1⟩, ⟨f0, f1⟩, ltd⟩ := M7.out.box2 4 rfl
      obtain ⟨lz, hcz⟩ := M7.out.at_ 1 rfl plC_len (by decide) HX2.out
      have z0 := (hcz 0 (by decide)).2 _ rfl
      have z1 := (hcz 1 (by decide)).2 _ rfl
      have z2 := (hcz 2 (by decide)).2 _ rfl
      have z3 := (hcz 3 (by decide)).2 _ rfl
      have z4 := (hcz 4 (by decide)).2 _ rfl
      have z5 := (hcz 5 (by decide)).2 _ rfl
      have z6 := (hcz 6 (by decide)).2 _ rfl
      have n5 := (hcz 5 (by decide)).1
      have n6 := (hcz 6 (by decide)).1
      rw [Nat.add_zero] at z0
      clear hcz
      obtain ⟨gb, goff, hm, hc, hup, rfl, lgb, hpx, p0, p1, p2⟩ := capAt (Own.reads capC_len (M7.out.row 0 rfl)).1 (Held.refl w7) (show ib < n by omega)
      have HAM : Is (admAt r.hs L' (ib : Int) ⟨pr, pl, pc, pg⟩) (admit hm hc hup (on L' ib) ⟨pr, pl, pc, pg⟩) := ⟨adm_at hpx⟩
      have HSO := Lib.hid (Own.reads plC_len (M7.out.row 5 rfl)).1
      have hol := on_len L' ib
      have hol2 : ((on L' ib).length : Int) ≤ 100 := by omega
      have ibn : (ib : Int) < n := by omega
      have ibp : ¬ (ib : Int) < 0 := by omega
      have qn : (q : Int) < gn := by omega
      have qp : ¬ (q : Int) < 0 := by omega
      obtain ⟨ad, had⟩ : ∃ ad, admit hm hc hup (on L' ib) ⟨pr, pl, pc, pg⟩ = ad := ⟨_, rfl⟩
      have HAD := Lib.hid had
      rw [had] at HAM
      clear had hpx hol
      by_cases h0 : ad = 0
      · have h0b : (ad != 0) = false := by simp [h0]
        have h0c : (ad == 0) = true := by simp [h0]
        have HX : Is (move r ⟨k, nm, 0, (ib : Int), ⟨dr, dl, dc, dg⟩, ⟨cm, cc, up⟩⟩) (⟨r.hs, r.gs.set q ⟨pn, ⟨pr, pl, pc, pg⟩, (ib : Int), py⟩⟩, 0) := ⟨by
          have h := move_ok (r := r) (o := ⟨k, nm, 0, (ib : Int), ⟨dr, dl, dc, dg⟩, ⟨cm, cc, up⟩⟩) HHAS.out HXP.out HMB.out (by simp only; rw [HQ.out, HERP.out, HAM.out, h0])
          rw [h]; simp only; rw [HQ.out]; rfl⟩
        clear h0 HAM
        go_wp2
        go_region_held3 (fun w' => w'.cell? ⟨w.heap.size, 0, none⟩ = some (.slice (some ⟨gb, goff, none⟩) n cp1) ∧ w'.cell? ⟨w.heap.size, 1, none⟩ = some (.slice (some ⟨g2, 0, none⟩) gn cp2) ∧ w'.cell? ⟨w.heap.size + 1, 3, none⟩ = some (.int .i64 (ib : Int)) ∧ w'.cell? ⟨g2, q * 7 + 1, none⟩ = some (.int .i64 pr) ∧ w'.cell? ⟨g2, q * 7 + 2, none⟩ = some (.int .i64 pl) ∧ w'.cell? ⟨g2, q * 7 + 3, none⟩ = some (.int .i64 pc) ∧ w'.cell? ⟨g2, q * 7 + 4, none⟩ = some (.int .i64 pg) ∧ w'.cell? ⟨gb, goff + ib * 3, none⟩ = some (.int .i64 hm) ∧ w'.cell? ⟨gb, goff + ib * 3 + 1, none⟩ = some (.int .i64 hc) ∧ w'.cell? ⟨gb, goff + ib * 3 + 2, none⟩ = some (.bool hup) ∧ Held w7 w')
          ((repeat' refine And.intro ?_ ?_) <;> first | exact c0 | exact c1 | exact m3 | exact z1 | exact z2 | exact z3 | exact z4 | exact p0 | exact p1 | exact p2 | exact (Held.refl _).drew | exact Held.cell (by assumption) c0 | exact Held.cell (by assumption) c1 | exact Held.cell (by assumption) m3 | exact Held.cell (by assumption) z1 | exact Held.cell (by assumption) z2 | exact Held.cell (by assumption) z3 | exact Held.cell (by assumption) z4 | exact Held.cell (by assumption) p0 | exact Held.cell (by assumption) p1 | exact Held.cell (by assumption) p2 | exact (by assumption))
          (first | (go_at_call 50; refine (on_any A5 L'.length cp5 L' ib _ (ps_of (HSO.out.held (Held.refl _).drew)) (by omega)).mono ?_; rintro e w8 ⟨v8, rfl, ho8, h8⟩; obtain ⟨A8, cp8, rfl, hcp8⟩ := own_slice ho8; obtain ⟨hds, _, _⟩ := ds_of_own ho8; have HDS := Lib.hid hds; have k8 : Held w7 w8 := (Held.refl _).drew.step h8; clear ho8 hds) | (go_at_call 70; refine (admit_any hm hc hup _ _ _ (on L' ib) pr pl pc pg _ HDS.out hol2).mono ?_; rintro e w9 ⟨rfl, h9⟩; rw [HAD.out]; have k9 : Held w7 w9 := k8.step h9))
        have M10 := Lib.hid (M7.out.keep k9)
        clear M7 p0 p1 p2
        clear c0 c1 e0 e1 m0 m1 m2 m3 m4 m5 m6 m7 m8 m9 m10 d0 d1 f0 f1 ltc ltm ltd
        clear z0 z1 z2 z3 z4 z5 z6 n5 n6 lz
        obtain ⟨⟨c0, c1⟩, ⟨e0, e1⟩, ltc⟩ := M10.out.box2 2 rfl
        obtain ⟨⟨m0, m1, m2, m3, m4, m5, m6, m7, m8, m9, m10⟩, _, ltm⟩ := M10.out.box11 3 rfl
        obtain ⟨⟨d0, d1⟩, ⟨f0, f1⟩, ltd⟩ := M10.out.box2 4 rfl
        obtain ⟨lz, hcz⟩ := M10.out.at_ 1 rfl plC_len (by decide) HX2.out
        have z0 := (hcz 0 (by decide)).2 _ rfl
        have z1 := (hcz 1 (by decide)).2 _ rfl
        have z2 := (hcz 2 (by decide)).2 _ rfl
        have z3 := (hcz 3 (by decide)).2 _ rfl
        have z4 := (hcz 4 (by decide)).2 _ rfl
        have z5 := (hcz 5 (by decide)).2 _ rfl
        have z6 := (hcz 6 (by decide)).2 _ rfl
        have n5 := (hcz 5 (by decide)).1
        have n6 := (hcz 6 (by decide)).1
        rw [Nat.add_zero] at z0
        clear hcz
        have hne : ¬ g2 = w.heap.size := fun e => M10.out.neRow 2 1 rfl rfl (by decide) (by simp [Value.ownBlock, e])
        have hne2 : ¬ w.heap.size = g2 := fun e => hne e.symm
        have hne3 : ¬ g2 = w.heap.size + 1 + 1 := fun e => M10.out.neRow 4 1 rfl rfl (by decide) (by simp [Value.ownBlock, e])
        have hne4 : ¬ w.heap.size + 1 + 1 = g2 := fun e => hne3 e.symm
        go_wp2
        go_region
        have M11 := (M10.out.putAt 1 rfl plC_len HX2.out (j := 5) (by decide) (.int .i64 (ib : Int)) ⟨pn, ⟨pr, pl, pc, pg⟩, (ib : Int), py⟩ rfl).drew
        obtain ⟨w11, hw11⟩ : ∃ w11, (w9.setCell ⟨g2, q * 7 + 5, none⟩ (.int .i64 (ib : Int))).drew = w11 := ⟨_, rfl⟩
        rw [hw11] at M11 ⊢
        have M12 := Lib.hid M11
        clear M11 M10 hw11
        clear c0 c1 e0 e1 m0 m1 m2 m3 m4 m5 m6 m7 m8 m9 m10 d0 d1 f0 f1 ltc ltm ltd
        clear z0 z1 z2 z3 z4 z5 z6 n5 n6 lz
        obtain ⟨⟨c0, c1⟩, ⟨e0, e1⟩, ltc⟩ := M12.out.box2 2 rfl
        obtain ⟨⟨d0, d1⟩, ⟨f0, f1⟩, ltd⟩ := M12.out.box2 4 rfl
        go_wp2
        have MF := (M12.out.put 4 rfl 0 (.slice (some ⟨gb, goff, none⟩) n cp1)).put 4 rfl 1 (.slice (some ⟨g2, 0, none⟩) gn cp2)
        refine bodyPost_ret (Bx.res_ct Try.results38 rfl (reg_load (MF.blk 4 rfl))) rfl ?_
        rw [HX.out]
        exact StepTo.ok (r := ⟨r.hs, r.gs.set q ⟨pn, ⟨pr, pl, pc, pg⟩, (ib : Int), py⟩⟩) (MF.take 2)
      · have h0b : (ad != 0) = true := by simp [h0]
        have h0c : (ad == 0) = false := by simp [h0]
        have HX : Is (move r ⟨k, nm, 0, (ib : Int), ⟨dr, dl, dc, dg⟩, ⟨cm, cc, up⟩⟩) (r, ad) := ⟨move_err (r := r) (o := ⟨k, nm, 0, (ib : Int), ⟨dr, dl, dc, dg⟩, ⟨cm, cc, up⟩⟩) HHAS.out HXP.out HMB.out (by simp only; rw [HQ.out, HERP.out, HAM.out]) h0⟩
        have HNE := Lib.hid h0
        clear h0 HAM
        go_wp2
        go_region_held3 (fun w' => w'.cell? ⟨w.heap.size, 0, none⟩ = some (.slice (some ⟨gb, goff, none⟩) n cp1) ∧ w'.cell? ⟨w.heap.size, 1, none⟩ = some (.slice (some ⟨g2, 0, none⟩) gn cp2) ∧ w'.cell? ⟨w.heap.size + 1, 3, none⟩ = some (.int .i64 (ib : Int)) ∧ w'.cell? ⟨g2, q * 7 + 1, none⟩ = some (.int .i64 pr) ∧ w'.cell? ⟨g2, q * 7 + 2, none⟩ = some (.int .i64 pl) ∧ w'.cell? ⟨g2, q * 7 + 3, none⟩ = some (.int .i64 pc) ∧ w'.cell? ⟨g2, q * 7 + 4, none⟩ = some (.int .i64 pg) ∧ w'.cell? ⟨gb, goff + ib * 3, none⟩ = some (.int .i64 hm) ∧ w'.cell? ⟨gb, goff + ib * 3 + 1, none⟩ = some (.int .i64 hc) ∧ w'.cell? ⟨gb, goff + ib * 3 + 2, none⟩ = some (.bool hup) ∧ Held w7 w')
          ((repeat' refine And.intro ?_ ?_) <;> first | exact c0 | exact c1 | exact m3 | exact z1 | exact z2 | exact z3 | exact z4 | exact p0 | exact p1 | exact p2 | exact (Held.refl _).drew | exact Held.cell (by assumption) c0 | exact Held.cell (by assumption) c1 | exact Held.cell (by assumption) m3 | exact Held.cell (by assumption) z1 | exact Held.cell (by assumption) z2 | exact Held.cell (by assumption) z3 | exact Held.cell (by assumption) z4 | exact Held.cell (by assumption) p0 | exact Held.cell (by assumption) p1 | exact Held.cell (by assumption) p2 | exact (by assumption))
          (first | (go_at_call 50; refine (on_any A5 L'.length cp5 L' ib _ (ps_of (HSO.out.held (Held.refl _).drew)) (by omega)).mono ?_; rintro e w8 ⟨v8, rfl, ho8, h8⟩; obtain ⟨A8, cp8, rfl, hcp8⟩ := own_slice ho8; obtain ⟨hds, _, _⟩ := ds_of_own ho8; have HDS := Lib.hid hds; have k8 : Held w7 w8 := (Held.refl _).drew.step h8; clear ho8 hds) | (go_at_call 70; refine (admit_any hm hc hup _ _ _ (on L' ib) pr pl pc pg _ HDS.out hol2).mono ?_; rintro e w9 ⟨rfl, h9⟩; rw [HAD.out]; have k9 : Held w7 w9 := k8.step h9))
        have M10 := Lib.hid (M7.out.keep k9)
        clear M7 p0 p1 p2
        clear c0 c1 e0 e1 m0 m1 m2 m3 m4 m5 m6 m7 m8 m9 m10 d0 d1 f0 f1 ltc ltm ltd
        clear z0 z1 z2 z3 z4 z5 z6 n5 n6 lz
        obtain ⟨⟨c0, c1⟩, ⟨e0, e1⟩, ltc⟩ := M10.out.box2 2 rfl
        obtain ⟨⟨m0, m1, m2, m3, m4, m5, m6, m7, m8, m9, m10⟩, _, ltm⟩ := M10.out.box11 3 rfl
        obtain ⟨⟨d0, d1⟩, ⟨f0, f1⟩, ltd⟩ := M10.out.box2 4 rfl
        obtain ⟨lz, hcz⟩ := M10.out.at_ 1 rfl plC_len (by decide) HX2.out
        have z0 := (hcz 0 (by decide)).2 _ rfl
        have z1 := (hcz 1 (by decide)).2 _ rfl
        have z2 := (hcz 2 (by decide)).2 _ rfl
        have z3 := (hcz 3 (by decide)).2 _ rfl
        have z4 := (hcz 4 (by decide)).2 _ rfl
        have z5 := (hcz 5 (by decide)).2 _ rfl
        have z6 := (hcz 6 (by decide)).2 _ rfl
        have n5 := (hcz 5 (by decide)).1
        have n6 := (hcz 6 (by decide)).1
        rw [Nat.add_zero] at z0
        clear hcz
        go_wp2
        have MF := (M10.out.put 4 rfl 0 (.slice (some ⟨gb, goff, none⟩) n cp1)).put 4 rfl 1 (.slice (some ⟨g2, 0, none⟩) gn cp2)
        refine bodyPost_ret (Bx.res_ct Try.results38 rfl (reg_load (MF.blk 4 rfl))) rfl ?_
        rw [HX.out]
        exact StepTo.err HNE.out MF.held
  by_cases ha1 : a = 1
  · subst ha1
    cases tb
    · have HX : Is (move r ⟨k, nm, 1, b, ⟨dr, dl, dc, dg⟩, ⟨cm, cc, up⟩⟩) (r, 4200) := ⟨move_bad HHAS.out HXP.out (by unfold moveBad; simp only; rw [HNL.out, HTB.out]; simp)⟩
      go_enter Try.func38, Try.ntmps38
      go_wp2_with fail
      rw [HEQ.out]
      refine HFI.out.mono ?_
      rintro e w3 ⟨rfl, h3⟩
      have M3 := Lib.hid (M.out.keep h3)
      clear M h3 HFI
      clear c0 c1 e0 e1 m0 m1 m2 m3 m4 m5 m6 m7 m8 m9 m10 d0 d1 f0 f1 ltc ltm ltd
      obtain ⟨⟨c0, c1⟩, ⟨e0, e1⟩, ltc⟩ := M3.out.box2 2 rfl
      obtain ⟨⟨m0, m1, m2, m3, m4, m5, m6, m7, m8, m9, m10⟩, _, ltm⟩ := M3.out.box11 3 rfl
      obtain ⟨⟨d0, d1⟩, ⟨f0, f1⟩, ltd⟩ := M3.out.box2 4 rfl
      obtain ⟨lz, hcz⟩ := M3.out.at_ 1 rfl plC_len (by decide) HX2.out
      have z0 := (hcz 0 (by decide)).2 _ rfl
      have z1 := (hcz 1 (by decide)).2 _ rfl
      have z2 := (hcz 2 (by decide)).2 _ rfl
      have z3 := (hcz 3 (by decide)).2 _ rfl
      have z4 := (hcz 4 (by decide)).2 _ rfl
      have z5 := (hcz 5 (by decide)).2 _ rfl
      have z6 := (hcz 6 (by decide)).2 _ rfl
      have n5 := (hcz 5 (by decide)).1
      have n6 := (hcz 6 (by decide)).1
      rw [Nat.add_zero] at z0
      clear hcz
      have hw0 : IntKind.i64.wrap ((1 : Int) - 1) = 0 := by decide
      have hw1 : IntKind.i64.wrap 0 = 0 := by decide
      have hw2 : (1 : Int) - 1 = 0 := by decide
      have qc0 := cell_regrown c0
      have qc1 := cell_regrown c1
      have qm2 := cell_regrown m2
      have qm3 := cell_regrown m3
      have qz5 := cell_regrown z5
      have cI := Lib.hid fun d os => Calls.regrown_of (d := d) (os := os) (HI (grow (redrawn w3 d) os)).out
      go_wp2
      refine wp_region_quiet_below (by kernel_rfl) (by kernel_rfl) ?_
      repeat (go_big_quiet_step (first | (go_at_call 47; (with_reducible exact cI.out _ _))))
      refine wpQuiet_nil ?_
      intro w4 hw'
      obtain ⟨⟨dq, osq⟩, hw''⟩ := hw'
      have h12 : Held w3 w4 := by rw [hw'']; exact below_regrown w3 dq osq
      clear hw'' qc0 qc1 qm2 qm3 qz5 cI
      have M4 := Lib.hid (M3.out.keep h12)
      clear M3 h12
      clear c0 c1 e0 e1 m0 m1 m2 m3 m4 m5 m6 m7 m8 m9 m10 d0 d1 f0 f1 ltc ltm ltd
      clear z0 z1 z2 z3 z4 z5 z6 n5 n6 lz
      obtain ⟨⟨c0, c1⟩, ⟨e0, e1⟩, ltc⟩ := M4.out.box2 2 rfl
      obtain ⟨⟨m0, m1, m2, m3, m4, m5, m6, m7, m8, m9, m10⟩, _, ltm⟩ := M4.out.box11 3 rfl
      obtain ⟨⟨d0, d1⟩, ⟨f0, f1⟩, ltd⟩ := M4.out.box2 4 rfl
      go_wp2
      have MF := (M4.out.put 4 rfl 0 (.slice A1 n cp1)).put 4 rfl 1 (.slice (some ⟨g2, 0, none⟩) gn cp2)
      refine bodyPost_ret (Bx.res_ct Try.results38 rfl (reg_load (MF.blk 4 rfl))) rfl ?_
      rw [HX.out]
      exact StepTo.err (by decide) MF.held
    obtain ⟨ib, hib, hibn⟩ := there_nat HTB.out
    subst hib
    have HTB2 : Is (there n (ib : Int)) true := HTB
    by_cases hsb : px = (ib : Int)
    · have HX : Is (move r ⟨k, nm, 1, (ib : Int), ⟨dr, dl, dc, dg⟩, ⟨cm, cc, up⟩⟩) (r, 4200) := ⟨move_bad HHAS.out HXP.out (by unfold moveBad; simp only; rw [HNL.out, HTB2.out]; simp [side]; exact hsb)⟩
      have hsb1 : (px == (ib : Int)) = true := by simp [hsb]
      clear hsb
      go_enter Try.func38, Try.ntmps38
      go_wp2_with fail
      rw [HEQ.out]
      refine HFI.out.mono ?_
      rintro e w3 ⟨rfl, h3⟩
      have M3 := Lib.hid (M.out.keep h3)
      clear M h3 HFI
      clear c0 c1 e0 e1 m0 m1 m2 m3 m4 m5 m6 m7 m8 m9 m10 d0 d1 f0 f1 ltc ltm ltd
      obtain ⟨⟨c0, c1⟩, ⟨e0, e1⟩, ltc⟩ := M3.out.box2 2 rfl
      obtain ⟨⟨m0, m1, m2, m3, m4, m5, m6, m7, m8, m9, m10⟩, _, ltm⟩ := M3.out.box11 3 rfl
      obtain ⟨⟨d0, d1⟩, ⟨f0, f1⟩, ltd⟩ := M3.out.box2 4 rfl
      obtain ⟨lz, hcz⟩ := M3.out.at_ 1 rfl plC_len (by decide) HX2.out
      have z0 := (hcz 0 (by decide)).2 _ rfl
      have z1 := (hcz 1 (by decide)).2 _ rfl
      have z2 := (hcz 2 (by decide)).2 _ rfl
      have z3 := (hcz 3 (by decide)).2 _ rfl
      have z4 := (hcz 4 (by decide)).2 _ rfl
      have z5 := (hcz 5 (by decide)).2 _ rfl
      have z6 := (hcz 6 (by decide)).2 _ rfl
      have n5 := (hcz 5 (by decide)).1
      have n6 := (hcz 6 (by decide)).1
      rw [Nat.add_zero] at z0
      clear hcz
      have hw0 : IntKind.i64.wrap ((1 : Int) - 1) = 0 := by decide
      have hw1 : IntKind.i64.wrap 0 = 0 := by decide
      have hw2 : (1 : Int) - 1 = 0 := by decide
      have qc0 := cell_regrown c0
      have qc1 := cell_regrown c1
      have qm2 := cell_regrown m2
      have qm3 := cell_regrown m3
      have qz5 := cell_regrown z5
      have cI := Lib.hid fun d os => Calls.regrown_of (d := d) (os := os) (HI (grow (redrawn w3 d) os)).out
      go_wp2
      refine wp_region_quiet_below (by kernel_rfl) (by kernel_rfl) ?_
      repeat (go_big_quiet_step (first | (go_at_call 47; (with_reducible exact cI.out _ _))))
      refine wpQuiet_nil ?_
      intro w4 hw'
      obtain ⟨⟨dq, osq⟩, hw''⟩ := hw'
      have h12 : Held w3 w4 := by rw [hw'']; exact below_regrown w3 dq osq
      clear hw'' qc0 qc1 qm2 qm3 qz5 cI
      have M4 := Lib.hid (M3.out.keep h12)
      clear M3 h12
      clear c0 c1 e0 e1 m0 m1 m2 m3 m4 m5 m6 m7 m8 m9 m10 d0 d1 f0 f1 ltc ltm ltd
      clear z0 z1 z2 z3 z4 z5 z6 n5 n6 lz
      obtain ⟨⟨c0, c1⟩, ⟨e0, e1⟩, ltc⟩ := M4.out.box2 2 rfl
      obtain ⟨⟨m0, m1, m2, m3, m4, m5, m6, m7, m8, m9, m10⟩, _, ltm⟩ := M4.out.box11 3 rfl
      obtain ⟨⟨d0, d1⟩, ⟨f0, f1⟩, ltd⟩ := M4.out.box2 4 rfl
      go_wp2
      have MF := (M4.out.put 4 rfl 0 (.slice A1 n cp1)).put 4 rfl 1 (.slice (some ⟨g2, 0, none⟩) gn cp2)
      refine bodyPost_ret (Bx.res_ct Try.results38 rfl (reg_load (MF.blk 4 rfl))) rfl ?_
      rw [HX.out]
      exact StepTo.err (by decide) MF.held
    · have hsb1 : (px == (ib : Int)) = false := by simp [hsb]
      go_enter Try.func38, Try.ntmps38
      go_wp2_with fail
      rw [HEQ.out]
      refine HFI.out.mono ?_
      rintro e w3 ⟨rfl, h3⟩
      have M3 := Lib.hid (M.out.keep h3)
      clear M h3 HFI
      clear c0 c1 e0 e1 m0 m1 m2 m3 m4 m5 m6 m7 m8 m9 m10 d0 d1 f0 f1 ltc ltm ltd
      obtain ⟨⟨c0, c1⟩, ⟨e0, e1⟩, ltc⟩ := M3.out.box2 2 rfl
      obtain ⟨⟨m0, m1, m2, m3, m4, m5, m6, m7, m8, m9, m10⟩, _, ltm⟩ := M3.out.box11 3 rfl
      obtain ⟨⟨d0, d1⟩, ⟨f0, f1⟩, ltd⟩ := M3.out.box2 4 rfl
      obtain ⟨lz, hcz⟩ := M3.out.at_ 1 rfl plC_len (by decide) HX2.out
      have z0 := (hcz 0 (by decide)).2 _ rfl
      have z1 := (hcz 1 (by decide)).2 _ rfl
      have z2 := (hcz 2 (by decide)).2 _ rfl
      have z3 := (hcz 3 (by decide)).2 _ rfl
      have z4 := (hcz 4 (by decide)).2 _ rfl
      have z5 := (hcz 5 (by decide)).2 _ rfl
      have z6 := (hcz 6 (by decide)).2 _ rfl
      have n5 := (hcz 5 (by decide)).1
      have n6 := (hcz 6 (by decide)).1
      rw [Nat.add_zero] at z0
      clear hcz
      have hw0 : IntKind.i64.wrap ((1 : Int) - 1) = 0 := by decide
      have hw1 : IntKind.i64.wrap 0 = 0 := by decide
      have hw2 : (1 : Int) - 1 = 0 := by decide
      have qc0 := cell_regrown c0
      have qc1 := cell_regrown c1
      have qm2 := cell_regrown m2
      have qm3 := cell_regrown m3
      have qz5 := cell_regrown z5
      have cI := Lib.hid fun d os => Calls.regrown_of (d := d) (os := os) (HI (grow (redrawn w3 d) os)).out
      go_wp2
      refine wp_region_quiet_below (by kernel_rfl) (by kernel_rfl) ?_
      repeat (go_big_quiet_step (first | (go_at_call 47; (with_reducible exact cI.out _ _))))
      refine wpQuiet_nil ?_
      intro w4 hw'
      obtain ⟨⟨dq, osq⟩, hw''⟩ := hw'
      have h12 : Held w3 w4 := by rw [hw'']; exact below_regrown w3 dq osq
      clear hw'' qc0 qc1 qm2 qm3 qz5 cI
      have M4 := Lib.hid (M3.out.keep h12)
      clear M3 h12
      clear c0 c1 e0 e1 m0 m1 m2 m3 m4 m5 m6 m7 m8 m9 m10 d0 d1 f0 f1 ltc ltm ltd
      clear z0 z1 z2 z3 z4 z5 z6 n5 n6 lz
      obtain ⟨⟨c0, c1⟩, ⟨e0, e1⟩, ltc⟩ := M4.out.box2 2 rfl
      obtain ⟨⟨m0, m1, m2, m3, m4, m5, m6, m7, m8, m9, m10⟩, _, ltm⟩ := M4.out.box11 3 rfl
      obtain ⟨⟨d0, d1⟩, ⟨f0, f1⟩, ltd⟩ := M4.out.box2 4 rfl
      obtain ⟨lz, hcz⟩ := M4.out.at_ 1 rfl plC_len (by decide) HX2.out
      have z0 := (hcz 0 (by decide)).2 _ rfl
      have z1 := (hcz 1 (by decide)).2 _ rfl
      have z2 := (hcz 2 (by decide)).2 _ rfl
      have z3 := (hcz 3 (by decide)).2 _ rfl
      have z4 := (hcz 4 (by decide)).2 _ rfl
      have z5 := (hcz 5 (by decide)).2 _ rfl
      have z6 := (hcz 6 (by decide)).2 _ rfl
      have n5 := (hcz 5 (by decide)).1
      have n6 := (hcz 6 (by decide)).1
      rw [Nat.add_zero] at z0
      clear hcz
      have HMB : Is (moveBad r ⟨k, nm, 1, (ib : Int), ⟨dr, dl, dc, dg⟩, ⟨cm, cc, up⟩⟩ ⟨pn, ⟨pr, pl, pc, pg⟩, px, py⟩) false := ⟨by unfold moveBad; simp only; rw [HNL.out, HTB2.out]; simp [side]; exact hsb⟩
      clear hsb
      have hdel0 := SlcPl.clone_any plC_len plC_one (some ⟨g2, 0, none⟩) gn cp2 r.gs w4 (Own.reads plC_len (M4.out.row 1 rfl)).1 (fun h => by cases h) (by omega)
      have HCL := Lib.hid hdel0
      clear hdel0
      go_wp2_with fail
      refine HCL.out.mono ?_
      rintro e w5 ⟨v5, rfl, o5, h5⟩
      obtain ⟨A5', cp5', rfl, _, _⟩ := o5.shape
      rw [HGL.out] at o5 ⊢
      have M5 := Lib.hid (M4.out.own h5 o5)
      clear M4 h5 o5 HCL
      clear c0 c1 e0 e1 m0 m1 m2 m3 m4 m5 m6 m7 m8 m9 m10 d0 d1 f0 f1 ltc ltm ltd
      clear z0 z1 z2 z3 z4 z5 z6 n5 n6 lz
      have hdel := SlcPl.delete_any plC_len plC_one W.heap.size (.slice A5' gn cp5') r.gs q (q + 1) w5 (M5.out.row 5 rfl) (by omega) (by rw [HGL.out]; omega) (by rw [HGL.out]; omega)
      rw [HER.out] at hdel
      have HDEL := Lib.hid hdel
      clear hdel
      obtain ⟨⟨c0, c1⟩, ⟨e0, e1⟩, ltc⟩ := M5.out.box2 2 rfl
      obtain ⟨⟨m0, m1, m2, m3, m4, m5, m6, m7, m8, m9, m10⟩, _, ltm⟩ := M5.out.box11 3 rfl
      obtain ⟨⟨d0, d1⟩, ⟨f0, f1⟩, ltd⟩ := M5.out.box2 4 rfl
      go_wp2_with fail
      refine HDEL.out.mono ?_
      intro e w7 hg7
      obtain ⟨A5, cp5, rfl, _, M7x⟩ := M5.out.gotten 5 rfl hg7
      have M7 := Lib.hid M7x
      clear M7x M5 hg7 HDEL
      clear c0 c1 e0 e1 m0 m1 m2 m3 m4 m5 m6 m7 m8 m9 m10 d0 d1 f0 f1 ltc ltm ltd
      obtain ⟨⟨c0, c1⟩, ⟨e0, e1⟩, ltc⟩ := M7.out.box2 2 rfl
      obtain ⟨⟨m0, m1, m2, m3, m4, m5, m6, m7, m8, m9, m10⟩, _, ltm⟩ := M7.out.box11 3 rfl
      obtain ⟨⟨d0, d1⟩, ⟨f0, f1⟩, ltd⟩ := M7.out.box2 4 rfl
      obtain ⟨lz, hcz⟩ := M7.out.at_ 1 rfl plC_len (by decide) HX2.out
      have z0 := (hcz 0 (by decide)).2 _ rfl
      have z1 := (hcz 1 (by decide)).2 _ rfl
      have z2 := (hcz 2 (by decide)).2 _ rfl
      have z3 := (hcz 3 (by decide)).2 _ rfl
      have z4 := (hcz 4 (by decide)).2 _ rfl
      have z5 := (hcz 5 (by decide)).2 _ rfl
      have z6 := (hcz 6 (by decide)).2 _ rfl
      have n5 := (hcz 5 (by decide)).1
      have n6 := (hcz 6 (by decide)).1
      rw [Nat.add_zero] at z0
      clear hcz
      obtain ⟨gb, goff, hm, hc, hup, rfl, lgb, hpx, p0, p1, p2⟩ := capAt (Own.reads capC_len (M7.out.row 0 rfl)).1 (Held.refl w7) (show ib < n by omega)
      have HAM : Is (admAt r.hs L' (ib : Int) ⟨pr, pl, pc, pg⟩) (admit hm hc hup (on L' ib) ⟨pr, pl, pc, pg⟩) := ⟨adm_at hpx⟩
      have HSO := Lib.hid (Own.reads plC_len (M7.out.row 5 rfl)).1
      have hol := on_len L' ib
      have hol2 : ((on L' ib).length : Int) ≤ 100 := by omega
      have ibn : (ib : Int) < n := by omega
      have ibp : ¬ (ib : Int) < 0 := by omega
      have qn : (q : Int) < gn := by omega
      have qp : ¬ (q : Int) < 0 := by omega
      obtain ⟨ad, had⟩ : ∃ ad, admit hm hc hup (on L' ib) ⟨pr, pl, pc, pg⟩ = ad := ⟨_, rfl⟩
      have HAD := Lib.hid had
      rw [had] at HAM
      clear had hpx hol
      by_cases h0 : ad = 0
      · have h0b : (ad != 0) = false := by simp [h0]
        have h0c : (ad == 0) = true := by simp [h0]
        have HX : Is (move r ⟨k, nm, 1, (ib : Int), ⟨dr, dl, dc, dg⟩, ⟨cm, cc, up⟩⟩) (⟨r.hs, r.gs.set q ⟨pn, ⟨pr, pl, pc, pg⟩, px, (ib : Int)⟩⟩, 0) := ⟨by
          have h := move_ok (r := r) (o := ⟨k, nm, 1, (ib : Int), ⟨dr, dl, dc, dg⟩, ⟨cm, cc, up⟩⟩) HHAS.out HXP.out HMB.out (by simp only; rw [HQ.out, HERP.out, HAM.out, h0])
          rw [h]; simp only; rw [HQ.out]; rfl⟩
        clear h0 HAM
        go_wp2
        go_region_held3 (fun w' => w'.cell? ⟨w.heap.size, 0, none⟩ = some (.slice (some ⟨gb, goff, none⟩) n cp1) ∧ w'.cell? ⟨w.heap.size, 1, none⟩ = some (.slice (some ⟨g2, 0, none⟩) gn cp2) ∧ w'.cell? ⟨w.heap.size + 1, 3, none⟩ = some (.int .i64 (ib : Int)) ∧ w'.cell? ⟨g2, q * 7 + 1, none⟩ = some (.int .i64 pr) ∧ w'.cell? ⟨g2, q * 7 + 2, none⟩ = some (.int .i64 pl) ∧ w'.cell? ⟨g2, q * 7 + 3, none⟩ = some (.int .i64 pc) ∧ w'.cell? ⟨g2, q * 7 + 4, none⟩ = some (.int .i64 pg) ∧ w'.cell? ⟨gb, goff + ib * 3, none⟩ = some (.int .i64 hm) ∧ w'.cell? ⟨gb, goff + ib * 3 + 1, none⟩ = some (.int .i64 hc) ∧ w'.cell? ⟨gb, goff + ib * 3 + 2, none⟩ = some (.bool hup) ∧ Held w7 w')
          ((repeat' refine And.intro ?_ ?_) <;> first | exact c0 | exact c1 | exact m3 | exact z1 | exact z2 | exact z3 | exact z4 | exact p0 | exact p1 | exact p2 | exact (Held.refl _).drew | exact Held.cell (by assumption) c0 | exact Held.cell (by assumption) c1 | exact Held.cell (by assumption) m3 | exact Held.cell (by assumption) z1 | exact Held.cell (by assumption) z2 | exact Held.cell (by assumption) z3 | exact Held.cell (by assumption) z4 | exact Held.cell (by assumption) p0 | exact Held.cell (by assumption) p1 | exact Held.cell (by assumption) p2 | exact (by assumption))
          (first | (go_at_call 50; refine (on_any A5 L'.length cp5 L' ib _ (ps_of (HSO.out.held (Held.refl _).drew)) (by omega)).mono ?_; rintro e w8 ⟨v8, rfl, ho8, h8⟩; obtain ⟨A8, cp8, rfl, hcp8⟩ := own_slice ho8; obtain ⟨hds, _, _⟩ := ds_of_own ho8; have HDS := Lib.hid hds; have k8 : Held w7 w8 := (Held.refl _).drew.step h8; clear ho8 hds) | (go_at_call 70; refine (admit_any hm hc hup _ _ _ (on L' ib) pr pl pc pg _ HDS.out hol2).mono ?_; rintro e w9 ⟨rfl, h9⟩; rw [HAD.out]; have k9 : Held w7 w9 := k8.step h9))
        have M10 := Lib.hid (M7.out.keep k9)
        clear M7 p0 p1 p2
        clear c0 c1 e0 e1 m0 m1 m2 m3 m4 m5 m6 m7 m8 m9 m10 d0 d1 f0 f1 ltc ltm ltd
        clear z0 z1 z2 z3 z4 z5 z6 n5 n6 lz
        obtain ⟨⟨c0, c1⟩, ⟨e0, e1⟩, ltc⟩ := M10.out.box2 2 rfl
        obtain ⟨⟨m0, m1, m2, m3, m4, m5, m6, m7, m8, m9, m10⟩, _, ltm⟩ := M10.out.box11 3 rfl
        obtain ⟨⟨d0, d1⟩, ⟨f0, f1⟩, ltd⟩ := M10.out.box2 4 rfl
        obtain ⟨lz, hcz⟩ := M10.out.at_ 1 rfl plC_len (by decide) HX2.out
        have z0 := (hcz 0 (by decide)).2 _ rfl
        have z1 := (hcz 1 (by decide)).2 _ rfl
        have z2 := (hcz 2 (by decide)).2 _ rfl
        have z3 := (hcz 3 (by decide)).2 _ rfl
        have z4 := (hcz 4 (by decide)).2 _ rfl
        have z5 := (hcz 5 (by decide)).2 _ rfl
        have z6 := (hcz 6 (by decide)).2 _ rfl
        have n5 := (hcz 5 (by decide)).1
        have n6 := (hcz 6 (by decide)).1
        rw [Nat.add_zero] at z0
        clear hcz
        have hne : ¬ g2 = w.heap.size := fun e => M10.out.neRow 2 1 rfl rfl (by decide) (by simp [Value.ownBlock, e])
        have hne2 : ¬ w.heap.size = g2 := fun e => hne e.symm
        have hne3 : ¬ g2 = w.heap.size + 1 + 1 := fun e => M10.out.neRow 4 1 rfl rfl (by decide) (by simp [Value.ownBlock, e])
        have hne4 : ¬ w.heap.size + 1 + 1 = g2 := fun e => hne3 e.symm
        go_wp2
        go_region
        have M11 := (M10.out.putAt 1 rfl plC_len HX2.out (j := 6) (by decide) (.int .i64 (ib : Int)) ⟨pn, ⟨pr, pl, pc, pg⟩, px, (ib : Int)⟩ rfl).drew
        obtain ⟨w11, hw11⟩ : ∃ w11, (w9.setCell ⟨g2, q * 7 + 6, none⟩ (.int .i64 (ib : Int))).drew = w11 := ⟨_, rfl⟩
        rw [hw11] at M11 ⊢
        have M12 := Lib.hid M11
        clear M11 M10 hw11
        clear c0 c1 e0 e1 m0 m1 m2 m3 m4 m5 m6 m7 m8 m9 m10 d0 d1 f0 f1 ltc ltm ltd
        clear z0 z1 z2 z3 z4 z5 z6 n5 n6 lz
        obtain ⟨⟨c0, c1⟩, ⟨e0, e1⟩, ltc⟩ := M12.out.box2 2 rfl
        obtain ⟨⟨d0, d1⟩, ⟨f0, f1⟩, ltd⟩ := M12.out.box2 4 rfl
        go_wp2
        have MF := (M12.out.put 4 rfl 0 (.slice (some ⟨gb, goff, none⟩) n cp1)).put 4 rfl 1 (.slice (some ⟨g2, 0, none⟩) gn cp2)
        refine bodyPost_ret (Bx.res_ct Try.results38 rfl (reg_load (MF.blk 4 rfl))) rfl ?_
        rw [HX.out]
        exact StepTo.ok (r := ⟨r.hs, r.gs.set q ⟨pn, ⟨pr, pl, pc, pg⟩, px, (ib : Int)⟩⟩) (MF.take 2)
      · have h0b : (ad != 0) = true := by simp [h0]
        have h0c : (ad == 0) = false := by simp [h0]
        have HX : Is (move r ⟨k, nm, 1, (ib : Int), ⟨dr, dl, dc, dg⟩, ⟨cm, cc, up⟩⟩) (r, ad) := ⟨move_err (r := r) (o := ⟨k, nm, 1, (ib : Int), ⟨dr, dl, dc, dg⟩, ⟨cm, cc, up⟩⟩) HHAS.out HXP.out HMB.out (by simp only; rw [HQ.out, HERP.out, HAM.out]) h0⟩
        have HNE := Lib.hid h0
        clear h0 HAM
        go_wp2
        go_region_held3 (fun w' => w'.cell? ⟨w.heap.size, 0, none⟩ = some (.slice (some ⟨gb, goff, none⟩) n cp1) ∧ w'.cell? ⟨w.heap.size, 1, none⟩ = some (.slice (some ⟨g2, 0, none⟩) gn cp2) ∧ w'.cell? ⟨w.heap.size + 1, 3, none⟩ = some (.int .i64 (ib : Int)) ∧ w'.cell? ⟨g2, q * 7 + 1, none⟩ = some (.int .i64 pr) ∧ w'.cell? ⟨g2, q * 7 + 2, none⟩ = some (.int .i64 pl) ∧ w'.cell? ⟨g2, q * 7 + 3, none⟩ = some (.int .i64 pc) ∧ w'.cell? ⟨g2, q * 7 + 4, none⟩ = some (.int .i64 pg) ∧ w'.cell? ⟨gb, goff + ib * 3, none⟩ = some (.int .i64 hm) ∧ w'.cell? ⟨gb, goff + ib * 3 + 1, none⟩ = some (.int .i64 hc) ∧ w'.cell? ⟨gb, goff + ib * 3 + 2, none⟩ = some (.bool hup) ∧ Held w7 w')
          ((repeat' refine And.intro ?_ ?_) <;> first | exact c0 | exact c1 | exact m3 | exact z1 | exact z2 | exact z3 | exact z4 | exact p0 | exact p1 | exact p2 | exact (Held.refl _).drew | exact Held.cell (by assumption) c0 | exact Held.cell (by assumption) c1 | exact Held.cell (by assumption) m3 | exact Held.cell (by assumption) z1 | exact Held.cell (by assumption) z2 | exact Held.cell (by assumption) z3 | exact Held.cell (by assumption) z4 | exact Held.cell (by assumption) p0 | exact Held.cell (by assumption) p1 | exact Held.cell (by assumption) p2 | exact (by assumption))
          (first | (go_at_call 50; refine (on_any A5 L'.length cp5 L' ib _ (ps_of (HSO.out.held (Held.refl _).drew)) (by omega)).mono ?_; rintro e w8 ⟨v8, rfl, ho8, h8⟩; obtain ⟨A8, cp8, rfl, hcp8⟩ := own_slice ho8; obtain ⟨hds, _, _⟩ := ds_of_own ho8; have HDS := Lib.hid hds; have k8 : Held w7 w8 := (Held.refl _).drew.step h8; clear ho8 hds) | (go_at_call 70; refine (admit_any hm hc hup _ _ _ (on L' ib) pr pl pc pg _ HDS.out hol2).mono ?_; rintro e w9 ⟨rfl, h9⟩; rw [HAD.out]; have k9 : Held w7 w9 := k8.step h9))
        have M10 := Lib.hid (M7.out.keep k9)
        clear M7 p0 p1 p2
        clear c0 c1 e0 e1 m0 m1 m2 m3 m4 m5 m6 m7 m8 m9 m10 d0 d1 f0 f1 ltc ltm ltd
        clear z0 z1 z2 z3 z4 z5 z6 n5 n6 lz
        obtain ⟨⟨c0, c1⟩, ⟨e0, e1⟩, ltc⟩ := M10.out.box2 2 rfl
        obtain ⟨⟨m0, m1, m2, m3, m4, m5, m6, m7, m8, m9, m10⟩, _, ltm⟩ := M10.out.box11 3 rfl
        obtain ⟨⟨d0, d1⟩, ⟨f0, f1⟩, ltd⟩ := M10.out.box2 4 rfl
        obtain ⟨lz, hcz⟩ := M10.out.at_ 1 rfl plC_len (by decide) HX2.out
        have z0 := (hcz 0 (by decide)).2 _ rfl
        have z1 := (hcz 1 (by decide)).2 _ rfl
        have z2 := (hcz 2 (by decide)).2 _ rfl
        have z3 := (hcz 3 (by decide)).2 _ rfl
        have z4 := (hcz 4 (by decide)).2 _ rfl
        have z5 := (hcz 5 (by decide)).2 _ rfl
        have z6 := (hcz 6 (by decide)).2 _ rfl
        have n5 := (hcz 5 (by decide)).1
        have n6 := (hcz 6 (by decide)).1
        rw [Nat.add_zero] at z0
        clear hcz
        go_wp2
        have MF := (M10.out.put 4 rfl 0 (.slice (some ⟨gb, goff, none⟩) n cp1)).put 4 rfl 1 (.slice (some ⟨g2, 0, none⟩) gn cp2)
        refine bodyPost_ret (Bx.res_ct Try.results38 rfl (reg_load (MF.blk 4 rfl))) rfl ?_
        rw [HX.out]
        exact StepTo.err HNE.out MF.held
  have HX : Is (move r ⟨k, nm, a, b, ⟨dr, dl, dc, dg⟩, ⟨cm, cc, up⟩⟩) (r, 4200) := ⟨move_bad HHAS.out HXP.out (by unfold moveBad; simp only; simp [ha0, ha1])⟩
  have ha0b : (a != 0) = true := by simp [ha0]
  have ha1b : (a != 1) = true := by simp [ha1]
  have ha0c : (a == 0) = false := by simp [ha0]
  have ha1c : (a == 1) = false := by simp [ha1]
  clear ha0 ha1
  go_enter Try.func38, Try.ntmps38
  go_wp2_with fail
  rw [HEQ.out]
  refine HFI.out.mono ?_
  rintro e w3 ⟨rfl, h3⟩
  have M3 := Lib.hid (M.out.keep h3)
  clear M h3 HFI
  clear c0 c1 e0 e1 m0 m1 m2 m3 m4 m5 m6 m7 m8 m9 m10 d0 d1 f0 f1 ltc ltm ltd
  obtain ⟨⟨c0, c1⟩, ⟨e0, e1⟩, ltc⟩ := M3.out.box2 2 rfl
  obtain ⟨⟨m0, m1, m2, m3, m4, m5, m6, m7, m8, m9, m10⟩, _, ltm⟩ := M3.out.box11 3 rfl
  obtain ⟨⟨d0, d1⟩, ⟨f0, f1⟩, ltd⟩ := M3.out.box2 4 rfl
  have qc0 := cell_regrown c0
  have qc1 := cell_regrown c1
  have qm2 := cell_regrown m2
  have qm3 := cell_regrown m3
  go_wp2
  refine wp_region_quiet_below (by kernel_rfl) (by kernel_rfl) ?_
  repeat (go_big_quiet_step (fail))
  refine wpQuiet_nil ?_
  intro w4 hw'
  obtain ⟨⟨dq, osq⟩, hw''⟩ := hw'
  have h12 : Held w3 w4 := by rw [hw'']; exact below_regrown w3 dq osq
  clear hw'' qc0 qc1 qm2 qm3 
  have M4 := Lib.hid (M3.out.keep h12)
  clear M3 h12
  clear c0 c1 e0 e1 m0 m1 m2 m3 m4 m5 m6 m7 m8 m9 m10 d0 d1 f0 f1 ltc ltm ltd
  obtain ⟨⟨c0, c1⟩, ⟨e0, e1⟩, ltc⟩ := M4.out.box2 2 rfl
  obtain ⟨⟨m0, m1, m2, m3, m4, m5, m6, m7, m8, m9, m10⟩, _, ltm⟩ := M4.out.box11 3 rfl
  obtain ⟨⟨d0, d1⟩, ⟨f0, f1⟩, ltd⟩ := M4.out.box2 4 rfl
  go_wp2
  have MF := (M4.out.put 4 rfl 0 (.slice A1 n cp1)).put 4 rfl 1 (.slice (some ⟨g2, 0, none⟩) gn cp2)
  refine bodyPost_ret (Bx.res_ct Try.results38 rfl (reg_load (MF.blk 4 rfl))) rfl ?_
  rw [HX.out]
  exact StepTo.err (by decide) MF.held
end Jn
end Go.Proofs.Ytmmnanmegdflgaa
