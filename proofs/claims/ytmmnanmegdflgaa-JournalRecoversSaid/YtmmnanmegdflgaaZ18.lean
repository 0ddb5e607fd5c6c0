/-
  Contracts: Manage of the reference (chapter 42).
  Equality of capacities and of placed guests (chapter 42).
  Equality of operations (chapter 42).
  Plain law: what fits on a host, whatever the order (chapter 39).
  Plain laws, no program in sight: operations keep a registry valid (chapter 42).
  Plain laws, no program in sight: recovering from a journal (chapter 42).
-/
import Derived.Test.YtmmnanmegdflgaaZ17
import Derived.Test.YtmmnanmegdflgaaZ14
import Derived.Test.YtmmnanmegdflgaaZ1
import Derived.Test.YtmmnanmegdflgaaZ2
import Derived.Test.YtmmnanmegdflgaaZ6
set_option linter.unusedVariables false
set_option linter.unusedSimpArgs false
set_option maxRecDepth 100000
namespace Go.Proofs.Ytmmnanmegdflgaa
open Go.RowKit Go.BigFrame Go.Sort
namespace Jn
open Ad Adm Law39
/-- A slice of structs without slices in them stays when a cell that holds a slice is overwritten. -/
theorem Sl.putSlice {α : Type} {s : Nat} {f : α → List Value} {w : World} {A : Option Addr} {n : Nat} {L : List α} (h : Sl s f w A n L) (hf : ∀ (x : α) (i : Nat) (v : Value), (f x)[i]? = some v → ∀ a m k, v ≠ .slice a m k) {c j : Nat} {a : Option Addr} {m k : Nat} (hc : w.cell? ⟨c, j, none⟩ = some (.slice a m k)) (u : Value) : Sl s f (w.setCell ⟨c, j, none⟩ u) A n L := by
  refine ⟨h.1, h.2.imp id ?_⟩
  rintro ⟨b, off, e, hb, hx⟩
  refine ⟨b, off, e, by simpa [World.setCell] using hb, fun q hq i v hv => ?_⟩
  have h1 := hx q hq i v hv
  rw [World.cell?_setCell_other _ _ _ _ ?_]
  · exact h1
  · intro e2
    rw [e2, h1] at hc
    injection hc with hc
    exact hf _ _ _ hv _ _ _ hc
theorem capC_no (x : Cap) (i : Nat) (v : Value) (h : (capC x)[i]? = some v) : ∀ a m k, v ≠ .slice a m k := by
  intro a m k e
  subst e
  obtain ⟨h1, h2⟩ := List.getElem?_eq_some_iff.1 h
  have := List.getElem_mem h1
  rw [h2] at this
  simp [capC] at this
theorem plC_no (x : Pl) (i : Nat) (v : Value) (h : (plC x)[i]? = some v) : ∀ a m k, v ≠ .slice a m k := by
  intro a m k e
  subst e
  obtain ⟨h1, h2⟩ := List.getElem?_eq_some_iff.1 h
  have := List.getElem_mem h1
  rw [h2] at this
  simp [plC] at this
theorem RegR.putSlice {w : World} {HA GA : Option Addr} {hn gn : Nat} {r : Reg} (h : RegR w HA hn GA gn r) {c j : Nat} {a : Option Addr} {m k : Nat} (hc : w.cell? ⟨c, j, none⟩ = some (.slice a m k)) (u : Value) : RegR (w.setCell ⟨c, j, none⟩ u) HA hn GA gn r :=
  ⟨Sl.putSlice h.hs capC_no hc u, Sl.putSlice h.gs plC_no hc u⟩
set_option maxHeartbeats 4000000 in
theorem manage_ref_any (HA : Option Addr) (hn hc : Nat) (GA : Option Addr) (gn gc : Nat) (r : Reg) (k : Int) (nm : ByteArray) (a b dr dl dc dg cm cc : Int) (up : Bool) (w : World) (h : RegR w HA hn GA gn r) (hcp : Caps HA hn hc GA gn gc) (hhn : (hn : Int) ≤ 1000000) (hgn : (gn : Int) ≤ 1000000) (hnm : ∀ p ∈ r.gs, (p.nm.size : Int) ≤ 1000000000) (hnl : (nm.size : Int) ≤ 1000000000) :
    Calls Try.prog 14 #[.agg #[.slice HA hn hc, .slice GA gn gc], .agg #[.int .i64 k, .string nm, .int .i64 a, .int .i64 b, .int .i64 dr, .int .i64 dl, .int .i64 dc, .int .i64 dg, .int .i64 cm, .int .i64 cc, .bool up]] w (ApTo (apply r ⟨k, nm, a, b, ⟨dr, dl, dc, dg⟩, ⟨cm, cc, up⟩⟩) w) := by
  have HR := Lib.hid h
  obtain ⟨W2, hW2⟩ : ∃ W2, ((w.alloc (.cells #[.slice HA hn hc, .slice GA gn gc] 37)).alloc (.cells #[.int .i64 k, .string nm, .int .i64 a, .int .i64 b, .int .i64 dr, .int .i64 dl, .int .i64 dc, .int .i64 dg, .int .i64 cm, .int .i64 cc, .bool up] 27)).alloc (.cells #[.slice none 0 0, .slice none 0 0] 37) = W2 := ⟨_, rfl⟩
  have M : Hid (Mem w W2 [.box w.heap.size #[.slice HA hn hc, .slice GA gn gc] 37, .box (w.heap.size + 1) #[.int .i64 k, .string nm, .int .i64 a, .int .i64 b, .int .i64 dr, .int .i64 dl, .int .i64 dc, .int .i64 dg, .int .i64 cm, .int .i64 cc, .bool up] 27, .box (w.heap.size + 1 + 1) #[.slice none 0 0, .slice none 0 0] 37]) := by
    rw [← hW2]; exact (((Mem.start w).alloc' (b := w.heap.size) rfl _ _).alloc' (b := w.heap.size + 1) (by simp) _ _).alloc' (b := w.heap.size + 1 + 1) (by simp) _ _
  have HEQ := Lib.hid hW2
  have hval := valid_ref_any HA hn hc GA gn gc r.hs r.gs W2 (h.held M.out.held).hs (h.held M.out.held).gs hhn hgn hnm
  obtain ⟨v, hv⟩ : ∃ v, validR ⟨r.hs, r.gs⟩ = v := ⟨_, rfl⟩
  have HVR : Is (validR r) v := ⟨hv⟩
  rw [hv] at hval
  have HVAL := Lib.hid hval
  have HNL : Is r.hs.length hn := ⟨h.hs.1⟩
  have HGL : Is r.gs.length gn := ⟨h.gs.1⟩
  clear hW2 hval hv h
  obtain ⟨⟨c0, c1⟩, ⟨e0, e1⟩, ltc⟩ := M.out.box2 0 rfl
  obtain ⟨⟨m0, m1, m2, m3, m4, m5, m6, m7, m8, m9, m10⟩, _, ltm⟩ := M.out.box11 1 rfl
  obtain ⟨⟨d0, d1⟩, ⟨f0, f1⟩, ltd⟩ := M.out.box2 2 rfl
  cases v
  · have HAPP : Is (apply r ⟨k, nm, a, b, ⟨dr, dl, dc, dg⟩, ⟨cm, cc, up⟩⟩) (r, 4200) := ⟨apply_bad HVR.out⟩
    go_enter Try.func14, Try.ntmps14
    go_wp2_with fail
    rw [HEQ.out]
    refine HVAL.out.mono ?_
    rintro e w1 ⟨rfl, h1⟩
    have M1 := Lib.hid (M.out.keep h1)
    clear M h1 HVAL
    clear c0 c1 e0 e1 m0 m1 m2 m3 m4 m5 m6 m7 m8 m9 m10 d0 d1 f0 f1 ltc ltm ltd
    obtain ⟨⟨c0, c1⟩, ⟨e0, e1⟩, ltc⟩ := M1.out.box2 0 rfl
    obtain ⟨⟨m0, m1, m2, m3, m4, m5, m6, m7, m8, m9, m10⟩, _, ltm⟩ := M1.out.box11 1 rfl
    obtain ⟨⟨d0, d1⟩, ⟨f0, f1⟩, ltd⟩ := M1.out.box2 2 rfl
    go_wp2
    have MF := (M1.out.put 2 rfl 0 (.slice HA hn hc)).put 2 rfl 1 (.slice GA gn gc)
    refine bodyPost_ret (Bx.res_ct Try.results14 rfl (reg_load (MF.blk 2 rfl))) rfl ?_
    rw [HAPP.out]
    exact ⟨_, _, _, _, _, _, rfl, MF.held, HR.out.held MF.held, hcp⟩
  obtain ⟨hl6, hg8, hsrt⟩ := validR_parts HVR.out
  rw [HNL.out] at hl6
  rw [HGL.out] at hg8
  have HSRT := Lib.hid hsrt
  clear hsrt
  by_cases k4 : k = 4
  · subst k4
    obtain ⟨x, hxx⟩ : ∃ x, setHost r ⟨4, nm, a, b, ⟨dr, dl, dc, dg⟩, ⟨cm, cc, up⟩⟩ = x := ⟨_, rfl⟩
    have HAPP : Is (apply r ⟨4, nm, a, b, ⟨dr, dl, dc, dg⟩, ⟨cm, cc, up⟩⟩) x := ⟨by rw [apply_4 HVR.out rfl, hxx]⟩
    have HXX : Is (setHost r ⟨4, nm, a, b, ⟨dr, dl, dc, dg⟩, ⟨cm, cc, up⟩⟩) x := ⟨hxx⟩
    obtain ⟨r', er⟩ := x
    clear hxx
    go_enter Try.func14, Try.ntmps14
    go_wp2_with fail
    rw [HEQ.out]
    refine HVAL.out.mono ?_
    rintro e w1 ⟨rfl, h1⟩
    have M1 := Lib.hid (M.out.keep h1)
    clear M h1 HVAL
    clear c0 c1 e0 e1 m0 m1 m2 m3 m4 m5 m6 m7 m8 m9 m10 d0 d1 f0 f1 ltc ltm ltd
    obtain ⟨⟨c0, c1⟩, ⟨e0, e1⟩, ltc⟩ := M1.out.box2 0 rfl
    obtain ⟨⟨m0, m1, m2, m3, m4, m5, m6, m7, m8, m9, m10⟩, _, ltm⟩ := M1.out.box11 1 rfl
    obtain ⟨⟨d0, d1⟩, ⟨f0, f1⟩, ltd⟩ := M1.out.box2 2 rfl
    go_wp2_with fail
    refine (host_ref_any HA hn hc GA gn gc r 4 nm a b dr dl dc dg cm cc up _ (HR.out.held M1.out.held) hcp (by omega) hgn hnm).mono ?_
    rintro e w6 ⟨A6, n6, q6, B6, t6, u6, rfl, h6, ho, hc6⟩
    rw [HXX.out] at ho ⊢
    have M6 := Lib.hid (M1.out.keep h6)
    clear M1
    clear c0 c1 e0 e1 m0 m1 m2 m3 m4 m5 m6 m7 m8 m9 m10 d0 d1 f0 f1 ltc ltm ltd
    obtain ⟨⟨c0, c1⟩, ⟨e0, e1⟩, ltc⟩ := M6.out.box2 0 rfl
    obtain ⟨⟨m0, m1, m2, m3, m4, m5, m6, m7, m8, m9, m10⟩, _, ltm⟩ := M6.out.box11 1 rfl
    obtain ⟨⟨d0, d1⟩, ⟨f0, f1⟩, ltd⟩ := M6.out.box2 2 rfl
    go_wp2
    have MF := (M6.out.put 2 rfl 0 (.slice A6 n6 q6)).put 2 rfl 1 (.slice B6 t6 u6)
    refine bodyPost_ret (Bx.res_ct Try.results14 rfl (reg_load (MF.blk 2 rfl))) rfl ?_
    rw [HAPP.out]
    exact ⟨_, _, _, _, _, _, rfl, MF.held, (ho.putSlice d0 _).putSlice ((M6.out.put 2 rfl 0 (.slice A6 n6 q6)).box2 2 rfl).1.2 _, hc6⟩
  by_cases k1 : k = 1
  · subst k1
    obtain ⟨x, hxx⟩ : ∃ x, add r ⟨1, nm, a, b, ⟨dr, dl, dc, dg⟩, ⟨cm, cc, up⟩⟩ = x := ⟨_, rfl⟩
    have HAPP : Is (apply r ⟨1, nm, a, b, ⟨dr, dl, dc, dg⟩, ⟨cm, cc, up⟩⟩) x := ⟨by rw [apply_1 HVR.out rfl, hxx]⟩
    have HXX : Is (add r ⟨1, nm, a, b, ⟨dr, dl, dc, dg⟩, ⟨cm, cc, up⟩⟩) x := ⟨hxx⟩
    obtain ⟨r', er⟩ := x
    clear hxx
    go_enter Try.func14, Try.ntmps14
    go_wp2_with fail
    rw [HEQ.out]
    refine HVAL.out.mono ?_
    rintro e w1 ⟨rfl, h1⟩
    have M1 := Lib.hid (M.out.keep h1)
    clear M h1 HVAL
    clear c0 c1 e0 e1 m0 m1 m2 m3 m4 m5 m6 m7 m8 m9 m10 d0 d1 f0 f1 ltc ltm ltd
    obtain ⟨⟨c0, c1⟩, ⟨e0, e1⟩, ltc⟩ := M1.out.box2 0 rfl
    obtain ⟨⟨m0, m1, m2, m3, m4, m5, m6, m7, m8, m9, m10⟩, _, ltm⟩ := M1.out.box11 1 rfl
    obtain ⟨⟨d0, d1⟩, ⟨f0, f1⟩, ltd⟩ := M1.out.box2 2 rfl
    go_wp2_with fail
    refine (add_ref_any HA hn hc GA gn gc r 1 nm a b dr dl dc dg cm cc up _ (HR.out.held M1.out.held) hcp HSRT.out (by omega) (by omega) hnl).mono ?_
    rintro e w6 ⟨A6, n6, q6, B6, t6, u6, rfl, h6, ho, hc6⟩
    rw [HXX.out] at ho ⊢
    have M6 := Lib.hid (M1.out.keep h6)
    clear M1
    clear c0 c1 e0 e1 m0 m1 m2 m3 m4 m5 m6 m7 m8 m9 m10 d0 d1 f0 f1 ltc ltm ltd
    obtain ⟨⟨c0, c1⟩, ⟨e0, e1⟩, ltc⟩ := M6.out.box2 0 rfl
    obtain ⟨⟨m0, m1, m2, m3, m4, m5, m6, m7, m8, m9, m10⟩, _, ltm⟩ := M6.out.box11 1 rfl
    obtain ⟨⟨d0, d1⟩, ⟨f0, f1⟩, ltd⟩ := M6.out.box2 2 rfl
    go_wp2
    have MF := (M6.out.put 2 rfl 0 (.slice A6 n6 q6)).put 2 rfl 1 (.slice B6 t6 u6)
    refine bodyPost_ret (Bx.res_ct Try.results14 rfl (reg_load (MF.blk 2 rfl))) rfl ?_
    rw [HAPP.out]
    exact ⟨_, _, _, _, _, _, rfl, MF.held, (ho.putSlice d0 _).putSlice ((M6.out.put 2 rfl 0 (.slice A6 n6 q6)).box2 2 rfl).1.2 _, hc6⟩
  by_cases k3 : k = 3
  · subst k3
    obtain ⟨x, hxx⟩ : ∃ x, move r ⟨3, nm, a, b, ⟨dr, dl, dc, dg⟩, ⟨cm, cc, up⟩⟩ = x := ⟨_, rfl⟩
    have HAPP : Is (apply r ⟨3, nm, a, b, ⟨dr, dl, dc, dg⟩, ⟨cm, cc, up⟩⟩) x := ⟨by rw [apply_3 HVR.out rfl, hxx]⟩
    have HXX : Is (move r ⟨3, nm, a, b, ⟨dr, dl, dc, dg⟩, ⟨cm, cc, up⟩⟩) x := ⟨hxx⟩
    obtain ⟨r', er⟩ := x
    clear hxx
    go_enter Try.func14, Try.ntmps14
    go_wp2_with fail
    rw [HEQ.out]
    refine HVAL.out.mono ?_
    rintro e w1 ⟨rfl, h1⟩
    have M1 := Lib.hid (M.out.keep h1)
    clear M h1 HVAL
    clear c0 c1 e0 e1 m0 m1 m2 m3 m4 m5 m6 m7 m8 m9 m10 d0 d1 f0 f1 ltc ltm ltd
    obtain ⟨⟨c0, c1⟩, ⟨e0, e1⟩, ltc⟩ := M1.out.box2 0 rfl
    obtain ⟨⟨m0, m1, m2, m3, m4, m5, m6, m7, m8, m9, m10⟩, _, ltm⟩ := M1.out.box11 1 rfl
    obtain ⟨⟨d0, d1⟩, ⟨f0, f1⟩, ltd⟩ := M1.out.box2 2 rfl
    go_wp2_with fail
    refine (move_ref_any HA hn hc GA gn gc r 3 nm a b dr dl dc dg cm cc up _ (HR.out.held M1.out.held) hcp HSRT.out (by omega) (by omega)).mono ?_
    rintro e w6 ⟨A6, n6, q6, B6, t6, u6, rfl, h6, ho, hc6⟩
    rw [HXX.out] at ho ⊢
    have M6 := Lib.hid (M1.out.keep h6)
    clear M1
    clear c0 c1 e0 e1 m0 m1 m2 m3 m4 m5 m6 m7 m8 m9 m10 d0 d1 f0 f1 ltc ltm ltd
    obtain ⟨⟨c0, c1⟩, ⟨e0, e1⟩, ltc⟩ := M6.out.box2 0 rfl
    obtain ⟨⟨m0, m1, m2, m3, m4, m5, m6, m7, m8, m9, m10⟩, _, ltm⟩ := M6.out.box11 1 rfl
    obtain ⟨⟨d0, d1⟩, ⟨f0, f1⟩, ltd⟩ := M6.out.box2 2 rfl
    go_wp2
    have MF := (M6.out.put 2 rfl 0 (.slice A6 n6 q6)).put 2 rfl 1 (.slice B6 t6 u6)
    refine bodyPost_ret (Bx.res_ct Try.results14 rfl (reg_load (MF.blk 2 rfl))) rfl ?_
    rw [HAPP.out]
    exact ⟨_, _, _, _, _, _, rfl, MF.held, (ho.putSlice d0 _).putSlice ((M6.out.put 2 rfl 0 (.slice A6 n6 q6)).box2 2 rfl).1.2 _, hc6⟩
  by_cases k2 : k = 2
  · subst k2
    cases hh : hasG r.gs nm
    · have HAPP : Is (apply r ⟨2, nm, a, b, ⟨dr, dl, dc, dg⟩, ⟨cm, cc, up⟩⟩) (r, 4202) := ⟨by rw [apply_2 HVR.out rfl]; unfold remove; simp only; rw [if_neg (by rw [hh]; decide)]⟩
      go_enter Try.func14, Try.ntmps14
      go_wp2_with fail
      rw [HEQ.out]
      refine HVAL.out.mono ?_
      rintro e w1 ⟨rfl, h1⟩
      have M1 := Lib.hid (M.out.keep h1)
      clear M h1 HVAL
      clear c0 c1 e0 e1 m0 m1 m2 m3 m4 m5 m6 m7 m8 m9 m10 d0 d1 f0 f1 ltc ltm ltd
      obtain ⟨⟨c0, c1⟩, ⟨e0, e1⟩, ltc⟩ := M1.out.box2 0 rfl
      obtain ⟨⟨m0, m1, m2, m3, m4, m5, m6, m7, m8, m9, m10⟩, _, ltm⟩ := M1.out.box11 1 rfl
      obtain ⟨⟨d0, d1⟩, ⟨f0, f1⟩, ltd⟩ := M1.out.box2 2 rfl
      have hfind := find_ref_any HA hn hc GA gn gc r.gs nm w1 (HR.out.gs.held M1.out.held) HSRT.out (by omega)
      rw [findZ_no hh] at hfind
      have HFI := Lib.hid hfind
      clear hfind hh
      go_wp2_with fail
      refine HFI.out.mono ?_
      rintro e w3 ⟨rfl, h3⟩
      have M3 := Lib.hid (M1.out.keep h3)
      clear M1 h3 HFI
      clear c0 c1 e0 e1 m0 m1 m2 m3 m4 m5 m6 m7 m8 m9 m10 d0 d1 f0 f1 ltc ltm ltd
      obtain ⟨⟨c0, c1⟩, ⟨e0, e1⟩, ltc⟩ := M3.out.box2 0 rfl
      obtain ⟨⟨m0, m1, m2, m3, m4, m5, m6, m7, m8, m9, m10⟩, _, ltm⟩ := M3.out.box11 1 rfl
      obtain ⟨⟨d0, d1⟩, ⟨f0, f1⟩, ltd⟩ := M3.out.box2 2 rfl
      go_wp2
      have MF := (M3.out.put 2 rfl 0 (.slice HA hn hc)).put 2 rfl 1 (.slice GA gn gc)
      refine bodyPost_ret (Bx.res_ct Try.results14 rfl (reg_load (MF.blk 2 rfl))) rfl ?_
      rw [HAPP.out]
      exact ⟨_, _, _, _, _, _, rfl, MF.held, HR.out.held MF.held, hcp⟩
    · obtain ⟨q, hq⟩ : ∃ q, pos r.gs nm = q := ⟨_, rfl⟩
      obtain ⟨L', hL'⟩ : ∃ L', r.gs.eraseIdx q = L' := ⟨_, rfl⟩
      have HAPP : Is (apply r ⟨2, nm, a, b, ⟨dr, dl, dc, dg⟩, ⟨cm, cc, up⟩⟩) (⟨r.hs, L'⟩, 0) := ⟨by rw [apply_2 HVR.out rfl]; unfold remove; simp only; rw [if_pos hh, hq, hL']⟩
      have HERP : Is (r.gs.eraseIdx q) L' := ⟨hL'⟩
      go_enter Try.func14, Try.ntmps14
      go_wp2_with fail
      rw [HEQ.out]
      refine HVAL.out.mono ?_
      rintro e w1 ⟨rfl, h1⟩
      have M1 := Lib.hid (M.out.keep h1)
      clear M h1 HVAL
      clear c0 c1 e0 e1 m0 m1 m2 m3 m4 m5 m6 m7 m8 m9 m10 d0 d1 f0 f1 ltc ltm ltd
      obtain ⟨⟨c0, c1⟩, ⟨e0, e1⟩, ltc⟩ := M1.out.box2 0 rfl
      obtain ⟨⟨m0, m1, m2, m3, m4, m5, m6, m7, m8, m9, m10⟩, _, ltm⟩ := M1.out.box11 1 rfl
      obtain ⟨⟨d0, d1⟩, ⟨f0, f1⟩, ltd⟩ := M1.out.box2 2 rfl
      have hfind := find_ref_any HA hn hc GA gn gc r.gs nm w1 (HR.out.gs.held M1.out.held) HSRT.out (by omega)
      rw [findZ_yes hh, hq] at hfind
      have HFI := Lib.hid hfind
      clear hfind hh hq hL'
      go_wp2_with fail
      refine HFI.out.mono ?_
      rintro e w3 ⟨rfl, h3⟩
      have M3 := Lib.hid (M1.out.keep h3)
      clear M1 h3 HFI
      clear c0 c1 e0 e1 m0 m1 m2 m3 m4 m5 m6 m7 m8 m9 m10 d0 d1 f0 f1 ltc ltm ltd
      obtain ⟨⟨c0, c1⟩, ⟨e0, e1⟩, ltc⟩ := M3.out.box2 0 rfl
      obtain ⟨⟨m0, m1, m2, m3, m4, m5, m6, m7, m8, m9, m10⟩, _, ltm⟩ := M3.out.box11 1 rfl
      obtain ⟨⟨d0, d1⟩, ⟨f0, f1⟩, ltd⟩ := M3.out.box2 2 rfl
      have qp0 : ¬ (q : Int) < 0 := by omega
      go_wp2
      have y0 : w3.drew.cell? ⟨w.heap.size, 0, none⟩ = some (.slice HA hn hc) := c0
      have y1 : w3.drew.cell? ⟨w.heap.size, 1, none⟩ = some (.slice GA gn gc) := c1
      have yH : Held w w3.drew := M3.out.held.drew
      have HSG := Lib.hid (HR.out.gs.held M3.out.held.drew)
      go_region_held3 (fun w' => w'.cell? ⟨w.heap.size, 0, none⟩ = some (.slice HA hn hc) ∧ w'.cell? ⟨w.heap.size, 1, none⟩ = some (.slice GA gn gc) ∧ Held w w')
        ((repeat' refine And.intro ?_ ?_) <;> with_reducible assumption)
        ((go_at_call 43; refine (others_ref_any HA hn hc GA gn gc r.gs q w3.drew HSG.out (by omega)).mono ?_; rintro e w6 ⟨A6, n6, q6, rfl, ho6, h6⟩; rw [HERP.out] at ho6; have k6 : Held w3 w6 := (Held.refl w3).drew.step h6; have M6 := Lib.hid (M3.out.keep k6); obtain ⟨⟨d0', d1'⟩, ⟨f0', f1'⟩, ltd'⟩ := M6.out.box2 2 rfl; have MR := Lib.hid ((M3.out.drew).own h6 ho6); have x0 := Held.cell k6 c0; have x1 := Held.cell k6 c1; have xH : Held w w6 := M6.out.held; have MP := (M6.out.put 2 rfl 0 (.slice HA hn hc)).put 2 rfl 1 (.slice A6 n6 q6); have z0 : ((w6.setCell ⟨w.heap.size + 1 + 1, 0, none⟩ (.slice HA hn hc)).setCell ⟨w.heap.size + 1 + 1, 1, none⟩ (.slice A6 n6 q6)).cell? ⟨w.heap.size, 0, none⟩ = some (.slice HA hn hc) := MP.cell 0 rfl 0 rfl; have z1 : ((w6.setCell ⟨w.heap.size + 1 + 1, 0, none⟩ (.slice HA hn hc)).setCell ⟨w.heap.size + 1 + 1, 1, none⟩ (.slice A6 n6 q6)).cell? ⟨w.heap.size, 1, none⟩ = some (.slice GA gn gc) := MP.cell 0 rfl 1 rfl; have zH := MP.held; clear MP))
      go_wp2
      have MF := (MR.out.put 2 rfl 0 (.slice HA hn hc)).put 2 rfl 1 (.slice A6 n6 q6)
      refine bodyPost_ret (Bx.res_ct Try.results14 rfl (reg_load (MF.blk 2 rfl))) rfl ?_
      rw [HAPP.out]
      exact ⟨_, _, _, _, _, _, rfl, MF.held, ⟨HR.out.hs.held MF.held, (Own.reads plC_len (MF.row 3 rfl)).1⟩, Caps.guests hcp (MF.row 3 rfl)⟩
  have HAPP : Is (apply r ⟨k, nm, a, b, ⟨dr, dl, dc, dg⟩, ⟨cm, cc, up⟩⟩) (r, 4200) := ⟨apply_else HVR.out k4 k1 k2 k3⟩
  have q4 : (k == 4) = false := by simp; omega
  have q1 : (k == 1) = false := by simp; omega
  have q2 : (k == 2) = false := by simp; omega
  have q3 : (k == 3) = false := by simp; omega
  go_enter Try.func14, Try.ntmps14
  go_wp2_with fail
  rw [HEQ.out]
  refine HVAL.out.mono ?_
  rintro e w1 ⟨rfl, h1⟩
  have M1 := Lib.hid (M.out.keep h1)
  clear M h1 HVAL
  clear c0 c1 e0 e1 m0 m1 m2 m3 m4 m5 m6 m7 m8 m9 m10 d0 d1 f0 f1 ltc ltm ltd
  obtain ⟨⟨c0, c1⟩, ⟨e0, e1⟩, ltc⟩ := M1.out.box2 0 rfl
  obtain ⟨⟨m0, m1, m2, m3, m4, m5, m6, m7, m8, m9, m10⟩, _, ltm⟩ := M1.out.box11 1 rfl
  obtain ⟨⟨d0, d1⟩, ⟨f0, f1⟩, ltd⟩ := M1.out.box2 2 rfl
  go_wp2
  have MF := (M1.out.put 2 rfl 0 (.slice HA hn hc)).put 2 rfl 1 (.slice GA gn gc)
  refine bodyPost_ret (Bx.res_ct Try.results14 rfl (reg_load (MF.blk 2 rfl))) rfl ?_
  rw [HAPP.out]
  exact ⟨_, _, _, _, _, _, rfl, MF.held, HR.out.held MF.held, hcp⟩
end Jn
end Go.Proofs.Ytmmnanmegdflgaa

set_option linter.unusedVariables false
set_option linter.unusedSimpArgs false
set_option maxRecDepth 100000
namespace Go.Proofs.Ytmmnanmegdflgaa
open Go.RowKit Go.BigFrame Go.Sort
namespace Jn
open Ad Adm Law39
theorem run_equalIn_cap (d : Nat) (x y : Cap) (w : World) : (Op.equalIn (d + 2) 25 (.agg #[.int .i64 x.m, .int .i64 x.c, .bool x.up]) (.agg #[.int .i64 y.m, .int .i64 y.c, .bool y.up])).run Try.prog w = .ok (@decide (x = y) (Classical.propDecidable _)) w := by
  have hs : Program.stoodInHeld Try.prog 25 = false := by kernel_rfl
  unfold Op.equalIn
  obtain ⟨a, b, c⟩ := x
  obtain ⟨a', b', c'⟩ := y
  simp [run_underlying Try.underlying25, hs, go_sem]
  by_cases h1 : a = a' <;> by_cases h2 : b = b' <;> by_cases h3 : c = c' <;> simp [h1, h2, h3]
theorem run_equalIn_two (d : Nat) (a b c e : Int) (w : World) : (Op.equalIn (d + 2) 73 (.agg #[.int .i64 a, .int .i64 b]) (.agg #[.int .i64 c, .int .i64 e])).run Try.prog w = .ok (decide (a = c) && decide (b = e)) w := by
  have hs : Program.stoodInHeld Try.prog 73 = false := by kernel_rfl
  unfold Op.equalIn
  simp [run_underlying Try.underlying73, run_underlying Try.underlying3, List.range', isAgg, hs, go_sem]
  by_cases h1 : a = c <;> by_cases h2 : b = e <;> simp [h1, h2]
theorem ba_ext {a b : ByteArray} (h : a.data.toList = b.data.toList) : a = b := by
  cases a; cases b; simp only at h; congr 1; exact Array.toList_inj.1 h
theorem toList_inj {a b : ByteArray} : a.toList = b.toList ↔ a = b := by
  constructor
  · intro h
    rw [ByteArray.toList_eq, ByteArray.toList_eq] at h
    exact ba_ext h
  · rintro rfl; rfl
theorem pl_ext {x y : Pl} : x = y ↔ x.nm.toList = y.nm.toList ∧ x.d.r = y.d.r ∧ x.d.l = y.d.l ∧ x.d.c = y.d.c ∧ x.d.g = y.d.g ∧ x.a = y.a ∧ x.b = y.b := by
  obtain ⟨n, ⟨r, l, c, g⟩, a, b⟩ := x
  obtain ⟨n', ⟨r', l', c', g'⟩, a', b'⟩ := y
  simp [toList_inj, and_assoc]
theorem run_equalIn_pl (d : Nat) (x y : Pl) (w : World) : (Op.equalIn (d + 4) 75 (.agg #[.string x.nm, .int .i64 x.d.r, .int .i64 x.d.l, .int .i64 x.d.c, .int .i64 x.d.g, .int .i64 x.a, .int .i64 x.b]) (.agg #[.string y.nm, .int .i64 y.d.r, .int .i64 y.d.l, .int .i64 y.d.c, .int .i64 y.d.g, .int .i64 y.a, .int .i64 y.b])).run Try.prog w = .ok (@decide (x = y) (Classical.propDecidable _)) w := by
  have hs : Program.stoodInHeld Try.prog 75 = false := by kernel_rfl
  have hs2 : Program.stoodInHeld Try.prog 23 = false := by kernel_rfl
  unfold Op.equalIn
  simp [run_underlying Try.underlying75, hs, go_sem, run_equalIn_two (d + 1), pl_ext]
  by_cases h1 : x.nm.toList = y.nm.toList <;> by_cases h2 : x.d.r = y.d.r <;> by_cases h3 : x.d.l = y.d.l <;> by_cases h4 : x.d.c = y.d.c <;> by_cases h5 : x.d.g = y.d.g <;> by_cases h6 : x.a = y.a <;> by_cases h7 : x.b = y.b <;> simp [h1, h2, h3, h4, h5, h6, h7]
theorem run_eql_cap {x y : Cap} {q : Bool} (h : q = true ↔ x = y) (w : World) : (binOp .eql 25 (.agg #[.int .i64 x.m, .int .i64 x.c, .bool x.up]) (.agg #[.int .i64 y.m, .int .i64 y.c, .bool y.up])).run Try.prog w = .ok (.bool (q)) w := by
  simp only [binOp]
  have hq : @decide (x = y) (Classical.propDecidable _) = q := by
    rw [Bool.eq_iff_iff, h]; simp
  simp [Op.equal, Op.maxDepth, run_equalIn_cap 9998, hq]
theorem run_neq_cap {x y : Cap} {q : Bool} (h : q = true ↔ x = y) (w : World) : (binOp .neq 25 (.agg #[.int .i64 x.m, .int .i64 x.c, .bool x.up]) (.agg #[.int .i64 y.m, .int .i64 y.c, .bool y.up])).run Try.prog w = .ok (.bool (!q)) w := by
  simp only [binOp]
  have hq : @decide (x = y) (Classical.propDecidable _) = q := by
    rw [Bool.eq_iff_iff, h]; simp
  simp [Op.equal, Op.maxDepth, run_equalIn_cap 9998, hq]
theorem run_eql_pl {x y : Pl} {q : Bool} (h : q = true ↔ x = y) (w : World) : (binOp .eql 75 (.agg #[.string x.nm, .int .i64 x.d.r, .int .i64 x.d.l, .int .i64 x.d.c, .int .i64 x.d.g, .int .i64 x.a, .int .i64 x.b]) (.agg #[.string y.nm, .int .i64 y.d.r, .int .i64 y.d.l, .int .i64 y.d.c, .int .i64 y.d.g, .int .i64 y.a, .int .i64 y.b])).run Try.prog w = .ok (.bool (q)) w := by
  simp only [binOp]
  have hq : @decide (x = y) (Classical.propDecidable _) = q := by
    rw [Bool.eq_iff_iff, h]; simp
  simp [Op.equal, Op.maxDepth, run_equalIn_pl 9996, hq]
theorem run_neq_pl {x y : Pl} {q : Bool} (h : q = true ↔ x = y) (w : World) : (binOp .neq 75 (.agg #[.string x.nm, .int .i64 x.d.r, .int .i64 x.d.l, .int .i64 x.d.c, .int .i64 x.d.g, .int .i64 x.a, .int .i64 x.b]) (.agg #[.string y.nm, .int .i64 y.d.r, .int .i64 y.d.l, .int .i64 y.d.c, .int .i64 y.d.g, .int .i64 y.a, .int .i64 y.b])).run Try.prog w = .ok (.bool (!q)) w := by
  simp only [binOp]
  have hq : @decide (x = y) (Classical.propDecidable _) = q := by
    rw [Bool.eq_iff_iff, h]; simp
  simp [Op.equal, Op.maxDepth, run_equalIn_pl 9996, hq]
end Jn
end Go.Proofs.Ytmmnanmegdflgaa

set_option linter.unusedVariables false
set_option linter.unusedSimpArgs false
set_option maxRecDepth 100000
namespace Go.Proofs.Ytmmnanmegdflgaa
open Go.RowKit Go.BigFrame Go.Sort
namespace Jn
open Ad Adm Law39
theorem man_iff {x y : Man} : x = y ↔ x.k = y.k ∧ x.nm.toList = y.nm.toList ∧ x.a = y.a ∧ x.b = y.b ∧ x.d.r = y.d.r ∧ x.d.l = y.d.l ∧ x.d.c = y.d.c ∧ x.d.g = y.d.g ∧ x.c.m = y.c.m ∧ x.c.c = y.c.c ∧ x.c.up = y.c.up := by
  obtain ⟨k, n, a, b, ⟨r, l, c, g⟩, ⟨m, q, u⟩⟩ := x
  obtain ⟨k', n', a', b', ⟨r', l', c', g'⟩, ⟨m', q', u'⟩⟩ := y
  simp [toList_inj, and_assoc]
theorem run_equalIn_man (d : Nat) (x y : Man) (w : World) : (Op.equalIn (d + 4) 27 (.agg (manC x)) (.agg (manC y))).run Try.prog w = .ok (@decide (x = y) (Classical.propDecidable _)) w := by
  have hs : Program.stoodInHeld Try.prog 27 = false := by kernel_rfl
  have hs2 : Program.stoodInHeld Try.prog 23 = false := by kernel_rfl
  have hs3 : Program.stoodInHeld Try.prog 25 = false := by kernel_rfl
  unfold Op.equalIn
  simp [manC, run_underlying Try.underlying27, hs, go_sem, man_iff]
  by_cases h0 : x.k = y.k <;> by_cases h1 : x.nm.toList = y.nm.toList <;> by_cases h2 : x.a = y.a <;> by_cases h3 : x.b = y.b <;> simp [h0, h1, h2, h3]
  by_cases h4 : x.d.r = y.d.r <;> by_cases h5 : x.d.l = y.d.l <;> by_cases h6 : x.d.c = y.d.c <;> by_cases h7 : x.d.g = y.d.g <;> simp [h4, h5, h6, h7]
  by_cases h8 : x.c.m = y.c.m <;> by_cases h9 : x.c.c = y.c.c <;> by_cases h10 : x.c.up = y.c.up <;> simp [h8, h9, h10]
theorem run_eql_man {x y : Man} {q : Bool} (h : q = true ↔ x = y) (w : World) : (binOp .eql 27 (.agg (manC x)) (.agg (manC y))).run Try.prog w = .ok (.bool q) w := by
  simp only [binOp]
  have hq : @decide (x = y) (Classical.propDecidable _) = q := by
    rw [Bool.eq_iff_iff, h]; simp
  simp [Op.equal, Op.maxDepth, run_equalIn_man 9996, hq]
theorem run_neq_man {x y : Man} {q : Bool} (h : q = true ↔ x = y) (w : World) : (binOp .neq 27 (.agg (manC x)) (.agg (manC y))).run Try.prog w = .ok (.bool (!q)) w := by
  simp only [binOp]
  have hq : @decide (x = y) (Classical.propDecidable _) = q := by
    rw [Bool.eq_iff_iff, h]; simp
  simp [Op.equal, Op.maxDepth, run_equalIn_man 9996, hq]
theorem neq_man_same (x : Man) (w : World) : (binOp .neq 27 (.agg (manC x)) (.agg (manC x))).run Try.prog w = .ok (.bool false) w := run_neq_man (q := true) ⟨fun _ => rfl, fun _ => rfl⟩ w
theorem eql_man_same (x : Man) (w : World) : (binOp .eql 27 (.agg (manC x)) (.agg (manC x))).run Try.prog w = .ok (.bool true) w := run_eql_man (q := true) ⟨fun _ => rfl, fun _ => rfl⟩ w
theorem eql_cap_same (x : Cap) (w : World) : (binOp .eql 25 (.agg #[.int .i64 x.m, .int .i64 x.c, .bool x.up]) (.agg #[.int .i64 x.m, .int .i64 x.c, .bool x.up])).run Try.prog w = .ok (.bool true) w := run_eql_cap (q := true) ⟨fun _ => rfl, fun _ => rfl⟩ w
end Jn
end Go.Proofs.Ytmmnanmegdflgaa

namespace Go.Proofs.Ytmmnanmegdflgaa.Ad
set_option linter.unusedVariables false
/-- x (the later one) may stand beside y. -/
def sep (x y : Dem) : Bool := decide (x.g = 0) || decide (x.g ≠ y.g)
def apI (L : List Dem) (x : Dem) (k : Nat) : Bool := (L.take k).all fun y => sep x y
def apTo (L : List Dem) : Nat → Bool
  | 0 => true
  | i + 1 => apTo L i && (match L[i]? with | some x => apI L x i | none => true)
theorem sep_comm (x y : Dem) : sep x y = sep y x := by
  unfold sep
  by_cases h : x.g = y.g
  · rw [h]
  · simp [h, Ne.symm h]
theorem clash_sep (L : List Dem) (x : Dem) : (decide (x.g ≠ 0) && clash L x.g) = !(L.all fun y => sep x y) := by
  unfold clash
  induction L with
  | nil => simp
  | cons y L ih =>
    rw [List.any_cons, List.all_cons, Bool.not_and, ← ih]
    unfold sep
    by_cases h0 : x.g = 0
    · simp [h0]
    · by_cases h1 : y.g = x.g
      · simp [h0, h1]
      · simp [h0, h1, Ne.symm h1]
theorem apTo_pair (L : List Dem) : ∀ i, i ≤ L.length → (apTo L i = true ↔ (L.take i).Pairwise fun y x => sep x y = true)
  | 0, _ => by simp [apTo]
  | i + 1, h => by
    have hi : i < L.length := by omega
    rw [apTo, List.getElem?_eq_getElem hi, take_snoc L i hi, List.pairwise_append, Bool.and_eq_true, apTo_pair L i (by omega)]
    simp [apI]
theorem apTo_perm {L M : List Dem} (h : L.Perm M) : apTo L L.length = apTo M M.length := by
  rw [Bool.eq_iff_iff, apTo_pair _ _ (Nat.le_refl _), apTo_pair _ _ (Nat.le_refl _), List.take_length, List.take_length]
  exact List.Perm.pairwise_iff (fun {x y} hxy => by rw [sep_comm]; exact hxy) h
theorem sum_perm {L M : List Int} (h : L.Perm M) : L.sum = M.sum := by
  induction h with
  | nil => rfl
  | cons x _ ih => rw [List.sum_cons, List.sum_cons, ih]
  | swap x y L => simp only [List.sum_cons]; omega
  | trans _ _ h1 h2 => rw [h1, h2]
theorem sumR_perm {L M : List Dem} (h : L.Perm M) : sumR L = sumR M := by unfold sumR; exact sum_perm (h.map _)
theorem sumC_perm {L M : List Dem} (h : L.Perm M) : sumC L = sumC M := by unfold sumC; exact sum_perm (h.map _)
theorem valid_take {m c : Int} {L : List Dem} (hm : 0 ≤ m ∧ m ≤ 1000000) (hc : 0 ≤ c ∧ c ≤ 1000000) (hl : L.length ≤ 16) (hv : L.all vd = true) (k : Nat) : valid m c (L.take k) = true := by
  unfold valid vh
  rw [all_take hv, (units_iff m).2 hm, (units_iff c).2 hc]
  have : (L.take k).length ≤ 16 := by rw [List.length_take]; omega
  rw [decide_eq_true this]; rfl
theorem admit_iff {m c : Int} {up : Bool} {L : List Dem} {d : Dem} (hv : valid m c L = true) (hd : vd d = true) :
    decide (admit m c up L d = 0) = (up && (decide (sumR L + d.r ≤ m) && (decide (sumC L + d.c ≤ c) && L.all fun y => sep d y))) := by
  have hcl := clash_sep L d
  unfold admit freeM freeC
  rw [hv, hd]
  cases up
  · simp
  · by_cases h1 : m - sumR L < d.r
    · have : ¬ sumR L + d.r ≤ m := by omega
      simp [h1, this]
    · by_cases h2 : c - sumC L < d.c
      · have : ¬ sumC L + d.c ≤ c := by omega
        simp [h1, h2, this]
      · have g1 : sumR L + d.r ≤ m := by omega
        have g2 : sumC L + d.c ≤ c := by omega
        cases ha : (L.all fun y => sep d y)
        · rw [ha] at hcl
          simp only [Bool.not_false, Bool.and_eq_true, decide_eq_true_eq] at hcl
          simp [h1, h2, hcl]
        · rw [ha] at hcl
          have hn : ¬ (d.g ≠ 0 ∧ clash L d.g = true) := by
            intro hh
            rw [hh.2, decide_eq_true hh.1] at hcl
            cases hcl
          simp [h1, h2, hn, g1, g2]
theorem fitsTo_iff {m c : Int} {up : Bool} {L : List Dem} (hm : 0 ≤ m ∧ m ≤ 1000000) (hc : 0 ≤ c ∧ c ≤ 1000000) (hl : L.length ≤ 16) (hv : L.all vd = true) :
    ∀ k, k ≤ L.length → 0 < k → fitsTo m c up L k = (up && (decide (sumR (L.take k) ≤ m) && (decide (sumC (L.take k) ≤ c) && apTo L k)))
  | 0, _, h => by omega
  | k + 1, h, _ => by
    have hk : k < L.length := by omega
    have hvd : vd L[k] = true := by rw [List.all_eq_true] at hv; exact hv _ (List.getElem_mem hk)
    have hb := vd_bd hvd
    have he : apTo L (k + 1) = (apTo L k && (L.take k).all fun y => sep L[k] y) := by rw [apTo, List.getElem?_eq_getElem hk]; rfl
    rw [fits_step hk, admit_iff (valid_take hm hc hl hv k) hvd, he, take_snoc L k hk, sumR_snoc, sumC_snoc]
    by_cases h0 : k = 0
    · subst h0
      simp [fitsTo, apTo]
    · rw [fitsTo_iff hm hc hl hv k (by omega) (by omega)]
      cases up
      · simp
      · by_cases g1 : sumR (L.take k) + L[k].r ≤ m
        · by_cases g2 : sumC (L.take k) + L[k].c ≤ c
          · have g3 : sumR (L.take k) ≤ m := by omega
            have g4 : sumC (L.take k) ≤ c := by omega
            simp [g1, g2, g3, g4]
          · simp [g2]
        · simp [g1]
theorem fits_iff {m c : Int} {up : Bool} {L : List Dem} (hm : 0 ≤ m ∧ m ≤ 1000000) (hc : 0 ≤ c ∧ c ≤ 1000000) (hl : L.length ≤ 16) (hv : L.all vd = true) (h0 : 0 < L.length) :
    fits m c up L = (up && (decide (sumR L ≤ m) && (decide (sumC L ≤ c) && apTo L L.length))) := by
  unfold fits
  rw [fitsTo_iff hm hc hl hv _ (Nat.le_refl _) h0, List.take_length]
theorem fits_perm {m c : Int} {up : Bool} {L M : List Dem} (hm : 0 ≤ m ∧ m ≤ 1000000) (hc : 0 ≤ c ∧ c ≤ 1000000) (hl : L.length ≤ 16) (hv : L.all vd = true) (h0 : 0 < L.length) (hp : L.Perm M) :
    fits m c up M = fits m c up L := by
  rw [fits_iff hm hc hl hv h0, fits_iff hm hc (by rw [← hp.length_eq]; exact hl) (by rw [List.all_eq_true] at *; exact fun x hx => hv x (hp.mem_iff.2 hx)) (by rw [← hp.length_eq]; exact h0), sumR_perm hp, sumC_perm hp, apTo_perm hp]
theorem turn_perm (L : List Dem) (k : Nat) : L.Perm (L.drop k ++ L.take k) :=
  ((List.perm_append_comm : (L.drop k ++ L.take k).Perm (L.take k ++ L.drop k)).trans (by rw [List.take_append_drop])).symm
end Go.Proofs.Ytmmnanmegdflgaa.Ad

namespace Go.Proofs.Ytmmnanmegdflgaa.Jn
set_option linter.unusedVariables false
open Ad
/-- Is a registry valid, part by part. -/
structure VR (r : Reg) : Prop where
  hl : r.hs.length ≤ 6
  gl : r.gs.length ≤ 8
  srt : Srt r.gs
  okg : ∀ p ∈ r.gs, okG r.hs.length p = true
  okh : ∀ c ∈ r.hs, vh c.m c.c = true
  fit : ∀ (i : Nat) c, r.hs[i]? = some c → c.up = true → fits c.m c.c true (on r.gs (i : Int)) = true
theorem vr_of {r : Reg} (h : validR r = true) : VR r := by
  unfold validR at h
  rw [Bool.and_eq_true, Bool.and_eq_true, okHs_two, Bool.and_eq_true] at h
  obtain ⟨h1, h2, h3, h4⟩ := h
  unfold few at h1
  rw [Bool.and_eq_true, decide_eq_true_eq, decide_eq_true_eq] at h1
  refine ⟨h1.1, h1.2, srt_of h2, fun p hp => ?_, fun c hc => ?_, fun i c hi hu => ?_⟩
  · obtain ⟨k, hk, rfl⟩ := List.mem_iff_getElem.1 hp
    have := (allN_iff _ _).1 h2 k hk
    unfold gAt at this
    rw [List.getElem?_eq_getElem hk, Bool.and_eq_true] at this
    exact this.1
  · obtain ⟨k, hk, rfl⟩ := List.mem_iff_getElem.1 hc
    have := (allN_iff _ _).1 h3 k hk
    unfold vAt at this
    rw [List.getElem?_eq_getElem hk] at this
    exact this
  · have := (allN_iff _ _).1 h4 i (List.getElem?_eq_some_iff.1 hi).1
    unfold fAt at this
    rw [hi] at this
    simp only [hu, Bool.not_true, Bool.false_or] at this
    exact this
theorem VR.valid {r : Reg} (h : VR r) : validR r = true := by
  unfold validR
  rw [Bool.and_eq_true, Bool.and_eq_true, okHs_two, Bool.and_eq_true]
  refine ⟨by unfold few; rw [Bool.and_eq_true, decide_eq_true_eq, decide_eq_true_eq]; exact ⟨h.hl, h.gl⟩, (allN_iff _ _).2 fun k hk => ?_, (allN_iff _ _).2 fun k hk => ?_, (allN_iff _ _).2 fun k hk => ?_⟩
  · unfold gAt
    rw [List.getElem?_eq_getElem hk, Bool.and_eq_true]
    refine ⟨h.okg _ (List.getElem_mem hk), ?_⟩
    unfold srtAt
    cases k with
    | zero => rfl
    | succ k =>
      rw [Nat.add_sub_cancel, List.getElem?_eq_getElem (show k < r.gs.length by omega), List.getElem?_eq_getElem hk]
      exact List.pairwise_iff_getElem.1 h.srt k (k + 1) (by omega) hk (by omega)
  · unfold vAt
    rw [List.getElem?_eq_getElem hk]
    exact h.okh _ (List.getElem_mem hk)
  · unfold fAt
    rw [List.getElem?_eq_getElem hk]
    simp only
    cases hu : r.hs[k].up
    · rfl
    · exact h.fit k _ (List.getElem?_eq_getElem hk) hu
theorem vr_iff {r : Reg} : validR r = true ↔ VR r := ⟨vr_of, VR.valid⟩
/-- Valid demands, few enough. -/
structure Ds8 (L : List Dem) : Prop where
  len : L.length ≤ 16
  ok : L.all vd = true
theorem vh_bd {m c : Int} (h : vh m c = true) : (0 ≤ m ∧ m ≤ 1000000) ∧ (0 ≤ c ∧ c ≤ 1000000) := by
  unfold vh at h
  rw [Bool.and_eq_true, units_iff, units_iff] at h
  exact h
theorem okG_parts {n : Nat} {p : Pl} (h : okG n p = true) : named p.nm = true ∧ vd p.d = true ∧ there n p.a = true ∧ there n p.b = true ∧ p.a ≠ p.b := by
  unfold okG at h
  simp only [Bool.and_eq_true, decide_eq_true_eq] at h
  exact h
theorem there_iff {n h : Int} : there n h = true ↔ 0 ≤ h ∧ h < n := by unfold there; simp
theorem onOne_mem {p : Pl} {h : Int} {d : Dem} (hd : d ∈ onOne p h) : d = p.d := by
  unfold onOne at hd
  rw [List.mem_append] at hd
  rcases hd with hd | hd <;> (split at hd <;> simp at hd; try exact hd)
theorem on_len1 {L : List Pl} {h : Int} (hL : ∀ p ∈ L, p.a ≠ p.b) : (on L h).length ≤ L.length := by
  unfold on
  induction L with
  | nil => simp
  | cons p L ih =>
    rw [List.flatMap_cons, List.length_append, List.length_cons]
    have h1 := ih (fun q hq => hL q (by simp [hq]))
    have h2 := hL p (by simp)
    have : (onOne p h).length ≤ 1 := by
      unfold onOne
      by_cases e1 : p.a = h
      · rw [if_pos e1, if_neg (by omega)]; simp
      · rw [if_neg e1]; split <;> simp
    omega
theorem on_ok {L : List Pl} {h : Int} (hL : ∀ p ∈ L, vd p.d = true) : (on L h).all vd = true := by
  rw [List.all_eq_true]
  intro d hd
  unfold on at hd
  rw [List.mem_flatMap] at hd
  obtain ⟨p, hp, hd⟩ := hd
  rw [onOne_mem hd]
  exact hL p hp
theorem ds8 {L : List Pl} {h : Int} (hl : L.length ≤ 8) (hv : ∀ p ∈ L, vd p.d = true) : Ds8 (on L h) := ⟨by have := on_len L h; omega, on_ok hv⟩
/-- What fits: in plain words. -/
def FitP (m c : Int) (L : List Dem) : Prop := sumR L ≤ m ∧ sumC L ≤ c ∧ L.Pairwise fun y x => sep x y = true
theorem fits_char {m c : Int} {L : List Dem} (hv : vh m c = true) (hL : Ds8 L) : fits m c true L = true ↔ FitP m c L := by
  obtain ⟨hm, hc⟩ := vh_bd hv
  unfold FitP
  cases L with
  | nil => simp [fits, fitsTo, sumR, sumC]; exact ⟨hm.1, hc.1⟩
  | cons d L =>
    rw [fits_iff hm hc hL.len hL.ok (by simp), Bool.true_and, Bool.and_eq_true, Bool.and_eq_true, decide_eq_true_eq, decide_eq_true_eq, apTo_pair _ _ (Nat.le_refl _), List.take_length]
theorem FitP.perm {m c : Int} {L M : List Dem} (h : FitP m c L) (hp : L.Perm M) : FitP m c M := by
  obtain ⟨h1, h2, h3⟩ := h
  exact ⟨by rw [← sumR_perm hp]; exact h1, by rw [← sumC_perm hp]; exact h2, (List.Perm.pairwise_iff (fun {x y} hxy => by rw [sep_comm]; exact hxy) hp).1 h3⟩
theorem sum_sub {f : Dem → Int} {L M : List Dem} (hs : M.Sublist L) (hf : ∀ d ∈ L, 0 ≤ f d) : (M.map f).sum ≤ (L.map f).sum := by
  induction hs with
  | slnil => simp
  | cons a h ih => rw [List.map_cons, List.sum_cons]; have := ih (fun d hd => hf d (by simp [hd])); have := hf a (by simp); omega
  | cons_cons a h ih => rw [List.map_cons, List.sum_cons, List.map_cons, List.sum_cons]; have := ih (fun d hd => hf d (by simp [hd])); omega
theorem FitP.sub {m c : Int} {L M : List Dem} (h : FitP m c L) (hs : M.Sublist L) (hv : L.all vd = true) : FitP m c M := by
  obtain ⟨h1, h2, h3⟩ := h
  rw [List.all_eq_true] at hv
  have a1 := sum_sub (f := Dem.r) hs (fun d hd => (vd_bd (hv d hd)).1)
  have a2 := sum_sub (f := Dem.c) hs (fun d hd => (vd_bd (hv d hd)).2.2.1)
  unfold sumR at h1
  unfold sumC at h2
  exact ⟨by unfold sumR; omega, by unfold sumC; omega, h3.sublist hs⟩
/-- One more that was let in. -/
theorem FitP.admit {m c : Int} {up : Bool} {L : List Dem} {d : Dem} (hv : vh m c = true) (hL : Ds8 L) (hd : vd d = true) (h : up = true → FitP m c L) (ha : admit m c up L d = 0) : up = true ∧ FitP m c (L ++ [d]) := by
  have hvl : valid m c L = true := by unfold valid; rw [hv, hL.ok, decide_eq_true hL.len]; rfl
  have h1 := admit_iff (up := up) hvl hd
  rw [decide_eq_true ha] at h1
  have h1 := h1.symm
  simp only [Bool.and_eq_true, decide_eq_true_eq, List.all_eq_true] at h1
  obtain ⟨hu, h2, h3, h4⟩ := h1
  refine ⟨hu, by rw [sumR_snoc]; exact h2, by rw [sumC_snoc]; exact h3, ?_⟩
  rw [List.pairwise_append]
  refine ⟨(h hu).2.2, by simp, fun x hx y hy => ?_⟩
  simp at hy; subst hy
  exact h4 x hx
theorem admit_of {m c : Int} {L : List Dem} {d : Dem} (hv : vh m c = true) (hL : Ds8 L) (hd : vd d = true) (h : FitP m c (L ++ [d])) : admit m c true L d = 0 := by
  have hvl : valid m c L = true := by unfold valid; rw [hv, hL.ok, decide_eq_true hL.len]; rfl
  have h1 := admit_iff (up := true) hvl hd
  obtain ⟨h2, h3, h4⟩ := h
  rw [sumR_snoc] at h2
  rw [sumC_snoc] at h3
  rw [List.pairwise_append] at h4
  rw [decide_eq_true h2, decide_eq_true h3, show (L.all fun y => sep d y) = true by rw [List.all_eq_true]; exact fun x hx => h4.2.2 x hx d (by simp)] at h1
  exact of_decide_eq_true h1
theorem admAt_ok {H : List Cap} {L : List Pl} {h : Int} {d : Dem} {c : Cap} (hc : H[h.toNat]? = some c) : admAt H L h d = Ad.admit c.m c.c c.up (on L h) d := by unfold admAt; rw [hc]
/-- The demands on a host when one guest is put in, taken out, changed. -/
theorem on_app (L M : List Pl) (h : Int) : on (L ++ M) h = on L h ++ on M h := by unfold on; rw [List.flatMap_append]
theorem on_one (p : Pl) (h : Int) : on [p] h = onOne p h := by unfold on; simp
theorem on_ins (L : List Pl) (p : Pl) (h : Int) (k : Nat) : (on L h ++ onOne p h).Perm (on (L.take k ++ p :: L.drop k) h) := by
  have e : L.take k ++ p :: L.drop k = L.take k ++ ([p] ++ L.drop k) := rfl
  rw [e, on_app, on_app, on_one]
  have e2 : on L h = on (L.take k) h ++ on (L.drop k) h := by rw [← on_app, List.take_append_drop]
  rw [e2, List.append_assoc]
  exact (List.perm_append_left_iff _).2 List.perm_append_comm
theorem on_sub {L M : List Pl} (hs : M.Sublist L) (h : Int) : (on M h).Sublist (on L h) := by
  unfold on
  induction hs with
  | slnil => simp
  | cons a _ ih => rw [List.flatMap_cons]; exact ih.trans (List.sublist_append_right _ _)
  | cons_cons a _ ih => rw [List.flatMap_cons, List.flatMap_cons]; exact (List.Sublist.refl _).append ih
theorem set_as {α : Type} (L : List α) (k : Nat) (x : α) (hk : k < L.length) : L.set k x = (L.eraseIdx k).take k ++ x :: (L.eraseIdx k).drop k := by
  rw [List.set_eq_take_append_cons_drop, if_pos hk, List.eraseIdx_eq_take_drop_succ]
  have : (L.take k).length = k := by rw [List.length_take]; omega
  congr 1
  · rw [List.take_append_of_le_length (by omega), List.take_take, Nat.min_self]
  · congr 1
    rw [List.drop_append, List.drop_of_length_le (l := L.take k) (by omega), this, Nat.sub_self, List.drop_zero, List.nil_append]
theorem on_set (L : List Pl) (k : Nat) (p : Pl) (h : Int) (hk : k < L.length) : (on (L.eraseIdx k) h ++ onOne p h).Perm (on (L.set k p) h) := by
  rw [set_as L k p hk]
  exact on_ins (L.eraseIdx k) p h k
theorem onOne_two {p : Pl} {h : Int} (hp : p.a ≠ p.b) : onOne p h = if p.a = h ∨ p.b = h then [p.d] else [] := by
  unfold onOne
  by_cases e1 : p.a = h
  · rw [if_pos e1, if_neg (by omega), if_pos (.inl e1)]; rfl
  · by_cases e2 : p.b = h
    · rw [if_neg e1, if_pos e2, if_pos (.inr e2)]; rfl
    · rw [if_neg e1, if_neg e2, if_neg (by omega)]; rfl
theorem srt_ins {L : List Pl} (hs : Srt L) {p : Pl} (hn : hasG L p.nm = false) : Srt (insG L p) := by
  unfold insG Srt
  rw [List.pairwise_append, List.pairwise_cons]
  refine ⟨hs.sublist (List.take_sublist _ _), ⟨fun q hq => ?_, hs.sublist (List.drop_sublist _ _)⟩, fun q hq x hx => ?_⟩
  · obtain ⟨i, hi, rfl⟩ := List.mem_iff_getElem.1 hq
    rw [List.length_drop] at hi
    rw [List.getElem_drop]
    rcases lt_tri p.nm L[pos L p.nm + i].nm with h | h | h
    · exact h
    · have := has_no hs hn (pos L p.nm + i) (by omega)
      rw [(same_iff _ _).2 h.symm] at this; cases this
    · have := pos_above hs (nm := p.nm) (k := pos L p.nm + i) (by omega) (by omega)
      rw [h] at this; cases this
  · obtain ⟨i, hi, rfl⟩ := List.mem_iff_getElem.1 hq
    rw [List.length_take] at hi
    have h1 : lt L[i].nm p.nm = true := pos_below (by omega) (by omega)
    rw [List.getElem_take]
    rcases List.mem_cons.1 hx with rfl | hx
    · exact h1
    · obtain ⟨j, hj, rfl⟩ := List.mem_iff_getElem.1 hx
      rw [List.length_drop] at hj
      rw [List.getElem_drop]
      exact List.pairwise_iff_getElem.1 hs i (pos L p.nm + j) (by omega) (by omega) (by omega)
theorem srt_set {L : List Pl} (hs : Srt L) {k : Nat} {p q : Pl} (hk : L[k]? = some p) (hn : q.nm = p.nm) : Srt (L.set k q) := by
  obtain ⟨hlt, hp⟩ := List.getElem?_eq_some_iff.1 hk
  unfold Srt
  rw [List.pairwise_iff_getElem]
  intro i j hi hj hij
  rw [List.length_set] at hi hj
  rw [List.getElem_set, List.getElem_set]
  have := List.pairwise_iff_getElem.1 hs i j hi hj hij
  split
  · subst_vars
    rw [if_neg (by omega), hn]
    exact this
  · split
    · subst_vars
      rw [hn]
      exact this
    · exact this
theorem named_same {p q : Pl} (h : q.nm = p.nm) : named q.nm = named p.nm := by rw [h]
theorem hs_at {r : Reg} {h : Int} (ht : there r.hs.length h = true) : ∃ c, r.hs[h.toNat]? = some c ∧ ((h.toNat : Nat) : Int) = h := by
  obtain ⟨h1, h2⟩ := there_iff.1 ht
  exact ⟨_, List.getElem?_eq_getElem (by omega), by omega⟩
theorem okh_at {r : Reg} (h : VR r) {i : Nat} {c : Cap} (hi : r.hs[i]? = some c) : vh c.m c.c = true := h.okh c (List.mem_of_getElem? hi)
theorem VR.ds {r : Reg} (h : VR r) (i : Int) : Ds8 (on r.gs i) := ds8 h.gl fun p hp => (okG_parts (h.okg p hp)).2.1
theorem VR.fitp {r : Reg} (h : VR r) {i : Nat} {c : Cap} (hi : r.hs[i]? = some c) (hu : c.up = true) : FitP c.m c.c (on r.gs (i : Int)) :=
  (fits_char (okh_at h hi) (h.ds i)).1 (h.fit i c hi hu)
theorem vr_add {r : Reg} {o : Man} (h : VR r) : VR (add r o).1 := by
  unfold add
  split
  · exact h
  rename_i hb
  split
  · exact h
  rename_i hh
  split
  · exact h
  rename_i hl
  split
  · exact h
  rename_i ha
  split
  · exact h
  rename_i hb2
  have hb : addBad r o = false := by simpa using hb
  have hh : hasG r.gs o.nm = false := by simpa using hh
  unfold addBad at hb
  simp only [Bool.not_eq_false', Bool.and_eq_true, decide_eq_true_eq] at hb
  obtain ⟨n1, n2, n3, n4, n5⟩ := hb
  have ha : admAt r.hs r.gs o.a o.d = 0 := by omega
  have hb2 : admAt r.hs r.gs o.b o.d = 0 := by omega
  have hlen : (insG r.gs ⟨o.nm, o.d, o.a, o.b⟩).length = r.gs.length + 1 := by
    have := pos_le r.gs o.nm
    unfold insG; simp only [List.length_append, List.length_take, List.length_cons, List.length_drop]; omega
  have hokg : ∀ p ∈ insG r.gs ⟨o.nm, o.d, o.a, o.b⟩, okG r.hs.length p = true := by
    intro p hp
    unfold insG at hp
    rcases List.mem_append.1 hp with hp | hp
    · exact h.okg p (List.mem_of_mem_take hp)
    · rcases List.mem_cons.1 hp with rfl | hp
      · unfold okG; simp [n1, n2, n3, n4, n5]
      · exact h.okg p (List.mem_of_mem_drop hp)
  refine ⟨h.hl, by simp only [hlen]; omega, srt_ins h.srt hh, hokg, h.okh, fun i c hi hu => ?_⟩
  simp only at hi ⊢
  refine (fits_char (okh_at h hi) (ds8 (by rw [hlen]; omega) fun p hp => (okG_parts (hokg p hp)).2.1)).2 ?_
  refine FitP.perm ?_ (on_ins r.gs ⟨o.nm, o.d, o.a, o.b⟩ i (pos r.gs o.nm))
  have hf := h.fitp hi hu
  rw [onOne_two (by exact n5)]
  by_cases e : o.a = i ∨ o.b = i
  · rw [if_pos e]
    rcases e with e | e
    · rw [admAt_ok (c := c) (by rw [e]; simpa using hi), e] at ha
      exact (FitP.admit (okh_at h hi) (h.ds i) n2 (fun _ => hf) ha).2
    · rw [admAt_ok (c := c) (by rw [e]; simpa using hi), e] at hb2
      exact (FitP.admit (okh_at h hi) (h.ds i) n2 (fun _ => hf) hb2).2
  · rw [if_neg e, List.append_nil]; exact hf
theorem vr_remove {r : Reg} {o : Man} (h : VR r) : VR (remove r o).1 := by
  unfold remove
  split
  · have hs : (r.gs.eraseIdx (pos r.gs o.nm)).Sublist r.gs := List.eraseIdx_sublist _ _
    refine ⟨h.hl, Nat.le_trans hs.length_le h.gl, h.srt.sublist hs, fun p hp => h.okg p (hs.subset hp), h.okh, fun i c hi hu => ?_⟩
    have hd : Ds8 (on (r.gs.eraseIdx (pos r.gs o.nm)) i) := ds8 (Nat.le_trans hs.length_le h.gl) fun p hp => (okG_parts (h.okg p (hs.subset hp))).2.1
    exact (fits_char (okh_at h hi) hd).2 ((h.fitp hi hu).sub (on_sub hs i) (h.ds i).ok)
  · exact h
theorem turn_nm (p : Pl) (a b : Int) : (turn p a b).nm = p.nm := by unfold turn; split <;> rfl
theorem turn_d (p : Pl) (a b : Int) : (turn p a b).d = p.d := by unfold turn; split <;> rfl
theorem vr_move {r : Reg} {o : Man} (h : VR r) : VR (move r o).1 := by
  unfold move
  split
  · rename_i hh
    obtain ⟨p, hp, hnm, hlt⟩ := has_at hh
    rw [hp]
    simp only
    split
    · exact h
    rename_i hb
    split
    · exact h
    rename_i ha
    have hb : moveBad r o p = false := by simpa using hb
    unfold moveBad at hb
    simp only [Bool.not_eq_false', Bool.and_eq_true, Bool.or_eq_true, decide_eq_true_eq] at hb
    obtain ⟨n1, n2, n3⟩ := hb
    have ha : admAt r.hs (r.gs.eraseIdx (pos r.gs o.nm)) o.b p.d = 0 := by omega
    generalize pos r.gs o.nm = k at *
    have hsub : (r.gs.eraseIdx k).Sublist r.gs := List.eraseIdx_sublist _ _
    obtain ⟨g1, g2, g3, g4, g5⟩ := okG_parts (h.okg p (List.mem_of_getElem? hp))
    obtain ⟨c0, hc0, hc0i⟩ := hs_at n2
    have ht : there r.hs.length (turn p o.a o.b).a = true ∧ there r.hs.length (turn p o.a o.b).b = true ∧ (turn p o.a o.b).a ≠ (turn p o.a o.b).b := by
      unfold turn side at *
      rcases n1 with n1 | n1
      · rw [n1] at n3 ⊢; simp at n3 ⊢; exact ⟨n2, g4, fun e => n3 e.symm⟩
      · rw [n1] at n3 ⊢; simp at n3 ⊢; exact ⟨g3, n2, n3⟩
    have hokg : ∀ q ∈ r.gs.set k (turn p o.a o.b), okG r.hs.length q = true := by
      intro q hq
      rcases List.mem_or_eq_of_mem_set hq with hq | rfl
      · exact h.okg q hq
      · unfold okG
        rw [turn_nm, turn_d, g1, g2, ht.1, ht.2.1, decide_eq_true ht.2.2]; rfl
    refine ⟨h.hl, by simp only [List.length_set]; exact h.gl, srt_set h.srt hp (turn_nm _ _ _), hokg, h.okh, fun i c hi hu => ?_⟩
    simp only at hi ⊢
    refine (fits_char (okh_at h hi) (ds8 (by rw [List.length_set]; exact h.gl) fun q hq => (okG_parts (hokg q hq)).2.1)).2 ?_
    refine FitP.perm ?_ (on_set r.gs k (turn p o.a o.b) i hlt)
    have hf := h.fitp hi hu
    have hde : Ds8 (on (r.gs.eraseIdx k) i) := ds8 (Nat.le_trans hsub.length_le h.gl) fun q hq => (okG_parts (h.okg q (hsub.subset hq))).2.1
    by_cases e : o.b = i
    · rw [admAt_ok (c := c) (by rw [e]; simpa using hi), e] at ha
      have h2 := (FitP.admit (okh_at h hi) hde g2 (fun _ => hf.sub (on_sub hsub i) (h.ds i).ok) ha).2
      rw [onOne_two ht.2.2, turn_d]
      split
      · exact h2
      · rw [List.append_nil]; exact hf.sub (on_sub hsub i) (h.ds i).ok
    · have h3 : (onOne (turn p o.a o.b) i).Sublist (onOne p i) := by
        rw [onOne_two ht.2.2, onOne_two g5, turn_d]
        by_cases e2 : (turn p o.a o.b).a = i ∨ (turn p o.a o.b).b = i
        · rw [if_pos e2, if_pos]
          · exact List.Sublist.refl _
          · unfold turn at e2
            split at e2
            · simp only at e2; omega
            · simp only at e2; omega
        · rw [if_neg e2]; exact List.nil_sublist _
      have h4 : (on (r.gs.eraseIdx k) i ++ onOne p i).Perm (on r.gs i) := by
        have := on_set r.gs k p i hlt
        rwa [show r.gs.set k p = r.gs by
          obtain ⟨_, e⟩ := List.getElem?_eq_some_iff.1 hp
          rw [← e]; exact List.set_getElem_self _] at this
      have h5 := hf.perm h4.symm
      refine h5.sub ((List.Sublist.refl _).append h3) ?_
      rw [List.all_eq_true]
      intro d hd
      exact (List.all_eq_true.1 (h.ds i).ok) d (h4.mem_iff.1 hd)
  · exact h
theorem vr_setHost {r : Reg} {o : Man} (h : VR r) : VR (setHost r o).1 := by
  unfold setHost
  split
  · exact h
  · split
    · exact h
    · split
      · rename_i hv; exact vr_of hv
      · exact h
/-- Operations keep a registry valid. -/
theorem vr_apply {r : Reg} (o : Man) (h : VR r) : VR (apply r o).1 := by
  unfold apply
  split
  · split
    · exact vr_setHost h
    · split
      · exact vr_add h
      · split
        · exact vr_remove h
        · split
          · exact vr_move h
          · exact h
  · exact h
theorem vr_zero : VR ⟨[], []⟩ := ⟨by simp, by simp, List.Pairwise.nil, by simp, by simp, by simp⟩
/-- The registry after operations. -/
def run (r : Reg) (L : List Man) : Reg := L.foldl (fun r o => (apply r o).1) r
def recov (L : List Man) : Reg := run ⟨[], []⟩ L
theorem run_snoc (r : Reg) (L : List Man) (o : Man) : run r (L ++ [o]) = (apply (run r L) o).1 := by unfold run; rw [List.foldl_append]; rfl
theorem run_app (r : Reg) (L M : List Man) : run r (L ++ M) = run (run r L) M := by unfold run; rw [List.foldl_append]
theorem vr_run (L : List Man) : ∀ {r : Reg}, VR r → VR (run r L) := by
  induction L with
  | nil => exact fun h => h
  | cons o L ih => exact fun h => ih (vr_apply o h)
theorem vr_recov (L : List Man) : VR (recov L) := vr_run L vr_zero
theorem VR.nms {r : Reg} (h : VR r) : ∀ p ∈ r.gs, p.nm.size ≤ 12 := by
  intro p hp
  have := (okG_parts (h.okg p hp)).1
  unfold named at this
  simp only [Bool.and_eq_true, decide_eq_true_eq] at this
  exact this.2
end Go.Proofs.Ytmmnanmegdflgaa.Jn

namespace Go.Proofs.Ytmmnanmegdflgaa.Jn
set_option linter.unusedVariables false
open Ad Lg
theorem enc_nm (o : Man) : o.nm.data.toList.length ≤ (enc o).length := by
  unfold enc encH; simp only [List.length_append]; omega
theorem rec_nm (n : Nat) (o : Man) : o.nm.data.toList.length ≤ (record n o).length := by
  have := enc_nm o
  unfold record sealed packed; simp only [List.length_append]; omega
theorem recs_nm : ∀ (L : List Man) (n : Nat), ∀ o ∈ L, o.nm.data.toList.length ≤ (recs n L).length := by
  intro L
  induction L with
  | nil => intro n o h; simp at h
  | cons x L ih =>
    intro n o h
    simp only [recs, List.length_append]
    rcases List.mem_cons.1 h with rfl | h
    · have := rec_nm n o; omega
    · have := ih (n + 1) o h; omega
theorem parse_nm (l : List UInt8) : ∀ o ∈ (parse l).1, o.nm.size ≤ l.length := by
  intro o ho
  have h1 := recs_nm _ 0 o ho
  have h2 := used_eq l
  have h3 := used_le l
  have h4 : o.nm.data.toList.length = o.nm.size := by simp
  omega
theorem run_take {r : Reg} {L : List Man} {k : Nat} {o : Man} (h : L[k]? = some o) : run r (L.take (k + 1)) = (apply (run r (L.take k)) o).1 := by
  obtain ⟨hk, rfl⟩ := List.getElem?_eq_some_iff.1 h
  rw [List.take_succ_eq_append_getElem hk, run_snoc]
theorem run_ok {r : Reg} {L : List Man} {k : Nat} {o : Man} {r' : Reg} (h : L[k]? = some o) (h2 : apply (run r (L.take k)) o = (r', 0)) : run r (L.take (k + 1)) = r' := by rw [run_take h, h2]
theorem run_err {r : Reg} {L : List Man} {k : Nat} {o : Man} {r' : Reg} {e : Int} (h : L[k]? = some o) (h2 : apply (run r (L.take k)) o = (r', e)) (he : ¬ e = 0) : run r (L.take (k + 1)) = run r (L.take k) := by
  rw [run_take h]
  exact apply_err (by rw [h2]; exact he)
end Go.Proofs.Ytmmnanmegdflgaa.Jn
