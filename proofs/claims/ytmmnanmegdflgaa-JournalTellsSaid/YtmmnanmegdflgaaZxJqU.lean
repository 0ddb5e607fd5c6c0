/-
  Contracts: the law JournalTells (chapter 42).
-/
import Derived.Test.YtmmnanmegdflgaaZxJqT
set_option linter.unusedVariables false
set_option linter.unusedSimpArgs false
set_option maxRecDepth 100000
namespace Go.Proofs.Ytmmnanmegdflgaa
open Go.RowKit Go.BigFrame Go.Sort Go.Lib
namespace Jn
open Ad Adm Law39 Lg Lgc Strs
theorem sameR_self (r : Reg) : sameR r r = true := sameR_yes rfl
set_option maxHeartbeats 8000000 in
theorem tells_any (HA : Option Addr) (hn hc : Nat) (GA : Option Addr) (gn gc : Nat) (r : Reg) (HA2 : Option Addr) (hn2 hc2 : Nat) (GA2 : Option Addr) (gn2 gc2 : Nat) (q : Reg) (o : Man) (s : ByteArray) (ws : s.size ≤ maxLen) (w : World)
    (hr : InR w HA hn hc GA gn gc r) (hq : InR w HA2 hn2 hc2 GA2 gn2 gc2 q) (ho : Ok o ∧ o.nm.size ≤ maxLen) :
    Calls Try.prog 7 #[.agg #[.slice HA hn hc, .slice GA gn gc], .agg #[.slice HA2 hn2 hc2, .slice GA2 gn2 gc2], .agg #[.int .i64 o.k, .string o.nm, .int .i64 o.a, .int .i64 o.b, .int .i64 o.d.r, .int .i64 o.d.l, .int .i64 o.d.c, .int .i64 o.d.g, .int .i64 o.c.m, .int .i64 o.c.c, .bool o.c.up], .string s] w fun e w' => e = .returned (.bool true) ∧ Held w w' := by
  have hnl : (o.nm.size : Int) ≤ 9223372036854775807 := by have := ho.2; unfold maxLen at this; omega
  clear ho
  obtain ⟨k, nm, a, b, ⟨dr, dl, dc, dg⟩, ⟨cm, cc, up⟩⟩ := o
  dsimp only at hnl ⊢
  unfold maxLen at ws
  have HAW := Lib.hid awake_any
  have HR := Lib.hid hr
  have HQ := Lib.hid hq
  have HL1 := Lib.hid fun (w' : World) (h : Held w w') => light_any HA hn hc GA gn gc r w' (hr.held h)
  have HL2 := Lib.hid fun (w' : World) (h : Held w w') => light_any HA2 hn2 hc2 GA2 gn2 gc2 q w' (hq.held h)
  have M0 := Lib.hid ((((Mem.start w).alloc' (b := w.heap.size) rfl #[.slice HA hn hc, .slice GA gn gc] 37).alloc' (b := w.heap.size + 1) (by simp) #[.slice HA2 hn2 hc2, .slice GA2 gn2 gc2] 37).alloc' (b := w.heap.size + 1 + 1) (by simp) #[.int .i64 k, .string nm, .int .i64 a, .int .i64 b, .int .i64 dr, .int .i64 dl, .int .i64 dc, .int .i64 dg, .int .i64 cm, .int .i64 cc, .bool up] 27)
  clear hr hq
  cases hl1 : lightB r
  · rw [hl1] at HL1
    clear hl1
    go_enter Try.func7, Try.ntmps7
    go_wp2_with fail
    refine (HL1.out _ M0.out.held).mono ?_
    rintro e w1 ⟨rfl, h1⟩
    go_wp2_with fail
    refine (HAW.out _).mono ?_
    rintro e w2 ⟨rfl, h2⟩
    go_wp2
    go_ret
    exact ⟨rfl, (M0.out.held.step h1).step h2⟩
  obtain ⟨l1, l2, l3⟩ := light_yes hl1
  rw [hl1] at HL1
  cases hl2 : lightB q
  · rw [hl2] at HL2
    clear hl1 hl2 l1 l2 l3
    go_enter Try.func7, Try.ntmps7
    go_wp2_with fail
    refine (HL1.out _ M0.out.held).mono ?_
    rintro e w1 ⟨rfl, h1⟩
    have M1 := Lib.hid (M0.out.keep h1)
    obtain ⟨⟨b0, b1⟩, ⟨bf0, bf1⟩, blt⟩ := M1.out.box2 1 rfl
    go_wp2_with fail
    refine (HL2.out _ M1.out.held).mono ?_
    rintro e w2 ⟨rfl, h2⟩
    go_wp2_with fail
    refine (HAW.out _).mono ?_
    rintro e w3 ⟨rfl, h3⟩
    go_wp2
    go_ret
    exact ⟨rfl, (M1.out.held.step h2).step h3⟩
  obtain ⟨q1, q2, q3⟩ := light_yes hl2
  rw [hl2] at HL2
  have hhn : (hn : Int) ≤ 20 := by have := HR.out.reg.hs.1; omega
  have hgn : (gn : Int) ≤ 20 := by have := HR.out.reg.gs.1; omega
  have hhn2 : (hn2 : Int) ≤ 20 := by have := HQ.out.reg.hs.1; omega
  have hgn2 : (gn2 : Int) ≤ 20 := by have := HQ.out.reg.gs.1; omega
  have HNM : Hid (∀ p ∈ r.gs, (p.nm.size : Int) ≤ 1000000000) := Lib.hid fun p hp => by have := l3 p hp; omega
  clear hl1 hl2 l1 l2 l3 q1 q2 q3
  by_cases hn3 : (300 : Int) < nm.size
  · go_enter Try.func7, Try.ntmps7
    go_wp2_with fail
    refine (HL1.out _ M0.out.held).mono ?_
    rintro e w1 ⟨rfl, h1⟩
    have M1 := Lib.hid (M0.out.keep h1)
    obtain ⟨⟨b0, b1⟩, ⟨bf0, bf1⟩, blt⟩ := M1.out.box2 1 rfl
    go_wp2_with fail
    refine (HL2.out _ M1.out.held).mono ?_
    rintro e w2 ⟨rfl, h2⟩
    have M2 := Lib.hid (M1.out.keep h2)
    obtain ⟨⟨m0, m1, m2, m3, m4, m5, m6, m7, m8, m9, m10⟩, _, mlt⟩ := M2.out.box11 2 rfl
    go_wp2_with fail
    refine (HAW.out _).mono ?_
    rintro e w3 ⟨rfl, h3⟩
    go_wp2
    go_ret
    exact ⟨rfl, M2.out.held.step h3⟩
  by_cases hs3 : (1000 : Int) < s.size
  · go_enter Try.func7, Try.ntmps7
    go_wp2_with fail
    refine (HL1.out _ M0.out.held).mono ?_
    rintro e w1 ⟨rfl, h1⟩
    have M1 := Lib.hid (M0.out.keep h1)
    obtain ⟨⟨b0, b1⟩, ⟨bf0, bf1⟩, blt⟩ := M1.out.box2 1 rfl
    go_wp2_with fail
    refine (HL2.out _ M1.out.held).mono ?_
    rintro e w2 ⟨rfl, h2⟩
    have M2 := Lib.hid (M1.out.keep h2)
    obtain ⟨⟨m0, m1, m2, m3, m4, m5, m6, m7, m8, m9, m10⟩, _, mlt⟩ := M2.out.box11 2 rfl
    go_wp2_with fail
    refine (HAW.out _).mono ?_
    rintro e w3 ⟨rfl, h3⟩
    go_wp2
    go_ret
    exact ⟨rfl, M2.out.held.step h3⟩
  have AP := Lib.hid fun (w' : World) (h : Held w w') => apply_any HA hn hc GA gn gc r k nm a b dr dl dc dg cm cc up w' (HR.out.reg.held h) (by omega) (by omega) HNM.out (by omega)
  have MG := Lib.hid fun (w' : World) (h : Held w w') => manage_ref_any HA hn hc GA gn gc r k nm a b dr dl dc dg cm cc up w' (HR.out.reg.held h) HR.out.caps (by omega) (by omega) HNM.out (by omega)
  obtain ⟨ra, ea, hap⟩ : ∃ ra ea, apply r ⟨k, nm, a, b, ⟨dr, dl, dc, dg⟩, ⟨cm, cc, up⟩⟩ = (ra, ea) := ⟨_, _, rfl⟩
  have hab : ra.hs.length ≤ 1000000 ∧ ra.gs.length ≤ 1000000 := by
    by_cases hv : validR r = true
    · have := vr_apply ⟨k, nm, a, b, ⟨dr, dl, dc, dg⟩, ⟨cm, cc, up⟩⟩ (vr_of hv)
      rw [hap] at this
      have h1 := this.hl
      have h2 := this.gl
      simp only at h1 h2
      omega
    · have h3 := apply_bad (o := ⟨k, nm, a, b, ⟨dr, dl, dc, dg⟩, ⟨cm, cc, up⟩⟩) (by simpa using hv : validR r = false)
      rw [hap] at h3
      injection h3 with h3 _
      rw [h3]
      have := HR.out.reg.hs.1
      have := HR.out.reg.gs.1
      omega
  rw [hap] at AP MG
  have DE := Lib.hid fun w' => decode_any s (by omega) w'
  have DR := Lib.hid fun w' => decode_ref_any s (by omega) w'
  have AE := Lib.hid fun w' => append_any s (by omega) k nm a b dr dl dc dg cm cc up (by omega) w'
  have AR := Lib.hid fun w' => append_ref_any s (by omega) k nm a b dr dl dc dg cm cc up (by omega) w'
  have PE := Lib.hid fun w' => parse_any s (by omega) w'
  have PR := Lib.hid fun w' => parse_ref_any s (by omega) w'
  have RE := Lib.hid fun w' => recover_any s (by omega) w'
  have RR := Lib.hid fun w' => recover_ref_any s (by omega) w'
  have CE := Lib.hid fun (w' : World) (h : Held w w') => checkpoint_any HA hn hc GA gn gc r w' (HR.out.reg.held h) (by omega) (by omega) HNM.out HR.out.grp
  have CR := Lib.hid fun (w' : World) (h : Held w w') => checkpoint_ref_any HA hn hc GA gn gc r w' (HR.out.reg.held h) (by omega) (by omega) HNM.out HR.out.grp
  unfold DecTo at DE DR
  unfold AppTo at AE AR
  unfold ParseTo at PE PR
  unfold RecTo at RE RR
  unfold ChkTo at CE CR
  have HVO := Lib.hid (vr_recov (parse s.data.toList).1)
  have hpl := parse_len s.data.toList 0
  rw [nm_len] at hpl
  obtain ⟨y, hy⟩ : ∃ y, dec s.data.toList = y := ⟨_, rfl⟩
  obtain ⟨is, his⟩ : ∃ is, decOk s.data.toList = is := ⟨_, rfl⟩
  obtain ⟨x, hx⟩ : ∃ x : ByteArray, (⟨(appd s.data.toList ⟨k, nm, a, b, ⟨dr, dl, dc, dg⟩, ⟨cm, cc, up⟩⟩).toArray⟩ : ByteArray) = x := ⟨_, rfl⟩
  obtain ⟨gd, hgd⟩ : ∃ gd, appOk s.data.toList ⟨k, nm, a, b, ⟨dr, dl, dc, dg⟩, ⟨cm, cc, up⟩⟩ = gd := ⟨_, rfl⟩
  obtain ⟨n, hn'⟩ : ∃ n, used s.data.toList = n := ⟨_, rfl⟩
  obtain ⟨L, hL⟩ : ∃ L, (parse s.data.toList).1 = L := ⟨_, rfl⟩
  obtain ⟨t, ht⟩ : ∃ t : ByteArray, (⟨(s.data.toList.take n).toArray⟩ : ByteArray) = t := ⟨_, rfl⟩
  obtain ⟨g, hg⟩ : ∃ g : ByteArray, (⟨(chk r).toArray⟩ : ByteArray) = g := ⟨_, rfl⟩
  obtain ⟨md, hmd⟩ : ∃ md, chkOk r = md := ⟨_, rfl⟩
  have hpl2 : L.length ≤ s.size := by rw [← hL]; exact hpl
  rw [hy, his] at DE DR
  rw [hx, hgd] at AE AR
  rw [hn', hL] at PE PR
  rw [hn', hL, ht] at RE RR
  rw [hL] at HVO
  rw [hg, hmd] at CE CR
  obtain ⟨yk, ynm, ya, yb, ⟨yr, yl, yc, yg⟩, ⟨ym, yq, yu⟩⟩ := y
  dsimp only [manC] at DE DR
  obtain ⟨ln, hln⟩ : ∃ ln, L.length = ln := ⟨_, rfl⟩
  rw [hln] at hpl2
  have HLN : Is L.length ln := ⟨hln⟩
  clear hpl hy his hx hgd hn' hL ht hg hmd hap hln
  go_enter Try.func7, Try.ntmps7
  go_wp2_with fail
  refine (HL1.out _ M0.out.held).mono ?_
  rintro e w1 ⟨rfl, h1⟩
  have M1 := Lib.hid (M0.out.keep h1)
  obtain ⟨⟨b0, b1⟩, ⟨bf0, bf1⟩, blt⟩ := M1.out.box2 1 rfl
  go_wp2_with fail
  refine (HL2.out _ M1.out.held).mono ?_
  rintro e w2 ⟨rfl, h2⟩
  have M2 := Lib.hid (M1.out.keep h2)
  clear b0 b1 bf0 bf1 blt M0 M1 h1 h2 HL1 HL2
  obtain ⟨⟨a0, a1⟩, _, alt⟩ := M2.out.box2 0 rfl
  obtain ⟨⟨m0, m1, m2, m3, m4, m5, m6, m7, m8, m9, m10⟩, _, mlt⟩ := M2.out.box11 2 rfl
  go_wp2_with fail
  refine (AP.out _ M2.out.held).mono ?_
  rintro e w3 ⟨B1, e1, f1, B2, e2, f2, rfl, h3, hR3, hc3⟩
  dsimp only at hR3 ⊢
  have R3 := Lib.hid hR3
  have M3 := Lib.hid ((M2.out.keep h3).alloc' (b := w3.heap.size) rfl #[.slice B1 e1 f1, .slice B2 e2 f2] 37)
  have K3 := Lib.hid ((Held.refl w3).alloc (.cells #[.slice B1 e1 f1, .slice B2 e2 f2] 37))
  clear h3 hR3 hc3 M2 a0 a1 alt m0 m1 m2 m3 m4 m5 m6 m7 m8 m9 m10 mlt
  obtain ⟨⟨a0, a1⟩, _, alt⟩ := M3.out.box2 0 rfl
  obtain ⟨⟨m0, m1, m2, m3, m4, m5, m6, m7, m8, m9, m10⟩, _, mlt⟩ := M3.out.box11 2 rfl
  go_wp2_with fail
  refine (MG.out _ M3.out.held).mono ?_
  rintro e w4 ⟨C1, i1, j1, C2, i2, j2, rfl, h4, hR4, hc4⟩
  dsimp only at hR4 ⊢
  have R3' := Lib.hid (R3.out.held (K3.out.step h4))
  have R4 := Lib.hid hR4
  have M4 := Lib.hid ((M3.out.keep h4).alloc' (b := w4.heap.size) rfl #[.slice C1 i1 j1, .slice C2 i2 j2] 37)
  have K4 := Lib.hid ((Held.refl w4).alloc (.cells #[.slice C1 i1 j1, .slice C2 i2 j2] 37))
  clear h4 hR4 hc4 M3 K3 R3 a0 a1 alt m0 m1 m2 m3 m4 m5 m6 m7 m8 m9 m10 mlt
  go_wp2_with fail
  refine (DE.out _).mono ?_
  rintro e w5 ⟨rfl, h5⟩
  have M5 := Lib.hid ((M4.out.keep h5).alloc' (b := w5.heap.size) rfl #[.int .i64 yk, .string ynm, .int .i64 ya, .int .i64 yb, .int .i64 yr, .int .i64 yl, .int .i64 yc, .int .i64 yg, .int .i64 ym, .int .i64 yq, .bool yu] 27)
  have K5 := Lib.hid ((K4.out.step h5).alloc (.cells #[.int .i64 yk, .string ynm, .int .i64 ya, .int .i64 yb, .int .i64 yr, .int .i64 yl, .int .i64 yc, .int .i64 yg, .int .i64 ym, .int .i64 yq, .bool yu] 27))
  clear h5 M4 K4
  go_wp2_with fail
  refine (DR.out _).mono ?_
  rintro e w6 ⟨rfl, h6⟩
  have M6 := Lib.hid ((M5.out.keep h6).alloc' (b := w6.heap.size) rfl #[.int .i64 yk, .string ynm, .int .i64 ya, .int .i64 yb, .int .i64 yr, .int .i64 yl, .int .i64 yc, .int .i64 yg, .int .i64 ym, .int .i64 yq, .bool yu] 27)
  have K6 := Lib.hid ((K5.out.step h6).alloc (.cells #[.int .i64 yk, .string ynm, .int .i64 ya, .int .i64 yb, .int .i64 yr, .int .i64 yl, .int .i64 yc, .int .i64 yg, .int .i64 ym, .int .i64 yq, .bool yu] 27))
  clear h6 M5 K5
  obtain ⟨⟨m0, m1, m2, m3, m4, m5, m6, m7, m8, m9, m10⟩, _, mlt⟩ := M6.out.box11 2 rfl
  go_wp2_with fail
  refine (AE.out _).mono ?_
  rintro e w7 ⟨rfl, h7⟩
  have M7 := Lib.hid (M6.out.keep h7)
  have K7 := Lib.hid (K6.out.step h7)
  clear h7 M6 K6 m0 m1 m2 m3 m4 m5 m6 m7 m8 m9 m10 mlt
  obtain ⟨⟨m0, m1, m2, m3, m4, m5, m6, m7, m8, m9, m10⟩, _, mlt⟩ := M7.out.box11 2 rfl
  go_wp2_with fail
  refine (AR.out _).mono ?_
  rintro e w8 ⟨rfl, h8⟩
  have M8 := Lib.hid (M7.out.keep h8)
  have K8 := Lib.hid (K7.out.step h8)
  clear h8 M7 K7 m0 m1 m2 m3 m4 m5 m6 m7 m8 m9 m10 mlt
  go_wp2_with fail
  refine (PE.out _).mono ?_
  rintro e w9 ⟨v9, rfl, o9, h9⟩
  obtain ⟨A9, cp9, rfl, _, _⟩ := o9.shape
  have M9 := Lib.hid (M8.out.own h9 o9)
  have K9 := Lib.hid (K8.out.step h9)
  rw [HLN.out] at M9 ⊢
  clear h9 o9 M8 K8
  go_wp2_with fail
  refine (PR.out _).mono ?_
  rintro e w10 ⟨v10, rfl, o10, h10⟩
  obtain ⟨A10, cp10, rfl, _, _⟩ := o10.shape
  have M10 := Lib.hid (M9.out.own h10 o10)
  have K10 := Lib.hid (K9.out.step h10)
  rw [HLN.out] at M10 ⊢
  clear h10 o10 M9 K9
  go_wp2_with fail
  refine (RE.out _).mono ?_
  rintro e w11 ⟨D1, g1, p1, D2, g2, p2, rfl, h11, hR11, _⟩
  have R11 := Lib.hid hR11
  have M11 := Lib.hid ((M10.out.keep h11).alloc' (b := w11.heap.size) rfl #[.slice D1 g1 p1, .slice D2 g2 p2] 37)
  have K11 := Lib.hid ((K10.out.step h11).alloc (.cells #[.slice D1 g1 p1, .slice D2 g2 p2] 37))
  have J11 := Lib.hid ((Held.refl w11).alloc (.cells #[.slice D1 g1 p1, .slice D2 g2 p2] 37))
  clear h11 hR11 M10 K10
  go_wp2_with fail
  refine (RR.out _).mono ?_
  rintro e w12 ⟨E1, g3, p3, E2, g4, p4, rfl, h12, hR12, _⟩
  have R12 := Lib.hid hR12
  have M12 := Lib.hid ((M11.out.keep h12).alloc' (b := w12.heap.size) rfl #[.slice E1 g3 p3, .slice E2 g4 p4] 37)
  have K12 := Lib.hid ((K11.out.step h12).alloc (.cells #[.slice E1 g3 p3, .slice E2 g4 p4] 37))
  have J12 := Lib.hid ((J11.out.step h12).alloc (.cells #[.slice E1 g3 p3, .slice E2 g4 p4] 37))
  have I12 := Lib.hid ((Held.refl w12).alloc (.cells #[.slice E1 g3 p3, .slice E2 g4 p4] 37))
  clear h12 hR12 M11 K11 J11
  obtain ⟨⟨a0, a1⟩, _, alt⟩ := M12.out.box2 0 rfl
  go_wp2_with fail
  refine (CE.out _ M12.out.held).mono ?_
  rintro e w13 ⟨rfl, h13⟩
  have M13 := Lib.hid (M12.out.keep h13)
  have K13 := Lib.hid (K12.out.step h13)
  have J13 := Lib.hid (J12.out.step h13)
  have I13 := Lib.hid (I12.out.step h13)
  clear h13 M12 K12 J12 I12 a0 a1 alt
  obtain ⟨⟨a0, a1⟩, _, alt⟩ := M13.out.box2 0 rfl
  go_wp2_with fail
  refine (CR.out _ M13.out.held).mono ?_
  rintro e w14 ⟨rfl, h14⟩
  have M14 := Lib.hid (M13.out.keep h14)
  have RA := Lib.hid (R3'.out.held (K13.out.step h14))
  have RB := Lib.hid (R4.out.held (K13.out.step h14))
  have RC := Lib.hid (R11.out.held (J13.out.step h14))
  have RD := Lib.hid (R12.out.held (I13.out.step h14))
  clear h14 M13 K13 J13 I13 a0 a1 alt R3' R4 R11 R12 AP MG DE DR AE AR PE PR RE RR CE CR
  obtain ⟨⟨a0, a1⟩, _, alt⟩ := M14.out.box2 0 rfl
  obtain ⟨⟨b0, b1⟩, _, blt⟩ := M14.out.box2 1 rfl
  obtain ⟨⟨m0, m1, m2, m3, m4, m5, m6, m7, m8, m9, m10⟩, _, mlt⟩ := M14.out.box11 2 rfl
  have cV := Lib.hid fun dd os => Calls.regrown_of (d := dd) (os := os) (valid_any HA hn hc GA gn gc r.hs r.gs (grow (redrawn w14 dd) os) (HR.out.reg.held (M14.out.held.step (below_regrown w14 dd os))).hs (HR.out.reg.held (M14.out.held.step (below_regrown w14 dd os))).gs (by omega) (by omega) HNM.out)
  have cW := Lib.hid fun dd os => Calls.regrown_of (d := dd) (os := os) (valid_ref_any HA hn hc GA gn gc r.hs r.gs (grow (redrawn w14 dd) os) (HR.out.reg.held (M14.out.held.step (below_regrown w14 dd os))).hs (HR.out.reg.held (M14.out.held.step (below_regrown w14 dd os))).gs (by omega) (by omega) HNM.out)
  have cS := Lib.hid fun dd os => Calls.regrown_of (d := dd) (os := os) (same_any HA hn hc GA gn gc HA2 hn2 hc2 GA2 gn2 gc2 r q (grow (redrawn w14 dd) os) (HR.out.reg.held (M14.out.held.step (below_regrown w14 dd os))) (HQ.out.reg.held (M14.out.held.step (below_regrown w14 dd os))) (by omega) (by omega))
  have cT := Lib.hid fun dd os => Calls.regrown_of (d := dd) (os := os) (same_ref_any HA hn hc GA gn gc HA2 hn2 hc2 GA2 gn2 gc2 r q (grow (redrawn w14 dd) os) (HR.out.reg.held (M14.out.held.step (below_regrown w14 dd os))) (HQ.out.reg.held (M14.out.held.step (below_regrown w14 dd os))) (by omega) (by omega))
  have hE1 := fun w' => encode_any k nm a b dr dl dc dg cm cc up (by omega) w'
  have hE2 := fun w' => encode_ref_any k nm a b dr dl dc dg cm cc up (by omega) w'
  unfold MakesS at hE1 hE2
  have cE := Lib.hid fun dd os => Calls.regrown_of (d := dd) (os := os) (hE1 (grow (redrawn w14 dd) os))
  have cF := Lib.hid fun dd os => Calls.regrown_of (d := dd) (os := os) (hE2 (grow (redrawn w14 dd) os))
  obtain ⟨v1, hv1⟩ : ∃ v1, validR ⟨r.hs, r.gs⟩ = v1 := ⟨_, rfl⟩
  obtain ⟨v2, hv2⟩ : ∃ v2, sameR r q = v2 := ⟨_, rfl⟩
  obtain ⟨e3, he3⟩ : ∃ e3 : ByteArray, (⟨(enc ⟨k, nm, a, b, ⟨dr, dl, dc, dg⟩, ⟨cm, cc, up⟩⟩).toArray⟩ : ByteArray) = e3 := ⟨_, rfl⟩
  rw [hv1] at cV cW
  rw [hv2] at cS cT
  rw [he3] at cE cF
  have k0 := cell_regrown a0
  have k1 := cell_regrown a1
  have k2 := cell_regrown b0
  have k3 := cell_regrown b1
  have k4 := cell_regrown m0
  have k5 := cell_regrown m1
  have k6 := cell_regrown m2
  have k7 := cell_regrown m3
  have k8 := cell_regrown m4
  have k9 := cell_regrown m5
  have k10 := cell_regrown m6
  have k11 := cell_regrown m7
  have k12 := cell_regrown m8
  have k13 := cell_regrown m9
  have k14 := cell_regrown m10
  have t1 : ((ln : Int) != ln) = false := by simp
  have t2 : ((n : Int) != n) = false := by simp
  have t3 : (v1 != v1) = false := by simp
  have t4 : (v2 != v2) = false := by simp
  have t5 : (e3.toList != e3.toList) = false := by simp
  clear hE1 hE2 hv1 hv2 he3 a0 a1 b0 b1 m0 m1 m2 m3 m4 m5 m6 m7 m8 m9 m10 HNM
  go_wp2
  refine wp_region_quiet_below (by kernel_rfl) (by kernel_rfl) ?_
  repeat (go_big_quiet_step (first | (go_at_call 16; (with_reducible exact cV.out _ _)) | (go_at_call 28; (with_reducible exact cW.out _ _)) | (go_at_call 29; (with_reducible exact cS.out _ _)) | (go_at_call 15; (with_reducible exact cT.out _ _)) | (go_at_call 11; (with_reducible exact cE.out _ _)) | (go_at_call 30; (with_reducible exact cF.out _ _))))
  refine wpQuiet_nil ?_
  intro w15 hw'
  obtain ⟨⟨dq, osq⟩, hw''⟩ := hw'
  have h15 : Held w14 w15 := by rw [hw'']; exact below_regrown _ dq osq
  have M15 := Lib.hid (M14.out.keep h15)
  have SA := Lib.hid fun (w' : World) (h : Held w15 w') => same_ref_any B1 e1 f1 B2 e2 f2 C1 i1 j1 C2 i2 j2 ra ra w' ((RA.out.held h15).held h) ((RB.out.held h15).held h) (by have := RA.out.hs.1; omega) (by have := RA.out.gs.1; omega)
  have SB := Lib.hid fun (w' : World) (h : Held w15 w') => same_ref_any D1 g1 p1 D2 g2 p2 E1 g3 p3 E2 g4 p4 (recov L) (recov L) w' ((RC.out.held h15).held h) ((RD.out.held h15).held h) (by have := RC.out.hs.1; have := HVO.out.hl; omega) (by have := RC.out.gs.1; have := HVO.out.gl; omega)
  rw [sameR_self] at SA SB
  clear hw'' h15 cV cW cS cT cE cF k0 k1 k2 k3 k4 k5 k6 k7 k8 k9 k10 k11 k12 k13 k14 t1 t2 t3 t4 t5 M14 RA RB RC RD HR HQ alt blt mlt
  go_wp2
  go_loopw [33] (fun i wr => ∃ j : Nat, i = .int .i64 j ∧ j ≤ ln ∧ Held w15 wr) (fun i _ => ln - (intOf i).toNat)
  case atStart => exact ⟨0, rfl, Nat.zero_le _, Held.refl _⟩
  case round =>
    obtain ⟨j, rfl, hj, hk⟩ := hrel
    have M16 := Lib.hid (M15.out.keep hk)
    have HK := Lib.hid hk
    clear hk
    by_cases hlt : (j : Int) < ln
    · obtain ⟨y1, x, rfl, _, _, hx, hc1⟩ := M16.out.slot 7 rfl manF_len (by decide) (k := j) (by rw [HLN.out]; omega)
      obtain ⟨y2, x', rfl, _, _, hx', hc2⟩ := M16.out.slot 8 rfl manF_len (by decide) (k := j) (by rw [HLN.out]; omega)
      obtain rfl : x = x' := by rw [hx] at hx'; injection hx'
      obtain ⟨xk, xnm, xa, xb, ⟨xr, xl, xc, xg⟩, ⟨xm, xcc, xup⟩⟩ := x
      have x0 : wr.cell? ⟨y1, j * 11 + 0, none⟩ = some (.int .i64 xk) := (hc1 0 (by decide)).2 _ rfl
      have x1 : wr.cell? ⟨y1, j * 11 + 1, none⟩ = some (.string xnm) := (hc1 1 (by decide)).2 _ rfl
      have x2 : wr.cell? ⟨y1, j * 11 + 2, none⟩ = some (.int .i64 xa) := (hc1 2 (by decide)).2 _ rfl
      have x3 : wr.cell? ⟨y1, j * 11 + 3, none⟩ = some (.int .i64 xb) := (hc1 3 (by decide)).2 _ rfl
      have x4 : wr.cell? ⟨y1, j * 11 + 4, none⟩ = some (.int .i64 xr) := (hc1 4 (by decide)).2 _ rfl
      have x5 : wr.cell? ⟨y1, j * 11 + 5, none⟩ = some (.int .i64 xl) := (hc1 5 (by decide)).2 _ rfl
      have x6 : wr.cell? ⟨y1, j * 11 + 6, none⟩ = some (.int .i64 xc) := (hc1 6 (by decide)).2 _ rfl
      have x7 : wr.cell? ⟨y1, j * 11 + 7, none⟩ = some (.int .i64 xg) := (hc1 7 (by decide)).2 _ rfl
      have x8 : wr.cell? ⟨y1, j * 11 + 8, none⟩ = some (.int .i64 xm) := (hc1 8 (by decide)).2 _ rfl
      have x9 : wr.cell? ⟨y1, j * 11 + 9, none⟩ = some (.int .i64 xcc) := (hc1 9 (by decide)).2 _ rfl
      have x10 : wr.cell? ⟨y1, j * 11 + 10, none⟩ = some (.bool xup) := (hc1 10 (by decide)).2 _ rfl
      rw [Nat.add_zero] at x0
      have z0 : wr.cell? ⟨y2, j * 11 + 0, none⟩ = some (.int .i64 xk) := (hc2 0 (by decide)).2 _ rfl
      have z1 : wr.cell? ⟨y2, j * 11 + 1, none⟩ = some (.string xnm) := (hc2 1 (by decide)).2 _ rfl
      have z2 : wr.cell? ⟨y2, j * 11 + 2, none⟩ = some (.int .i64 xa) := (hc2 2 (by decide)).2 _ rfl
      have z3 : wr.cell? ⟨y2, j * 11 + 3, none⟩ = some (.int .i64 xb) := (hc2 3 (by decide)).2 _ rfl
      have z4 : wr.cell? ⟨y2, j * 11 + 4, none⟩ = some (.int .i64 xr) := (hc2 4 (by decide)).2 _ rfl
      have z5 : wr.cell? ⟨y2, j * 11 + 5, none⟩ = some (.int .i64 xl) := (hc2 5 (by decide)).2 _ rfl
      have z6 : wr.cell? ⟨y2, j * 11 + 6, none⟩ = some (.int .i64 xc) := (hc2 6 (by decide)).2 _ rfl
      have z7 : wr.cell? ⟨y2, j * 11 + 7, none⟩ = some (.int .i64 xg) := (hc2 7 (by decide)).2 _ rfl
      have z8 : wr.cell? ⟨y2, j * 11 + 8, none⟩ = some (.int .i64 xm) := (hc2 8 (by decide)).2 _ rfl
      have z9 : wr.cell? ⟨y2, j * 11 + 9, none⟩ = some (.int .i64 xcc) := (hc2 9 (by decide)).2 _ rfl
      have z10 : wr.cell? ⟨y2, j * 11 + 10, none⟩ = some (.bool xup) := (hc2 10 (by decide)).2 _ rfl
      rw [Nat.add_zero] at z0
      have hne := neq_man_same ⟨xk, xnm, xa, xb, ⟨xr, xl, xc, xg⟩, ⟨xm, xcc, xup⟩⟩
      dsimp only [manC] at hne
      have j0 : ¬ (j : Int) < 0 := by omega
      clear hc1 hc2 hx hx'
      go_wp2
      go_big_quiet (fail)
      go_wp2
      go_roundw
      case rel => exact ⟨j + 1, by go_num, by omega, HK.out.step ((Held.refl _).drewN _)⟩
      case measure => (simp [intOf]) <;> omega
    · obtain ⟨⟨a0, a1⟩, _, alt⟩ := M16.out.box2 3 rfl
      obtain ⟨⟨b0, b1⟩, _, blt⟩ := M16.out.box2 4 rfl
      go_wp2_with fail
      refine (SA.out _ HK.out).mono ?_
      rintro e w17 ⟨rfl, h17⟩
      have M17 := Lib.hid (M16.out.keep h17)
      have K17 := Lib.hid (HK.out.step h17)
      clear h17 M16 a0 a1 alt b0 b1 blt
      obtain ⟨⟨m0, m1, m2, m3, m4, m5, m6, m7, m8, m9, m10⟩, _, mlt⟩ := M17.out.box11 5 rfl
      obtain ⟨⟨q0, q1, q2, q3, q4, q5, q6, q7, q8, q9, q10⟩, _, qlt⟩ := M17.out.box11 6 rfl
      obtain ⟨⟨a0, a1⟩, _, alt⟩ := M17.out.box2 9 rfl
      obtain ⟨⟨b0, b1⟩, _, blt⟩ := M17.out.box2 10 rfl
      have heq := eql_man_same ⟨yk, ynm, ya, yb, ⟨yr, yl, yc, yg⟩, ⟨ym, yq, yu⟩⟩
      dsimp only [manC] at heq
      go_wp2_with fail
      refine (SB.out _ K17.out).mono ?_
      rintro e w18 ⟨rfl, h18⟩
      have M18 := Lib.hid (M17.out.keep h18)
      clear h18 M17 K17 a0 a1 alt b0 b1 blt heq
      go_wp2_with fail
      refine (HAW.out _).mono ?_
      rintro e w19 ⟨rfl, h19⟩
      go_wp2
      go_ret
      exact ⟨rfl, M18.out.held.step h19⟩
end Jn
end Go.Proofs.Ytmmnanmegdflgaa
