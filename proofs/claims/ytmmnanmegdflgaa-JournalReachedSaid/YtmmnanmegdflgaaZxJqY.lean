/-
  Contracts: the law JournalReached (chapter 42).
-/
import Derived.Test.YtmmnanmegdflgaaZxJqD
set_option linter.unusedVariables false
set_option linter.unusedSimpArgs false
set_option maxRecDepth 100000
namespace Go.Proofs.Ytmmnanmegdflgaa
open Go.RowKit Go.BigFrame Go.Sort Go.Lib
namespace Jn
open Ad Adm Law39 Lg Lgc Strs
theorem zero_regs (w : World) : On1 w none 0 0 none 0 0 ⟨[], []⟩ := on1_zero w
set_option maxHeartbeats 8000000 in
theorem reached_any (o1 : Option Addr) (len1 cap1 : Nat) (z1 : List Int) (w : World) (h1 : Rw.IsRow .i64 w o1 len1 cap1 z1) :
    Calls Try.prog 4 #[.slice o1 len1 cap1] w fun e w' => e = .returned (.bool true) ∧ Held w w' := by
  have HAW := Lib.hid awake_any
  obtain ⟨L, hL, hlen⟩ := nums_in h1
  have HL := Lib.hid hL
  clear h1 hL
  by_cases h60 : (60 : Int) < len1
  · go_enter Try.func4, Try.ntmps4
    go_wp2_with fail
    refine (HAW.out _).mono ?_
    rintro e w1 ⟨rfl, h⟩
    go_wp2
    go_ret
    exact ⟨rfl, h⟩
  have M0 := Lib.hid ((Mem.start w).alloc' (b := w.heap.size) rfl #[.slice none 0 0, .slice none 0 0] 37)
  obtain ⟨b3, hb3⟩ : ∃ b3, w.heap.size = b3 := ⟨_, rfl⟩
  go_enter Try.func4, Try.ntmps4
  go_wp2
  rw [hb3] at M0
  clear hb3
  go_loopw [4] (fun i wr => ∃ (j : Nat) (A1 : Option Addr) (n1 c1 : Nat) (A2 : Option Addr) (n2 c2 : Nat) (R : Reg), i = .int .i64 j ∧ j ≤ len1 ∧ Mem w wr [.box b3 #[.slice A1 n1 c1, .slice A2 n2 c2] 37] ∧ On1 wr A1 n1 c1 A2 n2 c2 R) (fun i _ => len1 - (intOf i).toNat)
  case atStart => exact ⟨0, none, 0, 0, none, 0, 0, ⟨[], []⟩, rfl, Nat.zero_le _, M0.out, zero_regs _⟩
  case round =>
    obtain ⟨i, A1, n1, c1, A2, n2, c2, R, rfl, hi, hM, hO⟩ := hrel
    have M3 := Lib.hid hM
    have HO := Lib.hid hO
    obtain ⟨hn1, hn2⟩ := hO.hn
    clear hM hO M0
    obtain ⟨⟨d0, d1⟩, ⟨df0, df1⟩, dlt⟩ := M3.out.box2 0 rfl
    by_cases hlt : (i : Int) < len1
    · obtain ⟨lb, off, z, rfl, hlb, hz, y0⟩ := in_at HL.out M3.out.held (k := i) (by omega)
      have i0 : ¬ (i : Int) < 0 := by omega
      have hnm1 := mg_nm z
      obtain ⟨k, nm, a, b, dr, dl, dc, dg, cm, cc, up, hmg⟩ := mg_any z
      have hmc := fun w' => manage_any z w'
      rw [hmg] at hmc hnm1
      dsimp only [manC] at hmc hnm1
      have MGC := Lib.hid hmc
      have hnm : (nm.size : Int) ≤ 1000000000 := by omega
      obtain ⟨r', er, hap⟩ : ∃ r' er, apply R ⟨k, nm, a, b, ⟨dr, dl, dc, dg⟩, ⟨cm, cc, up⟩⟩ = (r', er) := ⟨_, _, rfl⟩
      have HAP := Lib.hid hap
      have hvr : VR r' := by
        have := vr_apply ⟨k, nm, a, b, ⟨dr, dl, dc, dg⟩, ⟨cm, cc, up⟩⟩ HO.out.v
        rw [hap] at this
        exact this
      have HVR := Lib.hid hvr
      have HZ := Lib.hid hz
      clear hmc hnm1 hmg hap hvr hz
      have HOR := Lib.hid HO.out.reg
      have HC := Lib.hid (fun w' (q : Held wr w') => And.intro (q.cell d0) (And.intro (q.cell d1) (q.cell y0)))
      have MB0 := Lib.hid ((M3.out.alloc' (b := wr.heap.size) rfl #[.slice none 0 0, .slice none 0 0] 37).drew)
      go_wp2
      go_cut [5, 6] from 19 to 28 (fun v5 v6 wx => ∃ b5 B1 m1 e1 B2 m2 e2, v5 = .pointer (some ⟨b5, 0, none⟩) ∧ v6 = .int .i64 er ∧ Mem w wx [.box b3 #[.slice A1 n1 c1, .slice A2 n2 c2] 37, .box b5 #[.slice B1 m1 e1, .slice B2 m2 e2] 37] ∧ Caps B1 m1 e1 B2 m2 e2 ∧ RegR wx B1 m1 B2 m2 r' ∧ RegR wx A1 n1 A2 n2 R)
      case first =>
        go_region_held3 (fun w' => w'.cell? ⟨b3, 0, none⟩ = some (.slice A1 n1 c1) ∧ w'.cell? ⟨b3, 1, none⟩ = some (.slice A2 n2 c2) ∧ w'.cell? ⟨lb, off + i, none⟩ = some (.int .i64 z))
          (first | exact HC.out _ (Held.refl _).drew | exact HC.out _ ((Held.refl wr).alloc _).drew | exact Hid.out (by assumption))
          (first
            | (go_at_call 13; refine (MGC.out _).mono ?_; rintro e w4 ⟨rfl, h4⟩; first | (have k4 : Held wr w4 := (Held.refl wr).drew.step h4; have M4 := Lib.hid (M3.out.drew.keep h4); have kM := Lib.hid (HC.out w4 k4); have kN := Lib.hid (HC.out (w4.alloc (.cells #[.slice none 0 0, .slice none 0 0] 37)) (k4.alloc _)); have MC4 := Lib.hid (M4.out.alloc' (b := w4.heap.size) rfl #[.slice none 0 0, .slice none 0 0] 37)) | (have k4 : Held wr w4 := ((Held.refl wr).alloc _).drew.step h4; have MB4 := Lib.hid (MB0.out.keep h4); have kM := Lib.hid (HC.out w4 k4)))
            | (go_at_call 12; refine (apply_any A1 n1 c1 A2 n2 c2 R k nm a b dr dl dc dg cm cc up _ (HO.out.reg.held k4) hn1 hn2 HO.out.nm hnm).mono ?_; rintro e w5 ⟨B1, m1, e1, B2, m2, e2, rfl, h5, hR, hcp⟩; rw [HAP.out] at hR ⊢; simp only at hR ⊢; have HB := Lib.hid hcp; have kz := Lib.hid (HC.out w5 (k4.step h5)); have M5 := MB4.out.keep h5; obtain ⟨⟨z0, z1⟩, ⟨zf0, zf1⟩, zlt⟩ := M5.box2 1 rfl; have M6 := M5.put 1 rfl 0 (.slice B1 m1 e1); have MX := Lib.hid (M6.put 1 rfl 1 (.slice B2 m2 e2)); have HRX := Lib.hid ((hR.putSlice z0 (.slice B1 m1 e1)).putSlice (M6.cell 1 rfl 1 rfl) (.slice B2 m2 e2)); have HORX := Lib.hid (((HOR.out.held (k4.step h5)).putSlice z0 (.slice B1 m1 e1)).putSlice (M6.cell 1 rfl 1 rfl) (.slice B2 m2 e2)); have ky := Lib.hid (HC.out _ (((k4.step h5).set (p := ⟨wr.heap.size, 0, none⟩) (Nat.le_refl _) (.slice B1 m1 e1)).set (p := ⟨wr.heap.size, 1, none⟩) (Nat.le_refl _) (.slice B2 m2 e2))))
            | (go_at_call 12; refine (apply_any A1 n1 c1 A2 n2 c2 R k nm a b dr dl dc dg cm cc up _ (HO.out.reg.held k4) hn1 hn2 HO.out.nm hnm).mono ?_; rintro e w5 ⟨B1, m1, e1, B2, m2, e2, rfl, h5, hR, hcp⟩; rw [HAP.out] at hR ⊢; simp only at hR ⊢; have HB := Lib.hid hcp; have kz := Lib.hid (HC.out w5 (k4.step h5)); have ky := Lib.hid (HC.out (w5.alloc (.cells #[.slice B1 m1 e1, .slice B2 m2 e2] 37)) ((k4.step h5).alloc _)); have kx := Lib.hid (HC.out (w5.alloc (.cells #[.slice none 0 0, .slice none 0 0] 37)) ((k4.step h5).alloc _)); have MX := Lib.hid ((M4.out.keep h5).alloc #[.slice B1 m1 e1, .slice B2 m2 e2] 37); have HRX := Lib.hid (hR.held ((Held.refl w5).alloc (.cells #[.slice B1 m1 e1, .slice B2 m2 e2] 37))); have HORX := Lib.hid (HOR.out.held ((k4.step h5).alloc (.cells #[.slice B1 m1 e1, .slice B2 m2 e2] 37))))
            | (go_at_call 12; refine (apply_any A1 n1 c1 A2 n2 c2 R k nm a b dr dl dc dg cm cc up _ (HO.out.reg.held (k4.alloc _)) hn1 hn2 HO.out.nm hnm).mono ?_; rintro e w5 ⟨B1, m1, e1, B2, m2, e2, rfl, h5, hR, hcp⟩; rw [HAP.out] at hR ⊢; simp only at hR ⊢; have HB := Lib.hid hcp; have kz := Lib.hid (HC.out w5 ((k4.alloc _).step h5)); have M5 := MC4.out.keep h5; obtain ⟨⟨z0, z1⟩, ⟨zf0, zf1⟩, zlt⟩ := M5.box2 1 rfl; have M6 := M5.put 1 rfl 0 (.slice B1 m1 e1); have MX := Lib.hid (M6.put 1 rfl 1 (.slice B2 m2 e2)); have HRX := Lib.hid ((hR.putSlice z0 (.slice B1 m1 e1)).putSlice (M6.cell 1 rfl 1 rfl) (.slice B2 m2 e2)); have HORX := Lib.hid (((HOR.out.held ((k4.alloc _).step h5)).putSlice z0 (.slice B1 m1 e1)).putSlice (M6.cell 1 rfl 1 rfl) (.slice B2 m2 e2)); have ky := Lib.hid (HC.out _ ((((k4.alloc _).step h5).set (p := ⟨w4.heap.size, 0, none⟩) k4.le (.slice B1 m1 e1)).set (p := ⟨w4.heap.size, 1, none⟩) k4.le (.slice B2 m2 e2)))))
        all_goals
          go_wp2
          go_meet
          case rel => exact ⟨_, B1, m1, e1, B2, m2, e2, rfl, rfl, MX.out, HB.out, HRX.out, HORX.out⟩
      case rest =>
        obtain ⟨b5, B1, m1, e1, B2, m2, e2, rfl, rfl, hM, hcp, hR, hO2⟩ := hcut
        have M7 := Lib.hid hM
        have HP : Hid (On1 wc A1 n1 c1 A2 n2 c2 R) := Lib.hid ⟨hO2, HO.out.c, HO.out.v⟩
        have HOR := Lib.hid hO2
        have HXR := Lib.hid hR
        have HXC := Lib.hid hcp
        have y1 := (in_at HL.out M7.out.held (k := i) (by omega))
        obtain ⟨lb', off', z', hbe, _, hz2, y1⟩ := y1
        injection hbe with hbe
        injection hbe with hbe1 hbe2
        subst hbe1 hbe2
        have hzz : z' = z := by rw [HZ.out] at hz2; injection hz2 with e; exact e.symm
        rw [hzz] at y1
        clear hM hcp hR hO2 MB0 HC d0 d1 df0 df1 dlt y0 HO M3 hz2 hzz
        have y0 := y1
        clear y1
        obtain ⟨⟨d0, d1⟩, ⟨df0, df1⟩, dlt⟩ := M7.out.box2 0 rfl
        have HC := Lib.hid (fun w' (q : Held wc w') => And.intro (q.cell d0) (And.intro (q.cell d1) (q.cell y0)))
        have MB0 := Lib.hid ((M7.out.alloc' (b := wc.heap.size) rfl #[.slice none 0 0, .slice none 0 0] 37).drew)
        go_wp2
        go_cut [7, 8] from 29 to 38 (fun v5 v6 wx => ∃ b7 C1 i1 f1 C2 i2 f2, v5 = .pointer (some ⟨b7, 0, none⟩) ∧ v6 = .int .i64 er ∧ Mem w wx [.box b3 #[.slice A1 n1 c1, .slice A2 n2 c2] 37, .box b5 #[.slice B1 m1 e1, .slice B2 m2 e2] 37, .box b7 #[.slice C1 i1 f1, .slice C2 i2 f2] 37] ∧ Caps C1 i1 f1 C2 i2 f2 ∧ RegR wx C1 i1 C2 i2 r' ∧ RegR wx A1 n1 A2 n2 R ∧ RegR wx B1 m1 B2 m2 r')
        case first =>
          go_region_held3 (fun w' => w'.cell? ⟨b3, 0, none⟩ = some (.slice A1 n1 c1) ∧ w'.cell? ⟨b3, 1, none⟩ = some (.slice A2 n2 c2) ∧ w'.cell? ⟨lb, off + i, none⟩ = some (.int .i64 z))
            (first | exact HC.out _ (Held.refl _).drew | exact HC.out _ ((Held.refl wc).alloc _).drew | exact Hid.out (by assumption))
            (first
              | (go_at_call 13; refine (MGC.out _).mono ?_; rintro e w4 ⟨rfl, h4⟩; first | (have k4 : Held wc w4 := (Held.refl wc).drew.step h4; have M4 := Lib.hid (M7.out.drew.keep h4); have kM := Lib.hid (HC.out w4 k4); have kN := Lib.hid (HC.out (w4.alloc (.cells #[.slice none 0 0, .slice none 0 0] 37)) (k4.alloc _)); have MC4 := Lib.hid (M4.out.alloc' (b := w4.heap.size) rfl #[.slice none 0 0, .slice none 0 0] 37)) | (have k4 : Held wc w4 := ((Held.refl wc).alloc _).drew.step h4; have MB4 := Lib.hid (MB0.out.keep h4); have kM := Lib.hid (HC.out w4 k4)))
              | (go_at_call 14; refine (manage_ref_any A1 n1 c1 A2 n2 c2 R k nm a b dr dl dc dg cm cc up _ (HP.out.reg.held k4) HP.out.c hn1 hn2 HP.out.nm hnm).mono ?_; rintro e w5 ⟨C1, i1, f1, C2, i2, f2, rfl, h5, hR, hcp⟩; rw [HAP.out] at hR ⊢; simp only at hR ⊢; have HB := Lib.hid hcp; have kz := Lib.hid (HC.out w5 (k4.step h5)); have M5 := MB4.out.keep h5; obtain ⟨⟨z0, z1⟩, ⟨zf0, zf1⟩, zlt⟩ := M5.box2 2 rfl; have M6 := M5.put 2 rfl 0 (.slice C1 i1 f1); have MX := Lib.hid (M6.put 2 rfl 1 (.slice C2 i2 f2)); have HRX := Lib.hid ((hR.putSlice z0 (.slice C1 i1 f1)).putSlice (M6.cell 2 rfl 1 rfl) (.slice C2 i2 f2)); have HORX := Lib.hid (((HOR.out.held (k4.step h5)).putSlice z0 (.slice C1 i1 f1)).putSlice (M6.cell 2 rfl 1 rfl) (.slice C2 i2 f2)); have HXRX := Lib.hid (((HXR.out.held (k4.step h5)).putSlice z0 (.slice C1 i1 f1)).putSlice (M6.cell 2 rfl 1 rfl) (.slice C2 i2 f2)); have ky := Lib.hid (HC.out _ (((k4.step h5).set (p := ⟨wc.heap.size, 0, none⟩) (Nat.le_refl _) (.slice C1 i1 f1)).set (p := ⟨wc.heap.size, 1, none⟩) (Nat.le_refl _) (.slice C2 i2 f2))))
              | (go_at_call 14; refine (manage_ref_any A1 n1 c1 A2 n2 c2 R k nm a b dr dl dc dg cm cc up _ (HP.out.reg.held k4) HP.out.c hn1 hn2 HP.out.nm hnm).mono ?_; rintro e w5 ⟨C1, i1, f1, C2, i2, f2, rfl, h5, hR, hcp⟩; rw [HAP.out] at hR ⊢; simp only at hR ⊢; have HB := Lib.hid hcp; have kz := Lib.hid (HC.out w5 (k4.step h5)); have ky := Lib.hid (HC.out (w5.alloc (.cells #[.slice C1 i1 f1, .slice C2 i2 f2] 37)) ((k4.step h5).alloc _)); have kx := Lib.hid (HC.out (w5.alloc (.cells #[.slice none 0 0, .slice none 0 0] 37)) ((k4.step h5).alloc _)); have MX := Lib.hid ((M4.out.keep h5).alloc #[.slice C1 i1 f1, .slice C2 i2 f2] 37); have HRX := Lib.hid (hR.held ((Held.refl w5).alloc (.cells #[.slice C1 i1 f1, .slice C2 i2 f2] 37))); have HORX := Lib.hid (HOR.out.held ((k4.step h5).alloc (.cells #[.slice C1 i1 f1, .slice C2 i2 f2] 37))); have HXRX := Lib.hid (HXR.out.held ((k4.step h5).alloc (.cells #[.slice C1 i1 f1, .slice C2 i2 f2] 37))))
              | (go_at_call 14; refine (manage_ref_any A1 n1 c1 A2 n2 c2 R k nm a b dr dl dc dg cm cc up _ (HP.out.reg.held (k4.alloc _)) HP.out.c hn1 hn2 HP.out.nm hnm).mono ?_; rintro e w5 ⟨C1, i1, f1, C2, i2, f2, rfl, h5, hR, hcp⟩; rw [HAP.out] at hR ⊢; simp only at hR ⊢; have HB := Lib.hid hcp; have kz := Lib.hid (HC.out w5 ((k4.alloc _).step h5)); have M5 := MC4.out.keep h5; obtain ⟨⟨z0, z1⟩, ⟨zf0, zf1⟩, zlt⟩ := M5.box2 2 rfl; have M6 := M5.put 2 rfl 0 (.slice C1 i1 f1); have MX := Lib.hid (M6.put 2 rfl 1 (.slice C2 i2 f2)); have HRX := Lib.hid ((hR.putSlice z0 (.slice C1 i1 f1)).putSlice (M6.cell 2 rfl 1 rfl) (.slice C2 i2 f2)); have HORX := Lib.hid (((HOR.out.held ((k4.alloc _).step h5)).putSlice z0 (.slice C1 i1 f1)).putSlice (M6.cell 2 rfl 1 rfl) (.slice C2 i2 f2)); have HXRX := Lib.hid (((HXR.out.held ((k4.alloc _).step h5)).putSlice z0 (.slice C1 i1 f1)).putSlice (M6.cell 2 rfl 1 rfl) (.slice C2 i2 f2)); have ky := Lib.hid (HC.out _ ((((k4.alloc _).step h5).set (p := ⟨w4.heap.size, 0, none⟩) k4.le (.slice C1 i1 f1)).set (p := ⟨w4.heap.size, 1, none⟩) k4.le (.slice C2 i2 f2)))))
          all_goals
            go_wp2
            go_meet
            case rel => exact ⟨_, C1, i1, f1, C2, i2, f2, rfl, rfl, MX.out, HB.out, HRX.out, HORX.out, HXRX.out⟩
        case rest =>
          obtain ⟨b7, C1, i1, f1, C2, i2, f2, rfl, rfl, hM, hcp, hR, hO2, hX2⟩ := hcut
          have M8 := Lib.hid hM
          have HRC := Lib.hid hR
          have HRB := Lib.hid hX2
          have HRA := Lib.hid hO2
          have hv6 := HVR.out.hl
          have hv8 := HVR.out.gl
          have hbn1 : (m1 : Int) ≤ 1000000 := by have := hX2.hs.1; omega
          have hbn2 : (m2 : Int) ≤ 1000000 := by have := hX2.gs.1; omega
          clear hM hcp hR hO2 hX2 MB0 HC d0 d1 df0 df1 dlt y0 M7 HOR HXR hv6 hv8
          obtain ⟨⟨d0, d1⟩, ⟨df0, df1⟩, dlt⟩ := M8.out.box2 0 rfl
          obtain ⟨⟨g0, g1⟩, ⟨gf0, gf1⟩, glt⟩ := M8.out.box2 1 rfl
          obtain ⟨⟨q0, q1⟩, ⟨qf0, qf1⟩, qlt⟩ := M8.out.box2 2 rfl
          have hss := sameR_yes (r := r') rfl
          have HSA := Lib.hid fun (w' : World) (h : Held wc w') => same_ref_any B1 m1 e1 B2 m2 e2 C1 i1 f1 C2 i2 f2 r' r' w' (HRB.out.held h) (HRC.out.held h) hbn1 hbn2
          rw [hss] at HSA
          have HVA := Lib.hid fun (w' : World) (h : Held wc w') => valid_any B1 m1 e1 B2 m2 e2 r'.hs r'.gs w' (HRB.out.held h).hs (HRB.out.held h).gs hbn1 hbn2 (fun p hp => by have := HVR.out.nms p hp; omega)
          rw [show validR ⟨r'.hs, r'.gs⟩ = true from HVR.out.valid] at HVA
          have hee : (er != er) = false := by simp
          clear hss
          go_wp2_with fail
          refine (HSA.out _ (Held.refl _)).mono ?_
          rintro e w9 ⟨rfl, h9⟩
          have M9 := Lib.hid (M8.out.keep h9)
          have K9 := Lib.hid ((Held.refl wc).step h9)
          clear d0 d1 df0 df1 dlt g0 g1 gf0 gf1 glt q0 q1 qf0 qf1 qlt h9
          obtain ⟨⟨g0, g1⟩, ⟨gf0, gf1⟩, glt⟩ := M9.out.box2 1 rfl
          go_wp2_with fail
          refine (HVA.out _ K9.out).mono ?_
          rintro e w10 ⟨rfl, h10⟩
          have M10 := Lib.hid (M9.out.keep h10)
          have K10 := Lib.hid (K9.out.step h10)
          clear g0 g1 gf0 gf1 glt h10 M9 K9
          obtain ⟨⟨d0, d1⟩, ⟨df0, df1⟩, dlt⟩ := M10.out.box2 0 rfl
          obtain ⟨⟨g0, g1⟩, ⟨gf0, gf1⟩, glt⟩ := M10.out.box2 1 rfl
          clear hee
          by_cases he : er = 0
          · subst he
            have HRB2 := Lib.hid (HRB.out.held K10.out)
            go_wp2
            have MY := M10.out.put 0 rfl 0 (.slice B1 m1 e1)
            have HY := HRB2.out.putSlice d0 (.slice B1 m1 e1)
            have MZ := MY.put 0 rfl 1 (.slice B2 m2 e2)
            have HZ2 := HY.putSlice (MY.cell 0 rfl 1 rfl) (.slice B2 m2 e2)
            go_roundw
            case rel => exact ⟨i + 1, B1, m1, e1, B2, m2, e2, r', by go_num, by omega, MZ.take 1, ⟨HZ2, HXC.out, HVR.out⟩⟩
            case measure => (simp [intOf]) <;> omega
          · have hrr : r' = R := by
              have := apply_errI HAP.out he
              rw [HAP.out] at this
              injection this
            have heb : (er != 0) = true := by simp [he]
            have HSB := Lib.hid fun (w' : World) (h : Held wc w') => same_ref_any B1 m1 e1 B2 m2 e2 A1 n1 c1 A2 n2 c2 r' R w' (HRB.out.held h) (HRA.out.held h) hbn1 hbn2
            rw [sameR_yes hrr] at HSB
            clear hrr he
            go_wp2_with fail
            refine (HSB.out _ K10.out).mono ?_
            rintro e w11 ⟨rfl, h11⟩
            have M11 := Lib.hid (M10.out.keep h11)
            have HRB2 := Lib.hid (HRB.out.held (K10.out.step h11))
            clear h11 M10 d0 d1 df0 df1 dlt g0 g1 gf0 gf1 glt
            obtain ⟨⟨d0, d1⟩, ⟨df0, df1⟩, dlt⟩ := M11.out.box2 0 rfl
            obtain ⟨⟨g0, g1⟩, ⟨gf0, gf1⟩, glt⟩ := M11.out.box2 1 rfl
            go_wp2
            have MY := M11.out.put 0 rfl 0 (.slice B1 m1 e1)
            have HY := HRB2.out.putSlice d0 (.slice B1 m1 e1)
            have MZ := MY.put 0 rfl 1 (.slice B2 m2 e2)
            have HZ2 := HY.putSlice (MY.cell 0 rfl 1 rfl) (.slice B2 m2 e2)
            go_roundw
            case rel => exact ⟨i + 1, B1, m1, e1, B2, m2, e2, r', by go_num, by omega, MZ.take 1, ⟨HZ2, HXC.out, HVR.out⟩⟩
            case measure => (simp [intOf]) <;> omega
    · go_wp2_with fail
      refine (HAW.out _).mono ?_
      rintro e w1 ⟨rfl, h⟩
      go_wp2
      go_ret
      exact ⟨rfl, M3.out.held.step h⟩
end Jn
end Go.Proofs.Ytmmnanmegdflgaa
