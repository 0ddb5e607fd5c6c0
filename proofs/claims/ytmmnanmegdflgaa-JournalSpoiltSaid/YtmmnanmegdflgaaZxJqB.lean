/-
  Contracts: the law JournalSpoilt (chapter 42).
-/
import Derived.Test.YtmmnanmegdflgaaZxJqQ
import Derived.Test.YtmmnanmegdflgaaZxFlip
set_option linter.unusedVariables false
set_option linter.unusedSimpArgs false
set_option maxRecDepth 100000
namespace Go.Proofs.Ytmmnanmegdflgaa
open Go.RowKit Go.BigFrame Go.Sort Go.Lib
namespace Jn
open Ad Adm Law39 Lg Lgc Strs
set_option maxHeartbeats 16000000 in
theorem spoilt_any (o1 : Option Addr) (len1 cap1 : Nat) (z1 : List Int) (which bit : Int) (hwh : (Lit.int .i64 which).wf = true) (hbt : (Lit.int .i64 bit).wf = true) (w : World) (h1 : Rw.IsRow .i64 w o1 len1 cap1 z1) :
    Calls Try.prog 6 #[.slice o1 len1 cap1, .int .i64 which, .int .i64 bit] w fun e w' => e = .returned (.bool true) ∧ Held w w' := by
  have HAW := Lib.hid awake_any
  obtain ⟨L, hL, hlen⟩ := nums_in h1
  have hwb := Rw.bd_i64 hwh
  have hbb := Rw.bd_i64 hbt
  have HL := Lib.hid hL
  have HLL : Is L.length len1 := ⟨hL.1⟩
  clear h1 hL hwh hbt
  by_cases h0 : (len1 : Int) < 1
  · go_enter Try.func6, Try.ntmps6
    go_wp2_with fail
    refine (HAW.out _).mono ?_
    rintro e w1 ⟨rfl, h⟩
    go_wp2
    go_ret
    exact ⟨rfl, h⟩
  by_cases h60 : (20 : Int) < len1
  · go_enter Try.func6, Try.ntmps6
    go_wp2_with fail
    refine (HAW.out _).mono ?_
    rintro e w1 ⟨rfl, h⟩
    go_wp2
    go_ret
    exact ⟨rfl, h⟩
  have M0 := Lib.hid (((Mem.start w).nilRow (e := 3) (s := 1) (f := inN)).oneRow (e := 37) (s := 2) (f := rvF) (b := w.heap.size) rfl #[.slice none 0 0, .slice none 0 0] ⟨none, 0, 0, none, 0, 0⟩ rfl rfl)
  go_enter Try.func6, Try.ntmps6
  go_wp2
  go_loopw [7, 8, 9, 10] (fun v7 v8 v9 i wr => ∃ (j : Nat) (s : ByteArray) (E : List Int) (G : List RV), v7 = .string s ∧ i = .int .i64 j ∧ j ≤ len1 ∧ Lp L j s E G ∧ Mem w wr [.row 3 1 inN w.heap.size (v8) (E), .row 37 2 rvF w.heap.size (v9) (G)] ∧ Regs wr v8.ownBlock v9.ownBlock G (fun i => recov (opsL L i))) (fun _ _ _ i _ => len1 - (intOf i).toNat)
  case atStart => exact ⟨0, ⟨#[]⟩, [], [⟨none, 0, 0, none, 0, 0⟩], rfl, rfl, Nat.zero_le _, Lp.start _ _, M0.out, Regs.start rfl _ _⟩
  case round =>
    obtain ⟨j, s, E, G, rfl, rfl, hj, hLP, hM, hG⟩ := hrel
    obtain ⟨hsz, hs25⟩ := hLP.sz (by omega)
    have HLP := Lib.hid hLP
    have HRG := Lib.hid hG
    have M3 := Lib.hid hM
    obtain ⟨A8, cp8, rfl, _, _⟩ := (hM.row 0 rfl).shape
    obtain ⟨A9, cp9, rfl, _, _⟩ := (hM.row 1 rfl).shape
    rw [hLP.el] at M3 HRG ⊢
    rw [hLP.g] at M3 HRG ⊢
    obtain ⟨rg, x, rfl, hg0, hg1, hx, hxc⟩ := M3.out.slot 1 rfl rvF_len (by decide) (k := j) (by rw [HLP.out.g]; omega)
    have x0 := (hxc 0 (by decide)).2 _ rfl
    have x1 := (hxc 1 (by decide)).2 _ rfl
    rw [Nat.add_zero] at x0
    have HO := Lib.hid (HRG.out j x hx)
    obtain ⟨hn1, hn2⟩ := HO.out.on.hn
    obtain ⟨A1, n1, c1, A2, n2, c2⟩ := x
    dsimp only at x0 x1 hn1 hn2
    have HX0 := Lib.hid hx
    clear hLP hG hM M0 hx hxc
    by_cases hlt : (j : Int) < len1
    · obtain ⟨lb, off, z, rfl, hlb, hz, y0⟩ := in_at HL.out M3.out.held (k := j) (by omega)
      have HZ := Lib.hid hz
      have j0 : ¬ (j : Int) < 0 := by omega
      have hnm1 := mg_nm z
      have hmc := fun w' => manage_any z w'
      obtain ⟨hok, had⟩ := HLP.out.app (by omega) hz
      obtain ⟨s2, hs2⟩ : ∃ s2 : ByteArray, (⟨(recs 0 (opsL L (j + 1))).toArray⟩ : ByteArray) = s2 := ⟨_, rfl⟩
      have hs2l : s2.data.toList = recs 0 (opsL L (j + 1)) := by rw [← hs2]
      have hs2z : s2.size = endL L (j + 1) := by rw [← nm_len, hs2l]; rfl
      have hrn : recov (opsL L (j + 1)) = (apply (recov (opsL L j)) (mg z)).1 := by rw [opsL_at hz]; exact run_snoc _ _ _
      obtain ⟨k, nm, a, b, dr, dl, dc, dg, cm, cc, up, hmg⟩ := mg_any z
      rw [hmg] at hmc hnm1 hok had hrn
      dsimp only [manC] at hmc hnm1
      have MGC := Lib.hid hmc
      have hnm : (nm.size : Int) ≤ 1000000000 := by omega
      have hap2 := fun w' => append_any s (by omega) k nm a b dr dl dc dg cm cc up hnm w'
      unfold AppTo at hap2
      rw [hok, had, hs2] at hap2
      have APC := Lib.hid hap2
      obtain ⟨r', er, hap⟩ : ∃ r' er, apply (recov (opsL L j)) ⟨k, nm, a, b, ⟨dr, dl, dc, dg⟩, ⟨cm, cc, up⟩⟩ = (r', er) := ⟨_, _, rfl⟩
      have HAP := Lib.hid hap
      have hvr : VR r' := by
        have := vr_apply ⟨k, nm, a, b, ⟨dr, dl, dc, dg⟩, ⟨cm, cc, up⟩⟩ HO.out.on.v
        rw [hap] at this
        exact this
      have HVR := Lib.hid hvr
      rw [hap] at hrn
      have HRN : Is (recov (opsL L (j + 1))) r' := ⟨hrn⟩
      have HLP2 := Lib.hid fun x => HLP.out.step hz hs2l x
      have HS2Z : Is s2.size (endL L (j + 1)) := ⟨hs2z⟩
      have he25 : (endL L (j + 1) : Int) ≤ 2500 := by
        have := (HLP2.out ⟨none, 0, 0, none, 0, 0⟩).sz (by omega)
        omega
      clear hmc hnm1 hok had hs2 hs2l hs2z hrn hmg hap2 hap hvr hz
      go_wp2_with fail
      refine (MGC.out _).mono ?_
      rintro e w2 ⟨rfl, h2⟩
      go_wp2_with fail
      refine (APC.out _).mono ?_
      rintro e wq ⟨rfl, h3⟩
      have kq : Held wr wq := ((Held.refl wr).step h2).step h3
      have HRG := Lib.hid (HRG.out.held kq)
      have M3 := Lib.hid (M3.out.keep kq)
      have y0 := kq.cell y0
      clear h2 h3 x0 x1
      have hs2e : (s2.size : Int) = (endL L (j + 1) : Int) := by rw [HS2Z.out]
      go_wp2_with (at_builtin; refine Mem.wp_appG (M3.out.skip _) 0 rfl rfl _ _ _ rfl _ 8 Try.underlying33 info_int rfl (by decide) inN_len inN_one ((endL L (j + 1) : Nat) : Int) ⟨wq.heap.size, 0, none⟩ 1 rfl rfl (cells_new _ rfl _ _) j HLP.out.el (by omega) (by decide) ?_; intro g8 cp8 wz M3h hgrow hgb; have M4 := Lib.hid M3h; have HRG4 := Lib.hid ((HRG.out.held ((Held.refl wq).alloc _)).grownE hgrow hgb); clear M3h hgrow hgb)
      have M3 := Lib.hid M4.out
      have HRG := Lib.hid HRG4.out
      obtain ⟨rg', x, hrg, _, _, hx, hxc⟩ := M3.out.slot 1 rfl rvF_len (by decide) (k := j) (by rw [HLP.out.g]; omega)
      injection hrg with hrg
      injection hrg with hrg
      subst hrg
      have hxe : x = ⟨A1, n1, c1, A2, n2, c2⟩ := by rw [HX0.out] at hx; injection hx with e; exact e.symm
      subst hxe
      have x0 := (hxc 0 (by decide)).2 _ rfl
      have x1 := (hxc 1 (by decide)).2 _ rfl
      rw [Nat.add_zero] at x0
      dsimp only at x0 x1
      have y1 := in_at HL.out M3.out.held (k := j) (by omega)
      obtain ⟨lb', off', z', hbe, _, hz2, y1⟩ := y1
      injection hbe with hbe
      injection hbe with hbe1 hbe2
      subst hbe1 hbe2
      have hzz : z' = z := by rw [HZ.out] at hz2; injection hz2 with e; exact e.symm
      rw [hzz] at y1
      clear hz2 hzz y0 hx hxc
      have y0 := y1
      clear y1
      have HO := Lib.hid (HRG.out j _ HX0.out)
      have HE8 := Lib.hid (Own.ownLt (M3.out.row 0 rfl))
      have jb0 : (0 : Int) ≤ (j : Int) := by omega
      have jb1 : (j : Int) < ((j + 1 : Nat) : Int) := by omega
      have jb2 : (j : Int) < (j : Int) + 1 := by omega
      have jb3 : j < j + 1 := by omega
      have HG9 := Lib.hid (Own.ownLt (M3.out.row 1 rfl))
      have HC := Lib.hid (fun w' (q : Held wz w') => And.intro (q.cell x0) (And.intro (q.cell x1) (q.cell y0)))
      have MB0 := Lib.hid ((M3.out.alloc' (b := wz.heap.size) rfl #[.slice none 0 0, .slice none 0 0] 37).drew)
      go_wp2
      go_cut [13, 14] from 56 to 68 (fun v13 v14 wx => ∃ b13 B1 m1 e1 B2 m2 e2, v13 = .pointer (some ⟨b13, 0, none⟩) ∧ v14 = .int .i64 er ∧ Mem w wx [.row 3 1 inN w.heap.size (.slice (some ⟨g8, 0, none⟩) (j + 1) cp8) (E ++ [((endL L (j + 1) : Nat) : Int)]), .row 37 2 rvF w.heap.size (.slice (some ⟨rg, 0, none⟩) (j + 1) cp9) (G), .box b13 #[.slice B1 m1 e1, .slice B2 m2 e2] 37] ∧ RegX wx (some g8) (some rg) ⟨B1, m1, e1, B2, m2, e2⟩ r' ∧ Regs wx (some g8) (some rg) G (fun i => recov (opsL L i)))
      case first =>
        go_region_held3 (fun w' => w'.cell? ⟨rg, j * 2, none⟩ = some (.slice A1 n1 c1) ∧ w'.cell? ⟨rg, j * 2 + 1, none⟩ = some (.slice A2 n2 c2) ∧ w'.cell? ⟨lb, off + j, none⟩ = some (.int .i64 z))
          (first | exact HC.out _ (Held.refl _).drew | exact HC.out _ ((Held.refl wz).alloc _).drew | exact Hid.out (by assumption))
          (first
            | (go_at_call 13; refine (MGC.out _).mono ?_; rintro e w4 ⟨rfl, h4⟩; first | (have k4 : Held wz w4 := (Held.refl wz).drew.step h4; have M4 := Lib.hid (M3.out.drew.keep h4); have kM := Lib.hid (HC.out w4 k4); have kN := Lib.hid (HC.out (w4.alloc (.cells #[.slice none 0 0, .slice none 0 0] 37)) (k4.alloc _)); have MC4 := Lib.hid (M4.out.alloc' (b := w4.heap.size) rfl #[.slice none 0 0, .slice none 0 0] 37)) | (have k4 : Held wz w4 := ((Held.refl wz).alloc _).drew.step h4; have MB4 := Lib.hid (MB0.out.keep h4); have kM := Lib.hid (HC.out w4 k4)))
            | (go_at_call 12; refine (apply_fr A1 n1 c1 A2 n2 c2 (recov (opsL L j)) k nm a b dr dl dc dg cm cc up _ (HO.out.on.reg.held k4) hn1 hn2 HO.out.on.nm hnm).mono ?_; rintro e w5 ⟨B1, m1, e1, B2, m2, e2, rfl, h5, hR0, hcp, hf1, hf2⟩; rw [HAP.out] at hR0 ⊢; simp only at hR0 ⊢; have hR := RegX.fresh (e := (some g8)) (g := (some rg)) ⟨hR0, hcp, HVR.out⟩ hf1 hf2 (fun q hq => Nat.lt_of_lt_of_le (HE8.out q hq) (Held.le k4)) (fun q hq => Nat.lt_of_lt_of_le (HG9.out q hq) (Held.le k4)); have kz := Lib.hid (HC.out w5 (k4.step h5)); have M5 := MB4.out.keep h5; obtain ⟨⟨z0, z1⟩, ⟨zf0, zf1⟩, zlt⟩ := M5.box2 2 rfl; have M6 := M5.put 2 rfl 0 (.slice B1 m1 e1); have MX := Lib.hid (M6.put 2 rfl 1 (.slice B2 m2 e2)); have HRX := Lib.hid ((hR.put z0 (.slice B1 m1 e1)).put (M6.cell 2 rfl 1 rfl) (.slice B2 m2 e2)); have HGX := Lib.hid (((HRG.out.held (k4.step h5)).put z0 (.slice B1 m1 e1)).put (M6.cell 2 rfl 1 rfl) (.slice B2 m2 e2)); have ky := Lib.hid (HC.out _ (((k4.step h5).set (p := ⟨wz.heap.size, 0, none⟩) (Nat.le_refl _) (.slice B1 m1 e1)).set (p := ⟨wz.heap.size, 1, none⟩) (Nat.le_refl _) (.slice B2 m2 e2))))
            | (go_at_call 12; refine (apply_fr A1 n1 c1 A2 n2 c2 (recov (opsL L j)) k nm a b dr dl dc dg cm cc up _ (HO.out.on.reg.held k4) hn1 hn2 HO.out.on.nm hnm).mono ?_; rintro e w5 ⟨B1, m1, e1, B2, m2, e2, rfl, h5, hR0, hcp, hf1, hf2⟩; rw [HAP.out] at hR0 ⊢; simp only at hR0 ⊢; have hR := RegX.fresh (e := (some g8)) (g := (some rg)) ⟨hR0, hcp, HVR.out⟩ hf1 hf2 (fun q hq => Nat.lt_of_lt_of_le (HE8.out q hq) (Held.le k4)) (fun q hq => Nat.lt_of_lt_of_le (HG9.out q hq) (Held.le k4)); have kz := Lib.hid (HC.out w5 (k4.step h5)); have ky := Lib.hid (HC.out (w5.alloc (.cells #[.slice B1 m1 e1, .slice B2 m2 e2] 37)) ((k4.step h5).alloc _)); have kx := Lib.hid (HC.out (w5.alloc (.cells #[.slice none 0 0, .slice none 0 0] 37)) ((k4.step h5).alloc _)); have MX := Lib.hid ((M4.out.keep h5).alloc #[.slice B1 m1 e1, .slice B2 m2 e2] 37); have HRX := Lib.hid (hR.held ((Held.refl w5).alloc (.cells #[.slice B1 m1 e1, .slice B2 m2 e2] 37))); have HGX := Lib.hid (HRG.out.held ((k4.step h5).alloc (.cells #[.slice B1 m1 e1, .slice B2 m2 e2] 37))))
            | (go_at_call 12; refine (apply_fr A1 n1 c1 A2 n2 c2 (recov (opsL L j)) k nm a b dr dl dc dg cm cc up _ (HO.out.on.reg.held (k4.alloc _)) hn1 hn2 HO.out.on.nm hnm).mono ?_; rintro e w5 ⟨B1, m1, e1, B2, m2, e2, rfl, h5, hR0, hcp, hf1, hf2⟩; rw [HAP.out] at hR0 ⊢; simp only at hR0 ⊢; have hR := RegX.fresh (e := (some g8)) (g := (some rg)) ⟨hR0, hcp, HVR.out⟩ hf1 hf2 (fun q hq => Nat.lt_of_lt_of_le (HE8.out q hq) (Held.le (k4.alloc _))) (fun q hq => Nat.lt_of_lt_of_le (HG9.out q hq) (Held.le (k4.alloc _))); have kz := Lib.hid (HC.out w5 ((k4.alloc _).step h5)); have M5 := MC4.out.keep h5; obtain ⟨⟨z0, z1⟩, ⟨zf0, zf1⟩, zlt⟩ := M5.box2 2 rfl; have M6 := M5.put 2 rfl 0 (.slice B1 m1 e1); have MX := Lib.hid (M6.put 2 rfl 1 (.slice B2 m2 e2)); have HRX := Lib.hid ((hR.put z0 (.slice B1 m1 e1)).put (M6.cell 2 rfl 1 rfl) (.slice B2 m2 e2)); have HGX := Lib.hid (((HRG.out.held ((k4.alloc _).step h5)).put z0 (.slice B1 m1 e1)).put (M6.cell 2 rfl 1 rfl) (.slice B2 m2 e2)); have ky := Lib.hid (HC.out _ ((((k4.alloc _).step h5).set (p := ⟨w4.heap.size, 0, none⟩) k4.le (.slice B1 m1 e1)).set (p := ⟨w4.heap.size, 1, none⟩) k4.le (.slice B2 m2 e2)))))
        all_goals
          go_wp2
          go_meet
          case rel => exact ⟨_, B1, m1, e1, B2, m2, e2, rfl, rfl, MX.out, HRX.out, HGX.out⟩
      case rest =>
        obtain ⟨b13, B1, m1, e1, B2, m2, e2, rfl, rfl, hM, hR, hG⟩ := hcut
        have M7 := Lib.hid hM
        have HX := Lib.hid hR
        have HG := Lib.hid hG
        clear hM hR hG MB0 HC x0 x1 y0 M3 HRG HO M4 HRG4
        obtain ⟨⟨d0, d1⟩, ⟨df0, df1⟩, dlt⟩ := M7.out.box2 2 rfl
        by_cases he : er = 0
        · subst he
          have HX2 : Hid (RegX wc (some g8) (some rg) ⟨B1, m1, e1, B2, m2, e2⟩ (recov (opsL L (j + 1)))) := by rw [HRN.out]; exact HX
          go_wp2_with (at_builtin; refine Mem.wp_appG (M7.out.skip _) 1 rfl rfl _ _ _ rfl _ 48 Try.underlying45 info_reg rfl (by decide) rvF_len rvF_one ⟨B1, m1, e1, B2, m2, e2⟩ ⟨wc.heap.size, 0, none⟩ 1 rfl rfl (cells_new _ (by simp) _ _) (j + 1) HLP.out.g (by omega) (by decide) ?_; intro g9 cp9 wz M7h hgrow hgb; have M8 := Lib.hid (M7h.take 2); have HX8 := Lib.hid ((HX2.out.held ((Held.refl _).alloc _)).grownG hgrow hgb); have HG8 := Lib.hid ((HG.out.held ((Held.refl _).alloc _)).grownG hgrow hgb); clear M7h hgrow hgb)
          clear d0 d1 df0 df1 dlt
          go_roundw
          case rel => exact ⟨j + 1, s2, _, _, rfl, by go_num, by omega, HLP2.out _, M8.out, HG8.out.snoc HX8.out HLP.out.g⟩
          case measure => (simp [intOf]) <;> omega
        · have hrr : r' = recov (opsL L j) := by
            have := apply_errI HAP.out he
            rw [HAP.out] at this
            injection this
          have heb : (er != 0) = true := by simp [he]
          obtain ⟨rg', x, hrg, _, _, hx, hxc⟩ := M7.out.slot 1 rfl rvF_len (by decide) (k := j) (by rw [HLP.out.g]; omega)
          injection hrg with hrg
          injection hrg with hrg
          subst hrg
          have hxe : x = ⟨A1, n1, c1, A2, n2, c2⟩ := by rw [HX0.out] at hx; injection hx with e; exact e.symm
          subst hxe
          have x0 := (hxc 0 (by decide)).2 _ rfl
          have x1 := (hxc 1 (by decide)).2 _ rfl
          rw [Nat.add_zero] at x0
          dsimp only at x0 x1
          have HXA : Hid (RegX wc (some g8) (some rg) ⟨A1, n1, c1, A2, n2, c2⟩ (recov (opsL L (j + 1)))) := by rw [HRN.out, hrr]; exact Lib.hid (HG.out j _ HX0.out)
          have MP1 := M7.out.put 2 rfl 0 (.slice A1 n1 c1)
          have p1 := MP1.cell 2 rfl 1 rfl
          have MP := Lib.hid (MP1.put 2 rfl 1 (.slice A2 n2 c2))
          have HX2 := Lib.hid ((HXA.out.put d0 (.slice A1 n1 c1)).put p1 (.slice A2 n2 c2))
          have HG2 := Lib.hid ((HG.out.put d0 (.slice A1 n1 c1)).put p1 (.slice A2 n2 c2))
          clear he hrr hx hxc MP1 p1 HXA
          go_wp2_with (at_builtin; refine Mem.wp_appG (MP.out.skip _) 1 rfl rfl _ _ _ rfl _ 48 Try.underlying45 info_reg rfl (by decide) rvF_len rvF_one ⟨A1, n1, c1, A2, n2, c2⟩ ⟨wc.heap.size, 0, none⟩ 1 rfl rfl (cells_new _ (by simp) _ _) (j + 1) HLP.out.g (by omega) (by decide) ?_; intro g9 cp9 wz M7h hgrow hgb; have M8 := Lib.hid (M7h.take 2); have HX8 := Lib.hid ((HX2.out.held ((Held.refl _).alloc _)).grownG hgrow hgb); have HG8 := Lib.hid ((HG2.out.held ((Held.refl _).alloc _)).grownG hgrow hgb); clear M7h hgrow hgb)
          clear d0 d1 df0 df1 dlt x0 x1
          go_roundw
          case rel => exact ⟨j + 1, s2, _, _, rfl, by go_num, by omega, HLP2.out _, M8.out, HG8.out.snoc HX8.out HLP.out.g⟩
          case measure => (simp [intOf]) <;> omega
    · obtain rfl : len1 = j := by omega
      have HSZ : Is s.size (endL L len1) := ⟨hsz⟩
      clear hsz
      obtain ⟨wA, rfl⟩ : ∃ wA : World, wA = wr := ⟨_, rfl⟩
      obtain ⟨n, hrn⟩ : ∃ n : Nat, Mk.round which (len1 : Int) = n := by
        have := Mk.round_bd which (len1 : Int) (by omega)
        exact ⟨(Mk.round which (len1 : Int)).toNat, by omega⟩
      have hnl : n < len1 := by
        have := Mk.round_bd which (len1 : Int) (by omega)
        omega
      have HRD := Lib.hid fun w' => Mk.round_any which (len1 : Int) hwb.1 hwb.2 (by omega) (by omega) w'
      rw [hrn] at HRD
      clear hrn
      obtain ⟨zn, hzn⟩ : ∃ zn, L[n]? = some zn := ⟨_, List.getElem?_eq_getElem (by rw [HLL.out]; exact hnl)⟩
      have hnx := endL_next HLL.out (by omega) hzn
      have hsp := sealed_pos n (mg zn)
      have hst := (mg_tiny zn).sealed (n := n) (by omega)
      obtain ⟨q, hq⟩ : ∃ q, (Jn.sealed n (mg zn)).length = q := ⟨_, rfl⟩
      rw [hq] at hnx hsp hst
      have hem := endL_mono (L := L) (show n + 1 ≤ len1 by omega)
      have hsz9 := HSZ.out
      obtain ⟨en, hen⟩ : ∃ en, endL L n = en := ⟨_, rfl⟩
      obtain ⟨en1, hen1⟩ : ∃ en1, endL L (n + 1) = en1 := ⟨_, rfl⟩
      have HEN : Is (endL L n) en := ⟨hen⟩
      have HEN1 : Is (endL L (n + 1)) en1 := ⟨hen1⟩
      rw [hen, hen1] at hnx
      rw [hen1] at hem
      obtain ⟨ra, hra⟩ : ∃ ra : Nat, Mk.round bit (8 * ((en1 : Int) - ((en : Int) + 1))) = ra := by
        have := Mk.round_bd bit (8 * ((en1 : Int) - ((en : Int) + 1))) (by omega)
        exact ⟨(Mk.round bit (8 * ((en1 : Int) - ((en : Int) + 1)))).toNat, by omega⟩
      have hrab : ra < 8 * q := by
        have := Mk.round_bd bit (8 * ((en1 : Int) - ((en : Int) + 1))) (by omega)
        omega
      have HRB := Lib.hid fun w' => Mk.round_any bit (8 * ((en1 : Int) - ((en : Int) + 1))) hbb.1 hbb.2 (by omega) (by omega) w'
      rw [hra] at HRB
      clear hra
      obtain ⟨at', hat⟩ : ∃ at' : Nat, 8 * (en + 1) + ra = at' := ⟨_, rfl⟩
      obtain ⟨j, hj9⟩ : ∃ j, at' / 8 = j := ⟨_, rfl⟩
      obtain ⟨r, hr⟩ : ∃ r, at' % 8 = r := ⟨_, rfl⟩
      have hr8 : r < 8 := by omega
      have hjp : j < s.size := by omega
      have hj1 : endL L n + 1 ≤ j := by rw [hen]; omega
      have hj2 : j < endL L (n + 1) := by rw [hen1]; omega
      have hne := Flip.turn_ne s[j] r hr8
      have hb := Flip.turn_bits s[j] r hr8
      obtain ⟨c, hc⟩ : ∃ c, Flip.turn s[j] r = c := ⟨_, rfl⟩
      rw [hc] at hb hne
      have hbq : (s[j].toNat : Int) ≤ 255 := by have := s[j].toNat_lt; omega
      have hsp2 := spoilt_parse HLL.out (by omega) hzn HLP.out.s (j := j) (by rw [nm_len]; exact hjp) (c := c) (by exact hne) hj1 hj2
      obtain ⟨p, hp⟩ : ∃ p : ByteArray, (⟨(s.data.toList.set j c).toArray⟩ : ByteArray) = p := ⟨_, rfl⟩
      have hpl : p.data.toList = s.data.toList.set j c := by rw [← hp]
      have hpz : (p.size : Int) ≤ 2500 := by
        have := nm_len p
        rw [hpl, List.length_set, nm_len] at this
        omega
      have hrec := fun w' => recover_any p (by omega) w'
      unfold RecTo at hrec
      rw [hpl, hsp2] at hrec
      have HREC := Lib.hid hrec
      have HFL := Lib.hid (fun w => Flip.facts s w j hjp c)
      rw [hp] at HFL
      have IAT : Is (8 * ((en : Int) + 1) + (ra : Int)) (at' : Int) := ⟨by omega⟩
      have I1 : Is ((at' : Int) / 8) (j : Int) := ⟨by omega⟩
      have I2 : Is ((at' : Int) % 8) (r : Int) := ⟨by omega⟩
      have i3 : (at' : Int) ≤ 30000 := by omega
      have i4 : (0 : Int) ≤ (at' : Int) := by omega
      have i5 : (j : Int) < (s.size : Int) := by omega
      have i6 : (en1 : Int) ≤ 2500 := by omega
      have i7 : (en : Int) + 1 < en1 := by omega
      have HRN := Lib.hid (vr_recov (opsL L n))
      clear hnx hsp hst hq hem hsz9 hen hen1 hrab hat hj9 hr hj1 hj2 hne hc hsp2 hp hpl hpz hrec hzn
      obtain ⟨ge, y, hga, _, _, hy, hyc⟩ := M3.out.slot 0 rfl inN_len (by decide) (k := n) (by rw [HLP.out.el]; omega)
      subst hga
      have hye : y = ((endL L (n + 1) : Nat) : Int) := by rw [HLP.out.e n (by omega)] at hy; injection hy with e; exact e.symm
      have y0 := (hyc 0 (by decide)).2 _ rfl
      rw [hye, Nat.add_zero, Nat.mul_one, HEN1.out] at y0
      have n0 : ¬ (n : Int) < 0 := by omega
      clear hy hye hyc x0 x1
      rcases Nat.eq_zero_or_pos n with hn0 | hn0
      · subst hn0
        obtain rfl : 0 = en := HEN.out
        have e01 : (((0 : Nat) : Int) + 1) = 1 := rfl
        rw [e01] at HRB IAT
        clear e01
        go_wp2_with fail
        refine (HRD.out _).mono ?_
        rintro e w' ⟨rfl, rfl⟩
        go_wp2_with fail
        refine (HRB.out _).mono ?_
        rintro e w' ⟨rfl, rfl⟩
        have i1 : (8 + (ra : Int)) / 8 = (j : Int) := by have := IAT.out; have := I1.out; omega
        have i2 : (8 + (ra : Int)) % 8 = (r : Int) := by have := IAT.out; have := I2.out; omega
        have i8 : (8 + (ra : Int)) ≤ 30000 := by have := IAT.out; omega
        have i9 : (0 : Int) ≤ (8 + (ra : Int)) := by omega
        obtain ⟨C, cap, hconv, hfz, hcl, hback⟩ := HFL.out wA
        have hbk : (convert 52 9 (.slice (some ⟨wA.heap.size, 0, none⟩) s.size cap)).run Try.prog ((wA.alloc (.cells C 5 (C.size, C.size + 1))).setCell ⟨wA.heap.size, j, none⟩ (.int .u8 c.toNat)).drew =
            .ok (.string p) ((wA.alloc (.cells C 5 (C.size, C.size + 1))).setCell ⟨wA.heap.size, j, none⟩ (.int .u8 c.toNat)).drew := hback 1
        have K5 := Lib.hid ((((Held.refl wA).alloc (.cells C 5 (C.size, C.size + 1))).set (p := ⟨wA.heap.size, j, none⟩) (Nat.le_refl _) (.int .u8 c.toNat)).drew)
        have M5 := Lib.hid (M3.out.keep K5.out)
        have HG5 := Lib.hid (HRG.out.held K5.out)
        clear hback M3 HRG
        obtain rfl | rfl | rfl | rfl | rfl | rfl | rfl | rfl : r = 0 ∨ r = 1 ∨ r = 2 ∨ r = 3 ∨ r = 4 ∨ r = 5 ∨ r = 6 ∨ r = 7 := by omega
        all_goals
          simp only [Nat.reducePow, Int.cast_ofNat_Int, Int.natCast_one] at hb
          go_wp2_with fail
          refine (HREC.out _).mono ?_
          rintro e w6 ⟨B1, m1, e1, B2, m2, e2, rfl, h6, hR, hcp⟩
          have hbn1 : (m1 : Int) ≤ 1000000 := by have := hR.hs.1; have := HRN.out.hl; omega
          have hbn2 : (m2 : Int) ≤ 1000000 := by have := hR.gs.1; have := HRN.out.gl; omega
          have HR6 := Lib.hid (hR.held ((Held.refl w6).alloc (.cells #[.slice B1 m1 e1, .slice B2 m2 e2] 37)))
          have M6 := Lib.hid ((M5.out.keep h6).alloc' (b := w6.heap.size) rfl #[.slice B1 m1 e1, .slice B2 m2 e2] 37)
          have HG6 := Lib.hid (HG5.out.held (h6.alloc (.cells #[.slice B1 m1 e1, .slice B2 m2 e2] 37)))
          obtain ⟨w7, hw7⟩ : ∃ w7, w6.alloc (.cells #[.slice B1 m1 e1, .slice B2 m2 e2] 37) = w7 := ⟨_, rfl⟩
          obtain ⟨b19, hb19⟩ : ∃ b19, w6.heap.size = b19 := ⟨_, rfl⟩
          have HW7 := Lib.hid hw7
          have HB19 := Lib.hid hb19
          clear hw7 hb19 h6 hR hcp M5 HG5 hconv hfz hcl hbk hb i1 i2 i8 i9
          go_wp2_with fail
          rw [HW7.out, HB19.out]
          rw [HW7.out, HB19.out] at M6
          rw [HW7.out] at HR6 HG6
          obtain ⟨⟨a0, a1⟩, _, alt⟩ := M6.out.box2 2 rfl
          obtain ⟨rg', y, hrg, _, _, hy, hyc⟩ := M6.out.slot 1 rfl rvF_len (by decide) (k := 0) (by rw [HLP.out.g]; omega)
          injection hrg with hrg
          injection hrg with hrg
          subst hrg
          have HY := Lib.hid (HG6.out 0 y hy)
          have u0 := (hyc 0 (by decide)).2 _ rfl
          have u1 := (hyc 1 (by decide)).2 _ rfl
          simp only [Nat.zero_mul, Nat.add_zero, Nat.zero_add] at u0 u1
          obtain ⟨D1, d1n, d1c, D2, d2n, d2c⟩ := y
          dsimp only at u0 u1
          have k0 := cell_regrown a0
          have k1 := cell_regrown a1
          have k2 := cell_regrown u0
          have k3 := cell_regrown u1
          have cS := Lib.hid fun dd os => Calls.regrown_of (d := dd) (os := os) (same_ref_any B1 m1 e1 B2 m2 e2 D1 d1n d1c D2 d2n d2c (recov (opsL L (0))) (recov (opsL L (0))) (grow (redrawn w7 dd) os) (HR6.out.held (below_regrown w7 dd os)) (HY.out.on.reg.held (below_regrown w7 dd os)) hbn1 hbn2)
          rw [sameR_yes (r := recov (opsL L (0))) rfl] at cS
          have cA := Lib.hid fun dd os => Calls.regrown_of (d := dd) (os := os) (HAW.out (grow (redrawn w7 dd) os))
          clear hy hyc a0 a1 u0 u1 HY
          refine wp_region_quiet_below (by kernel_rfl) (by kernel_rfl) ?_
          repeat (go_big_quiet_step (first | (go_at_call 15; exact cS.out _ _) | (go_at_call 9; exact cA.out _ _)))
          refine wpQuiet_nil ?_
          intro w8 hw'
          obtain ⟨⟨dq, osq⟩, hw''⟩ := hw'
          have h8 : Held w7 w8 := by rw [hw'']; exact below_regrown _ dq osq
          clear hw'' k0 k1 k2 k3 cS cA
          go_wp2
          go_ret
          exact ⟨rfl, M6.out.held.step h8⟩
      · obtain ⟨m, rfl⟩ : ∃ m, n = m + 1 := ⟨n - 1, by omega⟩
        obtain ⟨ge', y', hga', _, _, hy', hyc'⟩ := M3.out.slot 0 rfl inN_len (by decide) (k := m) (by rw [HLP.out.el]; omega)
        injection hga' with hga'
        injection hga' with hga'
        subst hga'
        have hye' : y' = ((endL L (m + 1) : Nat) : Int) := by rw [HLP.out.e m (by omega)] at hy'; injection hy' with e; exact e.symm
        have z0 := (hyc' 0 (by decide)).2 _ rfl
        rw [hye', Nat.add_zero, Nat.mul_one, HEN.out] at z0
        have hm0 : decide ((0 : Int) < (m : Int) + 1) = true := decide_eq_true (by omega)
        clear hy' hye' hyc'
        go_wp2_with fail
        refine (HRD.out _).mono ?_
        rintro e w' ⟨rfl, rfl⟩
        go_wp2_with fail
        refine (HRB.out _).mono ?_
        rintro e w' ⟨rfl, rfl⟩
        have i1 : (8 * ((en : Int) + 1) + (ra : Int)) / 8 = (j : Int) := by have := IAT.out; have := I1.out; omega
        have i2 : (8 * ((en : Int) + 1) + (ra : Int)) % 8 = (r : Int) := by have := IAT.out; have := I2.out; omega
        have i8 : (8 * ((en : Int) + 1) + (ra : Int)) ≤ 30000 := by have := IAT.out; omega
        have i9 : (0 : Int) ≤ (8 * ((en : Int) + 1) + (ra : Int)) := by omega
        obtain ⟨C, cap, hconv, hfz, hcl, hback⟩ := HFL.out wA
        have hbk : (convert 52 9 (.slice (some ⟨wA.heap.size, 0, none⟩) s.size cap)).run Try.prog ((wA.alloc (.cells C 5 (C.size, C.size + 1))).setCell ⟨wA.heap.size, j, none⟩ (.int .u8 c.toNat)).drew =
            .ok (.string p) ((wA.alloc (.cells C 5 (C.size, C.size + 1))).setCell ⟨wA.heap.size, j, none⟩ (.int .u8 c.toNat)).drew := hback 1
        have K5 := Lib.hid ((((Held.refl wA).alloc (.cells C 5 (C.size, C.size + 1))).set (p := ⟨wA.heap.size, j, none⟩) (Nat.le_refl _) (.int .u8 c.toNat)).drew)
        have M5 := Lib.hid (M3.out.keep K5.out)
        have HG5 := Lib.hid (HRG.out.held K5.out)
        clear hback M3 HRG
        obtain rfl | rfl | rfl | rfl | rfl | rfl | rfl | rfl : r = 0 ∨ r = 1 ∨ r = 2 ∨ r = 3 ∨ r = 4 ∨ r = 5 ∨ r = 6 ∨ r = 7 := by omega
        all_goals
          simp only [Nat.reducePow, Int.cast_ofNat_Int, Int.natCast_one] at hb
          go_wp2_with fail
          refine (HREC.out _).mono ?_
          rintro e w6 ⟨B1, m1, e1, B2, m2, e2, rfl, h6, hR, hcp⟩
          have hbn1 : (m1 : Int) ≤ 1000000 := by have := hR.hs.1; have := HRN.out.hl; omega
          have hbn2 : (m2 : Int) ≤ 1000000 := by have := hR.gs.1; have := HRN.out.gl; omega
          have HR6 := Lib.hid (hR.held ((Held.refl w6).alloc (.cells #[.slice B1 m1 e1, .slice B2 m2 e2] 37)))
          have M6 := Lib.hid ((M5.out.keep h6).alloc' (b := w6.heap.size) rfl #[.slice B1 m1 e1, .slice B2 m2 e2] 37)
          have HG6 := Lib.hid (HG5.out.held (h6.alloc (.cells #[.slice B1 m1 e1, .slice B2 m2 e2] 37)))
          obtain ⟨w7, hw7⟩ : ∃ w7, w6.alloc (.cells #[.slice B1 m1 e1, .slice B2 m2 e2] 37) = w7 := ⟨_, rfl⟩
          obtain ⟨b19, hb19⟩ : ∃ b19, w6.heap.size = b19 := ⟨_, rfl⟩
          have HW7 := Lib.hid hw7
          have HB19 := Lib.hid hb19
          clear hw7 hb19 h6 hR hcp M5 HG5 hconv hfz hcl hbk hb i1 i2 i8 i9
          go_wp2_with fail
          rw [HW7.out, HB19.out]
          rw [HW7.out, HB19.out] at M6
          rw [HW7.out] at HR6 HG6
          obtain ⟨⟨a0, a1⟩, _, alt⟩ := M6.out.box2 2 rfl
          obtain ⟨rg', y, hrg, _, _, hy, hyc⟩ := M6.out.slot 1 rfl rvF_len (by decide) (k := (m + 1)) (by rw [HLP.out.g]; omega)
          injection hrg with hrg
          injection hrg with hrg
          subst hrg
          have HY := Lib.hid (HG6.out (m + 1) y hy)
          have u0 := (hyc 0 (by decide)).2 _ rfl
          have u1 := (hyc 1 (by decide)).2 _ rfl
          rw [Nat.add_zero] at u0
          obtain ⟨D1, d1n, d1c, D2, d2n, d2c⟩ := y
          dsimp only at u0 u1
          have k0 := cell_regrown a0
          have k1 := cell_regrown a1
          have k2 := cell_regrown u0
          have k3 := cell_regrown u1
          have cS := Lib.hid fun dd os => Calls.regrown_of (d := dd) (os := os) (same_ref_any B1 m1 e1 B2 m2 e2 D1 d1n d1c D2 d2n d2c (recov (opsL L ((m + 1)))) (recov (opsL L ((m + 1)))) (grow (redrawn w7 dd) os) (HR6.out.held (below_regrown w7 dd os)) (HY.out.on.reg.held (below_regrown w7 dd os)) hbn1 hbn2)
          rw [sameR_yes (r := recov (opsL L ((m + 1)))) rfl] at cS
          have cA := Lib.hid fun dd os => Calls.regrown_of (d := dd) (os := os) (HAW.out (grow (redrawn w7 dd) os))
          clear hy hyc a0 a1 u0 u1 HY
          refine wp_region_quiet_below (by kernel_rfl) (by kernel_rfl) ?_
          repeat (go_big_quiet_step (first | (go_at_call 15; exact cS.out _ _) | (go_at_call 9; exact cA.out _ _)))
          refine wpQuiet_nil ?_
          intro w8 hw'
          obtain ⟨⟨dq, osq⟩, hw''⟩ := hw'
          have h8 : Held w7 w8 := by rw [hw'']; exact below_regrown _ dq osq
          clear hw'' k0 k1 k2 k3 cS cA
          go_wp2
          go_ret
          exact ⟨rfl, M6.out.held.step h8⟩
end Jn
end Go.Proofs.Ytmmnanmegdflgaa
